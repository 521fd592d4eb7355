/- Proved here, packed: what the parts Concat Turn Nextb Mdlg Mdlh Mdlj Mdlk prove (rules of the walk, contracts of functions, plain laws). Conditions: in each statement. -/
import Derived.Test.YtkbifmngmocjnaaGreatDoorPAT
namespace Go.Proofs.YtkbifmngmocjnaaGreatDoor
set_option maxRecDepth 100000
set_option maxHeartbeats 8000000
set_option linter.all false
section
open Top Proofs.Tryz
section
variable{P:Program}{n:Sz}{W:World}{q:Md}{Q:Exit->St->List kM->Prop}{σ:St}{L:List kM}{Z:Array Oper}{rest:List Oper}
 {dst:Option Nat} {ty:TypeId} {pos:String} {lf:Array Edge} {gd:Option (Nat×Bool)}
theorem Qv{α:Type}{t f:Nat}{e s b:Nat}[i:nV P t e s b](enc:α->List Value){x y:Operand}{N:Nat}{k kn:IntKind}(p:ev σ x=.slice none 0 0) (q:ev σ y=.int k N) (r:P.underlying f=some (.int kn)) (u:0<N) (X:N*b<=140737488355328) (Y:N<=9223372036854775807)(v:lP Z σ ⟨dst,.call {callee:=.builtin .append,args:=#[x,y],argTypes:=#[t,f]},ty,pos,lf,gd⟩=true) (A:l8 n dst=true)
 (h:∀g j,N<=j->SL P n W .plain Z Q rest (l6 σ dst (.slice (some ⟨g,0,none⟩) N j)) (li e s enc (some ⟨g,0,none⟩) j ([]:List α)::L)):
 SL P n W .plain Z Q (⟨dst,.call {callee:=.builtin .append,args:=#[x,y],argTypes:=#[t,f]},ty,pos,lf,gd⟩::rest) σ L:=by
 refine uC v A λw B=>?_;obtain⟨C,z,D,E,F,G,H⟩:=i.sj;have I:=Lib.run_append_nil_zeros (P:=P) w t f ty e C z k kn i.ul r D E N u (by rw[F];exact i.pos) Zo (by rw[G];omega);have J:=iN w N 0 e;have K:=gO w N 0 e (by unfold maxLen;omega);generalize grownCap w N 0 e=cap at*;generalize M:Builtin.zeroCells z.cells N++Builtin.zeroCells z.cells (cap-N)=c at*;have O:c.size=cap*s:=by rw[<-M];have R:z.cells.size=s:=H;simp only[Builtin.zeroCells,fP,Array.size_map,Array.size_range,R];rw[<-bW];congr 1;omega
 have l:Mem W (w.drew.alloc (.cells c e)) (k4 w.heap.size e c.toList::L):=by have:=(B.drew (w.drawn+1)).alloc e c.toList;simpa using this
 refine⟨.slice (some ⟨w.heap.size,0,none⟩) N cap,w.drew.alloc (.cells c e),li e s enc (some ⟨w.heap.size,0,none⟩) cap ([]:List α)::L,?_,?_,h w.heap.size cap J⟩;·simp only[execOp,resolve,bY,bk,cu,p,q,aB,aH,au,invoke,builtin,I]
 ·have hp:oe (k4 w.heap.size e c.toList::L) (k4 w.heap.size e c.toList) (li e s enc (some ⟨w.heap.size,0,none⟩) cap ([]:List α)) (li e s enc (some ⟨w.heap.size,0,none⟩) cap ([]:List α)::L):=p0;have m:(w.drew.alloc (.cells c e)).heap[w.heap.size]? =some (.cells c e (0,0)):=by have:=AU l hp.mem;simpa using this
  have T:w.heap.size<(w.drew.alloc (.cells c e)).heap.size:=(aO.1 m).1;have o:∀k,(li e s enc (some ⟨w.heap.size,0,none⟩) cap ([]:List α)).S k->k=w.heap.size:=by intro k d;simp only[li] at d;obtain⟨_,a,V,d⟩:=d;cases V;exact d.symm
  refine l.put hp rfl rfl rfl (aA _) (λ_ _ _=>rfl) ⟨λk d=>by rw[o k d];exact T,?_⟩ (λk d=>.inl ?_);·simp only[li];exact .inr ⟨w.heap.size,c,by omega,rfl,m,aR _,K,O,by simp⟩
  ·rw[o k d];simp only[k4]
theorem Ht{x:Operand}{t:TypeId}{A:Option Addr}{l c:Nat}{e s b:Nat}[a:nV P t e s b](d:ev σ x=.slice A l c)(f:lP Z σ ⟨dst,.call {callee:=.builtin .cap,args:=#[x],argTypes:=#[t]},ty,pos,lf,gd⟩=true) (g:l8 n dst=true)
 (h:SL P n W q Z Q rest (l6 σ dst (.int .i64 (c:Int))) L):
 SL P n W q Z Q (⟨dst,.call {callee:=.builtin .cap,args:=#[x],argTypes:=#[t]},ty,pos,lf,gd⟩::rest) σ L:=by
 refine oF _ Zb f g (λw=>?_) h;simp[execOp,resolve,invoke,builtin,d,Builtin.cap_,aL a.ul,goInt]
end
theorem Zp(N:Nat)(e:N<=1000000)(W:World)(L:List kM):m3 prog W 341 #[.slice none 0 0,nN N] L (λv L'=>∃A c,v=.slice A 0 c/\L'=li 3 1 oY A c ([]:List Int)::L):=by
 refine enter func341 ?_;refine U ?_;rw[show decide ((N:Int)<0)=false from Zq];refine U ?_;refine Ht (A:=none) (l:=0) (c:=0) rfl rfl rfl ?_;refine U ?_;rw[show(N:Int)-(((0:Nat):Int)-((0:Nat):Int))=(N:Int) from by omega];rcases cM N with rfl|a
 ·rw[show decide ((0:Int)<((0:Nat):Int))=false from rfl];refine U ?_;refine kS ?_;exact lj results341 Zt (L':=li 3 1 oY none 0 ([]:List Int)::L) (λw b=>b.oA 3 1 oY none) ⟨none,0,rfl,rfl⟩
 rw[show decide ((0:Int)<(N:Int))=true from Zq];refine U ?_;refine Ht (A:=none) (l:=0) (c:=0) rfl rfl rfl ?_;refine U ?_;refine rW (A:=none) (m:=0) (c:=0) (h:=0) rfl rfl (aA _) rfl rfl ?_;refine U ?_;refine Qv oY (N:=N) (k:=.i64) (kn:=.i64) rfl rfl Zk a Zo Zo rfl rfl (λg d f=>?_);refine U ?_;refine rW (A:=some ⟨g,0,none⟩) (m:=N) (c:=d) (h:=0) rfl rfl (aR _) rfl rfl ?_;refine U ?_;refine kS ?_;exact lj results341 Zt lv ⟨_,_,rfl,rfl⟩
structure Ee where
 A:Option Addr
 c:Nat
 l:List Int
def Fz(s:Ee):List Value:=[.slice s.A s.l.length s.c]
instance:m6 Fz 1:=⟨λ_=>rfl,λx v a=>by simp[Fz] at a;subst a;rfl⟩
def pW(a:List Ee):List Int:=a.flatMap (·.l)
theorem Qw(a:List Ee)(k:Nat)(s:Ee)(h:a[k]? =some s):pW (a.take (k+1))=pW (a.take k)++s.l:=by unfold pW;rw[aT,h];simp
theorem KC(a:List Ee)(k:Nat):(pW (a.take k)).length<=(pW a).length:=by
 unfold pW;conv=>rhs;rw[<-bT k a]
 simp only[bD,ak];omega
theorem FA(H:kM)(B:Option Addr)(d:Nat)(a:List Ee)(hl:a.length<=1000000)(o:(pW a).length<=1000000)(C:H.kn (Rd B 1 Fz a))(p:∀s∈a,H.kn (Rd s.A 1 oY s.l)):Mk prog 340 #[.slice B a.length d] H (λes v=>∃A c,es=[li 3 1 oY A c (pW a)]/\v=.slice A (pW a).length c):=λW L=>by
 refine enter func340 ?_;refine U ?_;refine mP (λr σ L'=>fz H::L=L'/\∃k:Nat,k<=a.length/\r=a.length-k/\ml σ [(0,.slice B a.length d),(3,nN (pW (a.take k)).length),(9,.slice B a.length d),(10,nN a.length),(11,nN k)]) a.length
  _ (s1 _) ⟨rfl,0,by omega,by omega,⟨rfl,rfl,rfl,rfl,rfl,trivial⟩⟩ ?_
 rintro r σ _ ⟨rfl,k,q,rfl,g⟩;obtain⟨n,rfl⟩:=g.open;have t:=KC a k;refine U ?_;refine mE rfl (λb=>?_) (λb=>?_)
 ·have i:k<a.length:=by have:=am b;omega
  obtain⟨s,h⟩:∃e,a[k]? =some e:=⟨_,ad i⟩;have u:(Fz s)[0]? =some (.slice s.A s.l.length s.c):=rfl;have f:=Qw a k s h;have j:=KC a (k+1);rw[f,ak] at j;refine U ?_;rw[show decide ((((pW (a.take k)).length:Nat):Int)+((s.l.length:Nat):Int)<0)=false from Zq];refine U ?_;refine⟨a.length-(k+1),_,by omega,s1 _,rfl,k+1,by omega,rfl,⟨rfl,?_,rfl,rfl,rfl,trivial⟩⟩;rw[f,ak];rfl
 ·have m:k=a.length:=by have:=av b;omega
  subst m;rw[bf];refine U ?_;refine nR (Zp (pW a).length o W (fz H::L)) ?_;rintro _ _ ⟨w,x,rfl,rfl⟩;refine U ?_;refine mP (λr σ L'=>∃(k:Nat) (A:Option Addr) (c:Nat),k<=a.length/\r=a.length-k/\L'=li 3 1 oY A c (pW (a.take k))::fz H::L/\
   ml σ [(0,.slice B a.length d),(6,.slice A (pW (a.take k)).length c),(25,.slice B a.length d),(26,nN a.length),(27,nN k)]) a.length
   _ (s1 _) ⟨0,w,x,by omega,by omega,rfl,⟨rfl,rfl,rfl,rfl,rfl,trivial⟩⟩ ?_
  clear b t g n;rintro r σ _ ⟨k,A,c,q,rfl,rfl,g⟩;obtain⟨n,rfl⟩:=g.open;refine U ?_;refine mE rfl (λb=>?_) (λb=>?_)
  ·have i:k<a.length:=by have:=am b;omega
   obtain⟨s,h⟩:∃e,a[k]? =some e:=⟨_,ad i⟩;have u:(Fz s)[0]? =some (.slice s.A s.l.length s.c):=rfl;have f:=Qw a k s h;have j:=KC a (k+1);rw[f,ak] at j;refine U ?_;refine ap (l:=pW (a.take k)) (news:=s.l) (nS Zn (p s (ar h)) (le_refl _)) Zo (λy z=>?_);rw[<-f];refine U ?_;exact⟨a.length-(k+1),_,by omega,Zu,k+1,y,z,by omega,rfl,rfl,⟨rfl,rfl,rfl,rfl,rfl,trivial⟩⟩
  ·have m:k=a.length:=by have:=av b;omega
   subst m;rw[bf];refine U ?_;refine kS ?_;exact lj results340 Zt lv ⟨[_],rfl,_,_,rfl,rfl⟩
theorem Zv(H:kM)(c:mo):Fn prog 337 #[.agg (qL c).toArray] H (λb r=>Sl 1 ni b r (zp c)):=λW L=>by
 refine enter func337 ?_;have a:zp c=if c.kind=5 then[c.path,c.to] else if c.kind=6 then[c.path] else[]:=rfl;refine U ?_;intro g;refine U ?_;by_cases d:c.kind=5;·rw[show(c.kind==5)=true from by simpa using d];rw[aj d] at a;refine U ?_;intro h;refine U ?_;refine kS ?_;exact lX (c1 (c1 c0)) results337 Zt (λb hl e=>by rw[a];exact z8 (enc:=ni) (l:=[c.path,c.to]) (e.kn _ m0) rfl ⟨aA _,by show 2<=_;decide⟩)
 ·rw[show(c.kind==5)=false from by simpa using d];rw[ai d] at a;refine U ?_;by_cases f:c.kind=6;·rw[show(c.kind==6)=true from by simpa using f];rw[aj f] at a;refine U ?_;intro i;refine U ?_;refine kS ?_;exact lX (c1 (c1 c0)) results337 Zt (λb hl e=>by rw[a];exact z8 (enc:=ni) (l:=[c.path]) (e.kn _ m0) rfl ⟨aA _,by show 1<=_;decide⟩)
  ·rw[show(c.kind==6)=false from by simpa using f];rw[ai f] at a;refine U ?_;refine kS ?_;exact lX (c1 c0) results337 Zt (λb hl e=>by rw[a];exact Sl.nil _ _ _)
theorem Qx(H:kM)(g:Nat)(v:Value)(l:List la)(e:pq H v l)(j:H.kn (nX g [v]))(a b:Int):Fn prog 339 #[nI a,nI b,.pointer (some ⟨g,0,none⟩)] H (λ_ r=>r=.bool (wi l a b)):=λW L=>by obtain⟨A,c,rfl,_⟩:=Zi e.sl;refine enter func339 ?_;refine U ?_;refine l4 (hp:=f0) (Jh H _ l e b) ?_;rintro f _ k ⟨B,d,rfl,h,i⟩;refine U ?_;refine mi (Fa f _ _ ⟨B,d,rfl,h,i⟩ a) ?_;refine U ?_;refine kS ?_;exact lX c0 results339 Zt (λ_ _ _=>by unfold wi;rw[ud.2 e.ok];rfl)
theorem Fm(l:List la)(a:List Int)(p:kV):u5 l a p=match oy p with
 |none=>a
 |some ll=>if ll=[] then a else if(oQ l ll.dropLast).2≠0\/nM (oQ l ll.dropLast).1=false\/(oQ l ll.dropLast).1∈a then a else a++[(oQ l ll.dropLast).1]:=rfl
theorem Zw(l:List la)(a:List Int)(p:kV):(u5 l a p).length<=a.length+1:=by
 rw[Fm];split;·omega
 ·split;·omega
  ·split<;>simp
theorem Zx(l:List la)(b:List kV)(a:List Int):(b.foldl (u5 l) a).length<=a.length+b.length:=by
 induction b generalizing a with
 |nil=>simp
 |cons p b c=>rw[bU];have:=c (u5 l a p);have:=Zw l a p;simp only[aG];omega
theorem Zy(c:mo):(zp c).length<=2:=by unfold zp;split<;>(try split)<;>simp
theorem Zz(c:mo){n:Nat}(a:c.path.length<=n)(b:c.to.length<=n):∀p∈zp c,p.length<=n:=by
 unfold zp;split<;>(try split)<;>intro p hp<;>simp at hp;·rcases hp with rfl|rfl<;>assumption
 ·subst hp;assumption
theorem ZA(H:kM)(c:mo)(v:Value)(l:List la)(hv:pq H v l)(hp:c.path.length<=1000000)(lc:c.to.length<=1000000):Fn prog 338 #[.agg (qL c).toArray,v] H (λu r=>Sl 1 oY u r (ry l c)):=λW L=>by
 obtain⟨A,Y,rfl,lE,lF⟩:=Zi hv.sl;have lG:=Zy c;have lg:=Zz c hp lc;refine enter func338 ?_;refine U ?_;intro g2;refine U ?_;intro N;refine U ?_;refine C5 (hf:=f1 f0) o0 ?_;intro H0 kO kQ;refine CW ?_;refine U ?_;refine l4 (hp:=f1 f0) (Zv H0 c) ?_;rintro H1 _ kF ⟨B,d,rfl,hd,hq⟩;generalize lh:zp c=o at*;refine U ?_;refine SC.oA 3 1 oY none ?_;refine mP (λr σ L'=>∃(i:Nat) (ds:List Int) (m:Option Addr) (f:Nat) (q:kM),r=o.length-i/\i<=o.length/\ds=(o.take i).foldl (u5 l) []/\H1.le q/\
  L'=li 3 1 oY m f ds::fz q::L/\
  ml σ [(3,.pointer (some ⟨N,0,none⟩)),(5,.slice m ds.length f),(15,.slice B o.length d),(16,nN o.length),(17,nN i)]) o.length
  _ Zu ⟨0,[],none,0,H1,by omega,by omega,rfl,le_refl _,rfl,rfl,rfl,rfl,rfl,rfl,trivial⟩ ?_
 rintro r σ _ ⟨i,ds,m,f,q,rfl,hi,P,E,rfl,lm⟩;obtain⟨lH,rfl⟩:=lm.open;have lI:ds.length<=i:=by rw[P];have:=Zx l (o.take i) [];simp at this;omega
 have lJ:=hq.up E;have kG:=hv.up (le_trans kO (le_trans kF E));have Q:q.kn (nX N [.slice A l.length Y]):=(kQ.up kF).up E;clear kQ;refine SC.pure (φ:=ds.length<=f/\f<=maxLen) (λw hw=>yC m0 hw) (λlq=>?_);refine U ?_;refine mE rfl (λhc=>?_) (λhc=>?_)
 ·have R:i<o.length:=by have:=am hc;omega
  obtain⟨p,kT⟩:∃s,o[i]? =some s:=⟨_,ad R⟩;have lK:(ni p)[0]? =some (sv p):=rfl;have lO:=lg p (ar kT);have lu:o.take (i+1)=o.take i++[p]:=by rw[aT,kT];rfl
  have z:(o.take (i+1)).foldl (u5 l) []=u5 l ds p:=by rw[lu,bV,<-P];rfl
  rw[Fm] at z;refine U ?_;refine l4 (hp:=f1 f0) (yR q p Zo) ?_;rintro K _ M ⟨v',rfl,k⟩;cases kH:oy p with
  |none=>rw[kH] at k z;obtain⟨B2,d2,rfl,kX,kI⟩:=k;dsimp only at z;refine U ?_;exact⟨o.length-(i+1),_,by omega,Zu,i+1,ds,m,f,K,rfl,by omega,z.symm,le_trans E M,rfl,rfl,rfl,rfl,rfl,rfl,trivial⟩
  |some ns=>
   rw[kH] at k z;have lS:=Cm kH;obtain⟨B2,d2,rfl,kX,kI⟩:=k;simp only[aN] at kX kI⊢;dsimp only at z;refine U ?_;by_cases kJ:ns=[];·subst kJ;rw[aj rfl] at z;refine U ?_;exact⟨o.length-(i+1),_,by omega,Zu,i+1,ds,m,f,K,rfl,by omega,z.symm,le_trans E M,rfl,rfl,rfl,rfl,rfl,rfl,trivial⟩
   ·(rw[ai kJ] at z;have lT:0<ns.length:=cA.2 kJ;rw[show((ns.length:Int)==0)=false from Zq];refine U ?_;have lx:ns.dropLast=ns.take (ns.length-1):=ed;have kY:(ns.take (ns.length-1)).length=ns.length-1:=by rw[aC];omega);have ly:K.kn (nX N [.slice A l.length Y]):=Q.up M;clear Q;refine nq [0,1,2,3,4,5,6,7,8,9,10,11] Zk Zk Zk Zk Zk (λ_ _ _ h=>h) ?_;refine IA (v:=.slice A l.length Y) rfl (nS Zn ly (le_refl _)) rfl rfl rfl ?_;refine U ?_;rw[show(ns.length:Int)-1=((ns.length-1:Nat):Int) from by omega];refine rW (h:=ns.length-1) rfl rfl Zo rfl rfl ?_;refine U ?_;have kZ:=kG.up M;refine mi (Ct K _ _ l kZ (ns.take (ns.length-1)) ⟨B2,d2,by rw[kY]<;>rfl,by rw[kY];omega,(Sl.take kI _)⟩ Zo) ?_;rw[<-lx];have hI:=By kZ.ok ns.dropLast;generalize oQ l ns.dropLast=x at*;obtain⟨id,e⟩:=x;dsimp only at*;refine U ?_;by_cases he:e=0
    ·subst he;refine U ?_;refine md (wW id hI W _) ?_;cases k5:nM id with
     |false=>rw[aj (.inr (.inl k5))] at z;refine U ?_;exact⟨o.length-(i+1),_,by omega,Zu,i+1,ds,m,f,K,rfl,by omega,z.symm,le_trans E M,rfl,rfl,rfl,rfl,rfl,rfl,trivial⟩
     |true=>
      refine U ?_;refine sm (k1 k0) (λu n F=>Fa u _ ds ⟨m,f,rfl,lq,ra (n _ m0)⟩ id) ?_;cases k7:ds.contains id with
      |true=>rw[aj (.inr (.inr (by simpa using k7)))] at z;refine U ?_;exact⟨o.length-(i+1),_,by omega,Zu,i+1,ds,m,f,K,rfl,by omega,z.symm,le_trans E M,rfl,rfl,rfl,rfl,rfl,rfl,trivial⟩
      |false=>rw[ai (by rintro(h|h|h);exact h rfl;rw[k5] at h;cases h;simp[h] at k7)] at z;refine U ?_;intro lz;refine U ?_;refine ap (l:=ds) (news:=[id]) (oG (g:=lz) (t:=3) (cs:=[nI id]) Zn rfl) Zl (λA6 c6=>?_);refine U ?_;rw[<-z];exact⟨o.length-(i+1),_,by omega,Zu,i+1,(o.take (i+1)).foldl (u5 l) [],A6,c6,K,rfl,by omega,rfl,le_trans E M,rfl,rfl,rfl,rfl,rfl,rfl,trivial⟩
    ·rw[show(e != 0)=true from Zq];rw[aj (.inl he)] at z;refine U ?_;exact⟨o.length-(i+1),_,by omega,Zu,i+1,ds,m,f,K,rfl,by omega,z.symm,le_trans E M,rfl,rfl,rfl,rfl,rfl,rfl,trivial⟩
 ·have lB:i=o.length:=by have:=av hc;omega
  subst lB;rw[bf] at P;have C:ry l c=1::sZ l ds:=by unfold ry;rw[lh,<-P]
  have O:=le_trans kO (le_trans kF E);refine U ?_;by_cases h2:ds.length=2
  ·obtain⟨a,b,rfl⟩:∃a b,ds=[a,b]:=by
    match ds,h2 with
    |[a,b],_=>exact⟨a,b,rfl⟩
   rw[show((([a,b]:List Int).length:Int)==2)=true from rfl];have kL:sZ l [a,b]=if !(wi l a b)&&(wi l b a||decide (b<a)) then[b,a] else[a,b]:=rfl;rw[kL] at C;refine U ?_;refine nq [0,1,2,3,4,5,6,7] Zk Zk Zk Zk Zk (λ_ _ _ h=>h) ?_;refine U ?_;have h0:([a,b]:List Int)[0]? =some a:=rfl;have h1:([a,b]:List Int)[1]? =some b:=rfl;refine qO (xs:=[a,b]) (i:=0) rfl rfl (fX _) rfl (p9 (e:=3) (c:=f) m0) rfl rfl ?_;refine U ?_;refine qO (xs:=[a,b]) (i:=1) rfl rfl (ic 1) rfl (p9 (e:=3) (c:=f) m0) rfl rfl ?_;refine U ?_;refine mi (fst:=[]) (cap:=[.pointer (some ⟨N,0,none⟩)]) (Qx q N _ l kG Q a b).rf ?_;cases k8:wi l a b with
   |true=>rw[k8,ai Zs] at C;refine U ?_;refine U ?_;intro D;refine U ?_;refine U ?_;intro G;refine U ?_;refine BP (k1 (k1 (k1 (k1 k0)))) (λu n F=>?_);have I:q.le u:=F q Zn;refine ov (FA u (some ⟨G,0,none⟩) 2 [⟨some ⟨D,0,none⟩,1,[1]⟩,⟨m,f,[a,b]⟩] Zs (by first|(simp[pW];done)|(simp[pW];omega)) (uF (n _ m0) rfl) (λs k=>by(rcases aJ.1 k with rfl|k;·exact uF (n _ (m1 m0)) rfl);·rw[aE.1 k];exact ra (n _ (m1 (m1 m0))))) ?_;rintro _ _ ⟨S,T,rfl,rfl⟩;rw[show pW [⟨some ⟨D,0,none⟩,1,[1]⟩,⟨m,f,[a,b]⟩]=1::[a,b] from by simp[pW]];simp only[aD];refine U ?_;refine kS ?_;exact lX (c1 c0) results338 Zt (λV X J=>by rw[C];exact J.sl m0) (le_trans O I)
   |false=>
    rw[k8] at C;refine U ?_;refine mi (fst:=[]) (cap:=[.pointer (some ⟨N,0,none⟩)]) (Qx q N _ l kG Q b a).rf ?_;cases k9:wi l b a with
    |true=>rw[k9,aj Zs] at C;refine U ?_;refine qO (xs:=[a,b]) (i:=0) rfl rfl (fX _) rfl (p9 (e:=3) (c:=f) m0) rfl rfl ?_;refine wN (l:=[a,b]) (i:=0) (j:=0) (y:=a) (y':=b) (v:=nI b) rfl rfl rfl rfl rfl Zd p0 rfl (λ_=>trivial) rfl ?_;refine qO (xs:=[b,b]) (i:=1) rfl rfl (ic 1) rfl (p9 (e:=3) (c:=f) m0) rfl rfl ?_;refine wN (l:=[b,b]) (i:=1) (j:=0) (y:=b) (y':=a) (v:=nI a) rfl rfl rfl rfl rfl Zd p0 rfl (λ_=>trivial) rfl ?_;refine SL.mL (L':=li 3 1 oY m f [b,a]::fz q::L) (λ_ h=>h) ?_;refine U ?_;refine U ?_;intro D;refine U ?_;refine U ?_;intro G;refine U ?_;refine BP (k1 (k1 (k1 (k1 k0)))) (λu n F=>?_);have I:q.le u:=F q Zn;refine ov (FA u (some ⟨G,0,none⟩) 2 [⟨some ⟨D,0,none⟩,1,[1]⟩,⟨m,f,[b,a]⟩] Zs (by first|(simp[pW];done)|(simp[pW];omega)) (uF (n _ m0) rfl) (λs k=>by(rcases aJ.1 k with rfl|k;·exact uF (n _ (m1 m0)) rfl);·rw[aE.1 k];exact ra (n _ (m1 (m1 m0))))) ?_;rintro _ _ ⟨S,T,rfl,rfl⟩;rw[show pW [⟨some ⟨D,0,none⟩,1,[1]⟩,⟨m,f,[b,a]⟩]=1::[b,a] from by simp[pW]];simp only[aD];refine U ?_;refine kS ?_;exact lX (c1 c0) results338 Zt (λV X J=>by rw[C];exact J.sl m0) (le_trans O I)
    |false=>(rw[k9] at C;refine U ?_;by_cases R:b<a;·rw[aZ R] at C⊢;rw[aj Zs] at C;refine U ?_;refine qO (xs:=[a,b]) (i:=0) rfl rfl (fX _) rfl (p9 (e:=3) (c:=f) m0) rfl rfl ?_;refine wN (l:=[a,b]) (i:=0) (j:=0) (y:=a) (y':=b) (v:=nI b) rfl rfl rfl rfl rfl Zd p0 rfl (λ_=>trivial) rfl ?_;refine qO (xs:=[b,b]) (i:=1) rfl rfl (ic 1) rfl (p9 (e:=3) (c:=f) m0) rfl rfl ?_;refine wN (l:=[b,b]) (i:=1) (j:=0) (y:=b) (y':=a) (v:=nI a) rfl rfl rfl rfl rfl Zd p0 rfl (λ_=>trivial) rfl ?_;refine SL.mL (L':=li 3 1 oY m f [b,a]::fz q::L) (λ_ h=>h) ?_;refine U ?_;refine U ?_;intro D;refine U ?_;refine U ?_;intro G;refine U ?_;refine BP (k1 (k1 (k1 (k1 k0)))) (λu n F=>?_);have I:q.le u:=F q Zn;refine ov (FA u (some ⟨G,0,none⟩) 2 [⟨some ⟨D,0,none⟩,1,[1]⟩,⟨m,f,[b,a]⟩] Zs (by first|(simp[pW];done)|(simp[pW];omega)) (uF (n _ m0) rfl) (λs k=>by(rcases aJ.1 k with rfl|k;·exact uF (n _ (m1 m0)) rfl);·rw[aE.1 k];exact ra (n _ (m1 (m1 m0))))) ?_;rintro _ _ ⟨S,T,rfl,rfl⟩;rw[show pW [⟨some ⟨D,0,none⟩,1,[1]⟩,⟨m,f,[b,a]⟩]=1::[b,a] from by simp[pW]];simp only[aD];refine U ?_;refine kS ?_;exact lX (c1 c0) results338 Zt (λV X J=>by rw[C];exact J.sl m0) (le_trans O I));·rw[bx R] at C⊢;rw[ai Zs] at C;refine U ?_;refine U ?_;intro D;refine U ?_;refine U ?_;intro G;refine U ?_;refine BP (k1 (k1 (k1 (k1 k0)))) (λu n F=>?_);have I:q.le u:=F q Zn;refine ov (FA u (some ⟨G,0,none⟩) 2 [⟨some ⟨D,0,none⟩,1,[1]⟩,⟨m,f,[a,b]⟩] Zs (by first|(simp[pW];done)|(simp[pW];omega)) (uF (n _ m0) rfl) (λs k=>by(rcases aJ.1 k with rfl|k;·exact uF (n _ (m1 m0)) rfl);·rw[aE.1 k];exact ra (n _ (m1 (m1 m0))))) ?_;rintro _ _ ⟨S,T,rfl,rfl⟩;rw[show pW [⟨some ⟨D,0,none⟩,1,[1]⟩,⟨m,f,[a,b]⟩]=1::[a,b] from by simp[pW]];simp only[aD];refine U ?_;refine kS ?_;exact lX (c1 c0) results338 Zt (λV X J=>by rw[C];exact J.sl m0) (le_trans O I)
  ·have kL:sZ l ds=ds:=by
    unfold sZ;split;·exact absurd rfl h2
    ·rfl
   rw[kL] at C;rw[show((ds.length:Int)==2)=false from by simp;omega];refine U ?_;refine U ?_;intro D;refine U ?_;refine U ?_;intro G;refine U ?_;refine BP (k1 (k1 (k1 (k1 k0)))) (λu n F=>?_);have I:q.le u:=F q Zn;refine ov (FA u (some ⟨G,0,none⟩) 2 [⟨some ⟨D,0,none⟩,1,[1]⟩,⟨m,f,ds⟩] Zs (by first|(simp[pW];done)|(simp[pW];omega)) (uF (n _ m0) rfl) (λs k=>by(rcases aJ.1 k with rfl|k;·exact uF (n _ (m1 m0)) rfl);·rw[aE.1 k];exact ra (n _ (m1 (m1 m0))))) ?_;rintro _ _ ⟨S,T,rfl,rfl⟩;rw[show pW [⟨some ⟨D,0,none⟩,1,[1]⟩,⟨m,f,ds⟩]=1::ds from by simp[pW]];simp only[aD];refine U ?_;refine kS ?_;exact lX (c1 c0) results338 Zt (λV X J=>by rw[C];exact J.sl m0) (le_trans O I)
def Ef(l:List la)(t:lr)(c:mo):Int×Int:=match(ry l c).find? λk=>!(t.lA.contains k) with
 |some k=>(1,k)
 |none=>(3,0)
theorem ZB(H:kM)(c:mo)(g:Value)(l:List la)(hl:pq H g l)(hp:c.path.length<=1000000)(q:c.to.length<=1000000)(t:lr)(cs:List Value)(u:ui H cs t)(K:t.lA.length<=1000000):Fn prog 336 #[.agg (qL c).toArray,g,.agg cs.toArray] H (λ_ r=>r=Fy (Ef l t c).1 (Ef l t c).2):=λW L=>by
 obtain⟨M,N,ve,rfl,⟨A,h,rfl,v,w⟩,⟨y,z,rfl,_⟩,⟨C,D,rfl,_⟩⟩:=u;obtain⟨O,P,rfl,_,_⟩:=Zi hl.sl;refine enter func336 ?_;refine U ?_;intro E;refine U ?_;intro j;refine U ?_;intro m;refine U ?_;refine l4 (hp:=f1 (f1 (f1 f0))) (ZA H c _ l hl hp q) ?_;rintro n _ F ⟨B,d,rfl,Q,R⟩;have b:Ef l t c=match(ry l c).find? λk=>!(t.lA.contains k) with
  |some k=>(1,k)
  |none=>(3,0):=rfl
 generalize ry l c=a at*;refine U ?_;refine mP (λr σ L'=>∃i:Nat,r=a.length-i/\i<=a.length/\a.find? (λk=>!(t.lA.contains k))=(a.drop i).find? (λk=>!(t.lA.contains k))/\
  L'=k4 m 110 [nI 0,nI 0]::k4 j 64 (qY t (.slice A t.lA.length h) (.slice y t.lM.ll.length z) (.slice C t.lM.l9.length D))::k4 E 251 (qL c)::fz n::L/\
  ml σ [(5,.pointer (some ⟨j,0,none⟩)),(6,.pointer (some ⟨m,0,none⟩)),(11,.slice B a.length d),(12,nN a.length),(13,nN i)]) a.length
  _ (s1 _) ⟨0,by omega,by omega,rfl,rfl,rfl,rfl,rfl,rfl,rfl,trivial⟩ ?_
 rintro r σ _ ⟨i,rfl,S,hf,rfl,G⟩;obtain⟨T,rfl⟩:=G.open;have I:=w.up F;refine U ?_;refine mE rfl (λe=>?_) (λe=>?_)
 ·have f:i<a.length:=by have:=am e;omega
  obtain⟨x,o⟩:∃s,a[i]? =some s:=⟨_,ad f⟩;have V:(oY x)[0]? =some (nI x):=rfl;have oC:a.drop i=x::a.drop (i+1):=by rw[ad f] at o;cases o;exact(dp f).symm
  rw[oC,dA] at hf;refine U ?_;refine mi (Fa n _ t.lA ⟨A,h,rfl,v,I⟩ x) ?_;cases p:t.lA.contains x with
  |true=>rw[p] at hf;simp only[eV] at hf;refine U ?_;exact⟨a.length-(i+1),_,by omega,s1 _,i+1,rfl,by omega,hf,rfl,rfl,rfl,rfl,rfl,rfl,trivial⟩
  |false=>rw[p] at hf;simp only[gT] at hf;rw[hf] at b;refine U ?_;refine kS ?_;exact lX (c1 (c1 (c1 c0))) results336 (.agg (cs:=[nI 1,nI x]) inferInstance rfl lW rfl) (λ_ _ _=>by rw[b]<;>rfl)
 ·have J:i=a.length:=by have:=av e;omega
  rw[J,dm,List.find?_nil] at hf;rw[hf] at b;refine U ?_;refine kS ?_;exact lX (c1 (c1 (c1 c0))) results336 (.agg (cs:=[nI 3,nI 0]) inferInstance rfl lW rfl) (λ_ _ _=>by rw[b]<;>rfl)
instance:x5 prog 245 "gunwale/plan.next" 334:=⟨_,_,_,rfl,rfl,rfl,rfl,rfl,rfl⟩
instance:x5 prog 249 "gunwale/plan.next" 335:=⟨_,_,_,rfl,rfl,rfl,rfl,rfl,rfl⟩
instance:x5 prog 251 "gunwale/plan.next" 336:=⟨_,_,_,rfl,rfl,rfl,rfl,rfl,rfl⟩
theorem ZC(l:List la)(t:lr):pZ l t=if t.mS then(0,0) else if t.done/\t.lA≠[] then(2,t.lA.headD 0) else if t.done/\t.call.kind=12 then(4,0) else if t.done then(5,0) else match nf t.call with
 |.plain=>(3,0)
 |.pT=>Ef l t t.call
 |.U ll=>CF l t ll:=by
 unfold pZ;split;·rfl
 ·split;·rfl
  ·split;·rfl
   ·split;·rfl
    ·cases nf t.call with
     |plain=>rfl
     |pT=>rfl
     |U ll=>unfold CF;rfl
theorem CC{c:mo}{ll:List kV}(h:nf c=.U ll):ll.length<=16:=by
 unfold nf at h;split at h;·cases h
 ·split at h
  ·cases hp:oy c.path with
   |none=>rw[hp] at h;cases h;exact aR _
   |some ns=>(rw[hp] at h;have:=Cm hp;simp only[Way.U.injEq] at h;split at h;·subst h;exact this);·subst h;simp only[iz];omega
  ·split at h<;>cases h
section
variable{P:Program}{n:Sz}{W:World}{Q:Exit->St->List kM->Prop}{σ:St}{L:List kM}{Z:Array Oper}{rest:List Oper}
 {dst:Option Nat} {ty:TypeId} {pos:String} {lf:Array Edge} {gd:Option (Nat×Bool)}
theorem KD{recv:Operand}{name:String}{l:List Operand}{a:Array TypeId}{t f:Nat}[o:x5 P t name f]{v r:Value}{H:kM}(c:Rf P f (v::l.map (ev σ)).toArray H r)(h:SL P n W .plain Z Q rest (l6 σ dst r) L)(d:fz H∈L:=by repeat first|exact m0|refine m1 ?_)
 (e:ev σ recv=.iface t v:=by rfl) (g:lP Z σ ⟨dst,.call {callee:=.invoke recv name,args:=l.toArray,argTypes:=a},ty,pos,lf,gd⟩=true:=by rfl) (i:l8 n dst=true:=by rfl):
 SL P n W .plain Z Q (⟨dst,.call {callee:=.invoke recv name,args:=l.toArray,argTypes:=a},ty,pos,lf,gd⟩::rest) σ L:=by
 obtain⟨pre,post,b⟩:=d9 d;refine EM (r:=r) (((c W (pre++post)).at pre post b).conv ?_) h e g i;rintro v' p ⟨j,k⟩;exact⟨L,λw m=>by subst k;rw[b];exact m.ny (rT pre post (fz H)).symm,j,rfl⟩
end
theorem ZD(H:kM)(m:Value)(l:List la)(hl:pq H m l)(t:lr)(hp:t.call.path.length<=1000000)(s:t.call.to.length<=1000000)(cs:List Value)(n:ui H cs t)(o:t.lA.length<=1000000):Fn prog 32 #[m,.agg cs.toArray] H (λ_ r=>r=Fy (pZ l t).1 (pZ l t).2):=λW L=>by
 have j:=n;obtain⟨E,F,ve,rfl,⟨A,u,rfl,G,p⟩,⟨v,w,rfl,_⟩,⟨y,z,rfl,_⟩⟩:=n;obtain⟨I,J,rfl,_,_⟩:=Zi hl.sl;have a:=ZC l t;refine enter func32 ?_;refine U ?_;intro B;refine U ?_;intro K;refine U ?_;cases q:t.mS with
 |true=>rw[aj q] at a;refine U ?_;refine kS ?_;exact lX (c1 (c1 c0)) results32 (.agg (cs:=[nI 0,nI 0]) inferInstance rfl lW rfl) (λ_ _ _=>by rw[a]<;>rfl)
 |false=>
  rw[ai (by simp[q])] at a;refine U ?_;cases b:t.done with
  |true=>
   refine U ?_;cases e:t.lA with
   |cons x xs=>rw[aj ⟨b,by simp[e]⟩,e] at a;rw[e] at p;rw[show decide ((0:Int)<((x::xs).length:Int))=true from Zq];refine U ?_;have M:(x::xs)[0]? =some x:=rfl;refine qO (xs:=x::xs) (i:=0) rfl rfl (fX _) rfl (nS Zn p (le_refl _)) rfl rfl ?_;refine U ?_;refine kS ?_;exact lX (c1 (c1 c0)) results32 (.agg (cs:=[nI 2,nI x]) inferInstance rfl lW rfl) (λ_ _ _=>by rw[a]<;>rfl)
   |nil=>(rw[ai (by simp[e])] at a;rw[show decide ((0:Int)<(([]:List Int).length:Int))=false from rfl];refine U ?_;rw[b];refine U ?_;by_cases f:t.call.kind=12;·rw[aj ⟨b,f⟩] at a;rw[show(t.call.kind==12)=true from by simpa using f];refine U ?_;refine kS ?_;exact lX (c1 (c1 c0)) results32 (.agg (cs:=[nI 4,nI 0]) inferInstance rfl lW rfl) (λ_ _ _=>by rw[a]<;>rfl));·rw[ai (λh=>f h.2),aj b] at a;rw[show(t.call.kind==12)=false from by simpa using f];refine U ?_;rw[b];refine U ?_;refine kS ?_;exact lX (c1 (c1 c0)) results32 (.agg (cs:=[nI 5,nI 0]) inferInstance rfl lW rfl) (λ_ _ _=>by rw[a]<;>rfl)
  |false=>
   rw[ai (by simp[b]),ai (by simp[b]),ai (by simp[b])] at a;refine U ?_;rw[b];refine U ?_;rw[b];refine U ?_;refine Br [k4 B 64 (qY t (.slice A t.lA.length u) (.slice v t.lM.ll.length w) (.slice y t.lM.l9.length z))] [(true,0),(true,1),(true,3),(true,4),(false,2),(false,5),(false,6)] Zk Zk Zk Zk (λ_ _ _ h=>h) (.of Zu) ?_;refine wZ [0,1,3,4] _ Zk ?_;refine U ?_;refine qx rfl ?_;refine l4 (hp:=f1 (f1 f0)) (Jr H t.call Zo) ?_;rintro k _ d c;cases g:nf t.call with
   |plain=>rw[g] at c a;obtain rfl:=c;refine q8 ?_;refine⟨.of Zu,?_⟩;refine qx rfl ?_;refine KD (Zh _ _ t k (j.up d)) ?_;refine q8 ?_;refine⟨.of Zu,?_⟩;refine qx rfl ?_;refine U ?_;refine⟨.of Zu,?_⟩;refine zA ?_;refine kS ?_;exact lX (c1 (c1 c0)) results32 (.agg (cs:=[nI (((3,0):Int×Int)).1,nI (((3,0):Int×Int)).2]) inferInstance rfl lW rfl) (λ_ _ _=>by rw[a]<;>rfl)
   |pT=>rw[g] at c a;obtain rfl:=c;refine q8 ?_;refine⟨.of Zu,?_⟩;refine qx rfl ?_;refine KD (ZB k t.call _ l (hl.up d) hp s t _ (j.up d) o).rf ?_;refine q8 ?_;refine⟨.of Zu,?_⟩;refine qx rfl ?_;refine U ?_;refine⟨.of Zu,?_⟩;refine zA ?_;refine kS ?_;exact lX (c1 (c1 c0)) results32 (.agg (cs:=[nI ((Ef l t t.call)).1,nI ((Ef l t t.call)).2]) inferInstance rfl lW rfl) (λ_ _ _=>by rw[a]<;>rfl)
   |U ll=>rw[g] at c a;obtain⟨C,rfl,D⟩:=c;refine q8 ?_;refine⟨.of Zu,?_⟩;refine qx rfl ?_;refine KD (Zj k _ C l (hl.up d) ll D (by have:=CC g;omega) t _ (j.up d) o) ?_;refine q8 ?_;refine⟨.of Zu,?_⟩;refine qx rfl ?_;refine U ?_;refine⟨.of Zu,?_⟩;refine zA ?_;refine kS ?_;exact lX (c1 (c1 c0)) results32 (.agg (cs:=[nI ((CF l t ll)).1,nI ((CF l t ll)).2]) inferInstance rfl lW rfl) (λ_ _ _=>by rw[a]<;>rfl)
section
variable{P:Program}{n:Sz}{W:World}{Q:Exit->St->List kM->Prop}{σ:St}{L:List kM}{Z:Array Oper}{rest:List Oper}
 {dst:Option Nat} {ty:TypeId} {pos:String} {lf:Array Edge} {gd:Option (Nat×Bool)}
theorem FB{f:Operand}{l:List Operand}{d:Array TypeId}{k:Nat}{fst cap:List Value}{e e':kM}{v:Value}{L0 es a:List kM}(g:wO L0 es a)(m:∀b,(∀x∈es,b.kn x.p)->(∀H,fz H∈es->H.le b)->NJ P k (fst++l.map (ev σ)++cap).toArray b e v e') (h:SL P n W .plain Z Q rest (l6 σ dst v) (e'::L0))(hf:ev σ f=.func (.func k) fst.toArray cap.toArray:=by rfl) (o:lP Z σ ⟨dst,.call {callee:=.value f,args:=l.toArray,argTypes:=d},ty,pos,lf,gd⟩=true:=by rfl) (q:l8 n dst=true:=by rfl):
 SL P n W .plain Z Q (⟨dst,.call {callee:=.value f,args:=l.toArray,argTypes:=d},ty,pos,lf,gd⟩::rest) σ (e::L0):=by
 unfold wO at g;subst g;have i:=m (YtkbifmngmocjnaaGreatDoor.tf es) (λe r=>CZ r) (λH s=>by have:=EH s;rwa [tG] at this) W a;rw[tG] at i;refine nR (R:=λv' j=>v'=v/\j=e'::(es++a)) ((i.mL λw c=>((c.ny (rT es a e).symm).tf es).ny (.swap ..)).conv ?_) ?_ hf o q;·rintro v' j ⟨t,rfl⟩;exact⟨_,λw c=>((c.ny (.swap ..)).F5 es).ny (rT es a e'),t,rfl⟩
 ·rintro _ _ ⟨rfl,rfl⟩;exact h
end
def sg{s:Nat}(n:Int)(r:mB s):Bool:=match r.val with
 |.int .i64 x::_=>x==n
 |_=>false
theorem KE(H:kM)(g gd:Nat)(m:mQ)(a:lU)(c:mo)(ve d vs e f i j:Value)(o:H.kn (nX g [.pointer (some ⟨gd,0,none⟩)]))(p:H.kn (nX gd (wG m a c ve d vs e f i j)))(r:mB 2)(x:Int)(k:Value)(b:r.val=nI x::[k]):Rf prog 151 #[.agg r.val.toArray,.pointer (some ⟨g,0,none⟩)] H (.bool (sg c.n r)):=λW L=>by
 refine enter func151 ?_;have l:sg c.n r=(x==c.n):=by unfold sg;rw[b]
 rw[b];refine U ?_;intro q;refine U ?_;refine nq [0,1,2,3,4,5,6,7,8] Zk Zk Zk Zk Zk (λ_ _ _ h=>h) ?_;refine U ?_;refine kS ?_;exact lj results151 Zt lv ⟨by rw[l]<;>rfl,rfl⟩
theorem KF(H:kM)(g gd:Nat)(m:mQ)(a:lU)(c:mo)(ve d vs e f i j:Value)(p:H.kn (nX g [.pointer (some ⟨gd,0,none⟩)]))(q:H.kn (nX gd (wG m a c ve d vs e f i j)))(r:mB 4)(x:Int)(k l v3:Value)(b:r.val=nI x::[k,l,v3]):Rf prog 152 #[.agg r.val.toArray,.pointer (some ⟨g,0,none⟩)] H (.bool (sg c.n r)):=λW L=>by
 refine enter func152 ?_;have o:sg c.n r=(x==c.n):=by unfold sg;rw[b]
 rw[b];refine U ?_;intro s;refine U ?_;refine nq [0,1,2,3,4,5,6,7,8] Zk Zk Zk Zk Zk (λ_ _ _ h=>h) ?_;refine U ?_;refine kS ?_;exact lj results152 Zt lv ⟨by rw[o]<;>rfl,rfl⟩
theorem ZE(H:kM)(g gd:Nat)(m:mQ)(a:lU)(c:mo)(ve d vs e f i j:Value)(p:H.kn (nX g [.pointer (some ⟨gd,0,none⟩)]))(q:H.kn (nX gd (wG m a c ve d vs e f i j)))(r:mB 4)(x:Int)(k l v3:Value)(b:r.val=nI x::[k,l,v3]):Rf prog 158 #[.agg r.val.toArray,.pointer (some ⟨g,0,none⟩)] H (.bool (sg c.n r)):=λW L=>by
 refine enter func158 ?_;have o:sg c.n r=(x==c.n):=by unfold sg;rw[b]
 rw[b];refine U ?_;intro s;refine U ?_;refine nq [0,1,2,3,4,5,6,7,8] Zk Zk Zk Zk Zk (λ_ _ _ h=>h) ?_;refine U ?_;refine kS ?_;exact lj results158 Zt lv ⟨by rw[o]<;>rfl,rfl⟩
def rm{α:Type}{s:Nat}(a:List Value->α->Prop):List (mB s)->List α->Prop
 |[],[]=>True
 |r::b,x::xs=>a r.val x/\rm a b xs
 |_,_=>False
theorem rm.of{α:Type}{s:Nat}{d:List Value->α->Prop}:∀{c:List (mB s)} {l:List α},c.length=l.length->(∀(i:Nat) (r:mB s) (x:α),c[i]? =some r->l[i]? =some x->d r.val x)->rm d c l
 |[],[],_,_=>trivial
 |[],_::_,h,_=>by simp at h
 |_::_,[],h,_=>by simp at h
 |r::f,x::xs,h,e=>⟨e 0 r x rfl rfl,rm.of (by simpa using h) λi r x a b=>e (i+1) r x a b⟩
theorem rm.to{α:Type}{s:Nat}{d:List Value->α->Prop}:∀{c:List (mB s)} {l:List α},rm d c l->c.length=l.length/\(∀(i:Nat) (r:mB s) (x:α),c[i]? =some r->l[i]? =some x->d r.val x)
 |[],[],_=>⟨rfl,λi r x h=>by simp at h⟩
 |[],_::_,h=>h.elim
 |_::_,[],h=>h.elim
 |r::j,x::xs,h=>by
  obtain⟨e,f⟩:=rm.to h.2;refine⟨by simp[e],λi r' g a b=>?_⟩;cases i with
  |zero=>cases a;cases b;exact h.1
  |succ i=>exact f i r' g a b
theorem rm.any{α:Type}{s:Nat}{a:List Value->α->Prop}{p:mB s->Bool}{q:α->Bool}(b:∀r x,a r.val x->p r=q x):∀{c:List (mB s)} {l:List α},rm a c l->c.any p=l.any q
 |[],[],_=>rfl
 |[],_::_,h=>h.elim
 |_::_,[],h=>h.elim
 |r::d,x::xs,h=>by simp only[j7];rw[b r x h.1,rm.any b h.2]
theorem rm.tY{α:Type}{s:Nat}{a:List Value->α->Prop}{p:mB s->Bool}{q:α->Bool}(c:∀r x,a r.val x->p r=q x):∀{d:List (mB s)} {l:List α},rm a d l->rm a (oT d p) (l.filter λx=>!(q x))
 |[],[],_=>trivial
 |[],_::_,h=>h.elim
 |_::_,[],h=>h.elim
 |r::e,x::xs,h=>by
  have b:=rm.tY c h.2;unfold oT at b⊢;simp only[cX];rw[c r x h.1];cases q x with
  |true=>exact b
  |false=>exact⟨h.1,b⟩
theorem rm.mem{α:Type}{s:Nat}{b:List Value->α->Prop}:∀{c:List (mB s)} {l:List α},rm b c l->∀r∈c,∃x∈l,b r.val x
 |[],_,_,r,a=>by cases a
 |_::_,[],h,_,_=>h.elim
 |r::f,x::xs,h,r',a=>by
  rcases aJ.1 a with rfl|a;·exact⟨x,ay ..,h.1⟩
  ·obtain⟨y,d,e⟩:=rm.mem h.2 r' a;exact⟨y,aI _ d,e⟩
theorem KG{H:kM}{n:Int}(r:mB 2)(x:Int×List la)(h:DY H r.val x):sg n r=(x.1==n):=by obtain⟨v,h,_⟩:=h;unfold sg;rw[h]
theorem Hu{H:kM}{n:Int}(r:mB 4)(x:zm)(h:Cz H r.val x):sg n r=(x.n==n):=by obtain⟨v,h,_⟩:=h;unfold sg;rw[h]
theorem ZF(m:mQ)(c:mo):C9 m c=if !(m.l3.any λs=>s.1==c.n)&&!(m.lN.any λw=>w.n==c.n) then nJ m 191 else(({m with l3:=m.l3.filter λs=>!(s.1==c.n),lN:=m.lN.filter λw=>!(w.n==c.n)},lU.z,[]),0):=rfl
theorem ZG:xG 86 C9:=λgd m c H ve vn vs vw q hB hC W L=>by
 obtain⟨A0,kI,rfl,_,_⟩:=Zi q.kP.es;obtain⟨A1,kJ,rfl,kL,kO⟩:=Zi q.kP.ns.sl;obtain⟨S,J,t,rfl,kQ,K,lL,kF⟩:=Zi q.l3;obtain⟨T,M,u,rfl,kT,N,kG,kH⟩:=Zi q.lN;have kX:=hB.l3;have kY:=hB.lN;have p:=ZF m c;have A:=rm.of lL kF;have B:=rm.of kG kH;refine enter func86 ?_;unfold mY;refine U ?_;intro f;refine U ?_;refine sm (k1 (k1 (k1 (k1 k0)))) (λg e y=>T8 mB.val g S J t Zo (K.up (y _ Zn)) 151 [.pointer (some ⟨f,0,none⟩)] (sg c.n) (λr j=>by obtain⟨x,_,v,k,_⟩:=A.mem r j;exact KE g f gd m lU.z c _ _ _ _ _ _ _ (pj (e _ m0)) (pj (e _ (m1 m0))) r x.1 _ k)) ?_;rw[A.any KG];cases ha:m.l3.any λs=>s.1==c.n with
 |true=>rw[ha] at p;rw[ai Zs] at p;refine U ?_;refine Br [k4 f 126 [.pointer (some ⟨gd,0,none⟩)]] [(true,0),(true,1),(true,2),(true,3),(true,4),(true,7),(false,5),(false,6),(false,8),(true,9),(true,10),(true,11),(false,12)] Zk Zk Zk Zk (λ_ _ _ h=>h) (.of Zu) ?_;refine wZ [0,1,2,3,4,7] _ Zk ?_;refine U ?_;refine qx rfl ?_;refine U ?_;refine⟨.of Zu,?_⟩;refine qx rfl ?_;refine ov (Gv mB.val H S J t Zo K) ?_;rintro _ _ ⟨C,D,rfl,rfl⟩;simp only[aD];refine U ?_;refine⟨.of Zu,?_⟩;refine qx rfl ?_;refine FB (k1 (k1 (k1 (k1 k0)))) (λg e y W L=>NH mB.val g C D 151 [.pointer (some ⟨f,0,none⟩)] (sg c.n) t Zo ⟨[nI 0,lR],rfl,aK.1 rfl⟩ rfl (λl d r j=>by obtain⟨x,_,v,k,_⟩:=A.mem r j;exact KE l f gd m lU.z c _ _ _ _ _ _ _ ((pj (e _ m0)).up d) ((pj (e _ (m1 m0))).up d) r x.1 _ k) W L) ?_;refine U ?_;refine⟨.of Zu,?_⟩;refine wZ [9,10,11] _ Zk ?_;refine U ?_;refine qx rfl ?_;refine U ?_;refine⟨.of Zu,?_⟩;refine zA ?_;have E:=rm.tY (KG (H:=H) (n:=c.n)) A;generalize oT t (sg c.n)=O at*;refine tJ (hf:=f1 (f1 (f1 f0))) o0 ?_;intro P o Q R;refine U ?_;refine Br [k4 f 126 [.pointer (some ⟨gd,0,none⟩)]] [(true,0),(true,1),(true,2),(true,3),(true,4),(true,7),(false,5),(false,6),(false,8),(true,9),(true,10),(true,11),(false,12)] Zk Zk Zk Zk (λ_ _ _ h=>h) (.of Zu) ?_;refine wZ [0,1,2,3,4,7] _ Zk ?_;refine U ?_;refine qx rfl ?_;refine U ?_;refine⟨.of Zu,?_⟩;refine qx rfl ?_;refine ov (Dm mB.val P T M u Zo (N.up o)) ?_;rintro _ _ ⟨F,G,rfl,rfl⟩;simp only[aD];refine U ?_;refine⟨.of Zu,?_⟩;refine qx rfl ?_;refine FB (k1 (k1 (k1 (k1 k0)))) (λg e y W L=>NI mB.val g F G 152 [.pointer (some ⟨f,0,none⟩)] (sg c.n) u Zo ⟨[nI 0,nI 0,lR,.bool false],rfl,aK.1 rfl⟩ rfl (λl d r j=>by obtain⟨x,_,v,k,_⟩:=B.mem r j;exact KF l f gd {m with l3:=m.l3.filter λs=>!(s.1==c.n)} lU.z c _ _ _ _ _ _ _ ((pj (e _ m0)).up d) ((pj (e _ (m1 m0))).up d) r x.n _ _ _ k) W L) ?_;refine U ?_;refine⟨.of Zu,?_⟩;refine wZ [9,10,11] _ Zk ?_;refine U ?_;refine qx rfl ?_;refine U ?_;refine⟨.of Zu,?_⟩;refine zA ?_;have I:=rm.tY (Hu (H:=H) (n:=c.n)) B;generalize oT u (sg c.n)=V at*;refine tJ (hf:=f1 (f1 (f1 f0))) o0 ?_;intro l d X Y;refine U ?_;refine kS ?_;exact lj results86 (L':=mY gd {m with l3:=m.l3.filter λs=>!(s.1==c.n),lN:=m.lN.filter λw=>!(w.n==c.n)} lU.z c _ _ _ _ lR lR none 0 [] l L) Zt lv (oK.lM _ _ _ ⟨q.kP.up (le_trans o d),⟨C,D,O,rfl,R,Q.up d,E.to.1,λi r x a b=>AF (le_trans o d) _ _ (E.to.2 i r x a b)⟩,⟨F,G,V,rfl,Y,X,I.to.1,λi r x a b=>zP (le_trans o d) _ _ (I.to.2 i r x a b)⟩⟩ (tP.z _) (le_trans o d) p)
 |false=>
  rw[ha] at p;refine U ?_;refine sm (k1 (k1 (k1 (k1 k0)))) (λg e y=>T9 mB.val g T M u Zo (N.up (y _ Zn)) 152 [.pointer (some ⟨f,0,none⟩)] (sg c.n) (λr j=>by obtain⟨x,_,v,k,_⟩:=B.mem r j;exact KF g f gd m lU.z c _ _ _ _ _ _ _ (pj (e _ m0)) (pj (e _ (m1 m0))) r x.n _ _ _ k)) ?_;rw[B.any Hu];cases hb:m.lN.any λw=>w.n==c.n with
  |true=>rw[hb] at p;rw[ai Zs] at p;refine U ?_;refine Br [k4 f 126 [.pointer (some ⟨gd,0,none⟩)]] [(true,0),(true,1),(true,2),(true,3),(true,4),(true,7),(false,5),(false,6),(false,8),(true,9),(true,10),(true,11),(false,12)] Zk Zk Zk Zk (λ_ _ _ h=>h) (.of Zu) ?_;refine wZ [0,1,2,3,4,7] _ Zk ?_;refine U ?_;refine qx rfl ?_;refine U ?_;refine⟨.of Zu,?_⟩;refine qx rfl ?_;refine ov (Gv mB.val H S J t Zo K) ?_;rintro _ _ ⟨C,D,rfl,rfl⟩;simp only[aD];refine U ?_;refine⟨.of Zu,?_⟩;refine qx rfl ?_;refine FB (k1 (k1 (k1 (k1 k0)))) (λg e y W L=>NH mB.val g C D 151 [.pointer (some ⟨f,0,none⟩)] (sg c.n) t Zo ⟨[nI 0,lR],rfl,aK.1 rfl⟩ rfl (λl d r j=>by obtain⟨x,_,v,k,_⟩:=A.mem r j;exact KE l f gd m lU.z c _ _ _ _ _ _ _ ((pj (e _ m0)).up d) ((pj (e _ (m1 m0))).up d) r x.1 _ k) W L) ?_;refine U ?_;refine⟨.of Zu,?_⟩;refine wZ [9,10,11] _ Zk ?_;refine U ?_;refine qx rfl ?_;refine U ?_;refine⟨.of Zu,?_⟩;refine zA ?_;have E:=rm.tY (KG (H:=H) (n:=c.n)) A;generalize oT t (sg c.n)=O at*;refine tJ (hf:=f1 (f1 (f1 f0))) o0 ?_;intro P o Q R;refine U ?_;refine Br [k4 f 126 [.pointer (some ⟨gd,0,none⟩)]] [(true,0),(true,1),(true,2),(true,3),(true,4),(true,7),(false,5),(false,6),(false,8),(true,9),(true,10),(true,11),(false,12)] Zk Zk Zk Zk (λ_ _ _ h=>h) (.of Zu) ?_;refine wZ [0,1,2,3,4,7] _ Zk ?_;refine U ?_;refine qx rfl ?_;refine U ?_;refine⟨.of Zu,?_⟩;refine qx rfl ?_;refine ov (Dm mB.val P T M u Zo (N.up o)) ?_;rintro _ _ ⟨F,G,rfl,rfl⟩;simp only[aD];refine U ?_;refine⟨.of Zu,?_⟩;refine qx rfl ?_;refine FB (k1 (k1 (k1 (k1 k0)))) (λg e y W L=>NI mB.val g F G 152 [.pointer (some ⟨f,0,none⟩)] (sg c.n) u Zo ⟨[nI 0,nI 0,lR,.bool false],rfl,aK.1 rfl⟩ rfl (λl d r j=>by obtain⟨x,_,v,k,_⟩:=B.mem r j;exact KF l f gd {m with l3:=m.l3.filter λs=>!(s.1==c.n)} lU.z c _ _ _ _ _ _ _ ((pj (e _ m0)).up d) ((pj (e _ (m1 m0))).up d) r x.n _ _ _ k) W L) ?_;refine U ?_;refine⟨.of Zu,?_⟩;refine wZ [9,10,11] _ Zk ?_;refine U ?_;refine qx rfl ?_;refine U ?_;refine⟨.of Zu,?_⟩;refine zA ?_;have I:=rm.tY (Hu (H:=H) (n:=c.n)) B;generalize oT u (sg c.n)=V at*;refine tJ (hf:=f1 (f1 (f1 f0))) o0 ?_;intro l d X Y;refine U ?_;refine kS ?_;exact lj results86 (L':=mY gd {m with l3:=m.l3.filter λs=>!(s.1==c.n),lN:=m.lN.filter λw=>!(w.n==c.n)} lU.z c _ _ _ _ lR lR none 0 [] l L) Zt lv (oK.lM _ _ _ ⟨q.kP.up (le_trans o d),⟨C,D,O,rfl,R,Q.up d,E.to.1,λi r x a b=>AF (le_trans o d) _ _ (E.to.2 i r x a b)⟩,⟨F,G,V,rfl,Y,X,I.to.1,λi r x a b=>zP (le_trans o d) _ _ (I.to.2 i r x a b)⟩⟩ (tP.z _) (le_trans o d) p)
  |false=>rw[hb] at p;rw[aj Zs] at p;refine U ?_;refine kS ?_;exact lj results86 (L':=mY gd m lU.z c _ _ _ _ lR lR none 0 [] H L) Zt lv (oK.err q _ (le_refl _) p)
theorem Qy{α:Type}(a b:α):∀(k:Nat) (l:List α),k+1<l.length->l.take k++[a,b]++l.drop (k+2)=(l.set k a).set (k+1) b
 |0,x::y::l,_=>by simp
 |0,[_],h=>by simp at h
 |_,[],h=>by simp at h
 |k+1,x::l,h=>by have:=Qy a b k l (by simpa using h);simp only[iF,bQ,iG,gN];rw[this]
section
variable{P:Program}{n:Sz}{W:World}{q:Md}{Q:Exit->St->List kM->Prop}{σ:St}{L:List kM}{Z:Array Oper}{rest:List Oper}
 {ty:TypeId} {pos:String} {lf:Array Edge} {gd:Option (Nat×Bool)}
theorem Qz{a x:Operand}{t:Nat}[E:oD P t 2]{A:Option Addr}{c s e i j:Nat}{l:List (mB s)}{y y1 y':mB s}{v u:Value}{L':List kM}(d:ev σ a=.pointer (some (pM A s i j))) (F:ev σ x=.agg #[v,u]) (G:v.oneCell'=true) (H:u.oneCell'=true) (o:l[i]? =some y) (I:y1.val=y.val.set j v) (J:y'.val=y1.val.set (j+1) u) (K:j+1<s)(hp:oe L (li e s mB.val A c l) (li e s mB.val A c (l.set i y')) L')(M:q.pb=true) (N:q.nP L->q.nP L') (O:lP Z σ ⟨none,.store t a x,ty,pos,lf,gd⟩=true)(h:SL P n W q Z Q rest σ L'):SL P n W q Z Q (⟨none,.store t a x,ty,pos,lf,gd⟩::rest) σ L:=by
 have f:i<l.length:=(ax.1 o).1;refine zW M rfl O rfl λw p=>?_;have R:=uE (p.ok _ hp.mem).holds;rcases R with⟨_,S⟩|⟨g,cur,z,T,m,B,V,X,Y⟩
 ·subst S;simp at f
 ·subst T;obtain⟨kJ,h2,h3⟩:=E.sj;have b:i*s+(j+1)<l.length*s:=by have:(i+1)*s<=l.length*s:=bL s f;rw[bW] at this;omega
  have kF:i*s+j+1<cur.size:=by have:l.length*s<=c*s:=bL s B;omega
  have C:=db P g (i*s+j) e [v,u] 0 cur w m (by simp;omega) (by simp[G,H]);have kG:(cur.toList.take (i*s+j+0)++[v,u]++cur.toList.drop (i*s+j+0+[v,u].length)).toArray=(cur.setIfInBounds (i*s+j) v).setIfInBounds (i*s+j+1) u:=by apply Array.toList_inj.1;simp only[eu,aG,bm,dE];exact Qy v u _ _ (by simpa using kF)
  rw[kG] at C;have kH:g<w.heap.size:=(aO.1 m).1;refine⟨w.setRow g ((cur.setIfInBounds (i*s+j) v).setIfInBounds (i*s+j+1) u),L',?_,?_,N,h⟩
  ·have kI:pM (some ⟨g,0,none⟩) s i j=⟨g,i*s+j,none⟩:=by simp[pM]
   rw[kI] at d;simp[execOp,d,F,Instr.storeAt,Instr.sureAddr,storeVar,sizeOf,typeInfo,h2,h3,Value.cells,C]
  ·refine p.put hp rfl rfl rfl (by simp[World.setRow]) (λk _ b=>ep w g k _ (λe=>b ?_)) ⟨λk b=>?_,?_⟩ (λk b=>.inl ?_);·subst e;simp only[li];exact⟨z,_,rfl,rfl⟩
   ·simp only[li] at b;obtain⟨_,a,d,rfl⟩:=b;cases d;simpa[World.setRow] using kH
   ·simp only[li];refine .inr ⟨g,_,z,rfl,eJ w g cur _ e (0,0) m,by rw[bB];exact B,V,by simpa using X,?_⟩;have e1:=FW (enc:=mB.val) (λr=>r.len) l i j y y1 v o I Zo;have D:=FW (enc:=mB.val) (λr=>r.len) (l.set i y1) i (j+1) y1 y' u (by rw[cB f]) J K;rw[jw] at D;rw[D,e1,bB,dE,dE,j0,j0,Y];rfl
   ·simp only[li] at b⊢;exact b
end
theorem rm.ED{α:Type}{s:Nat}{a:List Value->α->Prop}{p:mB s->Bool}{q:α->Bool}(b:∀r x,a r.val x->p r=q x):∀{c:List (mB s)} {l:List α},rm a c l->c.findIdx? p=l.findIdx? q
 |[],[],_=>rfl
 |[],_::_,h=>h.elim
 |_::_,[],h=>h.elim
 |r::d,x::xs,h=>by simp only[eb];rw[b r x h.1,rm.ED b h.2]
theorem AM{α:Type}{s:Nat}{c:List Value->α->Prop}{d:List (mB s)}{l:List α}{i:Nat}{row:mB s}{f:α->α}{y:α}(h:∀(i:Nat) (r:mB s) (x:α),d[i]? =some r->l[i]? =some x->c r.val x)(g:l[i]? =some y)(k:c row.val (f y)):∀(j:Nat) (r:mB s) (x:α),(d.set i row)[j]? =some r->(l.modify i f)[j]? =some x->c r.val x:=λj r x b a=>by
 rw[bM] at a;by_cases e:i=j
 ·subst e;rw[g] at a;simp at a;subst a;have m:i<d.length:=by have:=(ax.1 b).1;simpa using this
  rw[cB m] at b;cases b;exact k
 ·rw[jX e] at b;simp[e] at a;exact h j r x b a
theorem ZH:xG 88 Bh:=λgd m c H ve vn vs vw g I hC W L=>by
 obtain⟨A0,kX,rfl,_,_⟩:=Zi g.kP.es;obtain⟨A1,kY,rfl,kZ,k5⟩:=Zi g.kP.ns.sl;obtain⟨T,J,j,rfl,k7,K,M,A⟩:=Zi g.lN;have k8:=I.lN;have N:=rm.of M A;have f:Bh m c=match m.lN.findIdx? λw=>w.n==c.n with
  |none=>nJ m 191
  |some i=>(({m with lN:=m.lN.modify i λw=>{w with q:=([],w.q.2)}},{lU.z with l9:=((m.lN[i]?).map λw=>w.q.1).getD []},[]),0):=rfl
 refine enter func88 ?_;unfold mY;refine U ?_;intro k;refine U ?_;refine sm (k1 (k1 (k1 (k1 k0)))) (λO P kF=>I3 mB.val O T J j Zo (K.up (kF _ Zn)) 158 [.pointer (some ⟨k,0,none⟩)] (sg c.n) (λr hr=>by obtain⟨x,_,v,kG,_⟩:=N.mem r hr;exact ZE O k gd m lU.z c _ _ _ _ _ _ _ (pj (P _ m0)) (pj (P _ (m1 m0))) r x.n _ _ _ kG)) ?_;have kH:=N.ED (p:=sg c.n) (q:=λw=>w.n==c.n) Hu;unfold m9;rw[kH];cases hf:m.lN.findIdx? λw=>w.n==c.n with
 |none=>rw[hf] at f;dsimp only at f;refine U ?_;refine kS ?_;exact lj results88 (L':=mY gd m lU.z c _ _ _ _ lR lR none 0 [] H L) Zt lv (oK.err g _ (le_refl _) f)
 |some i=>
  rw[hf] at f;dsimp only at f;obtain⟨hi,_,_⟩:=bR.1 hf;have o:m.lN[i]? =some m.lN[i]:=ad hi;obtain⟨row,Q⟩:∃s,j[i]? =some s:=⟨_,ad Zo⟩;obtain⟨vq,R,hq⟩:=A i row _ Q o;rw[o] at f;generalize m.lN[i]=e at*;obtain⟨B,d,rfl,hd,kI⟩:=Zi hq;refine U ?_;rw[show decide ((i:Int)<0)=false from Zq];refine U ?_;refine Br [k4 k 126 [.pointer (some ⟨gd,0,none⟩)]] [(true,0),(true,1),(true,2),(true,3),(true,4),(false,5),(false,6),(true,7),(true,8),(true,9),(false,10)] Zk Zk Zk Zk (λ_ _ _ h=>h) (.of Zu) ?_;refine wZ [0,1,2,3,4] _ Zk ?_;refine U ?_;refine qx rfl ?_;refine U ?_;refine⟨.of Zu,?_⟩;refine qx rfl ?_;refine ov (Dm mB.val H T J j Zo K) ?_;rintro _ _ ⟨S,V,rfl,rfl⟩;simp only[aD];refine U ?_;refine⟨.of Zu,?_⟩;refine wZ [7,8,9] _ Zk ?_;refine U ?_;refine qx rfl ?_;refine U ?_;refine⟨.of Zu,?_⟩;refine zA ?_;obtain⟨val,k9,lc⟩:=row;dsimp only at R;subst R;refine U ?_;refine qN [k4 k 126 [.pointer (some ⟨gd,0,none⟩)]] (lC.Z [0,2,3,4,5,6,7,8,9,10,11] (lC.p8 [1] (lC.Z [12,13,14,15,16,17,18,19,20,21,22] .mZ))) Zk Zk Zk Zk (λ_ _ _ h=>h) (.of Zu) ?_;refine mM _ _ _ _ Zk ?_;refine U ?_;refine qu _ _ _ Zk ?_;refine U ?_;refine mM _ _ _ _ Zk ?_;refine U ?_;have kJ:e.q.1.length<=100000:=(I.xd e (ar o)).2;refine l4 (hp:=f1 (f1 (f1 (f1 f0)))) (VW H _ e.q (e.q.1.length:Int) ⟨_,rfl,B,d,rfl,hd,kI⟩ kJ ⟨by omega,by omega⟩) ?_;rintro H1 _ kL ⟨_,_,rfl,⟨_,rfl,t,y,rfl,C,D⟩,X,Y,rfl,E,F⟩;have kO:Bu e.q.1 (e.q.1.length:Int)=e.q.1.length:=by unfold Bu;simp
  rw[kO] at C D E F⊢;rw[dm] at C D⊢;rw[bf] at E F⊢;refine U ?_;refine Qz (l:=j) (y1:=⟨[nI e.n,nI e.dir,.slice t ([]:List nk).length y,.bool e.q.2],rfl,aK.1 rfl⟩) (y':=⟨[nI e.n,nI e.dir,.slice t ([]:List nk).length y,.bool e.q.2],rfl,aK.1 rfl⟩) (v:=.slice t ([]:List nk).length y) (u:=.bool e.q.2) rfl rfl rfl rfl Q rfl rfl Zd p0 rfl (λ_=>Sub.of Zu) rfl ?_;refine U ?_;refine tJ (hf:=f1 (f1 (f1 f0))) o0 ?_;intro H2 G kQ kT;refine kS ?_;have hl:=le_trans kL G;exact lj results88 (L':=mY gd {m with lN:=m.lN.modify i λw=>{w with q:=([],w.q.2)}} {lU.z with l9:=e.q.1} c _ _ _ (.slice S j.length V) lR (.slice X e.q.1.length Y) none 0 [] H2 L) Zt lv (oK.lM _ _ _ ⟨g.kP.up hl,g.l3.up hl (AF hl),⟨S,V,j.set i _,by rw[bB],kT,kQ,by simp[M],AM (λi r x a b=>zP hl _ _ (A i r x a b)) o ⟨_,rfl,t,y,rfl,C,D.up G⟩⟩⟩ ⟨Sl.nil _ _ _,X,Y,rfl,E,F.up G⟩ hl f)
theorem KH{a b:List la}(c:nb a)(d:vP a)(e:nb b)(f:vP b)(dir:Int):(ss a b dir).length<=1000000000:=by have h:=Hh c d dir;have i:=Hh e f dir;unfold ss;simp only[ak,bO];have g:=bG (ph (sN b dir)) (sN a dir).reverse;have j:=bG (ph (sN a dir)) (sN b dir);have k:=bG (uY (sN a dir)) (sN b dir);rw[gF] at g;omega
def KI(my ns:List la)(w:zm):zm:={w with q:=rJ w.q (ss my ns w.dir)}
theorem ZI(gd:Nat)(m:mQ)(a:lU)(c:mo)(H:kM)(ve E vs vw F G:Value)(t:sH H m ve E vs vw)(hB:vP m.kP.ns)(lH:m.lN.length<=8)(kT:∀w∈m.lN,od w.dir/\w.q.1.length<=100000)(A:Option Addr)(k:Nat)(Z:List lQ)(va:Value) (my:List la) (Q:pq H va my) (kG:vP my) (W:World) (L:List kM):
 m3 prog W 38 #[.pointer (some ⟨gd,0,none⟩),va] (mY gd m a c ve E vs vw F G A k Z H L)
  (λv L'=>v=.tuple #[]/\∃R kH,H.le R/\sH R (Ah my m) ve E vs kH/\L'=mY gd (Ah my m) a c ve E vs kH F G A k Z R L):=by
 obtain⟨A0,kX,rfl,_,_⟩:=Zi t.kP.es;obtain⟨A1,kY,rfl,lI,lJ⟩:=Zi t.kP.ns.sl;obtain⟨T,kt,f,rfl,lK,kZ,k5,k7⟩:=Zi t.lN;obtain⟨A2,k8,rfl,_,_⟩:=Zi Q.sl;refine enter func38 ?_;unfold mY;refine U ?_;refine ov (Dm mB.val H T kt f Zo kZ) ?_;rintro _ _ ⟨I,J,rfl,rfl⟩;simp only[aD];refine U ?_;refine mP (λr σ L'=>∃(i:Nat) (g:List zm) (o:List (mB 4)) (D:kM),r=f.length-i/\i<=f.length/\H.le D/\o.length=f.length/\g.length=f.length/\
  (∀j,j<i->g[j]? =(m.lN[j]?).map (KI my m.kP.ns))/\(∀j,i<=j->g[j]? =m.lN[j]?)/\(∀(j:Nat) (r:mB 4) (x:zm),o[j]? =some r->g[j]? =some x->Cz D r.val x)/\
  L'=li 187 4 mB.val I J o::k4 gd 128 (wG m a c (.slice A0 m.kP.es.length kX) (.slice A1 m.kP.ns.length kY) vs (.slice I f.length J) F G (.slice A Z.length k))::li 201 7 nA A k Z::fz D::L/\
  ml σ [(0,.pointer (some ⟨gd,0,none⟩)),(1,.slice A2 my.length k8),(21,nN f.length),(22,nN i)]) f.length
  _ (s1 _) ⟨0,m.lN,f,H,by omega,by omega,le_refl _,rfl,k5.symm,λj K=>by omega,λj _=>rfl,k7,rfl,rfl,rfl,rfl,rfl,trivial⟩ ?_
 rintro r σ _ ⟨i,g,o,D,rfl,hi,y,C,kI,kJ,S,V,rfl,k9⟩;obtain⟨lO,rfl⟩:=k9.open;refine U ?_;refine mE rfl (λX=>?_) (λX=>?_)
 ·have lc:i<f.length:=by have:=am X;omega
  obtain⟨e,Y⟩:∃w,m.lN[i]? =some w:=⟨_,ad Zo⟩;have kF:g[i]? =some e:=by rw[S i (aA _),Y]
  obtain⟨row,kL⟩:∃s,o[i]? =some s:=⟨_,ad Zo⟩;obtain⟨vq,kO,hq⟩:=V i row _ kL kF;obtain⟨lg,lh⟩:=kT e (ar Y);obtain⟨B,d,rfl,hd,lm⟩:=Zi hq;obtain⟨val,lS,lT⟩:=row;dsimp only at kO;subst kO;rw[<-C] at lc;have lq:f.length=o.length:=C.symm;rw[lq];refine U ?_;refine nq [0,1,2,3,4,5,6,7,8,9,10,11,12,13,14,15,16,17,18,19,20] Zk Zk Zk Zk Zk (λ_ _ _ h=>h) ?_;refine U ?_;refine l4 (hp:=f1 (f1 (f1 f0))) (J8 D _ _ my m.kP.ns (Q.up y) (t.kP.ns.up y) kG hB e.dir lg) ?_;rintro H1 _ kQ lu;have lx:=KH Q.ok kG t.kP.ns.ok hB e.dir;refine U ?_;refine l4 (hp:=f1 (f1 (f1 f0))) (VV H1 _ _ e.q _ ⟨_,rfl,B,d,rfl,hd,lm.up kQ⟩ lu lh lx) ?_;rintro M _ z ⟨_,rfl,N,O,rfl,ly,lz⟩;refine U ?_;refine Qz (l:=o) (y1:=⟨[nI e.n,nI e.dir,.slice N (rJ e.q (ss my m.kP.ns e.dir)).1.length O,.bool e.q.2],rfl,aK.1 rfl⟩) (y':=⟨[nI e.n,nI e.dir,.slice N (rJ e.q (ss my m.kP.ns e.dir)).1.length O,.bool (rJ e.q (ss my m.kP.ns e.dir)).2],rfl,aK.1 rfl⟩) (v:=.slice N (rJ e.q (ss my m.kP.ns e.dir)).1.length O) (u:=.bool (rJ e.q (ss my m.kP.ns e.dir)).2) rfl rfl rfl rfl kL rfl rfl Zd p0 rfl (λ_=>Sub.of Zu) rfl ?_;refine U ?_;rw[C];have hl:=le_trans kQ z;have lV:i<g.length:=by omega
  exact⟨f.length-(i+1),_,by omega,s1 _,i+1,g.modify i (KI my m.kP.ns),_,M,rfl,by omega,le_trans y hl,by rw[bB];exact C,by simp[kI],λj K=>by
   rw[bM];by_cases P:i=j;·subst P;rw[kF,Y];simp
   ·simp only[P,bH];rw[kJ j Zo];simp,λj K=>by
   rw[bM];have P:i≠j:=by omega
   simp only[P,bH];rw[S j Zo];simp,AM (λj r x a b=>zP hl _ _ (V j r x a b)) kF ⟨_,rfl,N,O,rfl,ly,lz⟩,rfl,rfl,rfl,rfl,rfl,trivial⟩
 ·have lB:i=f.length:=by have:=av X;omega
  subst lB;have lE:g=m.lN.map (KI my m.kP.ns):=by
   apply cK;intro j;rw[bP];by_cases K:j<f.length;·exact kJ j K
   ·rw[S j Zo,dL Zo];rfl
  subst lE;refine tJ (hf:=f1 (f1 f0)) o0 ?_;intro M z lF lG;refine U ?_;rw[<-C];exact qD results38 (L':=mY gd (Ah my m) a c _ _ _ (.slice I o.length J) F G A k Z M L) lv ⟨rfl,M,_,le_trans y z,⟨t.kP.up (le_trans y z),t.l3.up (le_trans y z) (AF (le_trans y z)),⟨I,J,o,rfl,lG,lF,by rw[C,<-kI];rfl,λj r x p q=>zP z _ _ (V j r x p q)⟩⟩,rfl⟩
instance:wz prog 131 3 129:=⟨by kernel_rfl⟩
instance:Bo prog 129 .nilFunc:=⟨_,rfl,rfl⟩
instance adD:wX prog 3 nI:=MH Zk
def CH(k:Nat):Value:=.func (.func k) #[] #[]
def Hv:List (Int×Nat):=[(1,79),(2,79),(3,80),(4,81),(5,82),(6,83),(7,84),(8,85),(9,86),(10,87),(11,88),(12,89),(13,90)]
theorem ZJ(H:kM):Mk prog 37 #[] H (λes v=>∃g,es=[nG g nI CH Hv]/\v=.map (some g)):=λW L=>by refine enter func37 ?_;refine U ?_;refine EZ nI CH (.inl rfl) rfl rfl (λg=>?_);refine uc (a:=(1:Int)) (v:=79) rfl rfl rfl p0 rfl (λ_=>trivial) rfl ?_;refine uc (a:=(2:Int)) (v:=79) rfl rfl rfl p0 rfl (λ_=>trivial) rfl ?_;refine uc (a:=(3:Int)) (v:=80) rfl rfl rfl p0 rfl (λ_=>trivial) rfl ?_;refine uc (a:=(4:Int)) (v:=81) rfl rfl rfl p0 rfl (λ_=>trivial) rfl ?_;refine uc (a:=(5:Int)) (v:=82) rfl rfl rfl p0 rfl (λ_=>trivial) rfl ?_;refine uc (a:=(6:Int)) (v:=83) rfl rfl rfl p0 rfl (λ_=>trivial) rfl ?_;refine uc (a:=(7:Int)) (v:=84) rfl rfl rfl p0 rfl (λ_=>trivial) rfl ?_;refine uc (a:=(8:Int)) (v:=85) rfl rfl rfl p0 rfl (λ_=>trivial) rfl ?_;refine uc (a:=(9:Int)) (v:=86) rfl rfl rfl p0 rfl (λ_=>trivial) rfl ?_;refine uc (a:=(10:Int)) (v:=87) rfl rfl rfl p0 rfl (λ_=>trivial) rfl ?_;refine uc (a:=(11:Int)) (v:=88) rfl rfl rfl p0 rfl (λ_=>trivial) rfl ?_;refine uc (a:=(12:Int)) (v:=89) rfl rfl rfl p0 rfl (λ_=>trivial) rfl ?_;refine uc (a:=(13:Int)) (v:=90) rfl rfl rfl p0 rfl (λ_=>trivial) rfl ?_;refine U ?_;refine kS ?_;exact lj results37 Zt lv ⟨[nG g nI CH Hv],rfl,g,rfl,rfl⟩
theorem ZK(m:mQ)(c:mo)(h:uZ c=true):∃k f,qG Hv c.kind=some k/\xG k f/\pS m c=f m c:=by
 have a:BV c.kind≠none:=by intro e;unfold uZ at h;rw[e] at h;cases h
 have b:c.kind=1\/c.kind=2\/c.kind=3\/c.kind=4\/c.kind=5\/c.kind=6\/c.kind=7\/c.kind=8\/c.kind=9\/c.kind=10\/c.kind=11\/c.kind=12\/c.kind=13:=by
  by_cases d:c.kind=1\/c.kind=2\/c.kind=3\/c.kind=4\/c.kind=5\/c.kind=6\/c.kind=7\/c.kind=8\/c.kind=9\/c.kind=10\/c.kind=11\/c.kind=12\/c.kind=13;·exact d
  ·refine absurd ?_ a;unfold BV;rw[ai Zo,ai Zo,ai Zo,ai Zo,ai Zo,ai Zo,ai Zo]
 rcases b with e|e|e|e|e|e|e|e|e|e|e|e|e;·exact⟨79,Af,by rw[e];rfl,PS,by simp[pS,e]⟩
 ·exact⟨79,Af,by rw[e];rfl,PS,by simp[pS,e]⟩
 ·exact⟨80,Be,by rw[e];rfl,XU,by simp[pS,e]⟩
 ·exact⟨81,BW,by rw[e];rfl,X6,by simp[pS,e]⟩
 ·exact⟨82,Bf,by rw[e];rfl,X3,by simp[pS,e]⟩
 ·exact⟨83,Bg,by rw[e];rfl,XZ,by simp[pS,e]⟩
 ·exact⟨84,BX,by rw[e];rfl,X7,by simp[pS,e]⟩
 ·exact⟨85,λm _=>BY m,by rw[e];rfl,X9,by simp[pS,e]⟩
 ·exact⟨86,C9,by rw[e];rfl,ZG,by simp[pS,e]⟩
 ·exact⟨87,BZ,by rw[e];rfl,Yb,by simp[pS,e]⟩
 ·exact⟨88,Bh,by rw[e];rfl,ZH,by simp[pS,e]⟩
 ·exact⟨89,λm _=>((m,lU.z,[]),0),by rw[e];rfl,X8,by simp[pS,e]⟩
 ·exact⟨90,Ag,by rw[e];rfl,Yh,by simp[pS,e]⟩
def ZL(a:lU)(H:kM)(r:Value):Prop:=∃b c,r=.agg (sS a b c).toArray/\tP H a b c
def ZM(x:sw)(H:kM)(r:Value):Prop:=∃a b v3,r=.tuple #[a,b,v3]/\J9 x.1 H a/\ZL x.2.1 H b/\Sl 7 nA H v3 x.2.2
theorem ZN(m:mQ)(c:mo):py m c=if !(uZ c) then(m,{lU.z with err:=180},[]) else if(pS m c).2≠0 then(m,{lU.z with err:=(pS m c).2},[]) else if(pS m c).1.2.2=[] then(pS m c).1 else(Ah m.kP.ns (pS m c).1.1,(pS m c).1.2.1,(pS m c).1.2.2):=rfl
theorem QA(m:mQ)(c:mo)(H:kM)(ve Q vs R:Value)(g:sH H m ve Q vs R)(V:CA m)(r:yd c)(X:(pS m c).2=0->CA (pS m c).1.1):Fn prog 13 #[.agg (sG m ve Q vs R).toArray,.agg (qL c).toArray] H (ZM (py m c)):=λW L=>by
 obtain⟨Y,kF,rfl,_,_⟩:=Zi g.kP.es;obtain⟨A1,kG,rfl,lq,lu⟩:=Zi g.kP.ns.sl;obtain⟨T,kt,kH,rfl,_⟩:=Zi g.lN;obtain⟨S,ks,kI,rfl,_⟩:=Zi g.l3;have hp:=r.path;have lx:=r.to;have hd:=r.data;have e:=ZN m c;refine enter func13 ?_;refine U ?_;intro g2;refine U ?_;intro g3;refine U ?_;intro s;refine U ?_;intro t;refine U ?_;refine md (VT c Zo Zo Zo W _) ?_;cases K:uZ c with
 |false=>
  rw[K,aj (show(!false)=true from rfl)] at e;refine U ?_;refine kS ?_;exact tg (c1 (c1 (c1 (c1 c0)))) results13 (.agg (cs:=sG m _ _ _ _) inferInstance rfl lW rfl) (.agg (cs:=sS {lU.z with err:=180} lR lR) inferInstance rfl lW rfl) Zt
   (λu hl _=>by rw[e];exact⟨_,_,_,rfl,⟨_,_,_,_,rfl,g.up hl⟩,⟨_,_,rfl,⟨Sl.nil _ _ _,Sl.nil _ _ _⟩⟩,Sl.nil _ _ _⟩)
 |true=>
  obtain⟨k,f,kX,kY,kJ⟩:=ZK m c K;rw[K,ai Zs,kJ] at e;rw[kJ] at X;refine U ?_;intro i;refine U ?_;refine nq [1,2,0,3,4,5,6,7,8] Zk Zk Zk Zk Zk (λ_ _ _ h=>h) ?_;refine U ?_;refine ov (ZJ H) ?_;rintro _ _ ⟨gm,rfl,rfl⟩;simp only[aD];refine yM (a:=c.kind) rfl rfl m0 rfl rfl rfl ?_;rw[kX];refine U ?_;refine SL.oA 201 7 nA none ?_;refine SL.mL (L':=mY i m lU.z c _ _ _ _ lR lR none 0 [] H (nG gm nI CH Hv::k4 t 62 (sS lU.z lR lR)::k4 s 31 (sG ⟨⟨[],[]⟩,0,0,[],[],0⟩ lR lR lR lR)::k4 g3 48 (qL c)::k4 g2 31 (sG m (.slice Y m.kP.es.length kF) (.slice A1 m.kP.ns.length kG) (.slice S kI.length ks) (.slice T kH.length kt))::L)) (λw n=>n.pick 8 [2,0,7,1,3,4,5,6] Zd) ?_;refine nR (kY i m c H _ _ _ _ g V r W _) ?_;generalize f m c=fr at*;obtain⟨⟨b,d,of⟩,M⟩:=fr;dsimp only at*;rintro _ _ ⟨u,kZ,a1,kL,k5,k7,k8,k9,lc,lg,j,l,hl,rfl,rfl,hr⟩;dsimp only at*;refine SL.mL (L':=k4 t 62 (sS lU.z lR lR)::k4 s 31 (sG ⟨⟨[],[]⟩,0,0,[],[],0⟩ lR lR lR lR)::k4 g2 31 (sG m (.slice Y m.kP.es.length kF) (.slice A1 m.kP.ns.length kG) (.slice S kI.length ks) (.slice T kH.length kt))::k4 i 128 (wG kZ a1 c k5 k7 k8 k9 lc lg (.slice j kL.length l))::li 201 7 nA j l kL::fz u::L) (λw n=>n.pick 8 [4,5,7,0,1,2] Zd) ?_;refine U ?_;by_cases he:M=0
  ·subst he;obtain⟨lh,p,v⟩:=hr rfl;cases lh;rw[ai Zs] at e;obtain⟨x,y,rfl,_,_⟩:=Zi p.kP.es;obtain⟨A,B,rfl,_,_⟩:=Zi p.kP.ns.sl;obtain⟨B2,d2,kO,rfl,_⟩:=Zi p.lN;obtain⟨C,D,E,rfl,_⟩:=Zi p.l3;obtain⟨F,G,rfl,_,_⟩:=Zi v.ll;obtain⟨I,J,rfl,_,_⟩:=Zi v.l9;have N:=X rfl;refine U ?_;cases O:of with
   |nil=>
    rw[aj O] at e;subst O;refine U ?_;refine qN [k4 i 128 (wG b d c (.slice x b.kP.es.length y) (.slice A b.kP.ns.length B) (.slice C E.length D) (.slice B2 kO.length d2) (.slice F d.ll.length G) (.slice I d.l9.length J) (.slice j ([]:List lQ).length l))] (lC.Z [0,1,2,4,5,6,8,9,10] (lC.p8 [3,7,11] (lC.Z [12,13,14] .mZ))) Zk Zk Zk Zk (λ_ _ _ h=>h) (.of Zu) ?_;refine mM _ _ _ _ Zk ?_;refine U ?_;refine qu _ _ _ Zk ?_;refine U ?_;refine mM _ _ _ _ Zk ?_;refine U ?_;refine kS ?_;exact tg (c1 (c1 (c1 (c1 (c1 c0))))) results13 (.agg (cs:=sG b _ _ _ _) inferInstance rfl (m1 m0) rfl) (.agg (cs:=sS d _ _) inferInstance rfl m0 rfl) Zt
     (λH2 o P=>by rw[e];exact⟨_,_,_,rfl,⟨_,_,_,_,rfl,p.up o⟩,⟨_,_,rfl,v.up o⟩,P.sl Zn⟩)
   |cons o1 q=>
    subst O;rw[ai Zs] at e;rw[show decide ((0:Int)<((o1::q).length:Int))=true from Zq];refine U ?_;refine SL.mL (L':=mY i b d c (.slice x b.kP.es.length y) (.slice A b.kP.ns.length B) (.slice C E.length D) (.slice B2 kO.length d2) (.slice F d.ll.length G) (.slice I d.l9.length J) j l (o1::q) u (k4 t 62 (sS lU.z lR lR)::k4 s 31 (sG ⟨⟨[],[]⟩,0,0,[],[],0⟩ lR lR lR lR)::L)) (λw n=>n.pick 6 [3,4,5,0,1] Zd) ?_;refine nR (ZI i b d c u _ _ _ _ _ _ p N.ns N.lN N.xd j l (o1::q) _ m.kP.ns (g.kP.ns.up hl) V.ns W _) ?_;rintro _ _ ⟨rfl,H3,ly,lm,kQ,rfl⟩;obtain⟨B6,d6,kT,rfl,_⟩:=Zi kQ.lN;refine SL.mL (L':=k4 t 62 (sS lU.z lR lR)::k4 s 31 (sG ⟨⟨[],[]⟩,0,0,[],[],0⟩ lR lR lR lR)::k4 i 128 (wG (Ah m.kP.ns b) d c (.slice x b.kP.es.length y) (.slice A b.kP.ns.length B) (.slice C E.length D) (.slice B6 kT.length d6) (.slice F d.ll.length G) (.slice I d.l9.length J) (.slice j (o1::q).length l))::li 201 7 nA j l (o1::q)::fz H3::L) (λw n=>n.pick 5 [3,4,0,1,2] Zd) ?_;refine U ?_;refine qN [k4 i 128 (wG (Ah m.kP.ns b) d c (.slice x b.kP.es.length y) (.slice A b.kP.ns.length B) (.slice C E.length D) (.slice B6 kT.length d6) (.slice F d.ll.length G) (.slice I d.l9.length J) (.slice j ((o1::q):List lQ).length l))] (lC.Z [0,1,2,4,5,6,8,9,10] (lC.p8 [3,7,11] (lC.Z [12,13,14] .mZ))) Zk Zk Zk Zk (λ_ _ _ h=>h) (.of Zu) ?_;refine mM _ _ _ _ Zk ?_;refine U ?_;refine qu _ _ _ Zk ?_;refine U ?_;refine mM _ _ _ _ Zk ?_;refine U ?_;refine kS ?_;exact tg (c1 (c1 (c1 (c1 c0)))) results13 (.agg (cs:=sG (Ah m.kP.ns b) _ _ _ _) inferInstance rfl (m1 m0) rfl) (.agg (cs:=sS d _ _) inferInstance rfl m0 rfl) Zt
     (λH2 o P=>by rw[e];exact⟨_,_,_,rfl,⟨_,_,_,_,rfl,kQ.up o⟩,⟨_,_,rfl,v.up (le_trans lm o)⟩,P.sl Zn⟩)
  ·rw[show(M != 0)=true from Zq];rw[aj he] at e;refine U ?_;refine kS ?_;exact tg (c1 (c1 (c1 (c1 (c1 c0))))) results13 (.agg (cs:=sG m _ _ _ _) inferInstance rfl (m1 m0) rfl) (.agg (cs:=sS {lU.z with err:=M} lR lR) inferInstance rfl m0 rfl) Zt
    (λH2 o _=>by rw[e];exact⟨_,_,_,rfl,⟨_,_,_,_,rfl,g.up (le_trans hl o)⟩,⟨_,_,rfl,⟨Sl.nil _ _ _,Sl.nil _ _ _⟩⟩,Sl.nil _ _ _⟩)
end
end Go.Proofs.YtkbifmngmocjnaaGreatDoor
