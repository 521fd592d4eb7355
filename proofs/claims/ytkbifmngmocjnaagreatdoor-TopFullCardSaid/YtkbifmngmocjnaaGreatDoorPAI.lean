/- Proved here, packed: what the parts Names Split Opa Opb Opc Opd prove (rules of the walk, contracts of functions, plain laws). Conditions: in each statement. -/
import Derived.Test.YtkbifmngmocjnaaGreatDoorPAF
import Derived.Test.YtkbifmngmocjnaaGreatDoorPAH
namespace Go.Proofs.YtkbifmngmocjnaaGreatDoor
set_option maxRecDepth 100000
set_option maxHeartbeats 8000000
set_option linter.all false
section
open Top Proofs.Tryz
theorem Np(s p:kV)(b:s.length<=9223372036854775807)(hp:p.length<=9223372036854775807):Pf prog 287 #[sv s,sv p] (.bool (p.isPrefixOf s)):=λW L=>by
 refine enter func287 ?_;have a:p.isPrefixOf s=(decide (p.length<=s.length)&&(s.take p.length==p)):=by
  rw[eS,dY,List.prefix_iff_eq_take];simp only[aF,bz,ck];constructor;·intro h;exact⟨by rw[h,aC];omega,h.symm⟩
  ·intro h;exact h.2.symm
 refine U ?_;by_cases h:p.length<=s.length;·rw[aZ h] at a;rw[show decide ((p.length:Int)<=(s.length:Int))=true from by simp;omega];refine U ?_;refine CY rfl rfl Zo rfl rfl ?_;refine U ?_;refine kS ?_;exact lj results287 Zt lv ⟨by rw[a]<;>rfl,rfl⟩
 ·rw[bx h] at a;rw[show decide ((p.length:Int)<=(s.length:Int))=false from by simp;omega];refine U ?_;refine kS ?_;exact lj results287 Zt lv ⟨by rw[a]<;>rfl,rfl⟩
theorem Nq(s p:kV)(a:s.length<=9223372036854775807)(hp:p.length<=9223372036854775807):Pf prog 273 #[sv s,sv p] (.bool (p.isPrefixOf s)):=λW L=>by refine enter func273 ?_;refine U ?_;refine md (Np s p a hp W _) ?_;refine U ?_;refine kS ?_;exact lj results273 Zt lv ⟨rfl,rfl⟩
theorem Ux(s p:kV)(a:s.length<=9223372036854775807)(hp:p.length<=9223372036854775807):Pf prog 251 #[sv s,sv p] (.tuple #[sv (if p.isPrefixOf s then s.drop p.length else s),.bool (p.isPrefixOf s)]):=λW L=>by
 refine enter func251 ?_;refine U ?_;refine md (Np s p a hp W _) ?_;cases h:p.isPrefixOf s with
 |false=>refine U ?_;refine kS ?_;exact og results251 Zt Zt lv ⟨rfl,rfl⟩
 |true=>have hl:p.length<=s.length:=(dY.1 h).length_le;refine U ?_;refine zd rfl rfl Zo rfl rfl ?_;refine U ?_;refine kS ?_;exact og results251 Zt Zt lv ⟨rfl,rfl⟩
theorem Uy(s p:kV)(a:s.length<=9223372036854775807)(hp:p.length<=9223372036854775807):Pf prog 204 #[sv s,sv p] (.tuple #[sv (if p.isPrefixOf s then s.drop p.length else s),.bool (p.isPrefixOf s)]):=λW L=>by refine enter func204 ?_;refine U ?_;refine md (Ux s p a hp W _) ?_;refine U ?_;refine kS ?_;exact og results204 Zt Zt lv ⟨rfl,rfl⟩
def vk(r:Nat):List Value:=[.int .i32 (r:Int)]
instance:m6 vk 1:=⟨λ_=>rfl,λx v a=>by simp[vk] at a;subst a;rfl⟩
theorem Uz(s:kV)(p:Nat)(hp:p<s.length):Utf8.decode ⟨s.toArray⟩ p=sM (s.drop p):=by
 have a:∀k,((ByteArray.mk s.toArray).get! (p+k)).toNat=((s.drop p).getD k 0).toNat:=by
  intro k;have:(ByteArray.mk s.toArray).get! (p+k)=(s.drop p).getD k 0:=by simp[ByteArray.get!,cF];rfl
  rw[this]
 have b:∀k,(decide (p+k<(ByteArray.mk s.toArray).size))=decide (k<(s.drop p).length):=by intro k;simp only[ByteArray.size,cf,bi];congr 1;apply propext;omega
 have d:∀c:Nat,Utf8.valid (c:Int)=Bb c:=by intro c;unfold Utf8.valid Bb;rw[eS];simp;omega
 unfold Utf8.decode sM;simp only[a,b,d,Utf8.runeError,wR]
theorem UA(l:kV)(h:l≠[]):(sM l).2<=l.length/\(sM l).1<1114112:=by
 have hp:0<l.length:=cA.2 h;have a:∀k,(l.getD k 0).toNat<256:=λk=>UInt8.toNat_lt _;have b:=a 0;have c:=a 1;have d:=a 2;have e:=a 3;unfold sM;simp only[aF,bz,ck,wR,Bb,eO]
 repeat' split
 all_goals(simp only;omega)
def UB(s:kV)(H:kM)(v:Value):Prop:=∃v',v=.tuple #[v',.bool (tk s).isSome]/\Sl 1 vk H v' ((tk s).getD [])
theorem Nr(H:kM)(s:kV)(J:s.length<=1000000000):Fn prog 250 #[sv s] H (UB s):=λW L=>by
 refine enter func250 ?_;refine U ?_;refine CW ?_;refine U ?_;refine Iy vk (N:=s.length) rfl rfl Zo Zo rfl rfl (λB=>?_);refine U ?_;refine SX (s:=s) rfl rfl rfl (λg=>?_);refine U ?_;refine mP (λm σ L'=>∃(p f:Nat) (a:List Nat) (A:Option Addr) (c:Nat),m=s.length-p/\p<=s.length/\a.length<=p/\s.length-p<=f/\tk s=(vE f (s.drop p)).map (a++·)/\
  L'=AX g s p::li 21 1 vk A c a::fz H::L/\ml σ [(0,sv s),(4,.slice A a.length c),(5,.bool true),(12,.pointer (some ⟨g,0,none⟩))]) s.length _ (s1 _)
  ⟨0,s.length,[],B,s.length,by simp,by simp,by simp,by simp,by simp[tk],rfl,rfl,rfl,rfl,rfl,trivial⟩ ?_
 rintro m σ _ ⟨p,f,a,A,c,rfl,hp,K,hf,b,rfl,C⟩;obtain⟨M,rfl⟩:=C.open;refine U ?_;by_cases k:p<s.length
 ·refine SY rfl k p0 rfl rfl ?_;rw[Uz s p k];have v:s.drop p≠[]:=by intro e;have:=congrArg List.length e;simp at this;omega
  obtain⟨f,rfl⟩:∃D,f=D+1:=⟨f-1,by omega⟩;have d:vE (f+1) (s.drop p)=if(sM (s.drop p)).1≠wR\/[239,191,189].isPrefixOf (s.drop p) then(vE f ((s.drop p).drop (sM (s.drop p)).2)).map ((sM (s.drop p)).1::·) else none:=by rw[vE,ai v]
  rw[cI] at d;have E:=(Nh (s.drop p)).1;obtain⟨y,F⟩:=UA (s.drop p) v;rw[bi] at y;generalize sM (s.drop p)=G at*;obtain⟨r,w⟩:=G;simp only at d E y F⊢;refine U ?_;by_cases j:r=wR
  ·rw[show((r:Int) != 65533)=false from by simp[j,wR]];refine U ?_;refine zd rfl rfl Zo rfl rfl ?_;refine md (Nq (s.drop p) [239,191,189] (by simp;omega) Zd W _) ?_;by_cases i:[239,191,189].isPrefixOf (s.drop p)=true;·(rw[i];rw[aj (.inr i)] at d;have n:tk s=(vE f (s.drop (p+w))).map ((a++[r])++·):=by rw[b,d,di];congr 1;funext x;simp);refine U ?_;intro o;refine U ?_;refine ap (l:=a) (news:=[r]) (oG (g:=o) (t:=21) (cs:=vk r) Zn rfl) Zl (λq u=>?_);refine U ?_;exact⟨s.length-(p+w),_,by omega,Zu,p+w,f,a++[r],q,u,rfl,by omega,by simp;omega,by omega,n,rfl,rfl,rfl,rfl,rfl,trivial⟩
   ·rw[ai (λh=>h.elim (λh=>h j) i)] at d;rw[d] at b;have b:tk s=none:=b;rw[dD] at i;rw[i];refine U ?_;refine kS ?_;exact m7 (c1 (c1 c0)) results250 Zt Zt (λI hl z=>⟨_,by rw[b];rfl,by rw[b];exact Sl.nil _ _ _⟩)
  ·rw[show((r:Int) != 65533)=true from by simp[wR] at j⊢;omega];rw[aj (.inl j)] at d;have n:tk s=(vE f (s.drop (p+w))).map ((a++[r])++·):=by rw[b,d,di];congr 1;funext x;simp
   refine U ?_;intro o;refine U ?_;refine ap (l:=a) (news:=[r]) (oG (g:=o) (t:=21) (cs:=vk r) Zn rfl) Zl (λq u=>?_);refine U ?_;exact⟨s.length-(p+w),_,by omega,Zu,p+w,f,a++[r],q,u,rfl,by omega,by simp;omega,by omega,n,rfl,rfl,rfl,rfl,rfl,trivial⟩
 ·refine SZ rfl k m0 rfl rfl ?_;have b:tk s=some a:=by rw[b,aX Zo];cases f<;>simp[vE]
  refine U ?_;refine kS ?_;exact m7 (c1 (c1 c0)) results250 Zt Zt (λI hl z=>⟨_,by rw[b];rfl,by rw[b];exact z.sl (m1 m0)⟩)
theorem Fn.rf{P:Program}{f:FuncId}{args:Array Value}{H:kM}{v:Value}(h:Fn P f args H (λ_ v'=>v'=v)):Rf P f args H v:=λW L=>(h W L).conv λ_ _ ⟨_,a,b,c⟩=>⟨fz H::L,λ_ d=>by subst b;exact d.fz a p0,c,rfl⟩
theorem Rf.pf{P:Program}{f:FuncId}{args:Array Value}{v:Value}(h:∀H,Rf P f args H v):Pf P f args v:=λW L=>((h BN W L).mL λ_ a=>by rw[tG];exact a.BN).conv λ_ _ ⟨b,c⟩=>⟨L,λ_ a=>by subst c;exact a.tail,b,rfl⟩
theorem Fn.pf{P:Program}{f:FuncId}{args:Array Value}{v:Value}(h:∀H,Fn P f args H (λ_ v'=>v'=v)):Pf P f args v:=Rf.pf λH=>(h H).rf
theorem UC(r:Nat):Pf prog 292 #[.int .i32 (r:Int)] (.bool (C7 r)):=λW L=>by
 refine enter func292 ?_;have a:C7 r=(decide (r<32)||r==47||r==127):=rfl;refine U ?_;by_cases b:r<32;·rw[show decide ((r:Int)<32)=true from by simp;omega];rw[aZ b] at a;refine U ?_;refine kS ?_;exact lj results292 Zt lv ⟨by rw[a]<;>rfl,rfl⟩
 ·rw[show decide ((r:Int)<32)=false from by simp;omega];rw[bx b] at a;refine U ?_;by_cases c:r=47;·rw[show((r:Int)==47)=true from by simp;omega];rw[show(r==47)=true from by simp[c]] at a;refine U ?_;refine kS ?_;exact lj results292 Zt lv ⟨by rw[a]<;>rfl,rfl⟩
  ·rw[show((r:Int)==47)=false from by simp;omega];rw[show(r==47)=false from by simp[c]] at a;refine U ?_;rw[show((r:Int)==127)=(r==127) from by rw[eS];simp;omega];refine U ?_;refine kS ?_;exact lj results292 Zt lv ⟨by rw[a]<;>rfl,rfl⟩
theorem UD(H:kM)(A:Option Addr)(c:Nat)(l:List Nat)(hl:l.length<=9223372036854775807)(a:H.kn (Rd A 1 vk l)):Rf prog 291 #[.slice A l.length c,.func (.func 292) #[] #[]] H (.bool (l.any C7)):=λW L=>by refine enter func291 ?_;refine U ?_;refine mi (T5 vk (λr=>.int .i32 (r:Int)) (λ_=>rfl) H A c l hl a 292 [] C7 (λx _=>(UC x).rf)) ?_;refine U ?_;refine kS ?_;exact lj results291 Zt lv ⟨by rw[<-Au]<;>rfl,rfl⟩
theorem UE(H:kM)(s:kV)(i:s.length<=1000000000):Fn prog 253 #[sv s] H (λ_ v=>v=.bool (wS s)):=λW L=>by
 refine enter func253 ?_;have a:wS s=match tk s with
  |none=>false
  |some r=>decide (1<=r.length)&&decide (r.length<=20)&&!(s==[46])&&!(s==[46,46])&&!(r.any C7):=rfl
 refine U ?_;refine l4 (Nr H s i) ?_;rintro j _ k ⟨v,rfl,A,c,rfl,e,d⟩;cases f:tk s with
 |none=>rw[f] at a;refine U ?_;refine kS ?_;exact lX c0 results253 Zt (λ_ _ _=>by rw[a]<;>rfl)
 |some r=>
  rw[f] at a e d;have b:((some r).getD []:List Nat)=r:=rfl;rw[b] at e d;simp only at a;refine U ?_;by_cases l:r.length<1;·rw[show decide ((((some r).getD []).length:Int)<1)=true from by rw[b];simp;omega];rw[bx Zo] at a;refine U ?_;refine kS ?_;exact lX c0 results253 Zt (λ_ _ _=>by rw[a]<;>rfl)
  ·rw[show decide ((((some r).getD []).length:Int)<1)=false from by rw[b];simp;omega];rw[aZ (show 1<=r.length by omega)] at a;refine U ?_;by_cases m:20<r.length;·rw[show decide ((20:Int)<(((some r).getD []).length:Int))=true from by rw[b];simp;omega];rw[bx Zo] at a;refine U ?_;refine kS ?_;exact lX c0 results253 Zt (λ_ _ _=>by rw[a]<;>rfl)
   ·rw[show decide ((20:Int)<(((some r).getD []).length:Int))=false from by rw[b];simp;omega];rw[aZ (show r.length<=20 by omega)] at a;refine U ?_;cases g:s==[46] with
    |true=>rw[g] at a;refine U ?_;refine kS ?_;exact lX c0 results253 Zt (λ_ _ _=>by rw[a]<;>rfl)
    |false=>
     rw[g] at a;refine U ?_;cases h:s==[46,46] with
     |true=>rw[h] at a;refine U ?_;refine kS ?_;exact lX c0 results253 Zt (λ_ _ _=>by rw[a]<;>rfl)
     |false=>rw[h] at a;refine U ?_;refine mi (UD j A c r Zo d) ?_;refine U ?_;refine kS ?_;exact lX c0 results253 Zt (λ_ _ _=>by rw[a]<;>rfl)
theorem Ns(s:kV)(a:s.length<=1000000000):Pf prog 253 #[sv s] (.bool (wS s)):=Fn.pf λH=>UE H s a
theorem Nt(a:Nat):Pf prog 286 #[.int .i32 (a:Int)] (.bool false):=λW L=>by refine enter func286 ?_;refine U ?_;refine kS ?_;exact lj results286 Zt lv ⟨by rw[show((a:Int) != (a:Int))=false from by simp]<;>rfl,rfl⟩
theorem UF(a b:Nat):Pf prog 249 #[.int .i32 (a:Int),.int .i32 (b:Int)] (nI (if a<b then -1 else if b<a then 1 else 0)):=λW L=>by
 refine enter func249 ?_;refine U ?_;refine md (Nt a W _) ?_;refine U ?_;refine md (Nt b W _) ?_;refine U ?_;by_cases c:a<b;·rw[show decide ((a:Int)<(b:Int))=true from by simp;omega,aj c];refine U ?_;refine kS ?_;exact lj results249 Zt lv ⟨rfl,rfl⟩
 ·rw[show decide ((a:Int)<(b:Int))=false from by simp;omega,ai c];refine U ?_;by_cases d:b<a;·rw[show decide ((b:Int)<(a:Int))=true from by simp;omega,aj d];refine U ?_;refine kS ?_;exact lj results249 Zt lv ⟨rfl,rfl⟩
  ·rw[show decide ((b:Int)<(a:Int))=false from by simp;omega,ai d];refine U ?_;refine kS ?_;exact lj results249 Zt lv ⟨rfl,rfl⟩
theorem UG(H:kM)(v u:Value)(l m:List Nat)(g:Sl 1 vk H v l)(h:Sl 1 vk H u m):Rf prog 202 #[v,u] H (nI (qv l m)):=λW L=>by
 obtain⟨A,c,rfl,b,k⟩:=g;obtain⟨B,d,rfl,n,o⟩:=h;refine enter func202 ?_;refine U ?_;refine mP (λr σ L'=>∃i:Nat,r=l.length-i/\i<=l.length/\i<=m.length/\qv l m=qv (l.drop i) (m.drop i)/\L'=fz H::L/\ml σ [(0,.slice A l.length c),(1,.slice B m.length d),(9,.slice A l.length c),(10,nN l.length),(11,nN i)]) l.length _ (s1 _) ⟨0,by simp,by simp,by simp,rfl,rfl,rfl,rfl,rfl,rfl,rfl,trivial⟩ ?_;rintro r σ _ ⟨i,rfl,p,q,a,rfl,j⟩;obtain⟨s,rfl⟩:=j.open;refine U ?_;refine mE rfl (λb=>?_) (λb=>?_)
 ·have b:=am b;have t:l[i]? =some l[i]:=ad Zo;rw[show l.drop i=l[i]::l.drop (i+1) from br Zo] at a;generalize l[i]=x at*;have w:(vk x)[0]? =some (.int .i32 (x:Int)):=rfl;refine U ?_;refine mE rfl (λb=>?_) (λb=>?_);·have b:=am b;rw[show m.drop i=[] from aX Zo] at a;refine U ?_;refine kS ?_;exact lj results202 Zt lv ⟨by rw[a]<;>rfl,rfl⟩
  ·have b:=av b;have z:m[i]? =some m[i]:=ad Zo;rw[show m.drop i=m[i]::m.drop (i+1) from br Zo] at a;generalize m[i]=y at*;have C:(vk y)[0]? =some (.int .i32 (y:Int)):=rfl;refine U ?_;refine md (UF x y W _) ?_;rw[show qv (x::l.drop (i+1)) (y::m.drop (i+1))=if x<y then -1 else if y<x then 1 else qv (l.drop (i+1)) (m.drop (i+1)) from rfl] at a;by_cases e:x<y;·rw[aj e] at a⊢;refine U ?_;refine kS ?_;exact lj results202 Zt lv ⟨by rw[a]<;>rfl,rfl⟩
   ·(rw[ai e] at a⊢;by_cases f:y<x;·rw[aj f] at a⊢;refine U ?_;refine kS ?_;exact lj results202 Zt lv ⟨by rw[a]<;>rfl,rfl⟩);·rw[ai f] at a⊢;refine U ?_;exact⟨l.length-(i+1),_,by omega,Zu,i+1,rfl,by omega,by omega,a,rfl,rfl,rfl,rfl,rfl,rfl,trivial⟩
 ·have b:=av b;rw[show l.drop i=[] from aX Zo] at a;refine U ?_;by_cases e:l.length<m.length;·rw[show decide ((l.length:Int)<(m.length:Int))=true from by simp;omega];rw[show m.drop i=m[i]::m.drop (i+1) from br Zo] at a;refine U ?_;refine kS ?_;exact lj results202 Zt lv ⟨by rw[a]<;>rfl,rfl⟩
  ·rw[show decide ((l.length:Int)<(m.length:Int))=false from by simp;omega];rw[show m.drop i=[] from aX Zo] at a;refine U ?_;refine kS ?_;exact lj results202 Zt lv ⟨by rw[a]<;>rfl,rfl⟩
theorem Nu(H:kM)(s:kV)(k:s.length<=1000000000):Fn prog 203 #[sv s] H (λd v=>Sl 1 vk d v (vF s)):=λW L=>by
 refine enter func203 ?_;refine U ?_;refine l4 (Nr H s k) ?_;rintro n _ z ⟨v,rfl,A,c,rfl,a,h⟩;cases e:tk s with
 |some r=>
  have f:vF s=r:=by unfold vF;rw[e]
  rw[e] at a h;refine U ?_;refine kS ?_;exact lX c0 results203 Zt (λd hl _=>by rw[f];exact⟨A,c,rfl,a,h.up hl⟩)
 |none=>
  have f:vF s=s.map λb=>1114112+b.toNat:=by unfold vF;rw[e]
  refine U ?_;refine Iy vk (N:=s.length) rfl rfl Zo Zo rfl rfl (λo=>?_);refine U ?_;refine mP (λm σ L'=>∃(i:Nat) (A:Option Addr) (c:Nat),m=s.length-i/\i<=s.length/\L'=li 21 1 vk A c ((s.take i).map λb=>1114112+b.toNat)::fz n::L/\
   ml σ [(0,sv s),(3,.slice A ((s.take i).map λb=>1114112+b.toNat).length c),(17,nN s.length),(18,nN i)]) s.length _ (s1 _) ⟨0,o,s.length,by simp,by simp,rfl,rfl,rfl,rfl,rfl,trivial⟩ ?_
  rintro m σ _ ⟨i,A,c,rfl,B,rfl,p⟩;obtain⟨C,rfl⟩:=p.open;refine U ?_;refine mE rfl (λa=>?_) (λa=>?_)
  ·have a:=am a;have j:s[i]? =some s[i]:=ad Zo;have q:(s.take (i+1)).map (λb=>1114112+b.toNat)=(s.take i).map (λb=>1114112+b.toNat)++[1114112+s[i].toNat]:=by rw[aT,j,bA];rfl
   generalize s[i]=b at*;have D:=b.toNat_lt;refine U ?_;refine CX rfl rfl j rfl rfl ?_;refine xN (b:=(b.toNat:Int)) rfl rfl rfl (by unfold IntKind.wrap;simp[IntKind.bits,IntKind.signed];omega) rfl rfl ?_;refine It rfl rfl rfl rfl ?_;refine It rfl rfl rfl rfl ?_;rw[show IntKind.i32.wrap (IntKind.i32.wrap (1114111+(b.toNat:Int))+1)=((1114112+b.toNat:Nat):Int) from by unfold IntKind.wrap;simp[IntKind.bits,IntKind.signed];omega];refine U ?_;intro u;refine U ?_;refine ap (l:=(s.take i).map λb=>1114112+b.toNat) (news:=[1114112+b.toNat]) (oG (g:=u) (t:=21) (cs:=vk (1114112+b.toNat)) Zn rfl) (by simp only[bO,aC,aG,bm];omega) (λw x=>?_);rw[<-q];refine U ?_;exact⟨s.length-(i+1),_,by omega,Zu,i+1,w,x,rfl,by omega,rfl,rfl,rfl,rfl,rfl,trivial⟩
  ·have a:=av a;rw[show s.take i=s from aY Zo];refine U ?_;refine kS ?_;exact lX (c1 c0) results203 Zt (λd hl y=>by rw[f];exact y.sl m0)
theorem UH(H:kM)(a b:kV)(g:a.length<=1000000000)(h:b.length<=1000000000):Fn prog 128 #[sv a,sv b] H (λ_ v=>v=.bool (re a b)):=λW L=>by refine enter func128 ?_;refine U ?_;refine l4 (Nu H a g) ?_;rintro i v l e;obtain⟨A,c,rfl,m⟩:=id e;refine U ?_;refine l4 (Nu i b h) ?_;rintro j u k f;obtain⟨B,d,rfl,n⟩:=id f;refine U ?_;refine mi (UG j _ _ _ _ (e.up k) f) ?_;refine U ?_;refine kS ?_;exact lX c0 results128 Zt (λ_ _ _=>rfl)
theorem Nv(a b:kV)(c:a.length<=1000000000)(d:b.length<=1000000000):Pf prog 128 #[sv a,sv b] (.bool (re a b)):=Fn.pf λH=>UH H a b c d
section
variable{P:Program}{n:Sz}{W:World}{Q:Exit->St->List kM->Prop}{σ:St}{L:List kM}{Z:Array Oper}{rest:List Oper}
 {dst:Option Nat} {ty:TypeId} {pos:String} {lf:Array Edge} {gd:Option (Nat×Bool)}
theorem I9{f:Operand}{l:List Operand}{a:Array TypeId}{k:Nat}{v:Value}(b:∀w,(callFunc k (l.map (ev σ)).toArray).run P w=.ok (.value v) w)(h:SL P n W .plain Z Q rest (l6 σ dst v) L) (hf:ev σ f=.func (.func k) #[] #[]:=by rfl)
 (c:lP Z σ ⟨dst,.call {callee:=.value f,args:=l.toArray,argTypes:=a},ty,pos,lf,gd⟩=true:=by rfl) (d:l8 n dst=true:=by rfl):
 SL P n W .plain Z Q (⟨dst,.call {callee:=.value f,args:=l.toArray,argTypes:=a},ty,pos,lf,gd⟩::rest) σ L:=by
 refine uC c d λw e=>⟨v,w,L,?_,e,h⟩;simp[execOp,resolve,hf,Deferred.ofValue,invoke];have:=b w;simpa using this
end
theorem UI(s:kV)(c:UInt8)(w:World):(callFunc 307 #[sv s,.int .u8 (c.toNat:Int)]).run prog w=.ok (.value (nN (s.count c))) w:=by rw[iI func307 Zk Zk Zk (e:=Extern.BytealgCount.count) Zk];have:=Lib.run_countString (P:=prog) ⟨s.toArray⟩ (c.toNat:Int) w;unfold sv;rw[this];simp[Lib.countByte]
theorem UJ(s:kV)(c:UInt8)(w:World):(callFunc 317 #[sv s,.int .u8 (c.toNat:Int)]).run prog w=.ok (.value (nI (Lib.indexByte s c))) w:=by rw[iI func317 Zk Zk Zk (e:=Extern.BytealgIndexByte.indexByte) Zk];have:=Lib.run_indexByteString (P:=prog) ⟨s.toArray⟩ (c.toNat:Int) w;unfold sv;rw[this];simp
theorem Ja(s:kV):qf s≠[]:=by
 cases s with
 |nil=>simp[qf]
 |cons c l=>unfold qf;split<;>(try split)<;>simp
theorem UK(l:kV):qf (47::l)=[]::qf l:=by
 rw[qf];cases h:qf l with
 |nil=>exact absurd h (Ja l)
 |cons p r=>simp
theorem UL{s:kV}(h:(47:UInt8)∉s):qf s=[s]:=by
 induction s with
 |nil=>rfl
 |cons c l a=>rw[qf,a (λe=>h (aI _ e))];have:c≠47:=λe=>h (by rw[e];exact ay ..);simp[this]
theorem UM(r:kV)(h:(47:UInt8)∈r):∃m:Nat,Lib.indexByte r 47=(m:Int)/\m<r.length/\qf r=r.take m::qf (r.drop (m+1))/\r.count 47=(r.drop (m+1)).count 47+1:=by
 induction r with
 |nil=>simp at h
 |cons c l b=>
  by_cases a:c=47;·subst a;exact⟨0,by simp[Lib.indexByte],by simp,by simp[UK],by simp⟩
  ·have hl:(47:UInt8)∈l:=by(rcases aJ.1 h with h|h;·exact absurd h.symm a);·exact h
   obtain⟨m,d,g,e,f⟩:=b hl;refine⟨m+1,?_,by simp;omega,?_,?_⟩;·unfold Lib.indexByte;rw[ai (by simpa using a),d,ai Zq];rfl
   ·rw[qf,e];simp[a]
   ·rw[List.count_cons_of_ne a,f];simp
theorem UN(s:kV):∀p∈qf s,p.length<=s.length:=by
 induction s with
 |nil=>simp[qf]
 |cons c l a=>
  rw[qf];cases h:qf l with
  |nil=>exact absurd h (Ja l)
  |cons q r=>
   rw[h] at a;intro p hp;simp only at hp;split at hp;·(rcases aJ.1 hp with rfl|hp;·simp);·have:=a p hp;simp only[aG];omega
   ·(rcases aJ.1 hp with rfl|hp;·have:=a q (ay ..);simp only[aG];omega);·have:=a p (aI _ hp);simp only[aG];omega
theorem UO(s:kV)(e:s.length<=1000000000)(f:(47:UInt8)∈s):Pf prog 290 #[sv s,sv [47]] (nI (Lib.indexByte s 47)):=λW L=>by
 have c:Pf prog 313 #[sv s,.int .u8 (((47:UInt8).toNat:Nat):Int)] (nI (Lib.indexByte s 47)):=λW L=>by refine enter func313 ?_;refine U ?_;refine I9 (k:=317) (UJ s 47) ?_;refine U ?_;refine kS ?_;exact lj results313 Zt lv ⟨rfl,rfl⟩
 have d:Pf prog 308 #[sv s,sv [47]] (nI (Lib.indexByte s 47)):=λW L=>by
  refine enter func308 ?_;refine U ?_;cases a:([47]:kV)==s with
  |true=>
   have a:[47]=s:=by simpa using a
   subst a;refine U ?_;refine kS ?_;exact lj results308 Zt lv ⟨rfl,rfl⟩
  |false=>
  refine U ?_;refine CX (s:=[47]) (i:=0) (b:=47) rfl rfl rfl rfl rfl ?_;refine md (c W _) ?_;refine U ?_;refine kS ?_;exact lj results308 Zt lv ⟨rfl,rfl⟩
 refine enter func290 ?_;refine U ?_;refine md (d W _) ?_;refine U ?_;refine kS ?_;exact lj results290 Zt lv ⟨rfl,rfl⟩
theorem UP(s:kV):Pf prog 289 #[sv s,sv [47]] (nN (s.count 47)):=λW L=>by refine enter func289 ?_;refine U ?_;refine CX (s:=[47]) (i:=0) (b:=47) rfl rfl rfl rfl rfl ?_;refine I9 (k:=307) (UI s 47) ?_;refine U ?_;refine kS ?_;exact lj results289 Zt lv ⟨rfl,rfl⟩
theorem UQ(H:kM)(s:kV)(C:s.length<=1000000000):Fn prog 252 #[sv s,sv [47],nI 0,nI (-1)] H (λo v=>Sl 1 ni o v (qf s)):=λW L=>by
 refine enter func252 ?_;have D:s.count 47<=s.length:=List.count_le_length;refine U ?_;refine md (UP s W _) ?_;refine U ?_;rw[show min ((s.count 47:Nat)+1:Int) ((s.length:Int)+1)=((s.count 47+1:Nat):Int) from by omega];refine U ?_;refine LF (N:=s.count 47+1) rfl rfl Zo (by unfold maxLen;omega) Zr rfl rfl rfl (λg=>?_);refine SL.mL (L':=li 9 1 ni (some ⟨g,0,none⟩) (s.count 47+1) (List.replicate (s.count 47+1) ([]:kV))::fz H::L) (λw q=>?_) ?_;·have:=q.In (enc:=ni) (size:=1) (l:=List.replicate (s.count 47+1) ([]:kV)) (L':=li 9 1 ni (some ⟨g,0,none⟩) (List.replicate (s.count 47+1) ([]:kV)).length (List.replicate (s.count 47+1) ([]:kV))::fz H::L) (by simp[List.flatMap,ni,sv];rfl) (by unfold maxLen;simp;omega) p0;rwa [bS] at this
 refine U ?_;refine mP (λr σ L'=>∃(i:Nat) (t:kV) (a:List kV),r=s.count 47-i/\a.length=i/\qf s=a++qf t/\s.count 47=i+t.count 47/\t.length<=s.length/\
  L'=li 9 1 ni (some ⟨g,0,none⟩) (s.count 47+1) (a++List.replicate (s.count 47+1-i) ([]:kV))::fz H::L/\
  ml σ [(0,sv t),(1,sv [47]),(2,nI 0),(3,nN (s.count 47)),(9,.slice (some ⟨g,0,none⟩) (s.count 47+1) (s.count 47+1)),(10,nN i)]) (s.count 47) _ (s1 _)
  ⟨0,s,[],by simp,rfl,by simp,by simp,by simp,by simp,rfl,rfl,rfl,by rw[show((s.count 47+1:Nat):Int)-1=(s.count 47:Int) from by omega]<;>rfl,rfl,rfl,trivial⟩ ?_
 rintro r σ _ ⟨i,t,a,rfl,b,d,E,F,rfl,u⟩;obtain⟨G,rfl⟩:=u.open;have lL:(a++List.replicate (s.count 47+1-i) ([]:kV)).length=s.count 47+1:=by simp;omega
 refine U ?_;refine mE rfl (λf=>?_) (λf=>?_)
 ·have f:=am f;have p:(47:UInt8)∈t:=List.count_pos_iff.1 Zo;obtain⟨m,x,I,z,J⟩:=UM t p;refine U ?_;refine md ((UO t Zo p).eq (congrArg nI x) W _) ?_;refine U ?_;rw[show decide ((m:Int)<0)=false from Zq];refine U ?_;rw[show(m:Int)+0=(m:Int) from by omega];refine CY (h:=m) rfl rfl Zo rfl rfl ?_;have k:(a++List.replicate (s.count 47+1-i) ([]:kV))[i]? =some []:=by rw[bZ Zo,b,dF,jA,aj Zo]
  have n:(a++List.replicate (s.count 47+1-i) ([]:kV)).set i (t.take m)=(a++[t.take m])++List.replicate (s.count 47+1-(i+1)) ([]:kV):=by rw[jP _ _ Zo,b,dF,show s.count 47+1-i=(s.count 47+1-(i+1))+1 from by omega,dr,eN,aV];rfl
  refine U ?_;refine wN (e:=9) (c:=s.count 47+1) (enc:=ni) (l:=a++List.replicate (s.count 47+1-i) ([]:kV)) (y:=[]) (y':=t.take m) (i:=i) (j:=0) rfl rfl (t6 _) k rfl Zd p0 rfl (λ_=>trivial) rfl ?_;rw[n];refine U ?_;rw[show IntKind.i64.wrap ((m:Int)+(([47]:kV).length:Int))=((m+1:Nat):Int) from LP (m+1) Zo];refine zd (l:=m+1) rfl rfl Zo rfl rfl ?_;refine U ?_;exact⟨s.count 47-(i+1),_,by omega,Zu,i+1,t.drop (m+1),a++[t.take m],rfl,by simp[b],by rw[d,z];simp,by omega,by simp;omega,rfl,rfl,rfl,rfl,rfl,rfl,rfl,trivial⟩
 ·have f:=av f;have A:t.count 47=0:=by omega
  have K:s.count 47=i:=by omega
  rw[UL (s:=t) (by rw[<-List.count_eq_zero];exact A)] at d;have k:(a++List.replicate (s.count 47+1-i) ([]:kV))[i]? =some []:=by rw[bZ Zo,b,dF,jA,aj Zo]
  have n:(a++List.replicate (s.count 47+1-i) ([]:kV)).set i t=qf s:=by rw[jP _ _ Zo,b,dF,show s.count 47+1-i=0+1 from by omega,dr,eN,d];rfl
  have B:(qf s).length=i+1:=by rw[d,ak,b];rfl
  refine U ?_;refine wN (e:=9) (c:=s.count 47+1) (enc:=ni) (l:=a++List.replicate (s.count 47+1-i) ([]:kV)) (y:=[]) (y':=t) (i:=i) (j:=0) rfl rfl (t6 _) k rfl Zd p0 rfl (λ_=>trivial) rfl ?_;rw[n];refine U ?_;refine rW (h:=i+1) rfl rfl Zo rfl rfl ?_;rw[<-B];refine U ?_;refine kS ?_;exact lX (c1 c0) results252 Zt (λo hl d=>d.sl m0)
theorem UR(H:kM)(s:kV)(d:s.length<=1000000000):Fn prog 205 #[sv s,sv [47]] H (λa v=>Sl 1 ni a v (qf s)):=λW L=>by refine enter func205 ?_;refine U ?_;refine l4 (UQ H s d) ?_;rintro e v f ⟨A,c,rfl,b⟩;refine U ?_;refine kS ?_;exact lX c0 results205 Zt (λa hl _=>⟨A,c,rfl,b.1,b.2.up hl⟩)
theorem US(H:kM)(v:Value)(l:List kV)(e:Sl 1 ni H v l)(hl:∀s∈l,s.length<=1000000000):Rf prog 206 #[v] H (.bool (Bc l)):=λW L=>by
 obtain⟨A,c,rfl,a,h⟩:=e;refine enter func206 ?_;have b:Bc l=(decide (l.length<=16)&&l.all wS):=rfl;refine U ?_;refine mE rfl (λa=>?_) (λa=>?_);·have a:=am a;rw[bx Zo] at b;refine U ?_;refine kS ?_;exact lj results206 Zt lv ⟨by rw[b]<;>rfl,rfl⟩
 ·have a:=av a;rw[aZ Zo,cE] at b;refine U ?_;refine mP (λm σ L'=>∃i:Nat,m=l.length-i/\i<=l.length/\Bc l=(l.drop i).all wS/\L'=fz H::L/\ml σ [(8,.slice A l.length c),(9,nN l.length),(10,nN i)]) l.length _ (s1 _) ⟨0,by simp,by simp,b,rfl,rfl,rfl,rfl,trivial⟩ ?_;rintro m σ _ ⟨i,rfl,j,b,rfl,f⟩;obtain⟨k,rfl⟩:=f.open;refine U ?_;refine mE rfl (λa=>?_) (λa=>?_)
  ·have a:=am a;have n:l[i]? =some l[i]:=ad Zo;have g:=hl l[i] (bv _);rw[show l.drop i=l[i]::l.drop (i+1) from br Zo,i7] at b;generalize l[i]=x at*;refine U ?_;refine md (Ns x g W _) ?_;cases d:wS x with
   |true=>rw[d,cE] at b;refine U ?_;exact⟨l.length-(i+1),_,by omega,Zu,i+1,rfl,by omega,b,rfl,rfl,rfl,rfl,trivial⟩
   |false=>rw[d] at b;refine U ?_;refine kS ?_;exact lj results206 Zt lv ⟨by rw[b]<;>rfl,rfl⟩
  ·have a:=av a;rw[show l.drop i=[] from aX Zo] at b;refine U ?_;refine kS ?_;exact lj results206 Zt lv ⟨by rw[b]<;>rfl,rfl⟩
def UT(p:kV)(H:kM)(v:Value):Prop:=∃v',v=.tuple #[v',nI (if(oy p).isSome then 0 else 10)]/\Sl 1 ni H v' ((oy p).getD [])
theorem yR(H:kM)(p:kV)(hp:p.length<=1000000000):Fn prog 131 #[sv p] H (UT p):=λW L=>by
 refine enter func131 ?_;refine U ?_;cases f:p==[47] with
 |true=>
  have a:oy p=some []:=by unfold oy;rw[aj (by simpa using f)]
  refine U ?_;refine kS ?_;exact m7 c0 results131 Zt Zt (λd _ _=>⟨_,by rw[a];rfl,by rw[a];exact Sl.nil _ _ _⟩)
 |false=>
  have g:p≠[47]:=by simpa using f
  refine U ?_;refine md (Uy p [47] Zo Zd W _) ?_;cases h:([47]:kV).isPrefixOf p with
  |false=>
   have a:oy p=none:=by
    unfold oy;rw[ai g];split;·simp[List.isPrefixOf] at h
    ·rfl
   refine U ?_;refine kS ?_;exact m7 c0 results131 Zt Zt (λd _ _=>⟨_,by rw[a];rfl,by rw[a];exact Sl.nil _ _ _⟩)
  |true=>
   obtain⟨t,rfl⟩:∃t,p=47::t:=by obtain⟨t,j⟩:=dY.1 h;exact⟨t,j.symm⟩
   have b:oy (47::t)=if Bc (qf t) then some (qf t) else none:=by unfold oy;rw[ai g];rfl
   have k:t.length<=1000000000:=by simp at hp;omega
   refine U ?_;refine l4 (UR H t k) ?_;rintro l v n e;obtain⟨A,c,rfl,o⟩:=id e;refine U ?_;refine mi (US l _ _ e (λx m=>by have:=UN t x m;omega)) ?_;cases i:Bc (qf t) with
   |false=>rw[i] at b;have a:oy (47::t)=none:=b;refine U ?_;refine kS ?_;exact m7 c0 results131 Zt Zt (λd _ _=>⟨_,by rw[a];rfl,by rw[a];exact Sl.nil _ _ _⟩)
   |true=>rw[i] at b;have a:oy (47::t)=some (qf t):=b;refine U ?_;refine kS ?_;exact m7 c0 results131 Zt Zt (λd hl _=>⟨_,by rw[a];rfl,by rw[a];exact e.up hl⟩)
instance:x5 prog 325 "gunwale/op.fits" 342:=⟨⟨_,_,_,rfl,rfl,rfl,rfl,rfl,rfl⟩⟩
instance:x5 prog 325 "gunwale/op.tail" 343:=⟨⟨_,_,_,rfl,rfl,rfl,rfl,rfl,rfl⟩⟩
instance:x5 prog 395 "gunwale/op.fits" 345:=⟨⟨_,_,_,rfl,rfl,rfl,rfl,rfl,rfl⟩⟩
instance:x5 prog 395 "gunwale/op.tail" 346:=⟨⟨_,_,_,rfl,rfl,rfl,rfl,rfl,rfl⟩⟩
instance:IJ prog 328:=⟨⟨_,rfl⟩⟩
structure pn(o:lQ):Prop where
 node:od o.node
 lZ:od o.lZ
 name:o.name.length<=1000000
 data:o.data.length<=1000000
theorem Jb(s:mN)(id:Int)(c:od id):Pf prog 241 #[Am s,nI id] (.bool (uX s id)):=λW L=>by
 refine enter func241 ?_;have a:uX s id=match oO id with
  |some (t,_)=>xO s t
  |none=>false:=rfl
 refine U ?_;intro e;refine U ?_;refine md (Cc id c W _) ?_;cases b:oO id with
 |none=>rw[b] at a;refine U ?_;intro d;refine U ?_;refine kS ?_;exact lj results241 Zt lv ⟨by rw[a]<;>rfl,rfl⟩
 |some x=>obtain⟨t,f⟩:=x;rw[b] at a;refine U ?_;intro d;refine U ?_;refine md (IC s t W _) ?_;refine U ?_;refine kS ?_;exact lj results241 Zt lv ⟨by rw[a]<;>rfl,rfl⟩
def vL(o:lQ):Value:=if o.kind=1 then .iface 325 (qW o) else if o.kind=2 then .iface 395 (qW o) else .nilIface
theorem Jc(o:lQ):Pf prog 189 #[qW o] (vL o):=λW L=>by
 refine enter func189 ?_;have a:vL o=if o.kind=1 then .iface 325 (qW o) else if o.kind=2 then .iface 395 (qW o) else .nilIface:=rfl;refine U ?_;intro d;refine U ?_;by_cases b:o.kind=1;·rw[aj b] at a;rw[show(o.kind==1)=true from by simp[b]];refine U ?_;refine sD rfl rfl rfl ?_;refine U ?_;refine kS ?_;exact lj results189 Zt lv ⟨by rw[a]<;>rfl,rfl⟩
 ·rw[ai b] at a;rw[show(o.kind==1)=false from by simp[b]];refine U ?_;by_cases c:o.kind=2;·rw[aj c] at a;rw[show(o.kind==2)=true from by simp[c]];refine U ?_;refine sD rfl rfl rfl ?_;refine U ?_;refine kS ?_;exact lj results189 Zt lv ⟨by rw[a]<;>rfl,rfl⟩
  ·rw[ai c] at a;rw[show(o.kind==2)=false from by simp[c]];refine U ?_;refine kS ?_;exact lj results189 Zt lv ⟨by rw[a]<;>rfl,rfl⟩
theorem UU(o:lQ)(hf:pn o):Pf prog 342 #[qW o] (.bool ((oO o.node).isSome&&nM o.lZ&&!(uX o.tm o.lZ)&&wS o.name&&o.data==[])):=λW L=>by
 refine enter func342 ?_;refine U ?_;intro a;refine U ?_;refine md (Cc o.node hf.node W _) ?_;refine U ?_;intro b;refine U ?_;cases c:(oO o.node).isSome with
 |false=>refine U ?_;refine kS ?_;exact lj results342 Zt lv ⟨rfl,rfl⟩
 |true=>
  refine U ?_;refine md (wW o.lZ hf.lZ W _) ?_;cases d:nM o.lZ with
  |false=>refine U ?_;refine kS ?_;exact lj results342 Zt lv ⟨rfl,rfl⟩
  |true=>
   refine U ?_;refine md (Jb o.tm o.lZ hf.lZ W _) ?_;cases e:uX o.tm o.lZ with
   |true=>refine U ?_;refine kS ?_;exact lj results342 Zt lv ⟨rfl,rfl⟩
   |false=>
    refine U ?_;refine md (Ns o.name (by have:=hf.name;omega) W _) ?_;cases f:wS o.name with
    |false=>refine U ?_;refine kS ?_;exact lj results342 Zt lv ⟨rfl,rfl⟩
    |true=>refine U ?_;refine kS ?_;exact lj results342 Zt lv ⟨rfl,rfl⟩
theorem UV(o:lQ)(hf:pn o):Pf prog 345 #[qW o] (.bool (match oO o.node with
 |some (_,f)=>f&&decide (o.data.length<=64)&&o.lZ==0&&o.name==[]
 |none=>false)):=λW L=>by
 refine enter func345 ?_;refine U ?_;intro a;refine U ?_;refine md (Cc o.node hf.node W _) ?_;refine U ?_;intro b;refine U ?_;cases c:oO o.node with
 |none=>refine U ?_;refine kS ?_;exact lj results345 Zt lv ⟨rfl,rfl⟩
 |some x=>
  obtain⟨t,f⟩:=x;cases f with
  |false=>refine U ?_;refine kS ?_;exact lj results345 Zt lv ⟨rfl,rfl⟩
  |true=>
   refine U ?_;rw[show decide ((o.data.length:Int)<=64)=decide (o.data.length<=64) from by simp;omega];cases d:decide (o.data.length<=64) with
   |false=>refine U ?_;refine kS ?_;exact lj results345 Zt lv ⟨rfl,rfl⟩
   |true=>
    refine U ?_;cases e:(o.lZ==0) with
    |false=>refine U ?_;refine kS ?_;exact lj results345 Zt lv ⟨rfl,rfl⟩
    |true=>refine U ?_;refine kS ?_;exact lj results345 Zt lv ⟨rfl,rfl⟩
theorem Ck(o:lQ)(hf:pn o):Pf prog 191 #[qW o] (.bool (nj o)):=λW L=>by
 refine enter func191 ?_;refine U ?_;intro d;refine U ?_;refine md (Jc o W _) ?_;by_cases b:o.kind=1
 ·have a:nj o=(ow o.tm&&!(uX o.tm o.node)&&((oO o.node).isSome&&nM o.lZ&&!(uX o.tm o.lZ)&&wS o.name&&o.data==[])):=by unfold nj;rw[aj b]
  rw[show vL o=.iface 325 (qW o) from by unfold vL;rw[aj b]];cases b:ow o.tm with
  |false=>rw[b] at a;refine U ?_;refine Gd rfl rfl rfl ?_;refine U ?_;refine md (zv o.tm W _) ?_;rw[b];refine U ?_;refine kS ?_;exact lj results191 Zt lv ⟨by rw[a]<;>rfl,rfl⟩
  |true=>
   rw[b] at a;refine U ?_;refine Gd rfl rfl rfl ?_;refine U ?_;refine md (zv o.tm W _) ?_;rw[b];refine U ?_;refine md (Jb o.tm o.node hf.node W _) ?_;cases c:uX o.tm o.node with
   |true=>rw[c] at a;refine U ?_;refine kS ?_;exact lj results191 Zt lv ⟨by rw[a]<;>rfl,rfl⟩
   |false=>rw[c] at a;refine U ?_;refine EM (UU o hf W _) ?_;refine U ?_;refine kS ?_;exact lj results191 Zt lv ⟨by rw[a]<;>rfl,rfl⟩
 ·by_cases c:o.kind=2
  ·have a:nj o=(ow o.tm&&!(uX o.tm o.node)&&(match oO o.node with
    |some (_,f)=>f&&decide (o.data.length<=64)&&o.lZ==0&&o.name==[]
    |none=>false)):=by unfold nj;rw[ai b,aj c];rfl
   rw[show vL o=.iface 395 (qW o) from by unfold vL;rw[ai b,aj c]];cases b:ow o.tm with
   |false=>rw[b] at a;refine U ?_;refine Gd rfl rfl rfl ?_;refine U ?_;refine md (zv o.tm W _) ?_;rw[b];refine U ?_;refine kS ?_;exact lj results191 Zt lv ⟨by rw[a]<;>rfl,rfl⟩
   |true=>
    rw[b] at a;refine U ?_;refine Gd rfl rfl rfl ?_;refine U ?_;refine md (zv o.tm W _) ?_;rw[b];refine U ?_;refine md (Jb o.tm o.node hf.node W _) ?_;cases c:uX o.tm o.node with
    |true=>rw[c] at a;refine U ?_;refine kS ?_;exact lj results191 Zt lv ⟨by rw[a]<;>rfl,rfl⟩
    |false=>rw[c] at a;refine U ?_;refine EM (UV o hf W _) ?_;refine U ?_;refine kS ?_;exact lj results191 Zt lv ⟨by rw[a]<;>rfl,rfl⟩
  ·have a:nj o=false:=by unfold nj;rw[ai b,ai c]
   rw[show vL o=.nilIface from by unfold vL;rw[ai b,ai c]];refine U ?_;refine Ti rfl rfl rfl ?_;refine U ?_;refine kS ?_;exact lj results191 Zt lv ⟨by rw[a]<;>rfl,rfl⟩
instance:Ge prog 5:=⟨⟨_,rfl,rfl,rfl,rfl⟩,by kernel_rfl⟩
theorem UW(v:Value)(w:World):(callFunc 298 #[v]).run prog w=.ok (.value v) w:=by rw[iI func298 Zk Zk Zk (e:=Extern.AbiNoEscape.same) Zk,Lib.run_noEscape];rfl
def vM(g:Nat)(a:Bool):Value:=if a then .pointer (some ⟨g,0,none⟩) else .pointer none
theorem UX(g:Nat)(a:Bool)(v:Value)(W:World)(L:List kM):m3 prog W 270 #[.pointer (some ⟨g,0,none⟩)] (k4 g 383 [vM g a,v]::L) (λr L'=>r=.tuple #[]/\L'=k4 g 383 [vM g true,v]::L):=by
 refine enter func270 ?_;cases a with
 |false=>refine U ?_;refine Mn (p:=none) rfl rfl rfl rfl ?_;refine U ?_;refine Tk rfl rfl rfl Zd rfl m0 (by exact Nat.zero_lt_succ 1) rfl rfl ?_;refine I9 (k:=298) (UW _) ?_;refine Tl rfl rfl rfl rfl m0 Zk rfl rfl ?_;refine U ?_;exact xK results270 ⟨rfl,rfl⟩
 |true=>refine U ?_;refine Mn (p:=some ⟨g,0,none⟩) rfl rfl rfl rfl ?_;refine U ?_;refine Tj rfl rfl rfl rfl rfl rfl ?_;refine U ?_;exact xK results270 ⟨rfl,rfl⟩
def Do(A:Option Addr)(c:Nat):Prop:=(A=none/\c=0)\/0<c
theorem Nw(g:Nat)(d:Bool)(A:Option Addr)(c:Nat)(e:Do A c)(s t:kV)(f:s.length+t.length<=140737488355328)(W:World)(L:List kM):
 m3 prog W 234 #[.pointer (some ⟨g,0,none⟩),sv t] (k4 g 383 [vM g d,.slice A s.length c]::li 5 1 mI A c s::L)
  (λr L'=>∃a b,Do a b/\r=.tuple #[nN t.length,.nilIface]/\L'=k4 g 383 [vM g true,.slice a (s++t).length b]::li 5 1 mI a b (s++t)::L):=by
 refine enter func234 ?_;refine U ?_;refine nR (UX g d (.slice A s.length c) W _) ?_;rintro _ _ ⟨rfl,rfl⟩;refine U ?_;refine Mm rfl rfl e (λ_ _=>p1 p0) f rfl rfl (λa b h=>?_);refine U ?_;refine kS ?_;exact og results234 Zt Zt lv ⟨a,b,h,rfl,rfl⟩
theorem UY(g:Nat)(a:Bool)(A:Option Addr)(c n:Nat)(W:World)(L:List kM)(L':List kM)(b:L=k4 g 383 [vM g a,.slice A n c]::L'):m3 prog W 235 #[.pointer (some ⟨g,0,none⟩)] L (λr L'=>r=nN n/\L'=L):=by subst b;refine enter func235 ?_;refine U ?_;refine kS ?_;exact lj results235 Zt lv ⟨rfl,rfl⟩
theorem UZ(g:Nat)(a:Bool)(A:Option Addr)(c:Nat)(b:Do A c)(s:kV)(W:World)(L:List kM):m3 prog W 237 #[.pointer (some ⟨g,0,none⟩)] (k4 g 383 [vM g a,.slice A s.length c]::li 5 1 mI A c s::L) (λr L'=>r=sv s/\L'=L):=by refine enter func237 ?_;refine U ?_;refine qN [k4 g 383 [vM g a,.slice A s.length c]] (lC.Z [0,1,2,5,6,7] (lC.p8 [3,8] (lC.Z [9,4,10,11] .mZ))) Zk Zk Zk Zk (λ_ _ _ h=>h) (.of Zu) ?_;refine mM _ _ _ _ Zk ?_;refine U ?_;refine qu _ _ _ Zk ?_;refine U ?_;refine mM _ _ _ _ Zk ?_;refine U ?_;refine Mp rfl b rfl rfl rfl ?_;refine U ?_;refine Tm (l:=s) (A:=A) (c:=c) rfl rfl rfl (o1 o0) rfl (λ_=>.of Zu) rfl rfl ?_;refine U ?_;refine kS ?_;exact lj results237 Zt lv ⟨rfl,rfl⟩
theorem uf{α:Type}{H:kM}{g s:Nat}{cs:List Value}{enc:α->List Value}[m6 enc s]{l:List α}(h:H.kn (nX g cs))(rU:cs=l.flatMap enc):H.kn (Rd (some ⟨g,0,none⟩) s enc l):=λw a=>FV (enc:=enc) m6.len λj u b=>h w a j u (by rw[rU];exact b)
theorem U0(H:kM)(o:lQ)(b:kV)(hf:pn o)(g:b.length<=100000000000000):Rf prog 343 #[qW o,sv b] H (sv (pJ ((pI b [o.lZ]).getD []) o.name)):=λW L=>by
 refine enter func343 ?_;have h:=hf.name;have i:((pI b [o.lZ]).getD []).length<=b.length+9:=by
  unfold pI pI;split;·simp
  ·have:=wx (n:=o.lZ.toNat) (by have:=hf.lZ.2;omega);simp only[aN,ak,x3];omega
 refine U ?_;intro j;refine U ?_;intro a;refine U ?_;refine tI (hf:=f1 f0) o0 ?_;intro c d e;refine mi (EK c b _ [o.lZ] ⟨some ⟨a,0,none⟩,1,rfl,⟨aA _,by decide⟩,uf e rfl⟩ (by have:=hf.lZ.2;simpa using this) (by simp;omega)) ?_;refine U ?_;refine md (EL ((pI b [o.lZ]).getD []) o.name Zo W _) ?_;refine U ?_;refine kS ?_;exact lj results343 Zt (λw f=>(f.tail).fz d p0) ⟨rfl,rfl⟩
theorem U1(o:lQ)(b:kV)(hf:pn o)(a:b.length<=100000000000000):Pf prog 343 #[qW o,sv b] (sv (pJ ((pI b [o.lZ]).getD []) o.name)):=Rf.pf λH=>U0 H o b hf a
theorem U2(o:lQ)(b:kV)(hf:pn o)(a:b.length<=100000000000000):Pf prog 346 #[qW o,sv b] (sv (pJ b o.data)):=λW L=>by refine enter func346 ?_;refine U ?_;intro c;refine U ?_;refine md (EL b o.data (by have:=hf.data;omega) W _) ?_;refine U ?_;refine kS ?_;exact lj results346 Zt lv ⟨rfl,rfl⟩
theorem E6(b:kV)(l:List Int)(h:∀x∈l,x<=9223372036854775807):((pI b l).getD []).length<=b.length+9*l.length:=by
 induction l generalizing b with
 |nil=>simp[pI]
 |cons n l a=>
  unfold pI;split;·simp
  ·have e:=wx (n:=n.toNat) (by have:=h n (ay ..);omega);have c:=a (b++rY n.toNat) (λx d=>h x (aI _ d));rw[ak,x3] at c;simp only[aG];omega
theorem E7{o:lQ}(h:nj o=true):ow o.tm=true/\(o.kind=1\/o.kind=2)/\(oO o.node).isSome=true:=by
 unfold nj at h;split at h;·rename_i a;simp only[aF] at h;exact⟨h.1.1,.inl a,h.2.1.1.1.1⟩
 ·split at h
  ·rename_i a;simp only[aF] at h;refine⟨h.1.1,.inr a,?_⟩;cases b:oO o.node with
   |none=>rw[b] at h;simp at h
   |some x=>rfl
  ·cases h
theorem Jd{s:mN}(h:ow s=true):1<=s.c/\s.c<=1048576/\0<=s.r/\s.r<=63:=by unfold ow at h;simp only[aF,bz] at h;omega
theorem Je(b:kV)(o:lQ)(hf:pn o):((vG b o).getD []).length<=b.length+1000200:=by
 unfold vG;split;·rename_i d;obtain⟨e,g,h⟩:=E7 d;have i:=Jd e;have j:=hf.node;have k:=hf.lZ;have l:=hf.name;have m:=hf.data;have hp:=E6 b [o.tm.c,o.tm.r,o.kind,o.node] (by intro x a;simp at a;omega);have f:=E6 ((pI b [o.tm.c,o.tm.r,o.kind,o.node]).getD []) [o.lZ] (by intro x a;simp at a;omega);have p:=wx (n:=o.name.length) Zo;have q:=wx (n:=o.data.length) Zo;simp only[aG,bm] at hp f;unfold Bd pJ;split<;>simp only[aN,ak,x3]<;>omega
 ·simp
theorem Nx(b:kV)(o:lQ)(hf:pn o)(n:b.length<=10000000000000):Pf prog 177 #[sv b,qW o] (.tuple #[oS (vG b o),oE (vG b o) 50]):=Rf.pf λH W L=>by
 refine enter func177 ?_;have a:vG b o=if nj o then some (Bd ((pI b [o.tm.c,o.tm.r,o.kind,o.node]).getD []) o) else none:=rfl;refine U ?_;intro p;refine U ?_;refine md (Ck o hf W _) ?_;cases f:nj o with
 |false=>rw[f] at a;refine U ?_;refine kS ?_;exact og results177 Zt Zt (λw e=>e.sublist Zu) ⟨by rw[a]<;>rfl,rfl⟩
 |true=>
  rw[f] at a;obtain⟨j,q,s⟩:=E7 f;have t:=Jd j;have u:=hf.node;have h:∀x∈[o.tm.c,o.tm.r,o.kind,o.node],x<=9223372036854775807:=by intro x k;simp at k;omega
  have hp:=E6 b _ h;simp only[aG,bm] at hp;refine U ?_;intro l;refine U ?_;refine tI (hf:=f1 f0) o0 ?_;intro g i d;refine mi (EK g b _ [o.tm.c,o.tm.r,o.kind,o.node] ⟨some ⟨l,0,none⟩,4,rfl,⟨aA _,by decide⟩,uf d rfl⟩ h (by simp;omega)) ?_;refine U ?_;refine md (Jc o W _) ?_;by_cases d:o.kind=1;·rw[show Bd ((pI b [o.tm.c,o.tm.r,o.kind,o.node]).getD []) o=pJ ((pI ((pI b [o.tm.c,o.tm.r,o.kind,o.node]).getD []) [o.lZ]).getD []) o.name from by unfold Bd;rw[aj d]] at a;rw[show vL o=.iface 325 (qW o) from by unfold vL;rw[aj d]];refine U ?_;refine EM (U1 o ((pI b [o.tm.c,o.tm.r,o.kind,o.node]).getD []) hf Zo W _) ?_;refine U ?_;refine kS ?_;exact og results177 Zt Zt (λw e=>(e.sublist (L':=fz g::L) Zu).fz i p0) ⟨by rw[a]<;>rfl,rfl⟩
  ·have m:o.kind=2:=by omega
   rw[show Bd ((pI b [o.tm.c,o.tm.r,o.kind,o.node]).getD []) o=pJ ((pI b [o.tm.c,o.tm.r,o.kind,o.node]).getD []) o.data from by unfold Bd;rw[ai d]] at a;rw[show vL o=.iface 395 (qW o) from by unfold vL;rw[ai d,aj m]];refine U ?_;refine EM (U2 o ((pI b [o.tm.c,o.tm.r,o.kind,o.node]).getD []) hf Zo W _) ?_;refine U ?_;refine kS ?_;exact og results177 Zt Zt (λw e=>(e.sublist (L':=fz g::L) Zu).fz i p0) ⟨by rw[a]<;>rfl,rfl⟩
theorem U3(H:kM)(v:Value)(l:List lQ)(k:Sl 7 nA H v l)(hl:l.length<=1000000)(hf:∀o∈l,pn o):Rf prog 179 #[v] H (.tuple #[oS (tp l),oE (tp l) 50]):=λW L=>by
 obtain⟨A,c,rfl,f,z⟩:=k;refine enter func179 ?_;refine U ?_;intro e;refine U ?_;refine SC.oA 5 1 mI none ?_;refine SC.mL (L':=k4 e 383 [vM e false,.slice none ([]:kV).length 0]::li 5 1 mI none 0 ([]:kV)::fz H::L) (λw n=>n.ny (.swap _ _ _)) ?_;refine mP (λm σ L'=>∃(i:Nat) (a:kV) (u:Bool) (B:Option Addr) (d:Nat),m=l.length-i/\i<=l.length/\Do B d/\a.length<=i*1000200/\tp l=(tp (l.drop i)).map (a++·)/\
  L'=k4 e 383 [vM e u,.slice B a.length d]::li 5 1 mI B d a::fz H::L/\ml σ [(4,.pointer (some ⟨e,0,none⟩)),(9,.slice A l.length c),(10,nN l.length),(11,nN i)]) l.length _ (s1 _)
  ⟨0,[],false,none,0,by simp,by simp,.inl ⟨rfl,rfl⟩,by simp,by simp,rfl,rfl,rfl,rfl,rfl,trivial⟩ ?_
 rintro m σ _ ⟨i,a,u,B,d,rfl,C,g,D,b,rfl,p⟩;obtain⟨E,rfl⟩:=p.open;refine U ?_;refine mE rfl (λf=>?_) (λf=>?_)
 ·have f:=am f;have F:l[i]? =some l[i]:=ad Zo;have h:=hf l[i] (bv _);rw[show l.drop i=l[i]::l.drop (i+1) from br Zo] at b;generalize l[i]=o at*;have G:(nA o).length=7:=rfl;have j:=Je [] o h;rw[show tp (o::l.drop (i+1))=match vG [] o with
   |none=>none
   |some s=>(tp (l.drop (i+1))).map (s++·) from rfl] at b
  refine U ?_;intro I;refine U ?_;refine md (Nx [] o h Zs W _) ?_;cases hp:vG [] o with
  |none=>rw[hp] at b;have b:tp l=none:=b;refine U ?_;refine kS ?_;exact og results179 Zt Zt lv ⟨by rw[b]<;>rfl,rfl⟩
  |some s=>
   rw[hp] at b j;simp only[aN,bm,cV] at j;have q:tp l=(tp (l.drop (i+1))).map ((a++s)++·):=by rw[b,di];congr 1;funext x;simp
   refine U ?_;refine SL.mL (L':=k4 e 383 [vM e u,.slice B a.length d]::li 5 1 mI B d a::fz H::L) lv ?_;refine nR (Nw e u B d g a s Zo W _) ?_;rintro _ _ ⟨r,t,y,rfl,rfl⟩;refine U ?_;exact⟨l.length-(i+1),_,by omega,Zu,i+1,a++s,true,r,t,rfl,by omega,y,by rw[ak];omega,q,rfl,rfl,rfl,rfl,rfl,trivial⟩
 ·have f:=av f;rw[show l.drop i=[] from aX Zo] at b;have b:tp l=some a:=by rw[b];simp[tp]
  refine U ?_;refine nR (UZ e u B d g a W _) ?_;rintro _ _ ⟨rfl,rfl⟩;refine U ?_;refine kS ?_;exact og results179 Zt Zt lv ⟨by rw[b]<;>rfl,rfl⟩
def w8:List Nat->kV->List Value->Option (List Value×kV)
 |[],b,cs=>some (cs,b)
 |p::a,b,cs=>match pY b with
  |none=>none
  |some (n,r)=>w8 a r (cs.set p (nN n))
def Gz(g:Nat)(p:Nat):List Value:=[.pointer (some ⟨g,p,none⟩)]
instance(g:Nat):m6 (Gz g) 1:=⟨λ_=>rfl,λx v a=>by simp[Gz] at a;subst a;rfl⟩
theorem Ny{s:kV}{n:Nat}{r:kV}(h:pY s=some (n,r)):r.length<=s.length:=by
 have:∀(s:kV) (i k:Nat),wc s i k=some (n,r)->r.length<=s.length:=by
  intro s;induction s with
  |nil=>intro i k h;simp[wc] at h
  |cons a s b=>
   intro i k h;unfold wc at h;split at h;·cases h
   ·split at h;·cases h;simp
    ·have:=b _ _ h;simp only[aG];omega
 exact this s 0 0 h
theorem Jf{s:kV}{n:Nat}{r:kV}(h:pY s=some (n,r)):r.length<s.length/\n<=9223372036854775807:=by
 have:∀(s:kV) (i k:Nat),wc s i k=some (n,r)->r.length<s.length/\n<=9223372036854775807:=by
  intro s;induction s with
  |nil=>intro i k h;simp[wc] at h
  |cons a s b=>
   intro i k h;unfold wc at h;split at h;·cases h
   ·rename_i c;split at h;·cases h;simp;omega
    ·have:=b _ _ h;simp only[aG];omega
 exact this s 0 0 h
theorem Nz(H:kM)(g:Nat)(b:kV)(v:Value)(a:List Nat)(cs:List Value)(k:Sl 1 (Gz g) H v a)(l:∀p∈a,p<cs.length)(o:b.length<=9223372036854775807):
 Ch prog 188 #[sv b,v] H (k4 g 201 cs) (λq e' r=>H=q/\match w8 a b cs with
  |some (f,rest)=>e'=k4 g 201 f/\f.length=cs.length/\r=.tuple #[sv rest,.bool true]
  |none=>(∃f,e'=k4 g 201 f/\f.length=cs.length)/\r=.tuple #[sv [],.bool false]):=λW L=>by
 obtain⟨A,c,rfl,e,w⟩:=k;refine enter func188 ?_;refine U ?_;refine mP (λm σ L'=>∃(i:Nat) (t:kV) (ds:List Value),m=a.length-i/\i<=a.length/\t.length<=9223372036854775807/\ds.length=cs.length/\w8 a b cs=w8 (a.drop i) t ds/\
  L'=k4 g 201 ds::fz H::L/\ml σ [(0,sv t),(11,.slice A a.length c),(12,nN a.length),(13,nN i)]) a.length _ (s1 _) ⟨0,b,cs,by simp,by simp,o,rfl,rfl,rfl,rfl,rfl,rfl,rfl,trivial⟩ ?_
 rintro m σ _ ⟨i,t,ds,rfl,y,s,h,d,rfl,u⟩;obtain⟨z,rfl⟩:=u.open;refine U ?_;refine mE rfl (λe=>?_) (λe=>?_)
 ·have e:=am e;have B:a[i]? =some a[i]:=ad Zo;have C:=l a[i] (bv _);rw[show a.drop i=a[i]::a.drop (i+1) from br Zo] at d;generalize a[i]=p at*;have D:(Gz g p)[0]? =some (.pointer (some ⟨g,p,none⟩)):=rfl;rw[show w8 (p::a.drop (i+1)) t ds=match pY t with
   |none=>none
   |some (n,r)=>w8 (a.drop (i+1)) r (ds.set p (nN n)) from rfl] at d
  refine U ?_;refine md (Bl t s W _) ?_;cases j:pY t with
  |none=>rw[j] at d;have d:w8 a b cs=none:=d;refine U ?_;refine kS ?_;exact og results188 Zt Zt lv ⟨H,_,le_refl _,rfl,rfl,by rw[d];exact⟨⟨ds,rfl,h⟩,rfl⟩⟩
  |some x=>obtain⟨n,r⟩:=x;rw[j] at d;have E:=Ny j;refine U ?_;refine Lz rfl rfl rfl p0 Zo rfl (λ_=>trivial) rfl ?_;refine U ?_;exact⟨a.length-(i+1),_,by omega,Zu,i+1,r,ds.set p (nN n),rfl,by omega,by omega,by rw[bB];exact h,d,rfl,rfl,rfl,rfl,rfl,trivial⟩
 ·have e:=av e;rw[show a.drop i=[] from aX Zo] at d;have d:w8 a b cs=some (ds,t):=d;refine U ?_;refine kS ?_;exact og results188 Zt Zt lv ⟨H,_,le_refl _,rfl,rfl,by rw[d];exact⟨rfl,h,rfl⟩⟩
theorem U4(s:kV)(c0 c1 h i e f g:Value):w8 [0,1,2,3] s [c0,c1,h,i,e,f,g]=match sY 4 s with
 |some ([a,b,c,d],r)=>some ([nN a,nN b,nN c,nN d,e,f,g],r)
 |_=>none:=by
 simp only[w8,sY];cases pY s with
 |none=>rfl
 |some x=>
  obtain⟨a,r⟩:=x;simp only;cases pY r with
  |none=>rfl
  |some x=>
   obtain⟨b,r⟩:=x;simp only;cases pY r with
   |none=>rfl
   |some x=>
    obtain⟨c,r⟩:=x;simp only;cases pY r with
    |none=>rfl
    |some x=>rfl
theorem Dp{k:Nat}{s r:kV}{l:List Nat}(h:sY k s=some (l,r)):l.length=k/\r.length<=s.length/\∀n∈l,n<=9223372036854775807:=by
 induction k generalizing s l with
 |zero=>simp[sY] at h;obtain⟨rfl,rfl⟩:=h;simp
 |succ k e=>
  unfold sY at h;cases b:pY s with
  |none=>rw[b] at h;cases h
  |some x=>
   obtain⟨n,t⟩:=x;rw[b] at h;simp only at h;cases c:sY k t with
   |none=>rw[c] at h;cases h
   |some y=>(obtain⟨m,u⟩:=y;rw[c] at h;simp only[aW,cD,bE] at h;obtain⟨rfl,rfl⟩:=h;obtain⟨f,j,g⟩:=e c;have i:=Jf b;refine⟨by simp[f],by omega,λa d=>?_⟩;rcases aJ.1 d with rfl|d;·exact i.2);·exact g a d
theorem Av{s t r:kV}(h:sq s=some (t,r)):t.length+r.length<=s.length:=by
 unfold sq at h;cases a:pY s with
 |none=>rw[a] at h;cases h
 |some x=>
  obtain⟨n,u⟩:=x;rw[a] at h;have:=Ny a;simp only at h;split at h;·cases h
  ·cases h;simp;omega
abbrev U5(o:Option (lQ×kV)):Value:=.tuple #[qW ((o.map (·.1)).getD lQ.z),oS (o.map (·.2)),oE o 50]
theorem GA(s:kV)(R:s.length<=1000000):Pf prog 114 #[sv s] (U5 (uG s)):=Rf.pf λH W L=>by
 refine enter func114 ?_;have f:uG s=match sY 4 s with
  |some ([c,r,k,n],rest)=>
   if k=1 then match sY 1 rest with
    |some ([p],u)=>match sq u with
     |some (t,m)=>if nj ⟨⟨c,r⟩,k,n,p,t,[]⟩ then some (⟨⟨c,r⟩,k,n,p,t,[]⟩,m) else none
     |none=>none
    |_=>none
   else match sq rest with
    |some (t,m)=>if nj ⟨⟨c,r⟩,k,n,0,[],t⟩ then some (⟨⟨c,r⟩,k,n,0,[],t⟩,m) else none
    |none=>none
  |_=>none:=rfl
 refine U ?_;intro S;refine U ?_;intro B;refine U ?_;intro G;refine U ?_;refine tI (hf:=f1 (f1 f0)) o0 ?_;intro o i I;refine tK (hf:=f1 f0) (e:=k4 B 201 [nI 0,nI 0,nI 0,nI 0,nI 0,sv [],sv []]) o0 (Nz o B s _ [0,1,2,3] [nI 0,nI 0,nI 0,nI 0,nI 0,sv [],sv []] ⟨some ⟨G,0,none⟩,4,rfl,⟨aA _,by decide⟩,uf I rfl⟩ Zs Zo) ?_;rintro _ e' r _ ⟨rfl,j⟩;rw[U4] at j;cases D:sY 4 s with
 |none=>rw[D] at f j;obtain⟨⟨J,rfl,hl⟩,rfl⟩:=j;refine U ?_;refine kS ?_;exact pd results114 (.agg (cs:=nA lQ.z) inferInstance rfl lW rfl) Zt Zt (λw g=>(g.sublist (L':=fz o::L) Zu).fz i p0) ⟨by rw[f]<;>rfl,rfl⟩
 |some x=>
  obtain⟨l,rest⟩:=x;obtain⟨K,T,M⟩:=Dp D;obtain⟨a,b,c,d,rfl⟩:∃a b c d,l=[a,b,c,d]:=by
   match l,K with
   |[a,b,c,d],_=>exact⟨a,b,c,d,rfl⟩
  simp only[aJ,cQ,eG,forall_eq_or_imp,forall_eq] at M;rw[D] at f j;simp only at f;obtain⟨rfl,-,rfl⟩:=j;refine U ?_;refine md (Jc ⟨⟨a,b⟩,c,d,0,[],[]⟩ W _) ?_;by_cases N:c=1
  ·subst N;rw[aj rfl] at f;rw[show vL ⟨⟨a,b⟩,((1:Nat):Int),d,0,[],[]⟩=.iface 325 (qW ⟨⟨a,b⟩,((1:Nat):Int),d,0,[],[]⟩) from rfl];refine II rfl rfl rfl ?_;refine U ?_;intro E;refine U ?_;refine U ?_;intro O;refine U ?_;refine tI (hf:=f1 (f1 (f1 f0))) o0 ?_;intro v C P;refine tK (hf:=f1 (f1 f0)) (e:=k4 B 201 [nN a,nN b,nN 1,nN d,nI 0,sv [],sv []]) (o1 o0) (Nz v B rest _ [4] [nN a,nN b,nN 1,nN d,nI 0,sv [],sv []] ⟨some ⟨O,0,none⟩,1,rfl,⟨aA _,by decide⟩,uf P rfl⟩ Zs Zo) ?_;rintro _ e' r _ ⟨rfl,j⟩;cases A:pY rest with
   |none=>rw[show sY 1 rest=none from by simp only[sY];rw[A]] at f;rw[show w8 [4] rest [nN a,nN b,nN 1,nN d,nI 0,sv [],sv []]=none from by simp only[w8];rw[A]] at j;obtain⟨⟨J,rfl,hl⟩,rfl⟩:=j;refine U ?_;refine kS ?_;exact pd results114 (.agg (cs:=nA lQ.z) inferInstance rfl lW rfl) Zt Zt (λw g=>(g.sublist (L':=fz v::L) Zu).fz (le_trans i C) p0) ⟨by rw[f]<;>rfl,rfl⟩
   |some y=>
    obtain⟨p,u⟩:=y;have V:=Jf A;rw[show sY 1 rest=some ([p],u) from by simp only[sY];rw[A];rfl] at f;rw[show w8 [4] rest [nN a,nN b,nN 1,nN d,nI 0,sv [],sv []]=some ([nN a,nN b,nN 1,nN d,nN p,sv [],sv []],u) from by simp only[w8];rw[A];rfl] at j;obtain⟨rfl,-,rfl⟩:=j;simp only at f;refine U ?_;cases h:sq u with
    |none=>rw[h] at f;refine md ((x4 u Zo).eq (v':=.tuple #[sv [],sv [],nI 40]) (by rw[h];rfl) W _) ?_;refine U ?_;refine kS ?_;exact pd results114 (.agg (cs:=nA lQ.z) inferInstance rfl lW rfl) Zt Zt (λw g=>(g.sublist (L':=fz v::L) Zu).fz (le_trans i C) p0) ⟨by rw[f]<;>rfl,rfl⟩
    |some y=>
     obtain⟨t,m⟩:=y;have F:=Av h;rw[h] at f;refine md ((x4 u Zo).eq (v':=.tuple #[sv t,sv m,nI 0]) (by rw[h];rfl) W _) ?_;refine U ?_;refine md (Ck ⟨⟨a,b⟩,((1:Nat):Int),d,p,t,[]⟩ ⟨by constructor<;>simp<;>omega,by constructor<;>simp<;>omega,by simp<;>omega,by simp<;>omega⟩ W _) ?_;simp only at f;cases q:nj ⟨⟨a,b⟩,((1:Nat):Int),d,p,t,[]⟩ with
     |false=>rw[q] at f;refine U ?_;refine kS ?_;exact pd results114 (.agg (cs:=nA lQ.z) inferInstance rfl lW rfl) Zt Zt (λw g=>(g.sublist (L':=fz v::L) Zu).fz (le_trans i C) p0) ⟨by rw[f]<;>rfl,rfl⟩
     |true=>rw[q] at f;refine U ?_;refine kS ?_;exact pd results114 (.agg (cs:=nA ⟨⟨a,b⟩,((1:Nat):Int),d,p,t,[]⟩) inferInstance rfl lW rfl) Zt Zt (λw g=>(g.sublist (L':=fz v::L) Zu).fz (le_trans i C) p0) ⟨by rw[f]<;>rfl,rfl⟩
  ·rw[ai Zo] at f;by_cases Q:c=2
   ·subst Q;rw[show vL ⟨⟨a,b⟩,((2:Nat):Int),d,0,[],[]⟩=.iface 395 (qW ⟨⟨a,b⟩,((2:Nat):Int),d,0,[],[]⟩) from rfl];refine EN rfl Zd (λ_=>rfl) rfl rfl ?_;refine U ?_;intro E;refine U ?_;cases h:sq rest with
    |none=>rw[h] at f;refine md ((x4 rest Zo).eq (v':=.tuple #[sv [],sv [],nI 40]) (by rw[h];rfl) W _) ?_;refine U ?_;refine kS ?_;exact pd results114 (.agg (cs:=nA lQ.z) inferInstance rfl lW rfl) Zt Zt (λw g=>(g.sublist (L':=fz o::L) Zu).fz i p0) ⟨by rw[f]<;>rfl,rfl⟩
    |some y=>
     obtain⟨t,m⟩:=y;have F:=Av h;rw[h] at f;refine md ((x4 rest Zo).eq (v':=.tuple #[sv t,sv m,nI 0]) (by rw[h];rfl) W _) ?_;refine U ?_;refine md (Ck ⟨⟨a,b⟩,((2:Nat):Int),d,0,[],t⟩ ⟨by constructor<;>simp<;>omega,by constructor<;>simp<;>omega,by simp<;>omega,by simp<;>omega⟩ W _) ?_;simp only at f;cases q:nj ⟨⟨a,b⟩,((2:Nat):Int),d,0,[],t⟩ with
     |false=>rw[q] at f;refine U ?_;refine kS ?_;exact pd results114 (.agg (cs:=nA lQ.z) inferInstance rfl lW rfl) Zt Zt (λw g=>(g.sublist (L':=fz o::L) Zu).fz i p0) ⟨by rw[f]<;>rfl,rfl⟩
     |true=>rw[q] at f;refine U ?_;refine kS ?_;exact pd results114 (.agg (cs:=nA ⟨⟨a,b⟩,((2:Nat):Int),d,0,[],t⟩) inferInstance rfl lW rfl) Zt Zt (λw g=>(g.sublist (L':=fz o::L) Zu).fz i p0) ⟨by rw[f]<;>rfl,rfl⟩
   ·rw[show vL ⟨⟨a,b⟩,(c:Int),d,0,[],[]⟩=.nilIface from by unfold vL;rw[ai (by simp;omega),ai (by simp;omega)]];refine Th rfl (λ_=>rfl) rfl rfl ?_;refine U ?_;intro E;refine U ?_;cases h:sq rest with
    |none=>rw[h] at f;refine md ((x4 rest Zo).eq (v':=.tuple #[sv [],sv [],nI 40]) (by rw[h];rfl) W _) ?_;refine U ?_;refine kS ?_;exact pd results114 (.agg (cs:=nA lQ.z) inferInstance rfl lW rfl) Zt Zt (λw g=>(g.sublist (L':=fz o::L) Zu).fz i p0) ⟨by rw[f]<;>rfl,rfl⟩
    |some y=>
     obtain⟨t,m⟩:=y;have F:=Av h;rw[h] at f;refine md ((x4 rest Zo).eq (v':=.tuple #[sv t,sv m,nI 0]) (by rw[h];rfl) W _) ?_;refine U ?_;refine md (Ck ⟨⟨a,b⟩,c,d,0,[],t⟩ ⟨by constructor<;>simp<;>omega,by constructor<;>simp<;>omega,by simp<;>omega,by simp<;>omega⟩ W _) ?_;simp only at f;cases q:nj ⟨⟨a,b⟩,c,d,0,[],t⟩ with
     |false=>rw[q] at f;refine U ?_;refine kS ?_;exact pd results114 (.agg (cs:=nA lQ.z) inferInstance rfl lW rfl) Zt Zt (λw g=>(g.sublist (L':=fz o::L) Zu).fz i p0) ⟨by rw[f]<;>rfl,rfl⟩
     |true=>rw[q] at f;refine U ?_;refine kS ?_;exact pd results114 (.agg (cs:=nA ⟨⟨a,b⟩,c,d,0,[],t⟩) inferInstance rfl lW rfl) Zt Zt (λw g=>(g.sublist (L':=fz o::L) Zu).fz i p0) ⟨by rw[f]<;>rfl,rfl⟩
def U6(b:kV)(H:kM)(v:Value):Prop:=∃v',v=.tuple #[v',oE (qI b) 50]/\Sl 7 nA H v' ((qI b).getD [])
theorem GB{s:kV}{o:lQ}{r:kV}(h:uG s=some (o,r)):r.length<s.length:=by
 unfold uG at h;split at h
 ·rename_i c r' k n rest f;have j:=(Dp f).2.1;have q:rest.length<s.length:=by
   have a:=f;rw[show(4:Nat)=3+1 from rfl,sY] at a;cases b:pY s with
   |none=>rw[b] at a;cases a
   |some x=>
    obtain⟨m,t⟩:=x;rw[b] at a;simp only at a;cases d:sY 3 t with
    |none=>rw[d] at a;cases a
    |some y=>obtain⟨l,u⟩:=y;rw[d] at a;simp only[aW,cD,bE] at a;obtain⟨_,rfl⟩:=a;have:=(Dp d).2.1;have:=(Jf b).1;omega
  split at h
  ·split at h
   ·rename_i p v g;have:=(Dp g).2.1;split at h
    ·rename_i t i e;have:=Av e;split at h;·cases h;omega
     ·cases h
    ·cases h
   ·cases h
  ·split at h
   ·rename_i t i e;have:=Av e;split at h;·cases h;omega
    ·cases h
   ·cases h
 ·cases h
theorem NA(f k:Nat)(b:kV)(h:b.length<=f):sr (f+k) b=sr f b:=by
 induction f generalizing b with
 |zero=>have:b=[]:=bN Zo;subst this;cases k<;>simp[sr]
 |succ f a=>
  rw[show f+1+k=(f+k)+1 from by omega];unfold sr;split;·rfl
  ·cases c:uG b with
   |none=>rfl
   |some x=>obtain⟨o,r⟩:=x;have:=GB c;simp only;rw[a r Zo]
theorem U7(H:kM)(b:kV)(w:b.length<=1000000):Fn prog 113 #[sv b] H (U6 b):=λW L=>by
 refine enter func113 ?_;refine U ?_;refine SC.oA 201 7 nA none ?_;refine mP (λm σ L'=>∃(t:kV) (e:List lQ) (A:Option Addr) (c:Nat),m=t.length/\t.length+e.length<=b.length/\qI b=(sr t.length t).map (e++·)/\L'=li 201 7 nA A c e::fz H::L/\
  ml σ [(0,sv t),(4,.slice A e.length c)]) b.length _ (s1 _) ⟨b,[],none,0,rfl,by simp,by simp[qI],rfl,rfl,rfl,trivial⟩ ?_
 rintro m σ _ ⟨t,e,A,c,rfl,hl,d,rfl,n⟩;obtain⟨y,rfl⟩:=n.open;refine U ?_;cases i:t with
 |nil=>
  subst i;have d:qI b=some e:=by rw[d];simp[sr]
  refine U ?_;refine kS ?_;exact m7 (c1 c0) results113 Zt Zt (λp hl h=>⟨_,by rw[d];rfl,by rw[d];exact h.sl m0⟩)
 |cons a t2=>
  rw[<-i];have j:t≠[]:=by rw[i];simp
  rw[show(t != ([]:kV))=true from by simpa using j];have z:0<t.length:=cA.2 j;obtain⟨f,hf⟩:∃f,t.length=f+1:=⟨t.length-1,by omega⟩;rw[hf,sr,ai j] at d;refine U ?_;refine md (GA t Zo W _) ?_;cases k:uG t with
  |none=>rw[k] at d;have d:qI b=none:=d;refine U ?_;intro q;refine U ?_;refine kS ?_;exact m7 (c1 (c1 c0)) results113 Zt Zt (λp hl h=>⟨_,by rw[d];rfl,by rw[d];exact Sl.nil _ _ _⟩)
  |some x=>
   obtain⟨o,r⟩:=x;have B:=GB k;rw[k] at d;have h:qI b=(sr r.length r).map ((e++[o])++·):=by have d:qI b=((sr f r).map (o::·)).map (e++·):=d;rw[d,show f=r.length+(f-r.length) from by omega,NA _ _ _ (aA _),di];congr 1;funext x;simp
   refine U ?_;intro q;refine U ?_;refine U ?_;intro s;refine U ?_;refine ap (l:=e) (news:=[o]) (oG (g:=s) (t:=201) (cs:=nA o) Zn rfl) Zl (λu v=>?_);refine U ?_;exact⟨r.length,_,by omega,Zu,r,e++[o],u,v,rfl,by simp;omega,h,rfl,rfl,rfl,trivial⟩
end
end Go.Proofs.YtkbifmngmocjnaaGreatDoor
