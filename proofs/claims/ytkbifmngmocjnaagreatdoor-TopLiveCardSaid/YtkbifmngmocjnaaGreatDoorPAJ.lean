/- Proved here, packed: what the parts Treeb Treec Treed Merge Mergb Mergc prove (rules of the walk, contracts of functions, plain laws). Conditions: in each statement. -/
import Derived.Test.YtkbifmngmocjnaaGreatDoorPAI
namespace Go.Proofs.YtkbifmngmocjnaaGreatDoor
set_option maxRecDepth 100000
set_option maxHeartbeats 8000000
set_option linter.all false
section
open Top Proofs.Tryz
theorem Jg(n:la)(id:Int):Pf prog 245 #[qk n,nI id] (nI (w5 n.id id)):=λW L=>by refine enter func245 ?_;refine U ?_;intro a;refine U ?_;refine md (M4 n.id id W _) ?_;refine U ?_;refine kS ?_;exact lj results245 Zt lv ⟨rfl,rfl⟩
theorem U8(H:kM)(v:Value)(l:List la)(n:pq H v l)(id:Int):Rf prog 244 #[v,nI id,.func (.func 245) #[] #[]] H (.tuple #[nN (m8 l id),.bool (nr l id).isSome]):=λW L=>by
 obtain⟨⟨A,c,rfl,b,w⟩,f⟩:=n;have y:=f.len;obtain⟨o,p⟩:=f.xk id;refine enter func244 ?_;refine U ?_;refine mP (λm σ L'=>∃lo a:Nat,m=a-lo/\lo<=m8 l id/\m8 l id<=a/\a<=l.length/\L'=fz H::L/\ml σ [(0,.slice A l.length c),(1,nI id),(2,.func (.func 245) #[] #[]),(8,nN l.length),(9,nN lo),(10,nN a)]) l.length _ (s1 _) ⟨0,l.length,by simp,by simp,o,by simp,rfl,rfl,rfl,rfl,rfl,rfl,rfl,trivial⟩ ?_;rintro m σ _ ⟨lo,a,rfl,z,B,C,rfl,q⟩;obtain⟨D,rfl⟩:=q.open;refine U ?_;refine mE rfl (λb=>?_) (λb=>?_)
 ·have b:=am b;have E:lo<a:=by omega
  have g:(lo+a)/2<l.length:=by omega
  have i:l[(lo+a)/2]? =some l[(lo+a)/2]:=ad g;have j:=p _ g;generalize F:l[(lo+a)/2]=x at*;have k:(oR x).length=8:=rfl;refine U ?_;rw[show(lo:Int)+(a:Int)=((lo+a:Nat):Int) from by omega];refine xN rfl rfl rfl (SP (lo+a) Zo) rfl rfl ?_;refine SO (s:=1) rfl rfl Zd rfl rfl ?_;refine xN rfl rfl rfl (LP ((lo+a)/2^ 1) Zo) rfl rfl ?_;rw[show(lo+a)/2^ 1=(lo+a)/2 from by omega];refine U ?_;refine md (fst:=[]) (cap:=[]) (Jg x id W _) ?_;by_cases d:x.id<id;·rw[show w5 x.id id=-1 from by unfold w5;rw[aj d]];have:=j.1 d;refine U ?_;exact⟨a-((lo+a)/2+1),_,by omega,s1 _,(lo+a)/2+1,a,rfl,by omega,by omega,by omega,rfl,rfl,rfl,rfl,rfl,rfl,rfl,trivial⟩
  ·have G:¬(lo+a)/2<m8 l id:=λh=>d (j.2 h);rw[show w5 x.id id=(if id<x.id then 1 else 0) from by unfold w5;rw[ai d]];refine U ?_;rw[show decide ((if id<x.id then(1:Int) else 0)<0)=false from by split<;>rfl];refine U ?_;exact⟨(lo+a)/2-lo,_,by omega,s1 _,lo,(lo+a)/2,rfl,by omega,by omega,by omega,rfl,rfl,rfl,rfl,rfl,rfl,rfl,trivial⟩
 ·have b:=av b;have r:lo=m8 l id:=by omega
  subst r;refine U ?_;rcases f.find id with⟨e,t,hf⟩|⟨hf,u⟩
  ·rw[show decide ((m8 l id:Int)<(l.length:Int))=true from Zq];have i:l[m8 l id]? =some l[m8 l id]:=ad e;generalize l[m8 l id]=x at*;have k:(oR x).length=8:=rfl;refine U ?_;refine md (fst:=[]) (cap:=[]) (Jg x id W _) ?_;rw[show w5 x.id id=0 from by unfold w5;rw[t];simp];refine U ?_;refine kS ?_;exact og results244 Zt Zt lv ⟨by rw[hf]<;>rfl,rfl⟩
  ·by_cases e:m8 l id<l.length;·rw[show decide ((m8 l id:Int)<(l.length:Int))=true from Zq];have I:=u e;have i:l[m8 l id]? =some l[m8 l id]:=ad e;generalize l[m8 l id]=x at*;have k:(oR x).length=8:=rfl;refine U ?_;refine md (fst:=[]) (cap:=[]) (Jg x id W _) ?_;refine U ?_;rw[show(w5 x.id id==0)=false from by unfold w5;split<;>(try split)<;>simp<;>omega];refine U ?_;refine kS ?_;exact og results244 Zt Zt lv ⟨by rw[hf]<;>rfl,rfl⟩
   ·rw[show decide ((m8 l id:Int)<(l.length:Int))=false from Zq];refine U ?_;refine kS ?_;exact og results244 Zt Zt lv ⟨by rw[hf]<;>rfl,rfl⟩
theorem E8(H:kM)(v:Value)(l:List la)(a:pq H v l)(id:Int):Rf prog 197 #[v,nI id] H (.tuple #[nN (m8 l id),.bool (nr l id).isSome]):=λW L=>by obtain⟨A,c,rfl,b⟩:=a.sl;refine enter func197 ?_;refine U ?_;refine mi (U8 H _ l a id) ?_;refine U ?_;refine kS ?_;exact og results197 Zt Zt lv ⟨rfl,rfl⟩
theorem U9(H:kM)(v:Value)(l:List la)(a:pq H v l)(id:Int):Rf prog 146 #[v,nI id] H (.tuple #[qk ((nr l id).getD la.z),.bool (nr l id).isSome]):=λW L=>by
 obtain⟨A,c,rfl,d,e⟩:=a.sl;refine enter func146 ?_;refine U ?_;intro f;refine U ?_;refine mi (Cj H _ l a) ?_;refine U ?_;refine mi (E8 H _ l a id) ?_;rcases a.ok.find id with⟨b,g,hf⟩|⟨hf,h⟩;·rw[hf];have i:l[m8 l id]? =some l[m8 l id]:=ad b;generalize l[m8 l id]=x at*;have j:(oR x).length=8:=rfl;refine U ?_;refine kS ?_;exact og results146 (.agg (cs:=oR x) inferInstance rfl lW rfl) Zt lv ⟨rfl,rfl⟩
 ·rw[hf];refine U ?_;refine kS ?_;exact og results146 (.agg (cs:=oR la.z) inferInstance rfl lW rfl) Zt lv ⟨rfl,rfl⟩
theorem NB(H:kM)(v:Value)(l:List la)(j:pq H v l)(id:Int):Fn prog 122 #[v,nI id] H (λk r=>Sl 1 oY k r (oH l id)):=λW L=>by
 obtain⟨A,c,rfl,h,y⟩:=j.sl;have z:=j.ok.len;refine enter func122 ?_;refine U ?_;refine CW ?_;refine U ?_;refine SC.oA 3 1 oY none ?_;refine mP (λm σ L'=>∃(a:Int) (b:List Int) (B:Option Addr) (d:Nat),m=l.length-b.length/\b.length<=l.length/\oH l id=b++qQ l (l.length-b.length) a/\
  L'=li 3 1 oY B d b::fz H::L/\ml σ [(0,.slice A l.length c),(1,nI a),(5,.slice B b.length d)]) l.length _ (s1 _) ⟨id,[],none,0,by simp,by simp,by simp[oH],rfl,rfl,rfl,rfl,trivial⟩ ?_
 rintro m σ _ ⟨a,b,B,d,rfl,C,e,rfl,p⟩;obtain⟨D,rfl⟩:=p.open;refine U ?_;refine mE rfl (λh=>?_) (λh=>?_)
 ·have h:=am h;obtain⟨f,hf⟩:∃f,l.length-b.length=f+1:=⟨l.length-b.length-1,by omega⟩;rw[hf,qQ] at e;refine U ?_;refine mi (E8 H _ l j a) ?_;rcases j.ok.find a with⟨q,E,o⟩|⟨o,F⟩
  ·rw[o] at e⊢;have G:l[m8 l a]? =some l[m8 l a]:=ad q;generalize l[m8 l a]=x at*;simp only at e;refine U ?_;by_cases n:x.lZ=-1;·rw[show(x.lZ==-1)=true from by simpa using n];rw[aj n,aP] at e;refine U ?_;refine kS ?_;exact lX (c1 c0) results122 Zt (λk hl i=>by rw[e];exact i.sl m0)
   ·rw[show(x.lZ==-1)=false from by simpa using n];rw[ai n] at e;refine U ?_;intro s;refine U ?_;refine ap (l:=b) (news:=[x.lZ]) (oG (g:=s) (t:=3) (cs:=oY x.lZ) Zn rfl) Zl (λu w=>?_);refine U ?_;exact⟨l.length-(b++[x.lZ]).length,_,by simp;omega,Zu,x.lZ,b++[x.lZ],u,w,rfl,by simp;omega,by rw[e,show l.length-(b++[x.lZ]).length=f from by simp;omega];simp,rfl,rfl,rfl,rfl,trivial⟩
  ·rw[o] at e⊢;rw[aP] at e;refine U ?_;refine kS ?_;exact lX (c1 c0) results122 Zt (λk hl i=>by rw[e];exact i.sl m0)
 ·have h:=av h;rw[show l.length-b.length=0 from by omega,qQ,aP] at e;refine U ?_;refine kS ?_;exact lX (c1 c0) results122 Zt (λk hl i=>by rw[e];exact i.sl m0)
theorem Jh(H:kM)(v:Value)(l:List la)(a:pq H v l)(id:Int):Fn prog 59 #[v,nI id] H (λb r=>Sl 1 oY b r (oH l id)):=λW L=>by obtain⟨A,c,rfl,g⟩:=a.sl;refine enter func59 ?_;refine U ?_;refine mi (Cj H _ l a) ?_;refine U ?_;refine l4 (NB H _ l a id) ?_;rintro h r i ⟨B,d,rfl,e,f⟩;refine U ?_;refine kS ?_;exact lX c0 results59 Zt (λb hl _=>⟨B,d,rfl,e,f.up hl⟩)
theorem Va(H:kM)(v:Value)(l:List Int)(d:Sl 1 oY H v l)(x:Int):Rf prog 221 #[v,nI x] H (nI (m9 l (λy=>x==y))):=λW L=>by
 obtain⟨A,c,rfl,a,n⟩:=d;refine enter func221 ?_;refine U ?_;refine mP (λr σ L'=>L'=fz H::L/\∃k:Nat,k<=l.length/\r=l.length-k/\ml σ [(0,.slice A l.length c),(1,nI x),(7,nN l.length),(8,nN k)]/\∀i w,i<k->l[i]? =some w->(x==w)=false) l.length
  _ (s1 _) ⟨rfl,0,by omega,by omega,⟨rfl,rfl,rfl,rfl,trivial⟩,λi w f=>by omega⟩ ?_
 rintro r σ _ ⟨rfl,k,o,rfl,g,mz⟩;obtain⟨q,rfl⟩:=g.open;refine U ?_;refine mE rfl (λa=>?_) (λa=>?_)
 ·have h:k<l.length:=by have:=am a;omega
  obtain⟨e,b⟩:∃e,l[k]? =some e:=⟨_,ad h⟩;have s:(oY e)[0]? =some (nI e):=rfl;refine U ?_;refine mE rfl (λa=>?_) (λj=>?_);·refine U ?_;refine kS ?_;exact lj results221 Zt lv ⟨by rw[show m9 l (λy=>x==y)=(k:Int) from by unfold m9;rw[yN (p:=λy=>x==y) b a mz]]<;>rfl,rfl⟩
  ·refine U ?_;exact⟨l.length-(k+1),_,by omega,s1 _,rfl,k+1,by omega,rfl,⟨rfl,rfl,rfl,rfl,trivial⟩,yP (p:=λy=>x==y) b j mz⟩
 ·refine U ?_;refine kS ?_;have a:=av a;have:l.findIdx? (λy=>x==y)=none:=yO (λi w f m=>mz i w Zo m);exact lj results221 Zt lv ⟨by unfold m9;rw[this]<;>rfl,rfl⟩
theorem Fa(H:kM)(v:Value)(l:List Int)(a:Sl 1 oY H v l)(x:Int):Rf prog 147 #[v,nI x] H (.bool (l.contains x)):=λW L=>by
 obtain⟨A,c,rfl,d⟩:=Zi a;refine enter func147 ?_;refine U ?_;refine mi (Va H _ l a x) ?_;refine U ?_;refine kS ?_;have b:l.contains x=l.any (λy=>x==y):=by rw[List.any_beq]
 exact lj results147 Zt lv ⟨by rw[b,<-Au]<;>rfl,rfl⟩
theorem xC(H:kM)(v u:Value)(l e:List la)(k:Sl 8 oR H v l)(n:Sl 8 oR H u e)(a b:Nat)(D:a<=l.length)(E:b<=l.length)(F:a+e.length+(l.length-b)<=1000000000)(G:l.length<=1000000000):Fn prog 296 #[v,nN a,nN b,u] H (λi r=>Sl 8 oR i r (l.take a++e++l.drop b)):=λW L=>by
 obtain⟨A,c,rfl,I,j⟩:=k;obtain⟨B,d,rfl,J,p⟩:=n;refine enter func296 ?_;have f:(l.take a).length=a:=by simp;omega
 have q:(l.drop b).length=l.length-b:=by simp
 generalize K:a+e.length+(l.length-b)=N at*;refine U ?_;rw[show(a:Int)+(e.length:Int)+(l.length:Int)-(b:Int)=(N:Int) from by omega];refine De oR la.z N rfl rfl Zo Zo rfl rfl rfl rfl rfl (λg=>?_);refine U ?_;refine rW (h:=a) rfl rfl Zo rfl rfl ?_;refine IL (enc:=oR) (pre:=[]) (news:=l.take a) (m:=N) (s:=8) la.z rfl (λ_=>rfl) (λ_=>rfl) (by rw[f]<;>rfl) (nS Zn (Sl.take j a) (le_refl _)) Zo p0 rfl (λ_=>trivial) rfl rfl ?_;rw[f,aS];refine U ?_;refine Io (N:=N) rfl rfl Zo rfl rfl (λo t w=>?_);refine U ?_;refine IL (enc:=oR) (pre:=l.take a) (news:=e) (m:=N-a) (s:=8) la.z rfl (λh=>by rw[f];exact t Zo) (λh=>w Zo) rfl (nS Zn p (le_refl _)) Zo p0 rfl (λ_=>trivial) rfl rfl ?_;refine U ?_;rw[show(a:Int)+(e.length:Int)=((a+e.length:Nat):Int) from by omega];refine U ?_;refine nq [0,1,2,3,4,5,6] Zk Zk Zk Zk Zk (λ_ _ _ h=>h) ?_;refine U ?_;refine Io (N:=N) rfl rfl Zo rfl rfl (λM x y=>?_);refine U ?_;refine vX (l:=b) rfl rfl Zo rfl rfl ?_;refine IL (enc:=oR) (pre:=l.take a++e) (news:=l.drop b) (m:=N-a-e.length) (s:=8) la.z (by rw[show N-a-e.length=N-(a+e.length) from by omega]<;>rfl) (λh=>by rw[ak,f];exact x Zo) (λh=>y Zo) (by rw[q]<;>rfl)
  (nS Zn (Sl.drop j Zo b) (le_refl _)) Zo p0 rfl (λ_=>Sub.nil) rfl rfl ?_
 rw[show N-a-e.length-(l.drop b).length=0 from by omega,j8,aP];refine U ?_;refine kS ?_;exact lX (c1 c0) results296 Zt (λi hl C=>⟨some ⟨g,0,none⟩,N,by rw[show(l.take a++e++l.drop b).length=N from by simp;omega]<;>rfl,⟨by simp;omega,by omega⟩,uF (C.kn _ m0) rfl⟩)
theorem Ji(H:kM)(v:Value)(l:List la)(a:pq H v l):Fn prog 295 #[v] H (λb r=>Sl 8 oR b r l):=λW L=>by have h:=a.ok.len;obtain⟨A,c,rfl,i⟩:=Zi a.sl;refine enter func295 ?_;refine U ?_;refine l4 (xC H _ (.slice none 0 0) l [] a.sl (Sl.nil _ _ _) l.length l.length (aA _) (aA _) (by simp;omega) Zo) ?_;rintro j r k g;obtain⟨B,d,rfl,e,f⟩:=g;simp only[bf,aP,dm] at e f⊢;refine U ?_;refine kS ?_;exact lX c0 results295 Zt (λb hl _=>⟨B,d,rfl,e,f.up hl⟩)
theorem Vb(H:kM)(v:Value)(l:List la)(a:pq H v l)(o:lQ)(b e:Nat)(i:H.kn (nX b [v]))(j:H.kn (nX e (nA o))):Fn prog 297 #[.pointer (some ⟨e,0,none⟩),.pointer (some ⟨b,0,none⟩)] H (λ_ r=>r=.bool (o.lZ==o.node||(oH l o.lZ).contains o.node)):=λW L=>by
 obtain⟨A,c,rfl,k⟩:=Zi a.sl;refine enter func297 ?_;refine U ?_;refine nq [0,1,2,3,4,5,6,7,8,10,11,9,12,13,14] Zk Zk Zk Zk Zk (λ_ _ _ h=>h) ?_;refine U ?_;cases m:(o.lZ==o.node) with
 |true=>refine U ?_;refine kS ?_;exact lX c0 results297 Zt (λ_ _ _=>rfl)
 |false=>refine U ?_;refine l4 (NB H _ l a o.lZ) ?_;rintro g r n f;obtain⟨B,d,rfl,p⟩:=Zi f;refine U ?_;refine mi (Fa g _ _ f o.node) ?_;refine U ?_;refine kS ?_;exact lX c0 results297 Zt (λ_ _ _=>rfl)
def qm(l:List la)(id:Int):Nat:=m8 l id+(if(nr l id).isSome then 1 else 0)
theorem nb.up{l:List la}(h:nb l)(id:Int):qm l id<=l.length/\m8 l id<=qm l id:=by
 unfold qm;rcases h.find id with⟨a,b,hf⟩|⟨hf,c⟩
 ·rw[hf];simp;omega
 ·rw[hf];have:=(h.xk id).1;simp;exact this
theorem nb.low{l:List la}(h:nb l)(id:Int):l.filter (λm=>decide (m.id<id))=l.take (m8 l id):=by
 obtain⟨f,c⟩:=h.xk id;conv=>lhs;rw[<-bT (m8 l id) l]
 rw[cm];have d:(l.take (m8 l id)).filter (λm=>decide (m.id<id))=l.take (m8 l id):=by rw[du];intro m a;obtain⟨i,b,rfl⟩:=cr a;simp only[aC] at b;rw[ky];simpa using(c i Zo).2 Zo
 have e:(l.drop (m8 l id)).filter (λm=>decide (m.id<id))=[]:=by rw[cT];intro m a;obtain⟨i,b,rfl⟩:=cr a;simp only[bi] at b;rw[jb];have:=(c (m8 l id+i) Zo);simp only[bz];omega
 rw[d,e,aP]
theorem nb.high{l:List la}(h:nb l)(id:Int):l.filter (λm=>decide (id<m.id))=l.drop (qm l id):=by
 obtain⟨s,b⟩:=h.xk id;obtain⟨t,u⟩:=h.up id;conv=>lhs;rw[<-bT (qm l id) l]
 rw[cm];have d:=h.find id;have n:(l.take (qm l id)).filter (λm=>decide (id<m.id))=[]:=by
  rw[cT];intro m c;obtain⟨i,a,rfl⟩:=cr c;simp only[aC] at a;rw[ky];simp only[bz];have e:=b i Zo;rcases eM i (m8 l id) with o|v
  ·have:=e.2 o;omega
  ·rcases d with⟨p,q,hf⟩|⟨hf,f⟩;·(have:i=m8 l id:=by unfold qm at a;rw[hf] at a;simp at a;omega);subst this;omega
   ·unfold qm at a;rw[hf] at a;simp at a;omega
 have r:(l.drop (qm l id)).filter (λm=>decide (id<m.id))=l.drop (qm l id):=by
  rw[du];intro m c;obtain⟨i,a,rfl⟩:=cr c;simp only[bi] at a;rw[jb];simp only[bz];have e:=b (qm l id+i) Zo;rcases d with⟨p,q,hf⟩|⟨hf,f⟩
  ·have g:qm l id=m8 l id+1:=by unfold qm;rw[hf];rfl
   have:=h.at (i:=m8 l id) (j:=qm l id+i) Zo Zo;omega
  ·have g:qm l id=m8 l id:=by unfold qm;rw[hf];rfl
   have w:l[qm l id+i].id≠id:=by(rcases cM i with k|k;·subst k;have:=f Zo;simpa[g] using this);·have:=h.at (i:=m8 l id) (j:=qm l id+i) Zo Zo;have x:=(b (m8 l id) Zo);omega
   omega
 rw[n,r,aS]
theorem nb.Jj{l:List la}(h:nb l)(n:la):qR l n=l.take (m8 l n.id)++[n]++l.drop (qm l n.id):=by unfold qR;rw[h.low,h.high];simp
theorem nb.Dq{l:List la}(h:nb l)(id:Int):BT l id=l.take (m8 l id)++l.drop (qm l id):=by
 rw[<-h.low,<-h.high];unfold BT;have hp:=h.1;clear h;induction l with
 |nil=>rfl
 |cons n l e=>
  have c:=bJ.1 hp;simp only[cX];rw[e c.2];by_cases b:n.id<id
  ·have:n.id≠id:=by omega
   have a:¬id<n.id:=by omega
   simp[this,b,a]
  ·by_cases d:n.id=id;·(have a:¬id<n.id:=by omega);simp[d,b]
   ·have a:id<n.id:=by omega
    (have f:l.filter (λm=>decide (m.id<id))=[]:=by rw[cT];intro m g;have:=c.1 m g;simp;omega);simp[d,b,a,f]
theorem nb.sub{l m:List la}(h:nb l)(a:m.Sublist l):nb m:=⟨h.1.sublist a,λn b=>h.2 n (a.subset b)⟩
theorem nb.put{l:List la}(h:nb l){n:la}(e:(oO n.id).isSome=true):nb (qR l n):=by
 unfold qR;refine⟨?_,?_⟩
 ·rw[ek];refine⟨h.1.sublist (dJ ..),bJ.2 ⟨λm c=>?_,h.1.sublist (dJ ..)⟩,λa f b d=>?_⟩;·have:=(bp.1 c).2;simpa using this
  ·have g:a.id<n.id:=by have:=(bp.1 f).2;simpa using this
   rcases aJ.1 d with rfl|d;·exact g
   ·(have i:n.id<b.id:=by have:=(bp.1 d).2;simpa using this);omega
 ·intro m c;rcases aQ.1 c with c|c
  ·exact h.2 m (bp.1 c).1
  ·rcases aJ.1 c with rfl|c;·exact e
   ·exact h.2 m (bp.1 c).1
theorem nb.cut{l:List la}(h:nb l)(id:Int):nb (BT l id):=h.sub (dJ ..)
theorem nb.do{l:List la}(h:nb l)(o:lQ):nb (oZ l o).1:=by
 unfold oZ;split;·exact h
 ·rename_i a;have b:nj o=true:=by
   cases c:nj o;·simp[c] at a
   ·rfl
  have d:=(E7 b).2.2;split;·exact h
  ·refine h.put ?_;have e:∀x:la,x=(nr l o.node).getD ⟨o.node,-1,[],mN.z,[],mN.z⟩->x.id=o.node:=by
    rintro x rfl;rcases h.find o.node with⟨g,f,hf⟩|⟨hf,i⟩;·rw[hf];exact f
    ·rw[hf];rfl
   split<;>(simp only[e _ rfl];exact d)
theorem nb.Fb{l:List la}(h:nb l)(o:lQ)(u:tL):nb (wT l o u):=by
 unfold wT;split;·exact h
 ·split;·rename_i a;simp only[aF,ck] at a;refine h.put ?_;rw[a.2];exact a.1.1
  ·exact h.cut _
def Vc(x:List la×tL)(H:kM)(r:Value):Prop:=∃v',r=.tuple #[v',MY x.2]/\Sl 8 oR H v' x.1
theorem NC(H:kM)(v:Value)(l:List la)(j:pq H v l)(o:lQ)(hf:pn o):Fn prog 268 #[v,qW o] H (Vc (oZ l o)):=λW L=>by
 have kF:=j.ok.len;obtain⟨A,c,rfl,hc,hr⟩:=Zi j.sl;refine enter func268 ?_;have a:oZ l o=if !(rZ l)||!(nj o) then(l,tL.z)
  else if o.kind=1/\(o.lZ=o.node\/o.node∈oH l o.lZ) then(l,tL.z)
  else(qR l (if o.kind=1 then{(nr l o.node).getD ⟨o.node,-1,[],mN.z,[],mN.z⟩ with lZ:=o.lZ,name:=o.name,pg:=o.tm} else{(nr l o.node).getD ⟨o.node,-1,[],mN.z,[],mN.z⟩ with data:=o.data,xP:=o.tm}),⟨true,(nr l o.node).isSome,(nr l o.node).getD la.z⟩):=rfl
 rw[ud.2 j.ok] at a;refine U ?_;intro J;refine U ?_;intro K;refine U ?_;intro g5;refine U ?_;refine tI (hf:=f1 (f1 f0)) (o1 (o1 o0)) ?_;intro H1 P Q;refine tI (hf:=f1 f0) (o1 o0) ?_;intro D M R;have u:=j.up (le_trans P M);refine mi (Cj D _ l u) ?_;refine U ?_;refine md (Ck o hf W _) ?_;cases G:nj o with
 |false=>rw[G] at a;refine U ?_;refine l4 (hp:=f1 f0) (Ji D _ l (u.up (le_refl _))) ?_;rintro w r k ⟨B,d,rfl,b⟩;refine U ?_;refine kS ?_;exact m7 (c1 c0) results268 Zt (.agg (cs:=yQ tL.z) inferInstance rfl lW rfl) (λm hl _=>⟨_,by rw[a]<;>rfl,by rw[a];exact Sl.up ⟨B,d,rfl,b⟩ hl⟩)
 |true=>
  rw[G] at a;simp only[eV,Bool.or_self,aM,bH] at a;have E:∀n:la,n.id=o.node->qR l n=l.take (m8 l o.node)++[n]++l.drop (qm l o.node):=λn h=>by rw[j.ok.Jj,h]
  have h3:=(E7 G).2.2;by_cases i:o.kind=1
  ·rw[aj i] at a;refine U ?_;rw[show(o.kind==1)=true from by simpa using i];refine U ?_;refine l4 (hp:=f1 f0) (fst:=[]) (cap:=[.pointer (some ⟨K,0,none⟩),.pointer (some ⟨J,0,none⟩)]) (Vb D _ l u o J K (Q.up M) R) ?_;rintro N _ O rfl;by_cases F:o.lZ=o.node\/o.node∈oH l o.lZ;·rw[aj ⟨i,F⟩] at a;rw[show(o.lZ==o.node||(oH l o.lZ).contains o.node)=true from by simpa using F];refine U ?_;refine l4 (hp:=f1 f0) (Ji N _ l (u.up O)) ?_;rintro w r k ⟨B,d,rfl,b⟩;refine U ?_;refine kS ?_;exact m7 (c1 c0) results268 Zt (.agg (cs:=yQ tL.z) inferInstance rfl lW rfl) (λm hl _=>⟨_,by rw[a]<;>rfl,by rw[a];exact Sl.up ⟨B,d,rfl,b⟩ hl⟩)
   ·(rw[ai (λh=>F h.2)] at a;rw[show(o.lZ==o.node||(oH l o.lZ).contains o.node)=false from by simpa using F];refine U ?_;have p:=u.up O;refine mi (E8 N _ l p o.node) ?_;have y:=j.ok.up o.node;refine U ?_;intro S;refine U ?_;refine U ?_;intro T;refine U ?_;rcases j.ok.find o.node with⟨I,C,e⟩|⟨e,V⟩);·(have f:qm l o.node=m8 l o.node+1:=by unfold qm;rw[e];rfl);rw[e] at a⊢;have X:l[m8 l o.node]? =some l[m8 l o.node]:=ad I;generalize l[m8 l o.node]=x at*;have Y:(oR x).length=8:=rfl;rw[f] at y;refine U ?_;refine rM (vs:=oR x) rfl rfl rfl rfl rfl p0 rfl (λ_=>trivial) rfl ?_;refine U ?_;rw[show(o.kind==1)=true from by simpa using i];refine U ?_;refine Ap (o1 o0) (lC.Z [0,2,4] (lC.p8 [1] (lC.Z [6] (lC.p8 [3,5] (lC.Z [7,8,9,10,11] .mZ))))) Zk Zk Zk Zk (λ_ _ _ h=>h) ?_;refine mM _ _ _ _ Zk ?_;refine U ?_;refine qu _ _ _ Zk ?_;refine U ?_;refine mM _ _ _ _ Zk ?_;refine U ?_;refine qu _ _ _ Zk ?_;refine U ?_;refine mM _ _ _ _ Zk ?_;refine U ?_;refine rM (vs:=[nI o.tm.c,nI o.tm.r]) rfl rfl rfl rfl rfl (p1 p0) rfl (λ_=>.of Zu) rfl ?_;refine U ?_;refine Ap (o1 (o1 o0)) (lC.Z [1,2] (lC.p8 [0,3,6] (lC.Z [4,5,7,8] .mZ))) Zk Zk Zk Zk (λ_ _ _ h=>h) ?_;refine mM _ _ _ _ Zk ?_;refine U ?_;refine qu _ _ _ Zk ?_;refine U ?_;refine mM _ _ _ _ Zk ?_;refine U ?_;intro g;refine U ?_;refine Dd o0 (f1 (f1 (f1 f0))) (λq s t=>xC q _ (.slice (some ⟨g,0,none⟩) 1 1) l [({x with lZ:=o.lZ,name:=o.name,pg:=o.tm}:la)] (p.sl.up s) ⟨some ⟨g,0,none⟩,1,rfl,⟨aA _,by decide⟩,uF t rfl⟩ (m8 l o.node) (m8 l o.node+1) Zo Zo (by simp;omega) Zo) ?_;rintro w r k _ ⟨B,d,rfl,b⟩;refine zX rfl rfl rfl ?_;refine xL (vs:=yQ ⟨true,true,x⟩) rfl rfl rfl rfl (p1 (p1 p0)) Zr rfl (λ_=>.trans (Sub.fz k (p1 (p1 p0))) (.of Zu)) rfl ?_;refine U ?_;refine kS ?_;exact m7 (c1 (c1 (c1 c0))) results268 Zt (.agg (cs:=yQ ⟨true,true,x⟩) inferInstance rfl lW rfl) (λm hl _=>⟨_,by rw[a]<;>rfl,by rw[a];show Sl 8 oR m _ (qR l ({x with lZ:=o.lZ,name:=o.name,pg:=o.tm}:la));rw[E ({x with lZ:=o.lZ,name:=o.name,pg:=o.tm}:la) (by first|exact C|rfl),f];exact Sl.up ⟨B,d,rfl,b⟩ hl⟩)
    ·(have f:qm l o.node=m8 l o.node:=by unfold qm;rw[e];rfl);rw[e] at a⊢;rw[f] at y;refine U ?_;rw[show(o.kind==1)=true from by simpa using i];refine U ?_;refine Ap (o1 o0) (lC.Z [0,2,4] (lC.p8 [1] (lC.Z [6] (lC.p8 [3,5] (lC.Z [7,8,9,10,11] .mZ))))) Zk Zk Zk Zk (λ_ _ _ h=>h) ?_;refine mM _ _ _ _ Zk ?_;refine U ?_;refine qu _ _ _ Zk ?_;refine U ?_;refine mM _ _ _ _ Zk ?_;refine U ?_;refine qu _ _ _ Zk ?_;refine U ?_;refine mM _ _ _ _ Zk ?_;refine U ?_;refine rM (vs:=[nI o.tm.c,nI o.tm.r]) rfl rfl rfl rfl rfl (p1 p0) rfl (λ_=>.of Zu) rfl ?_;refine U ?_;refine Ap (o1 (o1 o0)) (lC.Z [1,2] (lC.p8 [0,3,6] (lC.Z [4,5,7,8] .mZ))) Zk Zk Zk Zk (λ_ _ _ h=>h) ?_;refine mM _ _ _ _ Zk ?_;refine U ?_;refine qu _ _ _ Zk ?_;refine U ?_;refine mM _ _ _ _ Zk ?_;refine U ?_;intro g;refine U ?_;refine Dd o0 (f1 (f1 (f1 f0))) (λq s t=>xC q _ (.slice (some ⟨g,0,none⟩) 1 1) l [(⟨o.node,o.lZ,o.name,o.tm,[],mN.z⟩:la)] (p.sl.up s) ⟨some ⟨g,0,none⟩,1,rfl,⟨aA _,by decide⟩,uF t rfl⟩ (m8 l o.node) (m8 l o.node) Zo Zo (by simp;omega) Zo) ?_;rintro w r k _ ⟨B,d,rfl,b⟩;refine zX rfl rfl rfl ?_;refine xL (vs:=yQ ⟨true,false,la.z⟩) rfl rfl rfl rfl (p1 (p1 p0)) Zr rfl (λ_=>.trans (Sub.fz k (p1 (p1 p0))) (.of Zu)) rfl ?_;refine U ?_;refine kS ?_;exact m7 (c1 (c1 (c1 c0))) results268 Zt (.agg (cs:=yQ ⟨true,false,la.z⟩) inferInstance rfl lW rfl) (λm hl _=>⟨_,by rw[a]<;>rfl,by rw[a];show Sl 8 oR m _ (qR l (⟨o.node,o.lZ,o.name,o.tm,[],mN.z⟩:la));rw[E (⟨o.node,o.lZ,o.name,o.tm,[],mN.z⟩:la) (by first|exact C|rfl),f];exact Sl.up ⟨B,d,rfl,b⟩ hl⟩)
  ·rw[ai (λh=>i h.1),ai i] at a;refine U ?_;rw[show(o.kind==1)=false from by simpa using i];refine U ?_;have p:=u.up (le_refl _);refine mi (E8 D _ l p o.node) ?_;have y:=j.ok.up o.node;refine U ?_;intro S;refine U ?_;refine U ?_;intro T;refine U ?_;rcases j.ok.find o.node with⟨I,C,e⟩|⟨e,V⟩
   ·(have f:qm l o.node=m8 l o.node+1:=by unfold qm;rw[e];rfl);rw[e] at a⊢;have X:l[m8 l o.node]? =some l[m8 l o.node]:=ad I;generalize l[m8 l o.node]=x at*;have Y:(oR x).length=8:=rfl;rw[f] at y;refine U ?_;refine rM (vs:=oR x) rfl rfl rfl rfl rfl p0 rfl (λ_=>trivial) rfl ?_;refine U ?_;rw[show(o.kind==1)=false from by simpa using i];refine U ?_;refine Ap (o1 o0) (lC.Z [0,2] (lC.p8 [1] (lC.Z [4] (lC.p8 [3] (lC.Z [5,6,7] .mZ))))) Zk Zk Zk Zk (λ_ _ _ h=>h) ?_;refine mM _ _ _ _ Zk ?_;refine U ?_;refine qu _ _ _ Zk ?_;refine U ?_;refine mM _ _ _ _ Zk ?_;refine U ?_;refine qu _ _ _ Zk ?_;refine U ?_;refine mM _ _ _ _ Zk ?_;refine U ?_;refine rM (vs:=[nI o.tm.c,nI o.tm.r]) rfl rfl rfl rfl rfl (p1 p0) rfl (λ_=>.of Zu) rfl ?_;refine U ?_;refine Ap (o1 (o1 o0)) (lC.Z [1,2] (lC.p8 [0,3,6] (lC.Z [4,5,7,8] .mZ))) Zk Zk Zk Zk (λ_ _ _ h=>h) ?_;refine mM _ _ _ _ Zk ?_;refine U ?_;refine qu _ _ _ Zk ?_;refine U ?_;refine mM _ _ _ _ Zk ?_;refine U ?_;intro g;refine U ?_;refine Dd o0 (f1 (f1 (f1 f0))) (λq s t=>xC q _ (.slice (some ⟨g,0,none⟩) 1 1) l [({x with data:=o.data,xP:=o.tm}:la)] (p.sl.up s) ⟨some ⟨g,0,none⟩,1,rfl,⟨aA _,by decide⟩,uF t rfl⟩ (m8 l o.node) (m8 l o.node+1) Zo Zo (by simp;omega) Zo) ?_;rintro w r k _ ⟨B,d,rfl,b⟩;refine zX rfl rfl rfl ?_;refine xL (vs:=yQ ⟨true,true,x⟩) rfl rfl rfl rfl (p1 (p1 p0)) Zr rfl (λ_=>.trans (Sub.fz k (p1 (p1 p0))) (.of Zu)) rfl ?_;refine U ?_;refine kS ?_;exact m7 (c1 (c1 (c1 c0))) results268 Zt (.agg (cs:=yQ ⟨true,true,x⟩) inferInstance rfl lW rfl) (λm hl _=>⟨_,by rw[a]<;>rfl,by rw[a];show Sl 8 oR m _ (qR l ({x with data:=o.data,xP:=o.tm}:la));rw[E ({x with data:=o.data,xP:=o.tm}:la) (by first|exact C|rfl),f];exact Sl.up ⟨B,d,rfl,b⟩ hl⟩)
   ·(have f:qm l o.node=m8 l o.node:=by unfold qm;rw[e];rfl);rw[e] at a⊢;rw[f] at y;refine U ?_;rw[show(o.kind==1)=false from by simpa using i];refine U ?_;refine Ap (o1 o0) (lC.Z [0,2] (lC.p8 [1] (lC.Z [4] (lC.p8 [3] (lC.Z [5,6,7] .mZ))))) Zk Zk Zk Zk (λ_ _ _ h=>h) ?_;refine mM _ _ _ _ Zk ?_;refine U ?_;refine qu _ _ _ Zk ?_;refine U ?_;refine mM _ _ _ _ Zk ?_;refine U ?_;refine qu _ _ _ Zk ?_;refine U ?_;refine mM _ _ _ _ Zk ?_;refine U ?_;refine rM (vs:=[nI o.tm.c,nI o.tm.r]) rfl rfl rfl rfl rfl (p1 p0) rfl (λ_=>.of Zu) rfl ?_;refine U ?_;refine Ap (o1 (o1 o0)) (lC.Z [1,2] (lC.p8 [0,3,6] (lC.Z [4,5,7,8] .mZ))) Zk Zk Zk Zk (λ_ _ _ h=>h) ?_;refine mM _ _ _ _ Zk ?_;refine U ?_;refine qu _ _ _ Zk ?_;refine U ?_;refine mM _ _ _ _ Zk ?_;refine U ?_;intro g;refine U ?_;refine Dd o0 (f1 (f1 (f1 f0))) (λq s t=>xC q _ (.slice (some ⟨g,0,none⟩) 1 1) l [(⟨o.node,-1,[],mN.z,o.data,o.tm⟩:la)] (p.sl.up s) ⟨some ⟨g,0,none⟩,1,rfl,⟨aA _,by decide⟩,uF t rfl⟩ (m8 l o.node) (m8 l o.node) Zo Zo (by simp;omega) Zo) ?_;rintro w r k _ ⟨B,d,rfl,b⟩;refine zX rfl rfl rfl ?_;refine xL (vs:=yQ ⟨true,false,la.z⟩) rfl rfl rfl rfl (p1 (p1 p0)) Zr rfl (λ_=>.trans (Sub.fz k (p1 (p1 p0))) (.of Zu)) rfl ?_;refine U ?_;refine kS ?_;exact m7 (c1 (c1 (c1 c0))) results268 Zt (.agg (cs:=yQ ⟨true,false,la.z⟩) inferInstance rfl lW rfl) (λm hl _=>⟨_,by rw[a]<;>rfl,by rw[a];show Sl 8 oR m _ (qR l (⟨o.node,-1,[],mN.z,o.data,o.tm⟩:la));rw[E (⟨o.node,-1,[],mN.z,o.data,o.tm⟩:la) (by first|exact C|rfl),f];exact Sl.up ⟨B,d,rfl,b⟩ hl⟩)
theorem Vd(H:kM)(v:Value)(l:List la)(b:pq H v l)(o:lQ)(y:od o.node)(u:tL):Fn prog 266 #[v,qW o,MY u] H (λg r=>Sl 8 oR g r (wT l o u)):=λW L=>by
 have D:=b.ok.len;obtain⟨A,c,rfl,E,F⟩:=Zi b.sl;have z:=b.ok.up o.node;refine enter func266 ?_;have a:wT l o u=if !(rZ l)||!u.EI then l
  else if(oO o.node).isSome&&u.C8&&u.my.id==o.node then qR l u.my else BT l o.node:=rfl
 rw[ud.2 b.ok] at a;refine U ?_;intro G;refine U ?_;intro I;refine U ?_;refine mi (Cj H _ l b) ?_;cases q:u.EI with
 |false=>rw[q] at a;refine U ?_;rw[q];refine U ?_;refine l4 (hp:=f1 (f1 f0)) (Ji H _ l b) ?_;rintro i r j ⟨B,d,rfl,e⟩;refine U ?_;refine kS ?_;exact lX (c1 (c1 c0)) results266 Zt (λg hl _=>by rw[a];exact Sl.up ⟨B,d,rfl,e⟩ hl)
 |true=>
  rw[q] at a;simp only[eV,Bool.or_self,aM,bH] at a;refine U ?_;rw[q];refine U ?_;refine mi (E8 H _ l b o.node) ?_;rcases b.ok.find o.node with⟨J,K,n⟩|⟨n,M⟩
  ·have f:qm l o.node=m8 l o.node+1:=by unfold qm;rw[n];rfl
   rw[f] at z;rw[n];refine U ?_;refine md (Cc o.node y W _) ?_;refine U ?_;intro C;refine U ?_;cases k:(oO o.node).isSome with
   |false=>rw[k] at a;rw[ai (by simp[k])] at a;refine U ?_;refine l4 (hp:=f1 (f1 (f1 f0))) (xC H _ (.slice none 0 0) l [] b.sl (Sl.nil _ _ _) (m8 l o.node) (m8 l o.node+1) Zo Zo (by simp;omega) Zo) ?_;rintro i r j ⟨B,d,rfl,e⟩;refine U ?_;refine kS ?_;exact lX (c1 (c1 (c1 c0))) results266 Zt (λg hl _=>by rw[a,b.ok.Dq,f];rw[aP] at e;exact Sl.up ⟨B,d,by rw[aP]<;>rfl,e⟩ hl)
   |true=>
    rw[k] at a;refine U ?_;cases m:u.C8 with
    |false=>rw[m] at a;rw[ai (by simp[m])] at a;refine U ?_;refine l4 (hp:=f1 (f1 (f1 f0))) (xC H _ (.slice none 0 0) l [] b.sl (Sl.nil _ _ _) (m8 l o.node) (m8 l o.node+1) Zo Zo (by simp;omega) Zo) ?_;rintro i r j ⟨B,d,rfl,e⟩;refine U ?_;refine kS ?_;exact lX (c1 (c1 (c1 c0))) results266 Zt (λg hl _=>by rw[a,b.ok.Dq,f];rw[aP] at e;exact Sl.up ⟨B,d,by rw[aP]<;>rfl,e⟩ hl)
    |true=>
     rw[m] at a;refine U ?_;cases h:(u.my.id==o.node) with
     |false=>rw[h] at a;rw[ai (by simp[h])] at a;refine U ?_;refine l4 (hp:=f1 (f1 (f1 f0))) (xC H _ (.slice none 0 0) l [] b.sl (Sl.nil _ _ _) (m8 l o.node) (m8 l o.node+1) Zo Zo (by simp;omega) Zo) ?_;rintro i r j ⟨B,d,rfl,e⟩;refine U ?_;refine kS ?_;exact lX (c1 (c1 (c1 c0))) results266 Zt (λg hl _=>by rw[a,b.ok.Dq,f];rw[aP] at e;exact Sl.up ⟨B,d,by rw[aP]<;>rfl,e⟩ hl)
     |true=>(rw[h] at a;have s:u.my.id=o.node:=by simpa using h);simp only[Bool.and_self,cc] at a;refine U ?_;intro p;refine U ?_;refine Dd o0 (f1 (f1 (f1 f0))) (λt w x=>xC t _ (.slice (some ⟨p,0,none⟩) 1 1) l [u.my] (b.sl.up w) ⟨some ⟨p,0,none⟩,1,rfl,⟨aA _,by decide⟩,uF x rfl⟩ (m8 l o.node) (m8 l o.node+1) Zo Zo (by simp;omega) Zo) ?_;rintro i r j _ ⟨B,d,rfl,e⟩;refine U ?_;refine kS ?_;exact lX (c1 (c1 (c1 c0))) results266 Zt (λg hl _=>by rw[a,b.ok.Jj,s,f];exact Sl.up ⟨B,d,rfl,e⟩ hl)
  ·have f:qm l o.node=m8 l o.node:=by unfold qm;rw[n];rfl
   rw[f] at z;rw[n];refine U ?_;refine md (Cc o.node y W _) ?_;refine U ?_;intro C;refine U ?_;cases k:(oO o.node).isSome with
   |false=>rw[k] at a;rw[ai (by simp[k])] at a;refine U ?_;refine l4 (hp:=f1 (f1 (f1 f0))) (xC H _ (.slice none 0 0) l [] b.sl (Sl.nil _ _ _) (m8 l o.node) (m8 l o.node) Zo Zo (by simp;omega) Zo) ?_;rintro i r j ⟨B,d,rfl,e⟩;refine U ?_;refine kS ?_;exact lX (c1 (c1 (c1 c0))) results266 Zt (λg hl _=>by rw[a,b.ok.Dq,f];rw[aP] at e;exact Sl.up ⟨B,d,by rw[aP]<;>rfl,e⟩ hl)
   |true=>
    rw[k] at a;refine U ?_;cases m:u.C8 with
    |false=>rw[m] at a;rw[ai (by simp[m])] at a;refine U ?_;refine l4 (hp:=f1 (f1 (f1 f0))) (xC H _ (.slice none 0 0) l [] b.sl (Sl.nil _ _ _) (m8 l o.node) (m8 l o.node) Zo Zo (by simp;omega) Zo) ?_;rintro i r j ⟨B,d,rfl,e⟩;refine U ?_;refine kS ?_;exact lX (c1 (c1 (c1 c0))) results266 Zt (λg hl _=>by rw[a,b.ok.Dq,f];rw[aP] at e;exact Sl.up ⟨B,d,by rw[aP]<;>rfl,e⟩ hl)
    |true=>
     rw[m] at a;refine U ?_;cases h:(u.my.id==o.node) with
     |false=>rw[h] at a;rw[ai (by simp[h])] at a;refine U ?_;refine l4 (hp:=f1 (f1 (f1 f0))) (xC H _ (.slice none 0 0) l [] b.sl (Sl.nil _ _ _) (m8 l o.node) (m8 l o.node) Zo Zo (by simp;omega) Zo) ?_;rintro i r j ⟨B,d,rfl,e⟩;refine U ?_;refine kS ?_;exact lX (c1 (c1 (c1 c0))) results266 Zt (λg hl _=>by rw[a,b.ok.Dq,f];rw[aP] at e;exact Sl.up ⟨B,d,by rw[aP]<;>rfl,e⟩ hl)
     |true=>(rw[h] at a;have s:u.my.id=o.node:=by simpa using h);simp only[Bool.and_self,cc] at a;refine U ?_;intro p;refine U ?_;refine Dd o0 (f1 (f1 (f1 f0))) (λt w x=>xC t _ (.slice (some ⟨p,0,none⟩) 1 1) l [u.my] (b.sl.up w) ⟨some ⟨p,0,none⟩,1,rfl,⟨aA _,by decide⟩,uF x rfl⟩ (m8 l o.node) (m8 l o.node) Zo Zo (by simp;omega) Zo) ?_;rintro i r j _ ⟨B,d,rfl,e⟩;refine U ?_;refine kS ?_;exact lX (c1 (c1 (c1 c0))) results266 Zt (λg hl _=>by rw[a,b.ok.Jj,s,f];exact Sl.up ⟨B,d,rfl,e⟩ hl)
structure xD(H:kM)(ve a:Value)(g:Lg):Prop where
 es:Sl 17 qK H ve g.es
 ns:pq H a g.ns
theorem xD.up{H a:kM}{ve b:Value}{g:Lg}(h:xD H ve b g)(hl:H.le a):xD a ve b g:=⟨h.es.up hl,h.ns.up hl⟩
theorem Ve(H:kM)(g:Nat)(s:mN)(a:H.kn (nX g (sb s)))(e:rg):Rf prog 224 #[.agg (qK e).toArray,.pointer (some ⟨g,0,none⟩)] H (.bool (e.op.tm==s)):=λW L=>by refine enter func224 ?_;refine U ?_;intro b;refine U ?_;refine Ex e.op.tm s rfl rfl rfl rfl ?_;refine U ?_;refine kS ?_;exact lj results224 Zt lv ⟨rfl,rfl⟩
theorem ND(H:kM)(ve b:Value)(g:Lg)(f:xD H ve b g)(s:mN):Rf prog 162 #[.agg #[ve,b],Am s] H (.bool (vH g s)):=λW L=>by obtain⟨A,c,rfl,m,j⟩:=f.es;obtain⟨B,d,rfl,n,o⟩:=f.ns.sl;refine enter func162 ?_;refine U ?_;intro p;refine U ?_;intro h;refine U ?_;refine tI (hf:=f1 f0) o0 ?_;intro a i k;refine mi (fst:=[]) (cap:=[]) (Uc qK a A c g.es Zo (j.up i) 224 [.pointer (some ⟨h,0,none⟩)] (λe=>e.op.tm==s) (λe _=>Ve a h s k e)) ?_;refine U ?_;refine kS ?_;exact lj results162 Zt (λw l=>(l.sublist (L':=fz a::L) Zu).fz i p0) ⟨rfl,rfl⟩
def Jk(g:Lg)(H:kM)(r:Value):Prop:=∃ve a,r=.agg #[ve,a]/\xD H ve a g
theorem GC(H:kM)(ve b:Value)(g:Lg)(a:xD H ve b g)(n:g.es.length<=1000000):Fn prog 242 #[.agg #[ve,b]] H (Jk g):=λW L=>by have o:=a.ns.ok.len;obtain⟨A,c,rfl,p,f⟩:=a.es;obtain⟨B,d,rfl,q,i⟩:=a.ns.sl;refine enter func242 ?_;refine U ?_;intro r;refine U ?_;intro s;refine U ?_;refine Ap (o0) (lC.Z [0,3] (lC.p8 [1,4] (lC.Z [2,5,6,7] .mZ))) Zk Zk Zk Zk (λ_ _ _ h=>h) ?_;refine mM _ _ _ _ Zk ?_;refine U ?_;refine qu _ _ _ Zk ?_;refine U ?_;refine mM _ _ _ _ Zk ?_;refine U ?_;refine ov (TZ qK H A c g.es Zo f) ?_;rintro _ _ ⟨j,k,rfl,rfl⟩;refine ov (I1 oR H B d g.ns Zo i) ?_;rintro _ _ ⟨l,m,rfl,rfl⟩;simp only[aD];refine U ?_;refine kS ?_;exact lX (c1 (c1 (c1 (c1 c0)))) results242 (.agg (cs:=[.slice j g.es.length k,.slice l g.ns.length m]) inferInstance rfl lW rfl) (λt hl e=>⟨_,_,rfl,e.sl (m1 m0),e.sl m0,a.ns.ok⟩)
theorem NE(H:kM)(o:lQ)(hf:pn o)(a b:Nat)(i:Value)(ns:List la)(e:pq H i ns)(A:Option Addr)(c:Nat)(es:List rg)(v:es.length<=1000000)(W:World)(L:List kM):
 m3 prog W 267 #[qW o,.pointer (some ⟨a,0,none⟩),.pointer (some ⟨b,0,none⟩)] (k4 a 25 [i]::k4 b 24 [.slice A es.length c]::li 212 17 qK A c es::fz H::L)
  (λr L'=>∃f h j k,H.le f/\r=.tuple #[]/\pq f h (oZ ns o).1/\L'=k4 a 25 [h]::k4 b 24 [.slice j (es++[(⟨o,(oZ ns o).2⟩:rg)]).length k]::li 212 17 qK j k (es++[(⟨o,(oZ ns o).2⟩:rg)])::fz f::L):=by
 obtain⟨B,d,rfl,w,x⟩:=Zi e.sl;refine enter func267 ?_;refine U ?_;intro y;refine U ?_;intro z;refine U ?_;refine l4 (hp:=f1 (f1 (f1 (f1 (f1 f0))))) (NC H _ ns e o hf) ?_;rintro n _ p ⟨h,rfl,m⟩;obtain⟨C,D,rfl,E⟩:=Zi m;refine U ?_;intro q;refine U ?_;refine ap (l:=es) (news:=[⟨o,(oZ ns o).2⟩]) (oG (g:=q) (t:=212) (cs:=qK ⟨o,(oZ ns o).2⟩) Zn rfl) Zl (λs u=>?_);refine U ?_;exact qD results267 lv ⟨n,_,s,u,p,rfl,⟨m,e.ok.do o⟩,rfl⟩
theorem NF(H:kM)(o:lQ)(hf:pn o)(e f:Nat)(v:Value)(ns:List la)(j:pq H v ns)(A:Option Addr)(es:List rg)(E:es.length<=1000000)(x:H.kn (Rd A 17 qK es))(W:World)(L:List kM):
 m3 prog W 267 #[qW o,.pointer (some ⟨e,0,none⟩),.pointer (some ⟨f,0,none⟩)] (k4 e 25 [v]::k4 f 24 [.slice A es.length es.length]::fz H::L)
  (λr L'=>∃p q y z,H.le p/\r=.tuple #[]/\pq p q (oZ ns o).1/\L'=k4 e 25 [q]::k4 f 24 [.slice y (es++[(⟨o,(oZ ns o).2⟩:rg)]).length z]::li 212 17 qK y z (es++[(⟨o,(oZ ns o).2⟩:rg)])::fz p::L):=by
 obtain⟨B,d,rfl,F,G⟩:=Zi j.sl;refine enter func267 ?_;refine U ?_;intro I;refine U ?_;intro J;refine U ?_;refine l4 (hp:=f1 (f1 (f1 (f1 f0)))) (NC H _ ns j o hf) ?_;rintro h _ k ⟨q,rfl,s⟩;obtain⟨m,n,rfl,K⟩:=Zi s;refine U ?_;intro C;refine U ?_;cases A with
 |none=>refine SL.pure (φ:=es=[]) (λw i=>xz (nS Zn x k w i)) (λD=>?_);subst D;refine SL.oA 212 17 qK none ?_;refine ap (l:=([]:List rg)) (news:=[(⟨o,(oZ ns o).2⟩:rg)]) (oG (g:=C) (t:=212) (cs:=qK ⟨o,(oZ ns o).2⟩) Zn rfl) Zs (λb c=>?_);refine U ?_;refine(qD results267 (L':=k4 e 25 [.slice m (oZ ns o).1.length n]::k4 f 24 [.slice b (([]:List rg)++[(⟨o,(oZ ns o).2⟩:rg)]).length c]::li 212 17 qK b c (([]:List rg)++[(⟨o,(oZ ns o).2⟩:rg)])::fz h::L) (λw i=>?_) ⟨h,_,b,c,k,rfl,⟨s,j.ok.do o⟩,rfl⟩);have u:=i.sublist (L':=li 212 17 qK b c ([]++[(⟨o,(oZ ns o).2⟩:rg)])::k4 e 25 [.slice m (oZ ns o).1.length n]::k4 f 24 [.slice b ([]++[(⟨o,(oZ ns o).2⟩:rg)]).length c]::fz h::L) Zu;exact u.ny ((bX _ _ _).trans ((bX _ _ _).cons _))
 |some a=>refine Mt (l:=es) (news:=[(⟨o,(oZ ns o).2⟩:rg)]) (enc:=qK) rfl (nS Zn x k) rfl (oG (g:=C) (t:=212) (cs:=qK ⟨o,(oZ ns o).2⟩) Zn rfl) Zs Zl Zl rfl rfl (λb c=>?_);refine U ?_;refine(qD results267 (L':=k4 e 25 [.slice m (oZ ns o).1.length n]::k4 f 24 [.slice b (es++[(⟨o,(oZ ns o).2⟩:rg)]).length c]::li 212 17 qK b c (es++[(⟨o,(oZ ns o).2⟩:rg)])::fz h::L) (λw i=>?_) ⟨h,_,b,c,k,rfl,⟨s,j.ok.do o⟩,rfl⟩);have u:=i.sublist (L':=li 212 17 qK b c (es++[(⟨o,(oZ ns o).2⟩:rg)])::k4 e 25 [.slice m (oZ ns o).1.length n]::k4 f 24 [.slice b (es++[(⟨o,(oZ ns o).2⟩:rg)]).length c]::fz h::L) Zu;exact u.ny ((bX _ _ _).trans ((bX _ _ _).cons _))
theorem wB(g:Lg)(o:lQ):qS g o=⟨g.es++[⟨o,(oZ g.ns o).2⟩],(oZ g.ns o).1⟩:=rfl
theorem Vf(o:lQ)(es:List rg)(ns:List la)(i:Nat)(a:i<es.length):rH o (es.reverse.drop i) ns=if xO o.tm (es[es.length-1-i]'Zo).op.tm then rH o (es.reverse.drop (i+1)) (wT ns (es[es.length-1-i]'Zo).op (es[es.length-1-i]'Zo).t7) else(es.reverse.drop i,ns):=by rw[show es.reverse.drop i=es[es.length-1-i]'Zo::es.reverse.drop (i+1) from by rw[br (by simpa using a),List.getElem_reverse]];rw[rH]
def Vg(x:Lg×Int)(H:kM)(r:Value):Prop:=∃v',r=.tuple #[v',nI x.2]/\Jk x.1 H v'
theorem Jl(H:kM)(ve vn:Value)(g:Lg)(V:xD H ve vn g)(lO:g.es.length<=100000)(X:∀e∈g.es,pn e.op)(o:lQ)(hf:pn o):Fn prog 226 #[.agg #[ve,vn],qW o] H (Vg (oM g o)):=λW L=>by
 obtain⟨A,c,rfl,kX,hr⟩:=Zi V.es;obtain⟨B,d,rfl,hd,hq⟩:=Zi V.ns.sl;refine enter func226 ?_;have b:oM g o=if !(nj o) then(g,50) else if vH g o.tm then(g,0) else if g.es.length>=200 then(g,193) else(((g.es.drop (rH o g.es.reverse g.ns).1.length).map (·.op)).foldl qS (qS ⟨(rH o g.es.reverse g.ns).1.reverse,(rH o g.es.reverse g.ns).2⟩ o),0):=rfl;refine U ?_;intro g2;refine U ?_;intro g3;refine U ?_;intro n;refine U ?_;refine CW ?_;refine C5 (hf:=f1 (f1 f0)) (o1 (o1 o0)) ?_;intro H1 kY lS;refine C5 (hf:=f1 f0) (o1 o0) ?_;intro F kZ lT;have J:=V.up (le_trans kY kZ);have P:=hr.up (le_trans kY kZ);refine U ?_;refine md (Ck o hf W _) ?_;cases k5:nj o with
 |false=>rw[k5] at b;refine U ?_;refine l4 (hp:=f1 f0) (GC F _ _ g J Zo) ?_;rintro Q _ R ⟨k7,z,rfl,u⟩;obtain⟨A',c',rfl,k8⟩:=Zi u.es;obtain⟨B',d',rfl,k9⟩:=Zi u.ns.sl;refine U ?_;refine kS ?_;exact m7 (c1 c0) results226 (.agg (cs:=[_,_]) inferInstance rfl lW rfl) Zt (λs hl _=>⟨_,by rw[b]<;>rfl,by rw[b];exact⟨_,_,rfl,u.up hl⟩⟩)
 |true=>
  rw[k5] at b;refine U ?_;refine mi (ND F _ _ g J o.tm) ?_;cases hh:vH g o.tm with
  |true=>rw[hh] at b;refine U ?_;refine l4 (hp:=f1 f0) (GC F _ _ g J Zo) ?_;rintro Q _ R ⟨k7,z,rfl,u⟩;obtain⟨A',c',rfl,k8⟩:=Zi u.es;obtain⟨B',d',rfl,k9⟩:=Zi u.ns.sl;refine U ?_;refine kS ?_;exact m7 (c1 c0) results226 (.agg (cs:=[_,_]) inferInstance rfl lW rfl) Zt (λs hl _=>⟨_,by rw[b]<;>rfl,by rw[b];exact⟨_,_,rfl,u.up hl⟩⟩)
  |false=>
   rw[hh] at b;refine U ?_;by_cases lc:g.es.length>=200;·rw[show decide ((200:Int)<=(g.es.length:Int))=true from Zq];rw[aj lc] at b;refine U ?_;refine l4 (hp:=f1 f0) (GC F _ _ g J Zo) ?_;rintro Q _ R ⟨k7,z,rfl,u⟩;obtain⟨A',c',rfl,k8⟩:=Zi u.es;obtain⟨B',d',rfl,k9⟩:=Zi u.ns.sl;refine U ?_;refine kS ?_;exact m7 (c1 c0) results226 (.agg (cs:=[_,_]) inferInstance rfl lW rfl) Zt (λs hl _=>⟨_,by rw[b]<;>rfl,by rw[b];exact⟨_,_,rfl,u.up hl⟩⟩)
   ·rw[show decide ((200:Int)<=(g.es.length:Int))=false from Zq];rw[ai lc] at b;simp only[eV,aM,bH] at b;refine U ?_;refine qN _ (lC.Z [0,2] (lC.p8 [1,3] (lC.Z [4,5,6,7] .mZ))) Zk Zk Zk Zk (λ_ _ _ h=>h) Sub.refl ?_;refine mM _ _ _ _ Zk ?_;refine U ?_;refine qu _ _ _ Zk ?_;refine U ?_;refine mM _ _ _ _ Zk ?_;refine U ?_;intro f;refine U ?_;refine mP (λm σ L'=>∃(i:Nat) (s:kM) (qp:List la) (z:Value),m=g.es.length-i/\i<=g.es.length/\F.le s/\pq s z qp/\rH o g.es.reverse g.ns=rH o (g.es.reverse.drop i) qp/\
     L'=k4 f 25 [z]::k4 n 27 [.slice none 0 0,.slice none 0 0]::fz s::L/\
     ml σ [(2,.pointer (some ⟨g2,0,none⟩)),(3,.pointer (some ⟨g3,0,none⟩)),(4,.pointer (some ⟨n,0,none⟩)),(6,.pointer (some ⟨f,0,none⟩)),(7,nI (g.es.length-i)),(41,nN g.es.length),(42,nN i)]) g.es.length _ (s1 _)
     ⟨0,F,g.ns,_,by simp,by simp,le_refl _,J.ns,by simp,rfl,rfl,rfl,rfl,rfl,by rw[show(g.es.length:Int)-((0:Nat):Int)=(g.es.length:Int) from by simp]<;>rfl,rfl,rfl,trivial⟩ ?_
    rintro m σ _ ⟨i,s,qp,z,rfl,hi,Y,I,y,rfl,K⟩;obtain⟨lg,rfl⟩:=K.open;refine U ?_;refine mE rfl (λp=>?_) (λp=>?_)
    ·(have p:=am p;have lq:i<g.es.length:=by omega);rw[Vf o g.es qp i lq] at y;have S:g.es[g.es.length-1-i]? =some (g.es[g.es.length-1-i]'Zo):=ad Zo;have M:=X (g.es[g.es.length-1-i]'Zo) (bv _);generalize g.es[g.es.length-1-i]'Zo=x at*;have T:(qK x).length=17:=rfl;refine U ?_;rw[show(g.es.length:Int)-1-(i:Int)=((g.es.length-1-i:Nat):Int) from by omega];refine U ?_;intro g9;refine U ?_;refine md (IC o.tm x.op.tm W _) ?_;cases lh:xO o.tm x.op.tm with
     |true=>rw[lh] at y;simp only[cc] at y;refine U ?_;refine l4 (hp:=f1 (f1 (f1 f0))) (Vd s _ qp I x.op M.node x.t7) ?_;rintro Q v3 R lm;obtain⟨B3,d3,rfl,lV⟩:=Zi lm;refine U ?_;exact⟨g.es.length-(i+1),_,by omega,Zu,i+1,Q,wT qp x.op x.t7,_,rfl,by omega,le_trans Y R,⟨lm,I.ok.Fb _ _⟩,y,rfl,rfl,rfl,rfl,rfl,by rw[show(g.es.length:Int)-((i+1:Nat):Int)=(g.es.length:Int)-(i:Int)-1 from by omega]<;>rfl,rfl,rfl,trivial⟩
     |false=>
      (rw[lh] at y;simp only[aM,bH] at y;refine U ?_;refine SL.mL (L':=k4 f 25 [z]::k4 n 27 [.slice none 0 0,.slice none 0 0]::fz s::L) lv ?_;have lu:g.es.length-i<=g.es.length:=Nat.sub_le _ _;have kF:(g.es.reverse.drop i).length=g.es.length-i:=by simp);have kG:(g.es.reverse.drop i).reverse=g.es.take (g.es.length-i):=by rw[gY,fc]
      (rw[y] at b;simp only[kF,kG] at b;rw[show(g.es.length:Int)-(i:Int)=((g.es.length-i:Nat):Int) from by omega];generalize lx:g.es.length-i=a at*;obtain⟨Bn,dn,rfl,ly⟩:=Zi I.sl;refine U ?_;refine EO (h:=a) rfl rfl rfl Zo rfl rfl ?_;refine U ?_;intro k;refine U ?_;refine SL.mL (L':=k4 f 25 [.slice Bn qp.length dn]::k4 k 24 [.slice A a a]::fz s::k4 n 27 [.slice none 0 0,.slice none 0 0]::L) (λw C=>C.ny ((bX _ _ _).trans (((bX _ _ _).cons _).cons _))) ?_;have N:(g.es.take a).length=a:=by simp;omega);refine nR (fst:=[]) (cap:=[.pointer (some ⟨f,0,none⟩),.pointer (some ⟨k,0,none⟩)]) (N▸NF s o hf f k _ qp I A (g.es.take a) Zo ((Sl.take P a).up Y) W (k4 n 27 [.slice none 0 0,.slice none 0 0]::L)) ?_;rintro _ _ ⟨O,lz,A5,c5,lB,rfl,kH,rfl⟩;refine U ?_;refine vX (l:=a) rfl rfl Zo rfl rfl ?_;have lE:=Sl.drop P kX.1 a;have kI:∀e∈g.es.drop a,pn e.op:=λe he=>X e (dV he);have T:(g.es.drop a).length=g.es.length-a:=by simp
      (rw[<-T];generalize g.es.drop a=xs at*;have lF:a<=100000:=by omega);have lG:xs.length<=100000:=by omega
      refine U ?_;refine mP (λm σ L'=>∃(j:Nat) (G:Lg) (t:kM) (v:Value) (q:Option Addr) (r:Nat),m=xs.length-j/\j<=xs.length/\O.le t/\G=((xs.take j).map (·.op)).foldl qS (qS ⟨g.es.take a,qp⟩ o)/\pq t v G.ns/\G.es.length<=a+1+j/\
       L'=k4 f 25 [v]::k4 k 24 [.slice q G.es.length r]::li 212 17 qK q r G.es::fz t::k4 n 27 [.slice none 0 0,.slice none 0 0]::L/\
       ml σ [(4,.pointer (some ⟨n,0,none⟩)),(6,.pointer (some ⟨f,0,none⟩)),(10,.pointer (some ⟨k,0,none⟩)),(11,.func (.func 267) #[] #[.pointer (some ⟨f,0,none⟩),.pointer (some ⟨k,0,none⟩)]),(83,.slice (qd A c a 17) xs.length (c-a)),(84,nN xs.length),(85,nN j)]) xs.length _ (s1 _)
       ⟨0,_,O,_,A5,c5,by simp,by simp,le_refl _,rfl,kH,by simp[wB,N],rfl,rfl,rfl,rfl,rfl,rfl,rfl,rfl,trivial⟩ ?_
      rintro m σ _ ⟨j,G,t,v,q,r,rfl,hj,kJ,D,E,lH,rfl,K⟩;obtain⟨lg,rfl⟩:=K.open;refine U ?_;refine mE rfl (λp=>?_) (λp=>?_);·(have p:=am p;have S:xs[j]? =some xs[j]:=ad Zo;have M:=kI xs[j] (bv _);have kL:qS G xs[j].op=((xs.take (j+1)).map (·.op)).foldl qS (qS ⟨g.es.take a,qp⟩ o):=by rw[aT,S,bA,bV,<-D];rfl);generalize xs[j]=x at*;have lI:(qK x).length=17:=rfl;refine U ?_;intro lJ;refine U ?_;refine SL.mL (L':=k4 f 25 [v]::k4 k 24 [.slice q G.es.length r]::li 212 17 qK q r G.es::fz t::k4 n 27 [.slice none 0 0,.slice none 0 0]::L) lv ?_;refine nR (fst:=[]) (cap:=[.pointer (some ⟨f,0,none⟩),.pointer (some ⟨k,0,none⟩)]) (NE t x.op M f k v G.ns E q r G.es Zo W (k4 n 27 [.slice none 0 0,.slice none 0 0]::L)) ?_;rintro _ _ ⟨H6,v6,A6,c6,kO,rfl,kQ,rfl⟩;refine U ?_;exact⟨xs.length-(j+1),_,by omega,Zu,j+1,qS G x.op,H6,v6,A6,c6,rfl,by omega,le_trans kJ kO,kL,kQ,by simp[wB];omega,rfl,rfl,rfl,rfl,rfl,rfl,rfl,rfl,trivial⟩
      ·have p:=av p;rw[show xs.take j=xs from aY Zo] at D;rw[<-D] at b;obtain⟨Bj,dj,rfl,lK⟩:=Zi E.sl;refine SC.mL (L':=k4 n 27 [.slice none 0 0,.slice none 0 0]::k4 f 25 [.slice Bj G.ns.length dj]::k4 k 24 [.slice q G.es.length r]::li 212 17 qK q r G.es::fz t::L) (λw C=>C.ny (rT [_,_,_,_] L _)) ?_;refine U ?_;refine kS ?_;exact m7 (c1 (c1 (c1 (c1 c0)))) results226 (.agg (cs:=[_,_]) inferInstance rfl lW rfl) Zt (λs hl kT=>⟨_,by rw[b]<;>rfl,by rw[b];exact⟨_,_,rfl,kT.sl (m1 (m1 (m1 m0))),E.up hl⟩⟩)
    ·have p:=av p;have lY:i=g.es.length:=by omega
     (have y:rH o g.es.reverse g.ns=(g.es.reverse.drop i,qp):=by rw[y,aX (by simp;omega)];rfl);refine U ?_;have lu:g.es.length-i<=g.es.length:=Nat.sub_le _ _;have kF:(g.es.reverse.drop i).length=g.es.length-i:=by simp
     (have kG:(g.es.reverse.drop i).reverse=g.es.take (g.es.length-i):=by rw[gY,fc]);rw[y] at b;simp only[kF,kG] at b;rw[show(g.es.length:Int)-(i:Int)=((g.es.length-i:Nat):Int) from by omega];generalize lx:g.es.length-i=a at*;obtain⟨Bn,dn,rfl,ly⟩:=Zi I.sl;refine U ?_;refine EO (h:=a) rfl rfl rfl Zo rfl rfl ?_;refine U ?_;intro k;refine U ?_;refine SL.mL (L':=k4 f 25 [.slice Bn qp.length dn]::k4 k 24 [.slice A a a]::fz s::k4 n 27 [.slice none 0 0,.slice none 0 0]::L) (λw C=>C.ny ((bX _ _ _).trans (((bX _ _ _).cons _).cons _))) ?_;have N:(g.es.take a).length=a:=by simp;omega
     (refine nR (fst:=[]) (cap:=[.pointer (some ⟨f,0,none⟩),.pointer (some ⟨k,0,none⟩)]) (N▸NF s o hf f k _ qp I A (g.es.take a) Zo ((Sl.take P a).up Y) W (k4 n 27 [.slice none 0 0,.slice none 0 0]::L)) ?_;rintro _ _ ⟨O,lz,A5,c5,lB,rfl,kH,rfl⟩;refine U ?_;refine vX (l:=a) rfl rfl Zo rfl rfl ?_;have lE:=Sl.drop P kX.1 a;have kI:∀e∈g.es.drop a,pn e.op:=λe he=>X e (dV he);have T:(g.es.drop a).length=g.es.length-a:=by simp);rw[<-T];generalize g.es.drop a=xs at*;have lF:a<=100000:=by omega
     (have lG:xs.length<=100000:=by omega);refine U ?_;refine mP (λm σ L'=>∃(j:Nat) (G:Lg) (t:kM) (v:Value) (q:Option Addr) (r:Nat),m=xs.length-j/\j<=xs.length/\O.le t/\G=((xs.take j).map (·.op)).foldl qS (qS ⟨g.es.take a,qp⟩ o)/\pq t v G.ns/\G.es.length<=a+1+j/\
      L'=k4 f 25 [v]::k4 k 24 [.slice q G.es.length r]::li 212 17 qK q r G.es::fz t::k4 n 27 [.slice none 0 0,.slice none 0 0]::L/\
      ml σ [(4,.pointer (some ⟨n,0,none⟩)),(6,.pointer (some ⟨f,0,none⟩)),(10,.pointer (some ⟨k,0,none⟩)),(11,.func (.func 267) #[] #[.pointer (some ⟨f,0,none⟩),.pointer (some ⟨k,0,none⟩)]),(83,.slice (qd A c a 17) xs.length (c-a)),(84,nN xs.length),(85,nN j)]) xs.length _ (s1 _)
      ⟨0,_,O,_,A5,c5,by simp,by simp,le_refl _,rfl,kH,by simp[wB,N],rfl,rfl,rfl,rfl,rfl,rfl,rfl,rfl,trivial⟩ ?_
     rintro m σ _ ⟨j,G,t,v,q,r,rfl,hj,kJ,D,E,lH,rfl,K⟩;obtain⟨lg,rfl⟩:=K.open;refine U ?_;refine mE rfl (λp=>?_) (λp=>?_);·(have p:=am p;have S:xs[j]? =some xs[j]:=ad Zo;have M:=kI xs[j] (bv _);have kL:qS G xs[j].op=((xs.take (j+1)).map (·.op)).foldl qS (qS ⟨g.es.take a,qp⟩ o):=by rw[aT,S,bA,bV,<-D];rfl);generalize xs[j]=x at*;have lI:(qK x).length=17:=rfl;refine U ?_;intro lJ;refine U ?_;refine SL.mL (L':=k4 f 25 [v]::k4 k 24 [.slice q G.es.length r]::li 212 17 qK q r G.es::fz t::k4 n 27 [.slice none 0 0,.slice none 0 0]::L) lv ?_;refine nR (fst:=[]) (cap:=[.pointer (some ⟨f,0,none⟩),.pointer (some ⟨k,0,none⟩)]) (NE t x.op M f k v G.ns E q r G.es Zo W (k4 n 27 [.slice none 0 0,.slice none 0 0]::L)) ?_;rintro _ _ ⟨H6,v6,A6,c6,kO,rfl,kQ,rfl⟩;refine U ?_;exact⟨xs.length-(j+1),_,by omega,Zu,j+1,qS G x.op,H6,v6,A6,c6,rfl,by omega,le_trans kJ kO,kL,kQ,by simp[wB];omega,rfl,rfl,rfl,rfl,rfl,rfl,rfl,rfl,trivial⟩
     ·have p:=av p;rw[show xs.take j=xs from aY Zo] at D;rw[<-D] at b;obtain⟨Bj,dj,rfl,lK⟩:=Zi E.sl;refine SC.mL (L':=k4 n 27 [.slice none 0 0,.slice none 0 0]::k4 f 25 [.slice Bj G.ns.length dj]::k4 k 24 [.slice q G.es.length r]::li 212 17 qK q r G.es::fz t::L) (λw C=>C.ny (rT [_,_,_,_] L _)) ?_;refine U ?_;refine kS ?_;exact m7 (c1 (c1 (c1 (c1 c0)))) results226 (.agg (cs:=[_,_]) inferInstance rfl lW rfl) Zt (λs hl kT=>⟨_,by rw[b]<;>rfl,by rw[b];exact⟨_,_,rfl,kT.sl (m1 (m1 (m1 m0))),E.up hl⟩⟩)
theorem Vh(l:List lQ)(g:Lg):(l.foldl qS g).es.map (·.op)=g.es.map (·.op)++l:=by
 induction l generalizing g with
 |nil=>simp
 |cons o l a=>rw[bU,a,wB];simp
theorem Vi(o:lQ)(es:List rg)(ns:List la):∃k,(rH o es ns).1=es.drop k:=by
 induction es generalizing ns with
 |nil=>exact⟨0,rfl⟩
 |cons e r a=>
  unfold rH;split;·obtain⟨k,b⟩:=a (wT ns e.op e.t7);exact⟨k+1,by rw[b];rfl⟩
  ·exact⟨0,rfl⟩
theorem Vj(g:Lg)(o:lQ):(oM g o).1=g\/∃a b,g.es.map (·.op)=a++b/\(oM g o).1.es.map (·.op)=a++o::b:=by
 unfold oM;split;·exact .inl rfl
 ·split;·exact .inl rfl
  ·split;·exact .inl rfl
   ·(refine .inr ?_;obtain⟨k,c⟩:=Vi o g.es.reverse g.ns;simp only;rw[Vh,wB,c];have d:(g.es.reverse.drop k).reverse=g.es.take (g.es.length-k):=by rw[gY,fc]);have e:(g.es.reverse.drop k).length=g.es.length-k:=by simp
    (rw[d,e];refine⟨(g.es.take (g.es.length-k)).map (·.op),(g.es.drop (g.es.length-k)).map (·.op),?_,?_⟩;·rw[<-bA,bT]);·simp
structure xE(g:Lg)(n:Nat):Prop where
 len:g.es.length<=n
 Z:∀e∈g.es,pn e.op
theorem xE.add{g:Lg}{n:Nat}(h:xE g n){o:lQ}(k:pn o):xE (oM g o).1 (n+1):=by
 rcases Vj g o with d|⟨a,b,d,j⟩;·rw[d];exact⟨by have:=h.len;omega,h.Z⟩
 ·have l:=congrArg List.length d;have m:=congrArg List.length j;simp only[bO,ak,aG] at l m;refine⟨by have:=h.len;omega,λe p=>?_⟩;have c:e.op∈(oM g o).1.es.map (·.op):=gE p;rw[j] at c;rcases aQ.1 c with c|c
  ·have:e.op∈g.es.map (·.op):=by rw[d];exact cy _ c
   obtain⟨x,f,i⟩:=aU.1 this;rw[<-i];exact h.Z x f
  ·rcases aJ.1 c with c|c;·rw[c];exact k
   ·(have:e.op∈g.es.map (·.op):=by rw[d];exact cZ _ c);obtain⟨x,f,i⟩:=aU.1 this;rw[<-i];exact h.Z x f
theorem xE.oB{g:Lg}{n m:Nat}(h:xE g n)(a:n<=m):xE g m:=⟨cR h.len a,h.Z⟩
theorem Vk(H:kM)(ve w v:Value)(g:Lg)(l:List lQ)(h:xD H ve w g)(x:xE g 50000)(I:Sl 7 nA H v l)(hl:l.length<=40000)(J:∀o∈l,pn o):Fn prog 192 #[.agg #[ve,w],v] H (λa r=>∃v' n,r=.tuple #[v',nI n]/\Jk (uH g l) a v'):=λW L=>by
 obtain⟨A,c,rfl,b,S⟩:=I;obtain⟨T,V,rfl,X⟩:=Zi h.es;obtain⟨Y,d1,rfl,kF⟩:=Zi h.ns.sl;refine enter func192 ?_;refine U ?_;intro g2;refine U ?_;intro j;refine U ?_;refine l4 (hp:=f1 (f1 f0)) (GC H _ _ g h (by have:=x.len;omega)) ?_;rintro k _ kG ⟨kH,kI,rfl,p⟩;obtain⟨K,M,rfl,kJ⟩:=Zi p.es;obtain⟨N,O,rfl,kL⟩:=Zi p.ns.sl;refine U ?_;intro q;refine U ?_;refine mP (λm σ L'=>∃(i:Nat) (n:Int) (G:Lg) (a:kM) (s t:Value),m=l.length-i/\i<=l.length/\0<=n/\n<=i/\k.le a/\G=uH g (l.take i)/\xD a s t G/\xE G (50000+i)/\
  L'=k4 q 27 [s,t]::k4 j 27 [.slice none 0 0,.slice none 0 0]::fz a::L/\
  ml σ [(4,.pointer (some ⟨j,0,none⟩)),(6,.pointer (some ⟨q,0,none⟩)),(7,nI n),(13,.slice A l.length c),(14,nN l.length),(15,nN i)]) l.length
  (k4 q 27 [.slice K g.es.length M,.slice N g.ns.length O]::k4 j 27 [.slice none 0 0,.slice none 0 0]::fz k::L) Zu
  ⟨0,0,g,k,_,_,by simp,by simp,by simp,by simp,le_refl _,rfl,p,x,rfl,rfl,rfl,rfl,rfl,rfl,rfl,trivial⟩ ?_
 rintro m σ _ ⟨i,n,G,a,s,t,rfl,hi,P,hn,y,d,e,u,rfl,Q⟩;obtain⟨kO,rfl⟩:=Q.open;obtain⟨A3,c3,rfl,kQ⟩:=Zi e.es;obtain⟨B3,d3,rfl,kT⟩:=Zi e.ns.sl;refine U ?_;refine mE rfl (λb=>?_) (λb=>?_)
 ·have b:=am b;have R:l[i]? =some l[i]:=ad Zo;have z:=J l[i] (bv _);have B:(oM G l[i]).1=uH g (l.take (i+1)):=by rw[aT,R];unfold uH at d⊢;rw[bV,<-d];rfl
  generalize l[i]=o at*;have kX:(nA o).length=7:=rfl;refine U ?_;intro g9;refine U ?_;refine l4 (hp:=f1 (f1 (f1 f0))) (Jl a _ _ G e (by have:=u.len;omega) u.Z o z) ?_;rintro C _ D ⟨v3,rfl,kY,kZ,rfl,f⟩;obtain⟨A4,c4,rfl,k5⟩:=Zi f.es;obtain⟨B4,d4,rfl,k7⟩:=Zi f.ns.sl;have E:=(u.add z).oB (show 50000+i+1<=50000+(i+1) by omega);refine U ?_;by_cases F:(oM G o).2=0;·rw[show((oM G o).2 != 0)=false from by simpa using F];refine U ?_;exact⟨l.length-(i+1),_,by omega,Zu,i+1,n,(oM G o).1,C,_,_,rfl,by omega,P,by omega,le_trans y D,B,f,E,rfl,rfl,rfl,rfl,rfl,rfl,rfl,trivial⟩
  ·rw[show((oM G o).2 != 0)=true from by simpa using F];refine U ?_;exact⟨l.length-(i+1),_,by omega,Zu,i+1,n+1,(oM G o).1,C,_,_,rfl,by omega,by omega,by omega,le_trans y D,B,f,E,rfl,rfl,rfl,rfl,rfl,rfl,rfl,trivial⟩
 ·have b:=av b;rw[show l.take i=l from aY Zo] at d;refine U ?_;refine kS ?_;exact m7 (c1 (c1 c0)) results192 (.agg (cs:=[_,_]) inferInstance rfl lW rfl) Zt (λa hl _=>⟨_,_,rfl,_,_,rfl,by rw[<-d];exact e.up hl⟩)
end
end Go.Proofs.YtkbifmngmocjnaaGreatDoor
