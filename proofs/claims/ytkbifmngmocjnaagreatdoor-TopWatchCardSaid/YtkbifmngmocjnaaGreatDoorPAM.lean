/- Proved here, packed: what the parts Diskb Diskc Diskd Recc Recd Diske Wala Walb prove (rules of the walk, contracts of functions, plain laws). Conditions: in each statement. -/
import Derived.Test.YtkbifmngmocjnaaGreatDoorPAL
namespace Go.Proofs.YtkbifmngmocjnaaGreatDoor
set_option maxRecDepth 100000
set_option maxHeartbeats 8000000
set_option linter.all false
section
open Top Proofs.Tryz
theorem Ob(d:Dk):sy d=(decide (d.size<=65536)&&decide (d.pU.length=d.size*16)&&d.ld.all λp=>decide (p.1<d.size)&&decide (p.2.length=16)):=rfl
theorem Dv(H:kM)(d:Dk)(v:Value)(l:Sl 2 sF H v d.ld):Rf prog 182 #[.agg (qz d v).toArray] H (.bool (sy d)):=λW L=>by
 obtain⟨A,c,rfl,o,q⟩:=l;have a:=Ob d;refine enter func182 ?_;refine U ?_;intro f;refine U ?_;rw[show decide ((d.size:Int)<0)=false from Zq];refine U ?_;by_cases g:d.size<=65536
 ·rw[show decide ((65536:Int)<(d.size:Int))=false from Zq];refine U ?_;by_cases h:d.pU.length=d.size*16
  ·rw[show((d.pU.length:Int) != (d.size:Int)*16)=false from by simp;omega];simp only[g,h,iO,cE] at a;refine U ?_;refine mP (λr σ L'=>∃i:Nat,r=d.ld.length-i/\i<=d.ld.length/\sy d=(d.ld.drop i).all (λp=>decide (p.1<d.size)&&decide (p.2.length=16))/\
    L'=k4 f 74 (qz d (.slice A d.ld.length c))::fz H::L/\ml σ [(1,.pointer (some ⟨f,0,none⟩)),(23,.slice A d.ld.length c),(24,nN d.ld.length),(25,nN i)]) d.ld.length
    _ (s1 _) ⟨0,by omega,by omega,a,rfl,rfl,rfl,rfl,rfl,trivial⟩ ?_
   rintro r σ _ ⟨i,rfl,t,hf,rfl,m⟩;obtain⟨u,rfl⟩:=m.open;refine U ?_;refine mE rfl (λb=>?_) (λb=>?_)
   ·(have e:i<d.ld.length:=by have:=am b;omega);obtain⟨p,hp⟩:∃s,d.ld[i]? =some s:=⟨_,ad e⟩;have w:(sF p).length=2:=rfl;have oC:d.ld.drop i=p::d.ld.drop (i+1):=by rw[ad e] at hp;cases hp;exact(dp e).symm
    (rw[oC,i7] at hf;refine U ?_;intro x;refine U ?_;rw[show decide ((p.1:Int)<0)=false from Zq];refine U ?_;by_cases j:p.1<d.size;·(rw[show decide ((d.size:Int)<=(p.1:Int))=false from Zq];refine U ?_;by_cases k:p.2.length=16;·rw[show((p.2.length:Int) != 16)=false from by simp;omega];simp only[j,k,iO,cE] at hf;refine U ?_;exact⟨d.ld.length-(i+1),_,by omega,Zu,i+1,rfl,by omega,hf,rfl,rfl,rfl,rfl,rfl,trivial⟩);·rw[show((p.2.length:Int) != 16)=true from by simp;omega];simp only[k,fY,jQ,eC] at hf;refine U ?_;refine kS ?_;exact lj results182 Zt lv ⟨by rw[hf]<;>rfl,rfl⟩);·rw[show decide ((d.size:Int)<=(p.1:Int))=true from Zq];simp only[j,fY,eC] at hf;refine U ?_;refine kS ?_;exact lj results182 Zt lv ⟨by rw[hf]<;>rfl,rfl⟩
   ·(have n:i=d.ld.length:=by have:=av b;omega);rw[n,dm,List.all_nil] at hf;refine U ?_;refine kS ?_;exact lj results182 Zt lv ⟨by rw[hf]<;>rfl,rfl⟩
  ·rw[show((d.pU.length:Int) != (d.size:Int)*16)=true from by simp;omega];simp only[h,fY,jQ,eC] at a;refine U ?_;refine kS ?_;exact lj results182 Zt lv ⟨by rw[a]<;>rfl,rfl⟩
 ·rw[show decide ((65536:Int)<(d.size:Int))=true from Zq];simp only[g,fY,eC] at a;refine U ?_;refine kS ?_;exact lj results182 Zt lv ⟨by rw[a]<;>rfl,rfl⟩
theorem Wa(l p:kV)(k dl:Nat)(h:k+dl=l.length):l.take k++p.take dl++l.drop (k+(p.take dl).length)=r9 l k p:=by
 unfold r9;rw[show l.length-k=dl from by omega,aC];rcases Nat.le_total p.length dl with a|a
 ·rw[jn a]
 ·rw[ci a,aX (show l.length<=k+dl from by omega),aX (show l.length<=k+p.length from by omega)]
theorem Dw(l p:kV)(k:Nat)(h:k<=l.length):(r9 l k p).length=l.length:=by unfold r9;simp only[ak,aC,bi];omega
structure qZ(d:Dk):Prop where
 size:d.size<=65536
 pU:d.pU.length=d.size*16
 ld:∀p∈d.ld,p.1<d.size/\p.2.length=16
theorem Ay{d:Dk}:sy d=true↔qZ d:=by rw[Ob];simp only[aF,bz,aK];exact⟨λh=>⟨h.1.1,h.1.2,h.2⟩,λh=>⟨⟨h.size,h.pU⟩,h.ld⟩⟩
def xF(pos n:Nat)(o:kV)(p:Nat×kV):kV:=if pos<=p.1/\p.1<pos+n then r9 o ((p.1-pos)*16) p.2 else o
theorem Oc(d:Dk)(pos n:Nat):Al d pos n=d.ld.foldl (xF pos n) ((d.pU.drop (pos*16)).take (n*16)):=rfl
theorem Od(pos n:Nat)(l:List (Nat×kV))(o:kV)(h:o.length=n*16):(l.foldl (xF pos n) o).length=n*16:=by
 induction l generalizing o with
 |nil=>exact h
 |cons p l a=>
  rw[bU];refine a _ ?_;unfold xF;split;·rw[Dw _ _ _ Zo];exact h
  ·exact h
theorem Oe(H:kM)(d:Dk)(v:Value)(x:Sl 2 sF H v d.ld)(r:qZ d)(pos n:Nat)(K:pos+n<=d.size):Rf prog 233 #[.agg (qz d v).toArray,nN pos,nN n] H (sv (Al d pos n)):=λW L=>by
 obtain⟨A,c,rfl,M,N⟩:=x;have O:=r.size;have P:=r.pU;refine enter func233 ?_;refine U ?_;intro y;refine U ?_;rw[show(pos:Int)*16=((pos*16:Nat):Int) from by omega,show((pos:Int)+(n:Int))*16=(((pos+n)*16:Nat):Int) from by omega];refine LX (s:=d.pU) (l:=pos*16) (h:=(pos+n)*16) rfl rfl rfl Zo Zo rfl rfl ?_;have u:((d.pU.drop (pos*16)).take (n*16)).length=n*16:=by rw[aC,bi];omega
 rw[show(d.pU.take ((pos+n)*16)).drop (pos*16)=(d.pU.drop (pos*16)).take (n*16) from by rw[eE];congr 1;omega];have z:=Oc d pos n;generalize(d.pU.drop (pos*16)).take (n*16)=b0 at*;refine F8 (s:=b0) (e:=5) rfl rfl Zo rfl rfl (λk a=>?_);refine U ?_;refine mP (λm σ L'=>∃(i:Nat) (b:kV),m=d.ld.length-i/\i<=d.ld.length/\b=(d.ld.take i).foldl (xF pos n) b0/\L'=so 5 k a b::k4 y 74 (qz d (.slice A d.ld.length c))::fz H::L/\
  ml σ [(1,nN pos),(2,nN n),(6,sv []),(7,.slice (some ⟨k,0,none⟩) b0.length a),(21,.slice A d.ld.length c),(22,nN d.ld.length),(23,nN i)]) d.ld.length _ (s1 _)
  ⟨0,b0,by omega,by omega,rfl,rfl,rfl,rfl,rfl,rfl,rfl,rfl,rfl,trivial⟩ ?_
 rintro m σ _ ⟨i,b,rfl,Q,q,rfl,B⟩;obtain⟨R,rfl⟩:=B.open;have C:b.length=n*16:=by rw[q];exact Od _ _ _ _ u
 refine SC.pure (φ:=b.length<=a) (λw D=>by obtain⟨_,_,_,_,E,_⟩:=C0 (D.ok _ Zn).holds;exact E) (λS=>?_);refine U ?_;refine mE rfl (λt=>?_) (λt=>?_)
 ·have F:i<d.ld.length:=by have:=am t;omega
  obtain⟨p,hp⟩:∃p,d.ld[i]? =some p:=⟨_,ad F⟩;have T:=r.ld p (ar hp);have V:(sF p).length=2:=rfl;have f:(d.ld.take (i+1)).foldl (xF pos n) b0=xF pos n b p:=by rw[aT,hp,bV,<-q];rfl
  refine U ?_;intro X;refine U ?_;by_cases G:pos<=p.1
  ·rw[show decide ((pos:Int)<=(p.1:Int))=true from Zq];refine U ?_;by_cases I:p.1<pos+n
   ·(rw[show decide ((p.1:Int)<(pos:Int)+(n:Int))=true from Zq];refine U ?_;have j:xF pos n b p=r9 b ((p.1-pos)*16) p.2:=by unfold xF;rw[aj ⟨G,I⟩]);refine nq [0,1,2,3,4,5,6,7,8,9] Zk Zk Zk Zk Zk (λ_ _ _ h=>h) ?_;refine U ?_;have Y:(p.1-pos)*16+16<=n*16:=by omega
    rw[show((p.1:Int)-(pos:Int))*16=(((p.1-pos)*16:Nat):Int) from by omega];refine vX (l:=(p.1-pos)*16) rfl rfl Zo rfl rfl ?_;rw[EB Zo];refine U ?_;refine Gt (g:=k) (o:=(p.1-pos)*16*1) (dl:=b0.length-(p.1-pos)*16) (bs:=b) (cap:=a) (te:=5) rfl rfl Zo (p1 p0) rfl (λ_=>Sub.of (bu _)) rfl rfl ?_;rw[eL,Wa b p.2 ((p.1-pos)*16) (b0.length-(p.1-pos)*16) Zo,<-j];refine U ?_;exact⟨d.ld.length-(i+1),_,by omega,Zu,i+1,xF pos n b p,rfl,by omega,f.symm,rfl,rfl,rfl,rfl,rfl,rfl,rfl,rfl,trivial⟩
   ·(rw[show decide ((p.1:Int)<(pos:Int)+(n:Int))=false from Zq];have j:xF pos n b p=b:=by unfold xF;rw[ai Zo]);rw[j] at f;refine U ?_;exact⟨d.ld.length-(i+1),_,by omega,Zu,i+1,b,rfl,by omega,f.symm,rfl,rfl,rfl,rfl,rfl,rfl,rfl,rfl,trivial⟩
  ·rw[show decide ((pos:Int)<=(p.1:Int))=false from Zq];have j:xF pos n b p=b:=by unfold xF;rw[ai Zo]
   rw[j] at f;refine U ?_;exact⟨d.ld.length-(i+1),_,by omega,Zu,i+1,b,rfl,by omega,f.symm,rfl,rfl,rfl,rfl,rfl,rfl,rfl,rfl,trivial⟩
 ·have J:i=d.ld.length:=by have:=av t;omega
  rw[J,bf,<-z] at q;refine U ?_;refine zi (s:=b) (A:=some ⟨k,0,none⟩) (c:=a) (by rw[C,<-u]<;>rfl) (F7 Zn) rfl rfl rfl ?_;refine U ?_;refine kS ?_;exact lj results233 Zt lv ⟨by rw[q]<;>rfl,rfl⟩
theorem Dx(d:Dk)(pos n:Nat):rC d pos n=if sy d/\pos+n<=d.size then some (Al d pos n) else none:=rfl
theorem Of(H:kM)(d:Dk)(v:Value)(f:Sl 2 sF H v d.ld)(pos n:Nat)(hp:pos<=1000000000)(i:n<=1000000000)(j:d.size<=1000000000):Rf prog 184 #[.agg (qz d v).toArray,nN pos,nN n] H (.tuple #[sv ((rC d pos n).getD []),nI (if(rC d pos n).isSome then 0 else 121)]):=λW L=>by
 have g:=f;obtain⟨A,c,rfl,k,l⟩:=f;have a:=Dx d pos n;refine enter func184 ?_;refine U ?_;intro m;refine U ?_;refine mi (Dv H d _ g) ?_;cases b:sy d with
 |false=>rw[ai (by simp[b])] at a;refine U ?_;refine kS ?_;exact og results184 Zt Zt lv ⟨by rw[a]<;>rfl,rfl⟩
 |true=>
  refine U ?_;rw[show decide ((pos:Int)<0)=false from Zq];refine U ?_;rw[show decide ((n:Int)<0)=false from Zq];refine U ?_;by_cases e:pos+n<=d.size;·rw[show decide ((d.size:Int)-(pos:Int)<(n:Int))=false from Zq];rw[aj ⟨b,e⟩] at a;refine U ?_;refine mi (Oe H d _ g (Ay.1 b) pos n e) ?_;refine U ?_;refine kS ?_;exact og results184 Zt Zt lv ⟨by rw[a]<;>rfl,rfl⟩
  ·rw[show decide ((d.size:Int)-(pos:Int)<(n:Int))=true from Zq];rw[ai (λh=>e h.2)] at a;refine U ?_;refine kS ?_;exact og results184 Zt Zt lv ⟨by rw[a]<;>rfl,rfl⟩
theorem GJ(d:Dk):sO d=if sy d then⟨d.size,Al d 0 d.size,[]⟩ else d:=rfl
theorem Wb(H:kM)(d:Dk)(v:Value)(g:Sl 2 sF H v d.ld)(hl:d.ld.length<=1000000):Fn prog 174 #[.agg (qz d v).toArray] H (Du (sO d)):=λW L=>by
 have b:=g;obtain⟨A,c,rfl,l,m⟩:=g;have a:=GJ d;refine enter func174 ?_;refine U ?_;intro n;refine U ?_;intro o;refine U ?_;refine mi (Dv H d _ b) ?_;cases f:sy d with
 |false=>rw[ai (by simp[f])] at a;refine U ?_;refine l4 (hp:=f1 (f1 f0)) (GI H d _ b hl) ?_;rintro p _ q ⟨_,rfl,i⟩;obtain⟨B,e,rfl,_,_⟩:=Zi i;refine U ?_;refine kS ?_;exact lX (c1 (c1 c0)) results174 (.agg (cs:=qz d _) inferInstance rfl m0 rfl) (λk j _=>by rw[a];exact⟨_,rfl,i.up j⟩)
 |true=>rw[aj f] at a;refine U ?_;refine nq [0,1,2,3,4,5,6,7] Zk Zk Zk Zk Zk (λ_ _ _ h=>h) ?_;refine U ?_;refine mi (Oe H d _ b (Ay.1 f) 0 d.size Zo) ?_;refine U ?_;refine kS ?_;exact lX (c1 (c1 c0)) results174 (.agg (cs:=qz ⟨d.size,Al d 0 d.size,[]⟩ (.slice none 0 0)) inferInstance rfl m0 rfl) (λk j _=>by rw[a];exact⟨_,rfl,Sl.nil _ _ _⟩)
structure Dy where
 val:kV
 len:val.length=16
def vp(s:Dy):List Value:=s.val.flatMap mI
instance:m6 vp 16:=⟨λx=>by unfold vp;rw[xm];exact x.len,λx v c=>by obtain⟨b,_,a⟩:=cW.1 c;simp[mI] at a;subst a;rfl⟩
def GK(p:kV)(h:p.length<=16):Dy:=⟨p++oV (16-p.length),by unfold oV;simp;omega⟩
def Dz(s:kV)(i:Nat):Dy:=GK ((s.drop (i*16)).take 16) (by rw[aC];omega)
def rO(s:kV):List Dy:=(List.range (nO s)).map (Dz s)
theorem Fh(s:kV):(rO s).length=nO s:=by unfold rO;simp
theorem Og:∀(k:Nat) (s:kV),F9 k s=(List.range k).map λi=>(Dz s i).val
 |0,s=>rfl
 |k+1,s=>by
  rw[F9,Og k,jI,bk,ex];congr 1;refine gD (λi _=>?_);show(Dz (s.drop 16) i).val=(Dz s (i+1)).val;have e:(s.drop 16).drop (i*16)=s.drop ((i+1)*16):=by rw[cI,show 16+i*16=(i+1)*16 from by omega]
  unfold Dz GK;simp only[e]
theorem GL(s:kV):(rO s).map (·.val)=cut s:=by unfold rO cut;rw[Og,ex];rfl
def uj:Dy:=⟨oV 16,by unfold oV;simp⟩
theorem Wc(pre rest:List Dy)(b:kV)(a:b.length<=16):qC ((pre++uj::rest).flatMap vp) (pre.length*16) (b.flatMap mI)=(pre++GK b a::rest).flatMap vp:=by have hp:(pre.flatMap vp).length=pre.length*16:=tF m6.len pre;have d:(vp uj).length=16:=m6.len uj;have c:(b.flatMap mI).length=b.length:=xm b;unfold qC;rw[bD,bD,bj,bj,<-hp,iL,eD,aV];congr 1;rw[c,aX Zo,aS,show(pre.flatMap vp).length+b.length-(pre.flatMap vp).length=b.length from by omega,fM Zo,<-aV];congr 1;unfold vp GK uj;rw[bD];congr 1;rw[Ac,Ac,<-i8];unfold oV;rw[j9]
theorem Wd(H:kM)(s:kV)(t:s.length<=100000000):Mk prog 232 #[sv s] H (λes v=>∃g,es=[k4 g 379 ((rO s).flatMap vp)]/\v=.slice (some ⟨g,0,none⟩) (nO s) (nO s)):=λW L=>by
 have u:nO s<=10000000:=by unfold nO;omega
 refine enter func232 ?_;refine U ?_;refine md (Oa s Zo W _) ?_;refine De vp uj (nO s) rfl rfl Zo Zo rfl rfl rfl rfl rfl (λg=>?_);refine U ?_;refine mP (λm σ L'=>∃i:Nat,m=nO s-i/\i<=nO s/\L'=k4 g 379 (((rO s).take i++List.replicate (nO s-i) uj).flatMap vp)::fz H::L/\
  ml σ [(0,sv s),(2,.slice none 0 0),(3,.slice (some ⟨g,0,none⟩) (nO s) (nO s)),(9,nN (nO s)),(10,nN i)]) (nO s) _ (s1 _)
  ⟨0,by omega,by omega,rfl,rfl,rfl,rfl,rfl,rfl,trivial⟩ ?_
 rintro m σ _ ⟨i,rfl,w,rfl,j⟩;obtain⟨x,rfl⟩:=j.open;refine U ?_;refine mE rfl (λb=>?_) (λb=>?_)
 ·have c:i<nO s:=by have:=am b;omega
  have e:i*16<s.length:=by unfold nO at c;omega
  have d:((rO s).take i).length=i:=by rw[aC,Fh];omega
  have k:(rO s).take (i+1)=(rO s).take i++[Dz s i]:=by rw[aT];congr 1;unfold rO;rw[bP,ka c];rfl
  have n:List.replicate (nO s-i) uj=uj::List.replicate (nO s-(i+1)) uj:=by rw[show nO s-i=(nO s-(i+1))+1 from by omega,dr]
  have f:=Wc ((rO s).take i) (List.replicate (nO s-(i+1)) uj) ((s.drop (i*16)).take 16) (by rw[aC];omega);have p:(((rO s).take i++uj::List.replicate (nO s-(i+1)) uj).flatMap vp).length=nO s*16:=by rw[tF m6.len,ak,d,aG,bS];congr 1;omega
  rw[d] at f;rw[n];refine U ?_;have q:((rO s).take i++uj::List.replicate (nO s-(i+1)) uj).length=nO s:=by rw[ak,d,aG,bS];omega
  refine nq [0,1,2,3,4,5,6,7,8] Zk Zk Zk Zk Zk (λ_ _ _ h=>h) ?_;refine U ?_;refine qO (i:=i) (xs:=(rO s).take i++uj::List.replicate (nO s-(i+1)) uj) rfl rfl c q (oG Zn rfl) rfl rfl ?_;refine U ?_;refine IZ (a:=pM (some ⟨g,0,none⟩) 16 i 0) rfl rfl rfl ?_;refine U ?_;rw[show(i:Int)*16=((i*16:Nat):Int) from by omega];refine zd (s:=s) (l:=i*16) rfl rfl Zo rfl rfl ?_;refine U ?_;rw[show pM (some ⟨g,0,none⟩) 16 i 0=⟨g,i*16,none⟩ from by simp[pM]];refine TX (g:=g) (o:=i*16) (dl:=16) (dc:=16) (str:=s.drop (i*16)) (cs:=((rO s).take i++uj::List.replicate (nO s-(i+1)) uj).flatMap vp) (te:=379) rfl rfl (by rw[p];omega) p0 rfl (λ_=>Sub.of (bu _)) rfl rfl ?_;rw[f];refine U ?_;exact⟨nO s-(i+1),_,by omega,s1 _,i+1,rfl,by omega,by rw[k,aV]<;>rfl,rfl,rfl,rfl,rfl,rfl,trivial⟩
 ·have e:i=nO s:=by have:=av b;omega
  subst e;refine U ?_;refine kS ?_;exact lj results232 Zt (L':=[k4 g 379 (((rO s).take (nO s)++List.replicate (nO s-nO s) uj).flatMap vp)]++fz H::L) (λ_ r=>r) ⟨_,rfl,g,by rw[aY (by rw[Fh]<;>omega),dF];simp,rfl⟩
def Az(d:Dk)(pos:Nat)(s:kV):Int:=if(vJ d pos s).isSome then 0 else if sy d then 120 else 121
theorem GM(d:Dk)(pos:Nat)(s:kV):vJ d pos s=if sy d/\pos+nO s<=d.size then some {d with ld:=d.ld++(cut s).mapIdx λi c=>(pos+i,c)} else none:=rfl
theorem We{α β γ:Type}(l:List α)(g:α->β)(f:Nat->β->γ):(l.map g).mapIdx f=l.mapIdx λi x=>f i (g x):=by apply cK;intro k;rw[iA,iA,bP];cases l[k]?<;>rfl
theorem Wf{α β:Type}(l:List α)(f:Nat->α->β)(i:Nat)(x:α)(h:l[i]? =some x):(l.take (i+1)).mapIdx f=(l.take i).mapIdx f++[f i x]:=by have a:i<l.length:=(ax.1 h).1;rw[aT,h,List.mapIdx_append];simp[aC,ci (show i<=l.length from by omega)]
theorem Wg(H:kM)(d:Dk)(v:Value)(C:Sl 2 sF H v d.ld)(hl:d.ld.length<=1000000)(pos:Nat)(hp:pos<=1000000000)(kI:d.size<=1000000000)(s:kV)(hs:s.length<=10000000):Fn prog 173 #[.agg (qz d v).toArray,nN pos,sv s] H (λk r=>∃v',r=.tuple #[v',nI (Az d pos s)]/\Du ((vJ d pos s).getD d) k v'):=λW L=>by
 have w:=C;obtain⟨A,c,rfl,hc,M⟩:=C;have b:=GM d pos s;have f:Az d pos s=if(vJ d pos s).isSome then 0 else if sy d then 120 else 121:=rfl;have hN:nO s<=1000000:=by unfold nO;omega
 refine enter func173 ?_;refine U ?_;intro D;refine U ?_;intro E;refine U ?_;refine mi (Dv H d _ w) ?_;cases n:sy d with
 |false=>rw[ai (by simp[n])] at b;rw[b,n] at f;refine U ?_;refine l4 (hp:=f1 (f1 f0)) (GI H d _ w hl) ?_;rintro o _ y ⟨_,rfl,j⟩;obtain⟨B,e,rfl,_,_⟩:=Zi j;refine U ?_;refine kS ?_;exact m7 (c1 (c1 c0)) results173 (.agg (cs:=qz d _) inferInstance rfl m0 rfl) Zt (λk p _=>⟨_,by rw[f]<;>rfl,by rw[b];exact⟨_,rfl,j.up p⟩⟩)
 |true=>
  refine U ?_;rw[show decide ((pos:Int)<0)=false from Zq];refine U ?_;refine nq [0,1,2,3,4,5,6,7] Zk Zk Zk Zk Zk (λ_ _ _ h=>h) ?_;refine U ?_;refine md (Oa s Zo W _) ?_;refine U ?_;by_cases F:pos+nO s<=d.size
  ·rw[show decide ((d.size:Int)-(nO s:Int)<(pos:Int))=false from Zq];rw[aj ⟨n,F⟩] at b;rw[b] at f;refine U ?_;refine ov (Wd H s Zo) ?_;rintro _ _ ⟨g,rfl,rfl⟩;simp only[aD];refine tI (hf:=f1 (f1 f0)) o0 ?_;intro o y O;have P:o.kn (Rd (some ⟨g,0,none⟩) 16 vp (rO s)):=uf O rfl;have kJ:=Fh s;have Q:=M.up y;refine U ?_;rw[show(d.ld.length:Int)+(nO s:Int)=((d.ld.length+nO s:Nat):Int) from by omega];refine Iy sF (N:=d.ld.length+nO s) rfl rfl Zo Zo rfl rfl (λA9=>?_);refine U ?_;refine ap (l:=([]:List (Nat×kV))) (news:=d.ld) (nS Zn Q (le_refl _)) (by simp only[bm];omega) (λR S=>?_);rw[aS];refine U ?_;refine mP (λm σ L'=>∃(i:Nat) (G:Option Addr) (I:Nat),m=nO s-i/\i<=nO s/\L'=li 318 2 sF G I (d.ld++(((rO s).take i).mapIdx λi c=>(pos+i,c.val)))::k4 E 74 [nI 0,sv [],.slice none 0 0]::k4 D 74 (qz d (.slice A d.ld.length c))::fz o::L/\
    ml σ [(1,nN pos),(2,sv s),(3,.pointer (some ⟨D,0,none⟩)),(6,.pointer (some ⟨E,0,none⟩)),(7,nI 0),(9,.slice G (d.ld++(((rO s).take i).mapIdx λi c=>(pos+i,c.val))).length I),(43,.slice (some ⟨g,0,none⟩) (nO s) (nO s)),(44,nN (nO s)),(45,nN i)]) (nO s) _ (s1 _)
    ⟨0,R,S,by omega,by omega,by simp<;>rfl,rfl,rfl,rfl,rfl,rfl,by simp<;>rfl,rfl,rfl,rfl,trivial⟩ ?_
   rintro m σ _ ⟨i,T,V,rfl,hi,rfl,X⟩;obtain⟨kL,rfl⟩:=X.open;refine U ?_;refine mE rfl (λz=>?_) (λz=>?_)
   ·(have kO:i<nO s:=by have:=am z;omega);obtain⟨x,J⟩:∃x,(rO s)[i]? =some x:=⟨_,ad Zo⟩;have Y:=Wf (rO s) (λi c=>(pos+i,c.val)) i x J;have kQ:(((rO s).take i).mapIdx λi c=>(pos+i,c.val)).length<=1000000:=by rw[iV,aC];omega
    generalize(((rO s).take i).mapIdx λi c=>(pos+i,c.val))=q at*;refine U ?_;refine uV (xs:=rO s) (i:=i) (e:=x) rfl (nS Zn P (le_refl _)) J (m6.len x) rfl rfl ?_;refine U ?_;intro K;refine U ?_;refine xL (vs:=vp x) rfl rfl (aK.2 λu hu=>m6.one x u hu) (m6.len x) p0 rfl rfl (λ_=>trivial) rfl ?_;refine U ?_;refine IZ (a:=⟨K,0,none⟩) rfl rfl rfl ?_;refine zi (s:=x.val) (A:=some ⟨K,0,none⟩) (c:=16) (by rw[x.len]<;>rfl) (oG Zn rfl) rfl rfl rfl ?_;rw[show(pos:Int)+(i:Int)=((pos+i:Nat):Int) from by omega];refine U ?_;intro kF;refine U ?_;refine ap (l:=d.ld++q) (news:=[(pos+i,x.val)]) (oG (g:=kF) (t:=318) (cs:=sF (pos+i,x.val)) Zn rfl) (by simp only[ak,aG,bm];omega) (λA3 c3=>?_);rw[aV,<-Y];refine U ?_;exact⟨nO s-(i+1),_,by omega,Zu,i+1,A3,c3,rfl,by omega,rfl,rfl,rfl,rfl,rfl,rfl,rfl,rfl,rfl,rfl,trivial⟩
   ·(have kG:i=nO s:=by have:=av z;omega);subst kG;rw[aY (show(rO s).length<=nO s from by omega),show((rO s).mapIdx λi c=>(pos+i,c.val))=(cut s).mapIdx λi c=>(pos+i,c) from by rw[<-GL,We]];generalize((cut s).mapIdx λi c=>(pos+i,c))=q at*;refine U ?_;refine kS ?_;exact m7 (c1 (c1 (c1 c0))) results173 (.agg (cs:=qz {d with ld:=d.ld++q} (.slice T (d.ld++q).length V)) inferInstance rfl (m1 m0) rfl) Zt (λk p kH=>⟨_,by rw[f]<;>rfl,by rw[b];exact⟨_,rfl,kH.sl m0⟩⟩)
  ·rw[show decide ((d.size:Int)-(nO s:Int)<(pos:Int))=true from Zq];rw[ai (λh=>F h.2)] at b;rw[b,n] at f;refine U ?_;refine l4 (hp:=f1 (f1 f0)) (GI H d _ w hl) ?_;rintro o _ y ⟨_,rfl,j⟩;obtain⟨B,e,rfl,_,_⟩:=Zi j;refine U ?_;refine kS ?_;exact m7 (c1 (c1 c0)) results173 (.agg (cs:=qz d _) inferInstance rfl m0 rfl) Zt (λk p _=>⟨_,by rw[f]<;>rfl,by rw[b];exact⟨_,rfl,j.up p⟩⟩)
def sc(b:kV)(i:Nat):kV:=(b.drop (i*14)).take 14
def wD(m:UInt8)(p:kV):kV:=m::(p++oV (14-p.length))++[m]
theorem Jv(m:UInt8):∀(f:Nat) (b:kV),b.length<=f->Da m f b=(List.range (rl b.length)).flatMap λi=>wD m (sc b i)
 |0,b,h=>by have:b=[]:=fD.1 (Nat.le_zero.1 h);subst this;rfl
 |f+1,b,h=>by
  rw[Da];by_cases a:b=[];·subst a;rfl
  ·rw[ai a];have d:0<b.length:=cA.2 a;rw[Jv m f (b.drop 14) (by rw[bi];omega)];have c:rl b.length=rl (b.drop 14).length+1:=by unfold rl;rw[bi];omega
   rw[c,jI,bj,List.flatMap_map];have e:(λi=>wD m (sc (b.drop 14) i))=λi=>wD m (sc b (i+1)):=by funext i;unfold sc;rw[cI,show 14+i*14=(i+1)*14 from by omega]
   rw[e];rfl
theorem Oh(m:UInt8)(p:kV)(h:p.length<=14):(wD m p).length=16:=by unfold wD oV;simp;omega
theorem Oi(m:UInt8)(b:kV)(D:List Nat):(D.flatMap λi=>wD m (sc b i)).length=D.length*16:=by
 induction D with
 |nil=>rfl
 |cons i D a=>rw[bj,ak,a,Oh _ _ (by unfold sc;rw[aC];omega),aG];omega
theorem Jw(a:Int)(p:kV):u7 a p=if a<1\/a>1000000\/p.length>40000 then none else some (Da (sP a.toNat) (uL a.toNat p).length (uL a.toNat p)):=rfl
theorem Oj(n:Nat)(p:kV)(a:n<=1000000)(hp:p.length<=1000000000):(uL n p).length<=p.length+40:=by
 have b:=wx (n:=n) Zo;have c:=wx (n:=p.length) Zo;have d:(zk (pJ (rY n) p)).length=v7 n+v7 p.length+p.length+4:=by unfold zk pJ;simp[x3,Mj];omega
 have e:=wx (n:=(zk (pJ (rY n) p)).length) Zo;unfold uL;rw[pJ];simp only[ak,x3,bm];omega
def Jy(m:UInt8):List Value:=[.int .u8 (m.toNat:Int),.int .u8 0,.int .u8 0,.int .u8 0,.int .u8 0,.int .u8 0,.int .u8 0,.int .u8 0,.int .u8 0,.int .u8 0,.int .u8 0,.int .u8 0,.int .u8 0,.int .u8 0,.int .u8 0,.int .u8 (m.toNat:Int)]
theorem Wh(m:UInt8)(p:kV)(hp:p.length<=14):qC (Jy m) 1 (p.flatMap mI)=(wD m p).flatMap mI:=by
 have e:Jy m=.int .u8 (m.toNat:Int)::(List.replicate 14 (.int .u8 0)++[.int .u8 (m.toNat:Int)]):=rfl;have a:∀k,(oV k).flatMap mI=List.replicate k (Value.int .u8 0):=by intro k;unfold oV;rw[Ac,kq];rfl
 rw[e];unfold qC wD;rw[xm,kl 1 p.length,iG,fM (by simp;omega),j9,iF,jK,bD,bj,bD,a];simp[mI]
theorem Wj{W:World}{L:List kM}{g c i:Nat}{B:kV}(a:so 5 g c B∈L)(b:B.length<=c)(e:i*14<B.length):oq W L (Rd (some ⟨g,i*14,none⟩) 1 mI (sc B i)):=λw d=>by have h:=Mq (Mr (c:=c) (F7 a w d) (i*14) b) 14;rw[show qd (some ⟨g,0,none⟩) c (i*14) 1=some ⟨g,i*14,none⟩ from by unfold qd;rw[ai Zo,aW,cz];simp] at h;exact h
def Ok(a b d e n:Nat)(B:kV)(H:kM)(D:List Nat)(X:List kM):Prop:=∃A c,X=[k4 d 291 [.slice A (D.flatMap λi=>wD (sP n) (sc B i)).length c],li 5 1 mI A c (D.flatMap λi=>wD (sP n) (sc B i)),so 5 b e B,k4 a 3 [nN n],fz H]
theorem Co(H:kM)(K:Steps H)(a:Int)(hl:od a)(p:kV)(hp:p.length<=1000000000):Rf prog 95 #[nI a,sv p] H (.tuple #[oS (u7 a p),nI (if(u7 a p).isSome then 0 else 130)]):=λW L=>by
 have f:=Jw a p;refine EU func95 ?_;refine rj (sR ?_);refine U ?_;intro m;refine U ?_;refine rj (sR ?_);refine U ?_;by_cases r:a<1;·rw[show decide (a<1)=true from aZ r];rw[aj (.inl r)] at f;refine U ?_;refine kS ?_;exact og results95 Zt Zt lv ⟨by rw[f]<;>rfl,rfl⟩
 ·rw[show decide (a<1)=false from bx r];refine U ?_;by_cases x:1000000<a;·rw[show decide (1000000<a)=true from aZ x];rw[aj (.inr (.inl x))] at f;refine U ?_;refine kS ?_;exact og results95 Zt Zt lv ⟨by rw[f]<;>rfl,rfl⟩
  ·rw[show decide (1000000<a)=false from bx x];refine U ?_;by_cases M:40000<p.length;·rw[show decide ((40000:Int)<(p.length:Int))=true from Zq];rw[aj (.inr (.inr M))] at f;refine U ?_;refine kS ?_;exact og results95 Zt Zt lv ⟨by rw[f]<;>rfl,rfl⟩
   ·rw[show decide ((40000:Int)<(p.length:Int))=false from Zq];rw[ai Zo] at f;obtain⟨n,rfl⟩:∃n:Nat,a=(n:Int):=⟨a.toNat,by omega⟩;rw[bC] at f;have kI:=wx (n:=n) Zo;have G:(uL n p).length<=p.length+40:=Oj n p Zo Zo;refine U ?_;refine rj (sR ?_);refine U ?_;intro kJ;refine U ?_;refine sm (k1 (k1 (k1 k0))) (λj N r=>(EK j [] _ [(n:Int)] (z8 (c:=1) (N _ m0) rfl ⟨aA _,by decide⟩) (by simp;omega) Zs).eq (v':=.tuple #[sv (rY n),.int .i64 0]) (by rw[Gb];rfl)) ?_;refine U ?_;refine rj (sR ?_);refine U ?_;refine md (EL (rY n) p (by rw[x3];omega) W _) ?_;refine mi (Td H K (pJ (rY n) p) (by unfold pJ;simp[x3];have:=wx (n:=p.length) Zo;omega)) ?_;refine md (EL [] (zk (pJ (rY n) p)) (by rw[uL,pJ] at G;simp only[ak,bm] at G⊢;omega) W _) ?_;rw[show pJ [] (zk (pJ (rY n) p))=uL n p from rfl];generalize hB:uL n p=B at*;refine U ?_;refine F8 (s:=B) (e:=5) rfl rfl Zo rfl rfl (λd k=>?_);refine SL.pure (φ:=B.length<=k) (λw u=>by obtain⟨_,_,_,_,O,_⟩:=C0 (u.ok _ Zn).holds;exact O) (λI=>?_);refine U ?_;refine rj (sR ?_);refine U ?_;intro q;refine U ?_;refine rj ?_;refine rj (sR ?_);refine U ?_;refine l4 (hp:=f1 (f1 (f1 (f1 f0)))) (V5 H (some ⟨d,0,none⟩) B.length k) ?_;rintro j _ r ⟨P,rfl,Q⟩;refine U ?_;refine ES ?_;refine uO.mL (L':=[k4 q 291 [.slice none 0 0],li 5 1 mI none 0 [],so 5 d k B,k4 m 3 [nN n],fz j]++L) (λw u=>(u.oA 5 1 mI none).pick 5 [1,0,2,4] Zd) ?_;refine ET (L:=L) (V4 j P d B.length k I Zo Q W)
     (λD X=>Ok m d q k n B j D X) (λ_ _ _=>False)
     (λD i R X=>i*14<B.length/\D.length<=rl B.length/\Ok m d q k n B j D X/\ml R [(2,.pointer (some ⟨m,0,none⟩)),(9,.pointer (some ⟨q,0,none⟩)),(10,.slice (some ⟨d,i*14,none⟩) (sc B i).length (sc B i).length)])
     [k4 q 291 [.slice none 0 0],li 5 1 mI none 0 [],so 5 d k B,k4 m 3 [nN n],fz j] ⟨none,0,rfl⟩
     (by rintro pre _ J ⟨A,c,rfl⟩;exact Gm (m1 (m1 (m1 (m1 m0))))) ?_ ?_ ?_ (λ_ _ _ _ _ h=>h.elim) (sk:=As func230)
    ·rintro S pre i X J y T;have v:pre.length+1<=rl B.length:=by have:=y.length_le;simpa using this
     (have z:i*14<B.length:=by obtain⟨t,e⟩:=y;have C:=congrArg (·[pre.length]?) e;simp only[aV,bZ (aA _),dF,aD,dW] at C;rw[ka Zo] at C;cases C;unfold rl at v;omega);refine pA ?_;refine U ?_;have V:N7 d B.length i=.slice (some ⟨d,i*14,none⟩) (sc B i).length (sc B i).length:=by(have:(sc B i).length=min (i*14+14) B.length-i*14:=by unfold sc;rw[aC,bi];omega);rw[this];rfl
     exact⟨X,Sub.refl,z,by omega,T,rfl,rfl,V,trivial⟩
    ·rintro S pre i σ _ J y ⟨z,kL,⟨A,c,rfl⟩,Y⟩;obtain⟨kO,rfl⟩:=Y.open;refine pA ?_;refine U ?_;intro kF;refine U ?_;iterate 3 (refine pA ?_;refine U ?_)
     (refine MQ [k4 m 3 [nN n]] (lC.p8 [0,2] (lC.Z [1,3] (lC.p8 [4] (lC.Z [5] (lC.p8 [6] (lC.Z [7] .mZ)))))) Zk Zk Zk Zk (λ_ _ _ h=>h) (.of Zu) ?_;refine qu _ _ _ Zk ?_;refine U ?_;refine mM _ _ _ _ Zk ?_;refine U ?_;refine md (Js n Zo W _) ?_;refine U ?_;refine md (Js n Zo W _) ?_;refine U ?_;refine qu _ _ _ Zk ?_;refine U ?_;refine zc (i:=0) rfl rfl Zd rfl rfl ?_;refine U ?_;refine mM _ _ _ _ Zk ?_;refine U ?_;refine qu _ _ _ Zk ?_;refine U ?_;refine zc (i:=15) rfl rfl Zd rfl rfl ?_;refine U ?_;refine mM _ _ _ _ Zk ?_;refine U ?_;iterate 3 (refine pA ?_;refine U ?_));refine TV (l:=1) rfl rfl Zd rfl rfl ?_;refine U ?_;have v:(sc B i).length<=14:=by unfold sc;rw[aC];omega
     (refine Ip (enc:=mI) (s:=1) (e:=5) (b:=1) (g:=kF) (o:=1) (dl:=15) (dc:=15) (news:=sc B i) (cs:=Jy (sP n)) (te:=298) rfl rfl (Wj Zn I z) Zo (by show 1+(sc B i).length*1<=16;omega) p0 rfl (λ_=>trivial) rfl rfl ?_;rw[Wh _ _ v];refine U ?_;iterate 3 (refine pA ?_;refine U ?_));refine TT [0,1,2,3] Zk Zk Zk Zk Zk (λ_ _ _ h=>h) ?_;refine U ?_;refine IZ rfl rfl rfl ?_;refine U ?_;have kQ:=Oi (sP n) B pre;have kT:rl B.length<=4000:=by unfold rl;omega
     (have kG:=Oh (sP n) (sc B i) v;refine td (enc:=mI) (e:=5) (news:=wD (sP n) (sc B i)) rfl (by rw[kG]<;>rfl) (oG Zn rfl) (λ_ _=>by(first|exact p0|exact p1 p0|exact p1 (p1 p0)|exact p1 (p1 (p1 p0))|exact p1 (p1 (p1 (p1 p0)))|exact p1 (p1 (p1 (p1 (p1 p0))))|exact p1 (p1 (p1 (p1 (p1 (p1 p0)))))|exact p1 (p1 (p1 (p1 (p1 (p1 (p1 p0)))))))) Zo (by unfold maxLen;omega) rfl (λ_ _=>by(first|exact λ_=>trivial|(intro _;refine Sub.of ?_;exact Zu))) rfl rfl (λE F=>?_);refine U ?_;iterate 3 (refine pA ?_;refine U ?_));exact⟨[k4 q 291 [.slice E ((pre.flatMap λi=>wD (sP n) (sc B i))++wD (sP n) (sc B i)).length F],li 5 1 mI E F ((pre.flatMap λi=>wD (sP n) (sc B i))++wD (sP n) (sc B i)),so 5 d k B,k4 m 3 [nN n],fz j],.of Zu,E,F,by rw[bD,bj,ii,aP]⟩
    ·rintro D xs X kH ⟨A,c,rfl⟩;subst kH;rw[<-Jv (sP n) B.length B (aA _)];generalize Da (sP n) B.length B=out at*;refine SC.mL (L':=qj D::([k4 q 291 [.slice A out.length c],li 5 1 mI A c out,so 5 d k B,k4 m 3 [nN n],fz j]++L)) (λ_ u=>u) ?_;refine U ?_;refine zi (s:=out) rfl (p9 Zn) rfl rfl rfl ?_;refine U ?_;refine kS ?_;refine⟨_,o0,?_⟩;exact og results95 Zt Zt (Bq (es:=[]) r Zu) ⟨by rw[f]<;>rfl,rfl⟩
theorem Ol(len:Nat):∀(l:List kV) (b:kV) (c:Nat),(∀p∈l,p.length<=14)->(sQ len l b c).1.length<=b.length+14*l.length
 |[],b,c,_=>by simp[sQ]
 |p::l,b,c,h=>by
  have hp:=h p (ay ..);have f:=λnd=>Ol len l (b++p) nd (λq g=>h q (aI _ g));have e:(b++p).length=b.length+p.length:=ak;rw[Cn];have a:(b++p).length<=b.length+14*(p::l).length:=by rw[e,aG];omega
  have d:∀nd,(sQ len l (b++p) nd).1.length<=b.length+14*(p::l).length:=λnd=>by have:=f nd;rw[aG];omega
  split
  ·cases pY p with
   |none=>exact a
   |some y=>
    show(if y.1>len then(b++p,0) else if(b++p).length>=p.length-y.2.length+y.1 then(b++p,p.length-y.2.length+y.1) else sQ len l (b++p) (p.length-y.2.length+y.1)).1.length<=_;split;·exact a
    ·split;·exact a
     ·exact d _
  ·split;·exact a
   ·exact d _
theorem Wk(s:kV)(m:UInt8):(Db s m).length<=s.length+14:=by
 rw[N9];split;·simp
 ·have a:=Jt m (s.length/16+1) s;have b:=Ol s.length (uM m (s.length/16+1) s) [] 0 a.2;have c:=a.1;simp only[bm] at b;omega
theorem Jz{s t r:kV}(h:sq s=some (t,r)):t.length<=s.length/\r.length<=s.length:=by
 have c:sq s=match pY s with
  |none=>none
  |some (n,rest)=>if n>rest.length then none else some (rest.take n,rest.drop n):=rfl
 rw[c] at h;cases a:pY s with
 |none=>rw[a] at h;cases h
 |some y=>
  obtain⟨n,rest⟩:=y;rw[a] at h;have:=Fg a;by_cases b:n>rest.length;·simp only[aj b] at h;cases h
  ·simp only[ai b] at h;cases h;rw[aC,bi];omega
theorem DB{a:Int}{p x:kV}(h:u7 a p=some x):x.length=16*rl (uL a.toNat p).length/\p.length<=40000/\1<=a/\a<=1000000/\x.length<=16*(p.length+54):=by
 rw[Jw] at h;split at h;·cases h
 ·rename_i b;cases h;have c:=Oj a.toNat p Zo Zo;rw[Jv _ _ _ (aA _),Oi,fR];refine⟨by omega,by omega,by omega,by omega,?_⟩;unfold rl;omega
theorem Wm{s t:kV}(h:Ba s=some t):t.length<=s.length:=by
 unfold Ba at h;split at h;·cases h
 ·split at h;·cases h;rw[aC];omega
  ·cases h
theorem JA(s:kV)(a:Int):xR s a=if a<1\/a>1000000 then none else match sq (Db s (sP a.toNat)) with
 |none=>none
 |some (
  d,_)=>match Ba d with
  |none=>none
  |some b=>match pY b with
   |none=>none
   |some (_,b2)=>match sq b2 with
    |none=>none
    |some (p,_)=>match u7 a p with
     |none=>none
     |some c=>if c.isPrefixOf s then some (p,c.length/16) else none:=rfl
def Wn(r:Option (kV×Nat)):Value:=.tuple #[oS (r.map (·.1)),nN ((r.map (·.2)).getD 0),.bool r.isSome]
theorem GN(H:kM)(l:Steps H)(s:kV)(d:Int)(hl:od d)(u:s.length<=10000000):Rf prog 239 #[sv s,nI d] H (Wn (xR s d)):=λW L=>by
 have c:=JA s d;refine enter func239 ?_;refine U ?_;by_cases o:d<1;·rw[show decide (d<1)=true from aZ o];rw[aj (.inl o)] at c;refine U ?_;refine kS ?_;exact pd results239 Zt Zt Zt lv ⟨by rw[c]<;>rfl,rfl⟩
 ·rw[show decide (d<1)=false from bx o];refine U ?_;by_cases q:1000000<d;·rw[show decide (1000000<d)=true from aZ q];rw[aj (.inr q)] at c;refine U ?_;refine kS ?_;exact pd results239 Zt Zt Zt lv ⟨by rw[c]<;>rfl,rfl⟩
  ·rw[show decide (1000000<d)=false from bx q];rw[ai Zo] at c;obtain⟨n,rfl⟩:∃n:Nat,d=(n:Int):=⟨d.toNat,by omega⟩;rw[bC] at c;have x:=Wk s (sP n);refine U ?_;refine md (Js n Zo W _) ?_;refine mi (V8 H s (sP n) u) ?_;generalize Db s (sP n)=r at*;cases f:sq r with
   |none=>rw[f] at c;refine md ((x4 r Zo).eq (v':=.tuple #[sv [],sv [],nI 40]) (by rw[f];rfl) W _) ?_;refine U ?_;refine kS ?_;exact pd results239 Zt Zt Zt lv ⟨by rw[c]<;>rfl,rfl⟩
   |some y=>
    obtain⟨m,v⟩:=y;have z:=Jz f;rw[f] at c;refine md ((x4 r Zo).eq (v':=.tuple #[sv m,sv v,nI 0]) (by rw[f];rfl) W _) ?_;refine U ?_;cases g:Ba m with
    |none=>simp only[g] at c;refine mi ((Ml H l m Zo).eq (v':=.tuple #[sv [],.bool false]) (by rw[g];rfl)) ?_;refine U ?_;refine kS ?_;exact pd results239 Zt Zt Zt lv ⟨by rw[c]<;>rfl,rfl⟩
    |some b=>
     have A:=Wm g;simp only[g] at c;refine mi ((Ml H l m Zo).eq (v':=.tuple #[sv b,.bool true]) (by rw[g];rfl)) ?_;refine U ?_;cases h:pY b with
     |none=>simp only[h] at c;refine md ((Bl b Zo).eq (v':=.tuple #[nI 0,sv [],nI 40]) (by rw[h];rfl) W _) ?_;refine U ?_;refine kS ?_;exact pd results239 Zt Zt Zt lv ⟨by rw[c]<;>rfl,rfl⟩
     |some y=>
      obtain⟨k,b2⟩:=y;have B:=Fg h;simp only[h] at c;refine md ((Bl b Zo).eq (v':=.tuple #[nN k,sv b2,nI 0]) (by rw[h];rfl) W _) ?_;refine U ?_;cases i:sq b2 with
      |none=>simp only[i] at c;refine md ((x4 b2 Zo).eq (v':=.tuple #[sv [],sv [],nI 40]) (by rw[i];rfl) W _) ?_;refine U ?_;refine kS ?_;exact pd results239 Zt Zt Zt lv ⟨by rw[c]<;>rfl,rfl⟩
      |some y=>
       obtain⟨p,w⟩:=y;have hp:=Jz i;simp only[i] at c;refine md ((x4 b2 Zo).eq (v':=.tuple #[sv p,sv w,nI 0]) (by rw[i];rfl) W _) ?_;refine U ?_;cases j:u7 (n:Int) p with
       |none=>simp only[j] at c;refine mi ((Co H l (n:Int) hl p Zo).eq (v':=.tuple #[sv [],nI 130]) (by rw[j];rfl)) ?_;refine U ?_;refine kS ?_;exact pd results239 Zt Zt Zt lv ⟨by rw[c]<;>rfl,rfl⟩
       |some e=>
        have C:=DB j;simp only[j] at c;refine mi ((Co H l (n:Int) hl p Zo).eq (v':=.tuple #[sv e,nI 0]) (by rw[j];rfl)) ?_;refine U ?_;refine md (Nq s e Zo Zo W _) ?_;refine U ?_;cases t:e.isPrefixOf s with
        |false=>simp only[t] at c;refine U ?_;refine kS ?_;exact pd results239 Zt Zt Zt lv ⟨by rw[c]<;>rfl,rfl⟩
        |true=>simp only[t] at c;refine U ?_;refine AW (a:=(e.length:Int)) (b:=16) rfl rfl Zd (by rw[show((e.length:Nat):Int).tdiv 16=((e.length/16:Nat):Int) from rfl];omega) rfl rfl ?_;rw[show((e.length:Nat):Int).tdiv 16=((e.length/16:Nat):Int) from rfl];refine U ?_;refine kS ?_;exact pd results239 Zt Zt Zt lv ⟨by rw[c]<;>rfl,rfl⟩
theorem GO{s p:kV}{a:Int}{n:Nat}(h:xR s a=some (p,n)):1<=n/\n*16<=s.length/\p.length<=40000/\1<=a/\a<=1000000:=by
 rw[JA] at h;split at h;·cases h
 ·split at h;·cases h
  ·split at h;·cases h
   ·split at h;·cases h
    ·split at h;·cases h
     ·split at h;·cases h
      ·rename_i g b;split at h
       ·rename_i c;cases h;obtain⟨i,d,e,f,j⟩:=DB b;have hl:=(dY.1 c).length_le;refine⟨?_,by omega,d,e,f⟩;have k:1<=(uL a.toNat p).length:=by rw[uL,pJ];have:=IE 10 (zk (pJ (rY a.toNat) p)).length;simp only[ak,x3,bm];unfold v7;omega
        (have:1<=rl (uL a.toNat p).length:=by unfold rl;omega);omega
       ·cases h
theorem JB(f:Nat)(s:kV)(a:Int):wr (f+1) s a=match xR s a with
 |none=>([],0)
 |some (p,n)=>(p::(wr f (s.drop (n*16)) (a+1)).1,n+(wr f (s.drop (n*16)) (a+1)).2):=rfl
theorem Wo(H:kM)(h:Steps H)(s:kV)(b:Int)(hl:od b)(B:s.length<=10000000):Fn prog 185 #[sv s,nI b] H (λi r=>∃v,r=.tuple #[v,nN (Bi s b).2]/\Sl 1 ni i v (Bi s b).1):=λW L=>by
 refine enter func185 ?_;refine U ?_;refine SC.mL (λw k=>k.oA 9 1 ni none) ?_;refine mP (λm σ L'=>∃(pos:Nat) (a:List kV) (A:Option Addr) (c:Nat),m=s.length/16-a.length/\a.length<=pos/\pos*16<=s.length/\od (b+(a.length:Int))/\
  Bi s b=(a++(wr (s.length/16-a.length+1) (s.drop (pos*16)) (b+(a.length:Int))).1,pos+(wr (s.length/16-a.length+1) (s.drop (pos*16)) (b+(a.length:Int))).2)/\
  L'=li 9 1 ni A c a::fz H::L/\ml σ [(0,sv s),(1,nI (b+(a.length:Int))),(6,.slice A a.length c),(7,nN pos)]) (s.length/16)
  _ (s1 _) ⟨0,[],none,0,by simp,by simp,by omega,by simpa using hl,by simp[Bi],rfl,rfl,by rw[show b+((([]:List kV).length:Nat):Int)=b from by simp];rfl,rfl,rfl,trivial⟩ ?_
 rintro m σ _ ⟨pos,a,A,c,rfl,C,D,j,d,rfl,o⟩;obtain⟨E,rfl⟩:=o.open;have F:(s.drop (pos*16)).length=s.length-pos*16:=bi;rw[JB] at d;refine U ?_;rw[show(pos:Int)*16=((pos*16:Nat):Int) from by omega];refine U ?_;refine zd (s:=s) (l:=pos*16) rfl rfl Zo rfl rfl ?_;refine U ?_;cases f:xR (s.drop (pos*16)) (b+(a.length:Int)) with
 |none=>rw[f] at d;refine mi ((GN H h (s.drop (pos*16)) _ j Zo).eq (v':=.tuple #[sv [],nN 0,.bool false]) (by rw[f];rfl)) ?_;refine U ?_;refine kS ?_;exact m7 (c1 c0) results185 Zt Zt (λi hl q=>by rw[d];simp only[aP];exact⟨_,rfl,q.sl m0⟩)
 |some y=>
  obtain⟨p,n⟩:=y;obtain⟨G,I,J,K,M⟩:=GO f;rw[f] at d;have e:(a++[p]).length=a.length+1:=by simp
  refine mi ((GN H h (s.drop (pos*16)) _ j Zo).eq (v':=.tuple #[sv p,nN n,.bool true]) (by rw[f];rfl)) ?_;simp only[cI] at d;rw[show pos*16+n*16=(pos+n)*16 from by omega] at d;refine U ?_;intro u;refine U ?_;refine td (enc:=ni) (l:=a) (news:=[p]) rfl rfl (oG (g:=u) (t:=9) (cs:=ni p) Zn Zs) (λ_ _=>by(first|exact p0|exact p1 p0|exact p1 (p1 p0)|exact p1 (p1 (p1 p0))|exact p1 (p1 (p1 (p1 p0)))|exact p1 (p1 (p1 (p1 (p1 p0))))|exact p1 (p1 (p1 (p1 (p1 (p1 p0)))))|exact p1 (p1 (p1 (p1 (p1 (p1 (p1 p0)))))))) Zl Zm rfl (λ_ _=>by(first|exact λ_=>trivial|(intro _;refine Sub.of ?_;exact Zu))) rfl rfl (λx z=>?_);refine U ?_;rw[show(pos:Int)+(n:Int)=((pos+n:Nat):Int) from by omega];refine U ?_;exact⟨s.length/16-(a++[p]).length,_,by rw[e];omega,Zu,pos+n,a++[p],x,z,rfl,by rw[e];omega,by omega,⟨by rw[e];omega,by rw[e];omega⟩,by rw[d,e,show s.length/16-(a.length+1)+1=s.length/16-a.length from by omega,jv,<-j6];simp[eX],rfl,rfl,by rw[e,jv,<-j6]<;>rfl,rfl,rfl,trivial⟩
theorem Wp{g o c lo s:Nat}(h:lo<c):qd (some ⟨g,o,none⟩) c lo s=some ⟨g,o+lo*s,none⟩:=by unfold qd;rw[ai Zo];simp[Addr.add]
theorem JC{l p:kV}{k:Nat}(h:k+p.length<=l.length):r9 l k p=l.take k++p++l.drop (k+p.length):=by unfold r9;rw[aY (l:=p) Zo]
def Cp(mT:kV)(i:Nat):Nat:=match mT[i]? with
 |some b=>b.toNat%3
 |none=>0
theorem Om(mT:kV)(i:Nat)(f:kV)(p:Nat×kV):EJ mT i f p=if Cp mT i=1 then r9 (r9 f (p.1*16+8) (p.2.drop 8)) (p.1*16) (p.2.take 8) else if Cp mT i=2 then r9 f (p.1*16) (p.2.take 8) else f:=rfl
theorem On(d:Dk)(mT:kV):t8 d mT=if sy d then⟨d.size,zr mT 0 d.pU d.ld,[]⟩ else d:=rfl
theorem Oo(mT:kV)(i:Nat)(f:kV)(p:Nat×kV)(h:p.1*16+16<=f.length):(EJ mT i f p).length=f.length:=by
 rw[Om];split;·rw[Dw _ _ _ (by rw[Dw _ _ _ Zo];omega),Dw _ _ _ Zo]
 ·split;·rw[Dw _ _ _ Zo]
  ·rfl
theorem Wq(H:kM)(d:Dk)(v:Value)(M:Sl 2 sF H v d.ld)(hl:d.ld.length<=1000000)(mT:kV)(kG:mT.length<=1000000000):Fn prog 116 #[.agg (qz d v).toArray,sv mT] H (Du (t8 d mT)):=λW L=>by
 have N:=M;obtain⟨A,c,rfl,hc,hr⟩:=M;have r:=On d mT;refine enter func116 ?_;refine U ?_;intro t;refine U ?_;intro u;refine U ?_;refine mi (Dv H d _ N) ?_;cases D:sy d with
 |false=>rw[ai (by simp[D])] at r;refine U ?_;refine l4 (hp:=f1 (f1 f0)) (GI H d _ N hl) ?_;rintro H1 _ kH ⟨_,rfl,O⟩;obtain⟨B,e,rfl,_,_⟩:=Zi O;refine U ?_;refine kS ?_;exact lX (c1 (c1 c0)) results116 (.agg (cs:=qz d _) inferInstance rfl m0 rfl) (λX P _=>by rw[r];exact⟨_,rfl,O.up P⟩)
 |true=>
  rw[aj D] at r;have E:=Ay.1 D;have kI:=E.size;have Q:=E.pU;refine U ?_;refine F8 (s:=d.pU) (e:=5) rfl rfl Zo rfl rfl (λj f=>?_);refine U ?_;refine mP (λm σ L'=>∃(i:Nat) (b:kV),m=d.ld.length-i/\i<=d.ld.length/\zr mT 0 d.pU d.ld=zr mT i b (d.ld.drop i)/\b.length=d.size*16/\
   L'=so 5 j f b::k4 u 74 [nI 0,sv [],.slice none 0 0]::k4 t 74 (qz d (.slice A d.ld.length c))::fz H::L/\
   ml σ [(1,sv mT),(2,.pointer (some ⟨t,0,none⟩)),(4,.pointer (some ⟨u,0,none⟩)),(5,.slice (some ⟨j,0,none⟩) d.pU.length f),(20,nN d.ld.length),(21,nN i)]) d.ld.length _ (s1 _)
   ⟨0,d.pU,by omega,by omega,rfl,Q,rfl,rfl,rfl,rfl,rfl,rfl,rfl,trivial⟩ ?_
  rintro m σ _ ⟨i,b,rfl,hi,q,Y,rfl,F⟩;obtain⟨kJ,rfl⟩:=F.open;refine SC.pure (φ:=b.length<=f) (λw hw=>by obtain⟨_,_,_,_,h3,_⟩:=C0 (hw.ok _ Zn).holds;exact h3) (λkL=>?_);refine U ?_;refine mE rfl (λG=>?_) (λG=>?_)
  ·have I:i<d.ld.length:=by have:=am G;omega
   obtain⟨p,hp⟩:∃p,d.ld[i]? =some p:=⟨_,ad I⟩;have kO:=E.ld p (ar hp);have kQ:(sF p).length=2:=rfl;have oC:d.ld.drop i=p::d.ld.drop (i+1):=by rw[ad I] at hp;cases hp;exact(dp I).symm
   rw[oC,zr] at q;have kT:=Oo mT i b p Zo;have n:=Om mT i b p;have y:Cp mT i=match mT[i]? with
    |some b=>b.toNat%3
    |none=>0:=rfl
   have kX:Cp mT i<3:=by unfold Cp;split<;>omega
   generalize EJ mT i b p=J at*;refine U ?_;intro R;refine U ?_;refine wM (λkF L'=>L'=k4 R 318 (sF p)::so 5 j f b::k4 u 74 [nI 0,sv [],.slice none 0 0]::k4 t 74 (qz d (.slice A d.ld.length c))::fz H::L/\
    ml kF [(1,sv mT),(2,.pointer (some ⟨t,0,none⟩)),(4,.pointer (some ⟨u,0,none⟩)),(5,.slice (some ⟨j,0,none⟩) d.pU.length f),(7,.pointer (some ⟨R,0,none⟩)),(8,nN (Cp mT i)),(20,nN d.ld.length),(21,nN i)]) ?_ ?_
   ·(refine mE rfl (λK=>?_) (λK=>?_);·(have z:i<mT.length:=by have:=am K;omega);obtain⟨x,S⟩:∃x,mT[i]? =some x:=⟨_,ad z⟩;have kY:=x.toNat_lt;rw[S] at y;refine U ?_;refine CX (i:=i) (b:=x) rfl rfl S rfl rfl ?_;refine U ?_;refine z6 (k:=.i64) (a:=(x.toNat:Int)) (b:=3) rfl rfl Zd rfl rfl ?_;rw[show((x.toNat:Nat):Int).tmod 3=((x.toNat%3:Nat):Int) from rfl];refine U ?_;exact⟨rfl,rfl,rfl,rfl,rfl,rfl,by rw[y]<;>rfl,rfl,rfl,trivial⟩);·(have z:¬i<mT.length:=by have:=av K;omega);rw[dL Zo] at y;refine U ?_;exact⟨rfl,rfl,rfl,rfl,rfl,rfl,by rw[y]<;>rfl,rfl,rfl,trivial⟩
   rintro _ _ ⟨rfl,F⟩;obtain⟨kZ,rfl⟩:=F.open;generalize Cp mT i=C at*;refine U ?_;rw[show(p.1:Int)*16=((p.1*16:Nat):Int) from by omega];refine vX (l:=p.1*16) rfl rfl Zo rfl rfl ?_;rw[EB Zo,eL];refine rW (h:=16) rfl rfl Zo rfl rfl ?_;refine U ?_;by_cases T:C=1;·subst T;rw[aj rfl] at n;refine U ?_;refine nq [0,1,2,3,4,5] Zk Zk Zk Zk Zk (λ_ _ _ h=>h) ?_;refine U ?_;refine vX (l:=8) rfl rfl Zo rfl rfl ?_;rw[Wp Zo,eL];refine U ?_;refine zd (s:=p.2) (l:=8) rfl rfl Zo rfl rfl ?_;refine Gt (g:=j) (o:=p.1*16+8) (dl:=8) (bs:=b) (cap:=f) (te:=5) (str:=p.2.drop 8) rfl rfl Zo (p1 p0) rfl (λ_=>Sub.of (bu _)) rfl rfl ?_;rw[show(p.2.drop 8).take 8=p.2.drop 8 from aY (by rw[bi];omega),<-JC (by rw[bi];omega)];have k5:(r9 b (p.1*16+8) (p.2.drop 8)).length=b.length:=Dw _ _ _ Zo;generalize r9 b (p.1*16+8) (p.2.drop 8)=b1 at*;refine U ?_;refine CY (s:=p.2) (h:=8) rfl rfl Zo rfl rfl ?_;refine Gt (g:=j) (o:=p.1*16) (dl:=16) (bs:=b1) (cap:=f) (te:=5) (str:=p.2.take 8) rfl rfl Zo (p1 p0) rfl (λ_=>trivial) rfl rfl ?_;rw[show(p.2.take 8).take 16=p.2.take 8 from by rw[dG];rfl,<-JC (by rw[aC];omega)];refine U ?_;rw[<-n];exact⟨d.ld.length-(i+1),_,by omega,Zu,i+1,J,rfl,by omega,q,by omega,rfl,rfl,rfl,rfl,rfl,rfl,rfl,trivial⟩
   ·(rw[show((C:Int)==1)=false from by simp;omega];rw[ai T] at n;refine U ?_;by_cases V:C=2;·subst V;rw[aj rfl] at n;refine U ?_;refine CY (s:=p.2) (h:=8) rfl rfl Zo rfl rfl ?_;refine Gt (g:=j) (o:=p.1*16) (dl:=16) (bs:=b) (cap:=f) (te:=5) (str:=p.2.take 8) rfl rfl Zo (p1 p0) rfl (λ_=>trivial) rfl rfl ?_;rw[show(p.2.take 8).take 16=p.2.take 8 from by rw[dG];rfl,<-JC (by rw[aC];omega)];refine U ?_;rw[<-n];exact⟨d.ld.length-(i+1),_,by omega,Zu,i+1,J,rfl,by omega,q,by omega,rfl,rfl,rfl,rfl,rfl,rfl,rfl,trivial⟩);·rw[show((C:Int)==2)=false from by simp;omega];rw[ai V] at n;subst n;refine U ?_;exact⟨d.ld.length-(i+1),_,by omega,Zu,i+1,J,rfl,by omega,q,by omega,rfl,rfl,rfl,rfl,rfl,rfl,rfl,trivial⟩
  ·have z:i=d.ld.length:=by have:=av G;omega
   rw[z,dm,zr] at q;rw[q] at r;refine U ?_;refine zi (s:=b) (A:=some ⟨j,0,none⟩) (c:=f) (by rw[Y,<-Q]<;>rfl) (F7 Zn) rfl rfl rfl ?_;refine U ?_;refine kS ?_;exact lX (c1 (c1 (c1 c0))) results116 (.agg (cs:=qz ⟨d.size,b,[]⟩ (.slice none 0 0)) inferInstance rfl (m1 m0) rfl) (λX P _=>by rw[r];exact⟨_,rfl,Sl.nil _ _ _⟩)
theorem DC(n:Nat)(c:n<=1000000000):Pf prog 96 #[nN n] (nN (n/4)):=λW L=>by refine enter func96 ?_;refine U ?_;refine AW (a:=(n:Int)) (b:=4) rfl rfl Zd (by rw[show((n:Nat):Int).tdiv 4=((n/4:Nat):Int) from rfl];omega) rfl rfl ?_;rw[show((n:Nat):Int).tdiv 4=((n/4:Nat):Int) from rfl];refine U ?_;refine kS ?_;exact lj results96 Zt lv ⟨rfl,rfl⟩
theorem JD(n:Nat)(a:n<=1000000000):Pf prog 98 #[nN n] (nN (nv n)):=λW L=>by refine enter func98 ?_;refine U ?_;refine md (DC n a W _) ?_;refine U ?_;rw[show(2:Int)*((n/4:Nat):Int)=((nv n:Nat):Int) from by unfold nv;omega];refine U ?_;refine kS ?_;exact lj results98 Zt lv ⟨rfl,rfl⟩
theorem GP(n:Nat)(d:n<=1000000000)(seq:Int)(e:od seq):Pf prog 99 #[nN n,nI seq] (nN (pp n seq)):=λW L=>by
 refine enter func99 ?_;have c:pp n seq=if seq.tmod 2≠0 then n/4 else 0:=rfl;refine U ?_;refine z6 (k:=.i64) (a:=seq) (b:=2) rfl rfl Zd rfl rfl ?_;refine U ?_;by_cases h:seq.tmod 2=0;·rw[show(seq.tmod 2 != 0)=false from by simp[h]];rw[ai (by simpa using h)] at c;refine U ?_;refine kS ?_;exact lj results99 Zt lv ⟨by rw[c]<;>rfl,rfl⟩
 ·rw[show(seq.tmod 2 != 0)=true from by simpa using h];rw[aj h] at c;refine U ?_;refine md (DC n d W _) ?_;refine U ?_;refine kS ?_;exact lj results99 Zt lv ⟨by rw[c]<;>rfl,rfl⟩
theorem JE(n:Nat)(b:n<=1000000):Pf prog 187 #[nN n] (sv (oV (n*16))):=λW L=>by
 refine enter func187 ?_;refine U ?_;rw[show(n:Int)*16=((n*16:Nat):Int) from by omega];refine U ?_;refine De mI (0:UInt8) (n*16) rfl rfl Zo Zo rfl rfl rfl rfl rfl (λg=>?_);refine U ?_;have a:(oV (n*16)).length=n*16:=by unfold oV;simp
 refine zi (s:=oV (n*16)) (by rw[a]<;>rfl) (oG Zn rfl) rfl rfl rfl ?_;refine U ?_;refine kS ?_;exact lj results187 Zt lv ⟨rfl,rfl⟩
theorem Oq(mR:Int)(state:kV):xq mR state=match pI [] [mR] with
 |none=>none
 |some head=>if(pJ head state).length>40000 then none else some (pJ head state):=rfl
theorem Ot(mR:Nat)(b:mR<=9223372036854775807)(state:kV)(f:state.length<=100000000000000):Pf prog 94 #[nN mR,sv state] (.tuple #[oS (xq mR state),oE (xq mR state) 130]):=λW L=>by
 have a:xq mR state=if(pJ (rY mR) state).length>40000 then none else some (pJ (rY mR) state):=by rw[Oq,Gb];rfl
 have g:=wx (n:=mR) b;have i:(pJ (rY mR) state).length<=100000000000020:=by have:=wx (n:=state.length) Zo;unfold pJ;simp only[ak,x3];omega
 refine enter func94 ?_;refine U ?_;intro j;refine U ?_;refine BP (k1 k0) (λd e _=>?_);refine mi ((EK d [] _ [(mR:Int)] (z8 (c:=1) (e _ m0) rfl ⟨aA _,by decide⟩) (by simp;omega) Zs).eq (v':=.tuple #[sv (rY mR),.int .i64 0]) (by rw[Gb];rfl)) ?_;refine U ?_;refine md (EL (rY mR) state (by rw[x3];omega) W _) ?_;generalize pJ (rY mR) state=t at*;refine U ?_;by_cases h:40000<t.length;·rw[show decide ((40000:Int)<(t.length:Int))=true from Zq];simp only[gt_iff_lt,aj h] at a;refine U ?_;refine kS ?_;exact og results94 Zt Zt lv ⟨by rw[a]<;>rfl,rfl⟩
 ·rw[show decide ((40000:Int)<(t.length:Int))=false from Zq];simp only[gt_iff_lt,ai h] at a;refine U ?_;refine kS ?_;exact og results94 Zt Zt lv ⟨by rw[a]<;>rfl,rfl⟩
theorem JF(s:kV)(seq:Int):Ca s seq=match xR s seq with
 |none=>none
 |some (text,_)=>match pY text with
  |none=>none
  |some (mR,rest)=>if mR<1\/mR>1000001 then none else match sq rest with
   |none=>none
   |some (state,a)=>if a=[] then some (mR,state) else none:=rfl
def Wr(r:Option (Int×kV)):Value:=.tuple #[nI ((r.map (·.1)).getD 0),oS (r.map (·.2)),.bool r.isSome]
theorem Ou(H:kM)(g:Steps H)(s:kV)(seq:Int)(hl:od seq)(h:s.length<=10000000):Rf prog 238 #[sv s,nI seq] H (Wr (Ca s seq)):=λW L=>by
 have a:=JF s seq;refine enter func238 ?_;refine U ?_;cases b:xR s seq with
 |none=>rw[b] at a;refine mi ((GN H g s seq hl h).eq (v':=.tuple #[sv [],nN 0,.bool false]) (by rw[b];rfl)) ?_;refine U ?_;refine kS ?_;exact pd results238 Zt Zt Zt lv ⟨by rw[a]<;>rfl,rfl⟩
 |some y=>
  obtain⟨text,k⟩:=y;obtain⟨_,_,l,_,_⟩:=GO b;simp only[b] at a;refine mi ((GN H g s seq hl h).eq (v':=.tuple #[sv text,nN k,.bool true]) (by rw[b];rfl)) ?_;refine U ?_;cases c:pY text with
  |none=>simp only[c] at a;refine md ((Bl text Zo).eq (v':=.tuple #[nI 0,sv [],nI 40]) (by rw[c];rfl) W _) ?_;refine U ?_;refine kS ?_;exact pd results238 Zt Zt Zt lv ⟨by rw[a]<;>rfl,rfl⟩
  |some y=>
   obtain⟨mR,rest⟩:=y;have m:=Fg c;simp only[c] at a;refine md ((Bl text Zo).eq (v':=.tuple #[nN mR,sv rest,nI 0]) (by rw[c];rfl) W _) ?_;refine U ?_;by_cases i:(mR:Int)<1;·rw[show decide ((mR:Int)<1)=true from aZ i];rw[aj (.inl Zo)] at a;refine U ?_;refine kS ?_;exact pd results238 Zt Zt Zt lv ⟨by rw[a]<;>rfl,rfl⟩
   ·rw[show decide ((mR:Int)<1)=false from bx i];refine U ?_;by_cases j:(1000001:Int)<(mR:Int);·rw[show decide ((1000001:Int)<(mR:Int))=true from aZ j];rw[aj (.inr Zo)] at a;refine U ?_;refine kS ?_;exact pd results238 Zt Zt Zt lv ⟨by rw[a]<;>rfl,rfl⟩
    ·rw[show decide ((1000001:Int)<(mR:Int))=false from bx j];rw[ai Zo] at a;refine U ?_;cases d:sq rest with
     |none=>simp only[d] at a;refine md ((x4 rest Zo).eq (v':=.tuple #[sv [],sv [],nI 40]) (by rw[d];rfl) W _) ?_;refine U ?_;refine kS ?_;exact pd results238 Zt Zt Zt lv ⟨by rw[a]<;>rfl,rfl⟩
     |some y=>(obtain⟨state,e⟩:=y;simp only[d] at a;refine md ((x4 rest Zo).eq (v':=.tuple #[sv state,sv e,nI 0]) (by rw[d];rfl) W _) ?_;refine U ?_;by_cases f:e=[];·subst f;rw[aj rfl] at a;refine U ?_;refine kS ?_;exact pd results238 Zt Zt Zt lv ⟨by rw[a]<;>rfl,rfl⟩);·rw[ai f] at a;rw[show(e != [])=true from by simpa using f];refine U ?_;refine kS ?_;exact pd results238 Zt Zt Zt lv ⟨by rw[a]<;>rfl,rfl⟩
theorem DD(d:Dk)(a:qZ d)(pos n:Nat)(h:pos+n<=d.size):(Al d pos n).length=n*16:=by rw[Oc];refine Od pos n _ _ ?_;have:=a.pU;rw[aC,bi];omega
theorem JG(d:Dk)(pos n:Nat):((rC d pos n).getD []).length<=65536*16:=by
 rw[Dx];split;·rename_i h;have a:=Ay.1 h.1;have:=a.size;rw[aN,DD d a pos n h.2];omega
 ·simp
theorem GQ(s:kV)(f:Nat)(seq:Int):xr s (f+1) seq=match Ca s seq with
 |some (b,t)=>some (seq,b,t)
 |none=>xr s f (seq+2):=rfl
theorem GR(s:kV):∀(f:Nat) (seq:Int) (y:Int×Int×kV),xr s f seq=some y->seq<=y.1
 |0,_,_,h=>by cases h
 |f+1,seq,y,h=>by
  rw[GQ] at h;split at h;·cases h;exact fJ _
  ·have:=GR s f (seq+2) y h;omega
def JH(d:Dk)(j:Nat):kV:=(rC d (pp d.size (j:Int)) (d.size/4)).getD []
def uP(j i:Nat):Nat:=if i%2=j then i else i+1
def wE(d:Dk)(j:Nat):Option (Int×Int×kV):=xr (JH d j) 100 ((uP j 1:Nat):Int)
def AB(a:Int×Int×kV)(r:Option (Int×Int×kV)):Int×Int×kV:=match r with
 |none=>a
 |some y=>if y.1>a.1 then y else a
def sd(d:Dk):Nat->Int×Int×kV
 |0=>(0,0,[])
 |j+1=>AB (sd d j) (wE d j)
theorem GS(d:Dk):sA d=sd d 2:=by
 have a:wE d 0=xr ((rC d (pp d.size 0) (d.size/4)).getD []) 100 2:=rfl;have b:wE d 1=xr ((rC d (pp d.size 1) (d.size/4)).getD []) 100 1:=rfl;show sA d=AB (AB (0,0,[]) (wE d 0)) (wE d 1);unfold sA;rw[<-a,<-b];cases f:wE d 0 with
 |none=>
  cases c:wE d 1 with
  |none=>rfl
  |some y=>have:=GR _ _ _ y (b▸c);show y=if y.1>0 then y else _;rw[aj Zo]
 |some x=>
  have:=GR _ _ _ x (a▸f);have e:AB (0,0,[]) (some x)=x:=by show(if x.1>0 then x else _)=x;rw[aj Zo]
  rw[e];cases c:wE d 1<;>rfl
theorem Ws(H:kM)(w:Steps H)(d:Dk)(v:Value)(x:Sl 2 sF H v d.ld)(C:qZ d):Rf prog 183 #[.agg (qz d v).toArray] H (.tuple #[nI (sA d).1,nI (sA d).2.1,sv (sA d).2.2]):=λW L=>by
 have D:=x;obtain⟨A,c,rfl,I,J⟩:=x;have K:=C.size;refine enter func183 ?_;refine U ?_;intro l;refine U ?_;refine CW ?_;refine U ?_;refine mP (λm σ L'=>∃j:Nat,m=2-j/\j<=2/\L'=k4 l 74 (qz d (.slice A d.ld.length c))::fz H::L/\
  ml σ [(1,.pointer (some ⟨l,0,none⟩)),(5,nI (sd d j).1),(6,nI (sd d j).2.1),(7,sv (sd d j).2.2),(15,nN j)]) 2
  _ (s1 _) ⟨0,by omega,by omega,rfl,rfl,rfl,rfl,rfl,rfl,trivial⟩ ?_
 rintro m σ _ ⟨j,rfl,M,rfl,p⟩;obtain⟨N,rfl⟩:=p.open;refine U ?_;refine mE rfl (λq=>?_) (λq=>?_)
 ·have O:j<2:=by have:=am q;omega
  have z:sd d (j+1)=AB (sd d j) (wE d j):=rfl;generalize sd d j=ac at*;refine U ?_;refine qN _ (lC.Z [1,3,5] (lC.p8 [0,2,6] (lC.Z [4,7,8,9,10,11,12,13] .mZ))) Zk Zk Zk Zk (λ_ _ _ h=>h) Sub.refl ?_;refine mM _ _ _ _ Zk ?_;refine U ?_;refine qu _ _ _ Zk ?_;refine U ?_;refine mM _ _ _ _ Zk ?_;refine U ?_;refine md (GP d.size Zo (j:Int) ⟨by omega,by omega⟩ W _) ?_;refine md (DC d.size Zo W _) ?_;have P:=JG d (pp d.size (j:Int)) (d.size/4);refine mi (Of H d _ D (pp d.size (j:Int)) (d.size/4) (by unfold pp;split<;>omega) Zo Zo) ?_;have E:wE d j=xr ((rC d (pp d.size (j:Int)) (d.size/4)).getD []) ((202-uP j 1)/2) ((uP j 1:Nat):Int):=by
   have:(202-uP j 1)/2=100:=by unfold uP;split<;>omega
   rw[this];rfl
  generalize(rC d (pp d.size (j:Int)) (d.size/4)).getD []=s at*;refine U ?_;refine mP (λm σ L'=>∃i:Nat,m=201-i/\1<=i/\i<=201/\wE d j=xr s ((202-uP j i)/2) ((uP j i:Nat):Int)/\L'=k4 l 74 (qz d (.slice A d.ld.length c))::fz H::L/\
   ml σ [(1,.pointer (some ⟨l,0,none⟩)),(5,nI ac.1),(6,nI ac.2.1),(7,sv ac.2.2),(8,nN j),(9,sv s),(11,nN i),(15,nN j)]) 200
   _ (s1 _) ⟨1,by omega,by omega,by omega,E,rfl,rfl,rfl,rfl,rfl,rfl,rfl,rfl,rfl,trivial⟩ ?_
  rintro m σ _ ⟨i,rfl,Q,R,g,rfl,p⟩;obtain⟨S,rfl⟩:=p.open;refine U ?_;refine mE rfl (λr=>?_) (λr=>?_)
  ·have B:i<=200:=by have:=am r;omega
   refine U ?_;refine z6 (k:=.i64) (a:=(i:Int)) (b:=2) rfl rfl Zd rfl rfl ?_;rw[show((i:Nat):Int).tmod 2=((i%2:Nat):Int) from rfl];refine U ?_;by_cases hp:i%2=j
   ·(rw[show(((i%2:Nat):Int) != (j:Int))=false from by rw[hp];simp];have u:uP j i=i:=by unfold uP;rw[aj hp]);have F:uP j (i+1)=i+2:=by unfold uP;rw[ai Zo]
    obtain⟨f,hf⟩:∃f,(202-i)/2=f+1:=⟨(202-i)/2-1,by omega⟩;rw[u,hf,GQ] at g;refine U ?_;cases n:Ca s (i:Int) with
    |none=>rw[n] at g;refine mi ((Ou H w s (i:Int) ⟨by omega,by omega⟩ Zo).eq (v':=.tuple #[nI 0,sv [],.bool false]) (by rw[n];rfl)) ?_;refine U ?_;exact⟨201-(i+1),_,by omega,Zu,i+1,rfl,by omega,by omega,by rw[g,F,show(202-(i+2))/2=f from by omega]<;>rfl,rfl,rfl,rfl,rfl,rfl,rfl,rfl,rfl,rfl,trivial⟩
    |some y=>
     (obtain⟨b,t⟩:=y;rw[n] at g;refine mi ((Ou H w s (i:Int) ⟨by omega,by omega⟩ Zo).eq (v':=.tuple #[nI b,sv t,.bool true]) (by rw[n];rfl)) ?_;refine U ?_;have e:sd d (j+1)=if(i:Int)>ac.1 then((i:Int),b,t) else ac:=by rw[z,g];rfl);by_cases o:ac.1<(i:Int);·rw[show decide (ac.1<(i:Int))=true from aZ o];rw[aj o] at e;refine U ?_;exact⟨2-(j+1),_,by omega,Zu,j+1,rfl,by omega,rfl,rfl,by rw[e]<;>rfl,by rw[e]<;>rfl,by rw[e]<;>rfl,rfl,trivial⟩
     ·rw[show decide (ac.1<(i:Int))=false from bx o];rw[ai o] at e;refine U ?_;exact⟨2-(j+1),_,by omega,Zu,j+1,rfl,by omega,rfl,rfl,by rw[e]<;>rfl,by rw[e]<;>rfl,by rw[e]<;>rfl,rfl,trivial⟩
   ·(rw[show(((i%2:Nat):Int) != (j:Int))=true from by simp;omega];have u:uP j i=uP j (i+1):=by unfold uP;rw[ai hp,aj Zo]);refine U ?_;exact⟨201-(i+1),_,by omega,Zu,i+1,rfl,by omega,by omega,by rw[g,u]<;>rfl,rfl,rfl,rfl,rfl,rfl,rfl,rfl,rfl,rfl,trivial⟩
  ·have B:i=201:=by have:=av r;omega
   subst B;have e:sd d (j+1)=ac:=by(have:(202-uP j 201)/2=0:=by unfold uP;split<;>omega);rw[z,g,this];rfl
   refine U ?_;exact⟨2-(j+1),_,by omega,Zu,j+1,rfl,by omega,rfl,rfl,by rw[e]<;>rfl,by rw[e]<;>rfl,by rw[e]<;>rfl,rfl,trivial⟩
 ·have G:j=2:=by have:=av q;omega
  subst G;rw[<-GS d];refine U ?_;refine kS ?_;exact pd results183 Zt Zt Zt lv ⟨rfl,rfl⟩
end
end Go.Proofs.YtkbifmngmocjnaaGreatDoor
