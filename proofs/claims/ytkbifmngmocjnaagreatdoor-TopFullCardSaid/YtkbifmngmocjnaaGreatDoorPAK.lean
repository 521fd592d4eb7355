/- Proved here, packed: what the parts Genb Lock Locka Lockb Lockc Grpa Grpb Grpc Call prove (rules of the walk, contracts of functions, plain laws). Conditions: in each statement. -/
import Derived.Test.YtkbifmngmocjnaaGreatDoorPAJ
namespace Go.Proofs.YtkbifmngmocjnaaGreatDoor
set_option maxRecDepth 100000
set_option maxHeartbeats 8000000
set_option linter.all false
section
open Top Proofs.Tryz
def oT{α:Type}(l:List α)(p:α->Bool):List α:=l.filter (λy=>!p y)
section
variable{α:Type}{l:List α}
theorem zF{k:Nat}{e:α}(p:α->Bool)(h:l[k]? =some e):oT (l.take (k+1)) p=if p e=true then oT (l.take k) p else oT (l.take k) p++[e]:=by unfold oT;rw[aT,h,cm];by_cases a:p e=true<;>simp[a]
theorem NG(p:α->Bool):(oT l p).length<=l.length:=bG _ _
theorem zG{p:α->Bool}(h:∀i w,i<l.length->l[i]? =some w->p w=false):oT l p=l:=by unfold oT;rw[du];intro a c;obtain⟨i,b,rfl⟩:=cr c;rw[h i _ b (ad b)];rfl
end
theorem Vl{α:Type}(enc:α->List Value)[s:m6 enc 2](H:kM)(A:Option Addr)(c k:Nat)(cap:List Value)(p:α->Bool)(l:List α)(hl:l.length<=100000)(z:α)(C:([.int .i64 0,.int .i64 0]:List Value)=enc z)(hf:∀g,H.le g->∀x∈l,Rf prog k (Value.agg (enc x).toArray::cap).toArray g (.bool (p x))) (W:World) (L:List kM):m3 prog W 65 #[.slice A l.length c,.func (.func k) #[] cap.toArray] (li 170 2 enc A c l::fz H::L) (λv L'=>v=.slice A (oT l p).length c/\L'=li 170 2 enc A c (oT l p)::fz H::L):=by
 refine enter func65 ?_;refine SC.pure (φ:=l.length<=c/\c<=maxLen) (λw a=>yC m0 a) (λQ=>?_);refine U ?_;refine sm (k1 (k1 k0)) (λg D E=>I2 enc g A c l Zo (ra (D _ m0)) k cap p (hf g (E _ (m1 m0)))) ?_;cases f:l.findIdx? p with
 |none=>rw[show m9 l p=-1 from by unfold m9;rw[f]];refine U ?_;refine kS ?_;rw[cv] at f;have:oT l p=l:=zG (λi w _ a=>f w (ar a));rw[this];exact lj results65 Zt lv ⟨rfl,rfl⟩
 |some d=>
  rw[show m9 l p=(d:Int) from by unfold m9;rw[f]];rw[bR] at f;obtain⟨F,G,I⟩:=f;have J:oT (l.take (d+1)) p=l.take d:=by rw[zF p (ad F),aj G];refine zG (λi w K a=>?_);rw[aC] at K;rw[cx Zo,ad Zo] at a;cases a;simpa using I i Zo
  refine U ?_;rw[show((d:Int)==-1)=false from Zq];refine U ?_;refine mP (λr σ L'=>∃(j i:Nat) (l':List α),j<=l.length/\i<j/\r=l.length-j/\L'=li 170 2 enc A c l'::fz H::L/\l'.length=l.length/\l'.take i=oT (l.take j) p/\l'.drop j=l.drop j/\
   ml σ [(0,.slice A l.length c),(1,.func (.func k) #[] cap.toArray),(5,nN i),(6,nN j)]) (l.length-(d+1))
   _ (s1 _) ⟨d+1,d,l,by omega,by omega,rfl,rfl,rfl,J.symm,rfl,rfl,rfl,rfl,rfl,trivial⟩ ?_
  rintro r σ _ ⟨j,i,l',R,S,rfl,rfl,lL,m,t,M⟩;obtain⟨T,rfl⟩:=M.open;refine U ?_;refine mE rfl (λo=>?_) (λo=>?_)
  ·have u:j<l.length:=by have:=am o;omega
   obtain⟨e,q⟩:∃e,l[j]? =some e:=⟨_,ad u⟩;have N:l'[j]? =some e:=by(have O:(l'.drop j)[0]? =(l.drop j)[0]?:=by rw[t]);simpa[q] using O
   have y:=zF p q;have oC:l'.drop (j+1)=l.drop (j+1):=by rw[<-cI,<-cI,t]
   have n:=s.len e;refine U ?_;refine qO (xs:=l') rfl rfl u lL (p9 (e:=170) (c:=c) m0) rfl rfl ?_;refine uV rfl (p9 (l:=l') (e:=170) (c:=c) m0) N n rfl rfl ?_;refine U ?_;intro V;refine U ?_;refine xL (cs:=[.int .i64 0,.int .i64 0]) (vs:=enc e) rfl rfl (by rw[aK];exact s.one e) n p0 rfl rfl (λ_=>trivial) rfl ?_;refine U ?_;refine zY rfl m0 n rfl rfl ?_;refine mi (fst:=[]) (cap:=cap) (hf H (le_refl _) e (ar q)) ?_;generalize X:p e=b at*;cases b with
   |true=>refine U ?_;refine⟨l.length-(j+1),li 170 2 enc A c l'::fz H::L,by omega,Zu,j+1,i,l',by omega,by omega,rfl,rfl,lL,?_,oC,rfl,rfl,rfl,rfl,trivial⟩;rw[y,aj rfl];exact m
   |false=>(refine U ?_;refine zY rfl m0 n rfl rfl ?_;refine qO (xs:=l') rfl rfl (show i<l.length by omega) lL (p9 (e:=170) (c:=c) (m1 m0)) rfl rfl ?_;refine z7 (c:=c) (e:=170) (enc:=enc) (l:=l') (y':=e) rfl rfl Zo (p1 p0) rfl (λ_=>trivial) rfl ?_;refine U ?_;refine⟨l.length-(j+1),li 170 2 enc A c (l'.set i e)::fz H::L,by omega,Zu,j+1,i+1,l'.set i e,by omega,by omega,rfl,rfl,by rw[bB];exact lL,?_,?_,rfl,rfl,rfl,rfl,trivial⟩;·rw[y,ai Zs,<-m,aT,cB Zo,fA (aA _)];rfl);·rw[fB Zo];exact oC
  ·have P:j=l.length:=by have:=av o;omega
   subst P;rw[bf] at m;have B:(l'.take i).length=i:=by rw[aC];omega
   refine SC.mL (L':=li 170 2 enc A c (l'.take i)::fz H::L) (λw a=>a.EC i p0) ?_;refine U ?_;refine vX (l:=i) rfl rfl Zo rfl rfl ?_;refine CV (c:=c) (lo:=i) (zero:=[.int .i64 0,.int .i64 0]) (l:=l'.take i) rfl z C.symm m0 (gQ B) Zo rfl rfl ?_;refine U ?_;refine rW (h:=i) rfl rfl Zo rfl rfl ?_;refine U ?_;refine kS ?_;rw[<-m,B];exact lj results65 Zt lv ⟨rfl,rfl⟩
theorem Vm{α:Type}(enc:α->List Value)[s:m6 enc 2](H:kM)(A:Option Addr)(c k:Nat)(cap:List Value)(p:α->Bool)(l:List α)(hl:l.length<=100000)(z:α)(C:([.int .i64 0,.int .i64 0]:List Value)=enc z)(hf:∀g,H.le g->∀x∈l,Rf prog k (Value.agg (enc x).toArray::cap).toArray g (.bool (p x))) (W:World) (L:List kM):m3 prog W 263 #[.slice A l.length c,.func (.func k) #[] cap.toArray] (li 206 2 enc A c l::fz H::L) (λv L'=>v=.slice A (oT l p).length c/\L'=li 206 2 enc A c (oT l p)::fz H::L):=by
 refine enter func263 ?_;refine SC.pure (φ:=l.length<=c/\c<=maxLen) (λw a=>yC m0 a) (λQ=>?_);refine U ?_;refine sm (k1 (k1 k0)) (λg D E=>E5 enc g A c l Zo (ra (D _ m0)) k cap p (hf g (E _ (m1 m0)))) ?_;cases f:l.findIdx? p with
 |none=>rw[show m9 l p=-1 from by unfold m9;rw[f]];refine U ?_;refine kS ?_;rw[cv] at f;have:oT l p=l:=zG (λi w _ a=>f w (ar a));rw[this];exact lj results263 Zt lv ⟨rfl,rfl⟩
 |some d=>
  rw[show m9 l p=(d:Int) from by unfold m9;rw[f]];rw[bR] at f;obtain⟨F,G,I⟩:=f;have J:oT (l.take (d+1)) p=l.take d:=by rw[zF p (ad F),aj G];refine zG (λi w K a=>?_);rw[aC] at K;rw[cx Zo,ad Zo] at a;cases a;simpa using I i Zo
  refine U ?_;rw[show((d:Int)==-1)=false from Zq];refine U ?_;refine mP (λr σ L'=>∃(j i:Nat) (l':List α),j<=l.length/\i<j/\r=l.length-j/\L'=li 206 2 enc A c l'::fz H::L/\l'.length=l.length/\l'.take i=oT (l.take j) p/\l'.drop j=l.drop j/\
   ml σ [(0,.slice A l.length c),(1,.func (.func k) #[] cap.toArray),(5,nN i),(6,nN j)]) (l.length-(d+1))
   _ (s1 _) ⟨d+1,d,l,by omega,by omega,rfl,rfl,rfl,J.symm,rfl,rfl,rfl,rfl,rfl,trivial⟩ ?_
  rintro r σ _ ⟨j,i,l',R,S,rfl,rfl,lL,m,t,M⟩;obtain⟨T,rfl⟩:=M.open;refine U ?_;refine mE rfl (λo=>?_) (λo=>?_)
  ·have u:j<l.length:=by have:=am o;omega
   obtain⟨e,q⟩:∃e,l[j]? =some e:=⟨_,ad u⟩;have N:l'[j]? =some e:=by(have O:(l'.drop j)[0]? =(l.drop j)[0]?:=by rw[t]);simpa[q] using O
   have y:=zF p q;have oC:l'.drop (j+1)=l.drop (j+1):=by rw[<-cI,<-cI,t]
   have n:=s.len e;refine U ?_;refine qO (xs:=l') rfl rfl u lL (p9 (e:=206) (c:=c) m0) rfl rfl ?_;refine uV rfl (p9 (l:=l') (e:=206) (c:=c) m0) N n rfl rfl ?_;refine U ?_;intro V;refine U ?_;refine xL (cs:=[.int .i64 0,.int .i64 0]) (vs:=enc e) rfl rfl (by rw[aK];exact s.one e) n p0 rfl rfl (λ_=>trivial) rfl ?_;refine U ?_;refine zY rfl m0 n rfl rfl ?_;refine mi (fst:=[]) (cap:=cap) (hf H (le_refl _) e (ar q)) ?_;generalize X:p e=b at*;cases b with
   |true=>refine U ?_;refine⟨l.length-(j+1),li 206 2 enc A c l'::fz H::L,by omega,Zu,j+1,i,l',by omega,by omega,rfl,rfl,lL,?_,oC,rfl,rfl,rfl,rfl,trivial⟩;rw[y,aj rfl];exact m
   |false=>(refine U ?_;refine zY rfl m0 n rfl rfl ?_;refine qO (xs:=l') rfl rfl (show i<l.length by omega) lL (p9 (e:=206) (c:=c) (m1 m0)) rfl rfl ?_;refine z7 (c:=c) (e:=206) (enc:=enc) (l:=l') (y':=e) rfl rfl Zo (p1 p0) rfl (λ_=>trivial) rfl ?_;refine U ?_;refine⟨l.length-(j+1),li 206 2 enc A c (l'.set i e)::fz H::L,by omega,Zu,j+1,i+1,l'.set i e,by omega,by omega,rfl,rfl,by rw[bB];exact lL,?_,?_,rfl,rfl,rfl,rfl,trivial⟩;·rw[y,ai Zs,<-m,aT,cB Zo,fA (aA _)];rfl);·rw[fB Zo];exact oC
  ·have P:j=l.length:=by have:=av o;omega
   subst P;rw[bf] at m;have B:(l'.take i).length=i:=by rw[aC];omega
   refine SC.mL (L':=li 206 2 enc A c (l'.take i)::fz H::L) (λw a=>a.EC i p0) ?_;refine U ?_;refine vX (l:=i) rfl rfl Zo rfl rfl ?_;refine CV (c:=c) (lo:=i) (zero:=[.int .i64 0,.int .i64 0]) (l:=l'.take i) rfl z C.symm m0 (gQ B) Zo rfl rfl ?_;refine U ?_;refine rW (h:=i) rfl rfl Zo rfl rfl ?_;refine U ?_;refine kS ?_;rw[<-m,B];exact lj results263 Zt lv ⟨rfl,rfl⟩
theorem NH{α:Type}(enc:α->List Value)[s:m6 enc 2](H:kM)(A:Option Addr)(c k:Nat)(cap:List Value)(p:α->Bool)(l:List α)(hl:l.length<=100000)(z:α)(C:([.int .i64 0,.slice none 0 0]:List Value)=enc z)(hf:∀g,H.le g->∀x∈l,Rf prog k (Value.agg (enc x).toArray::cap).toArray g (.bool (p x))) (W:World) (L:List kM):m3 prog W 155 #[.slice A l.length c,.func (.func k) #[] cap.toArray] (li 215 2 enc A c l::fz H::L) (λv L'=>v=.slice A (oT l p).length c/\L'=li 215 2 enc A c (oT l p)::fz H::L):=by
 refine enter func155 ?_;refine SC.pure (φ:=l.length<=c/\c<=maxLen) (λw a=>yC m0 a) (λQ=>?_);refine U ?_;refine sm (k1 (k1 k0)) (λg D E=>MX enc g A c l Zo (ra (D _ m0)) k cap p (hf g (E _ (m1 m0)))) ?_;cases f:l.findIdx? p with
 |none=>rw[show m9 l p=-1 from by unfold m9;rw[f]];refine U ?_;refine kS ?_;rw[cv] at f;have:oT l p=l:=zG (λi w _ a=>f w (ar a));rw[this];exact lj results155 Zt lv ⟨rfl,rfl⟩
 |some d=>
  rw[show m9 l p=(d:Int) from by unfold m9;rw[f]];rw[bR] at f;obtain⟨F,G,I⟩:=f;have J:oT (l.take (d+1)) p=l.take d:=by rw[zF p (ad F),aj G];refine zG (λi w K a=>?_);rw[aC] at K;rw[cx Zo,ad Zo] at a;cases a;simpa using I i Zo
  refine U ?_;rw[show((d:Int)==-1)=false from Zq];refine U ?_;refine mP (λr σ L'=>∃(j i:Nat) (l':List α),j<=l.length/\i<j/\r=l.length-j/\L'=li 215 2 enc A c l'::fz H::L/\l'.length=l.length/\l'.take i=oT (l.take j) p/\l'.drop j=l.drop j/\
   ml σ [(0,.slice A l.length c),(1,.func (.func k) #[] cap.toArray),(5,nN i),(6,nN j)]) (l.length-(d+1))
   _ (s1 _) ⟨d+1,d,l,by omega,by omega,rfl,rfl,rfl,J.symm,rfl,rfl,rfl,rfl,rfl,trivial⟩ ?_
  rintro r σ _ ⟨j,i,l',R,S,rfl,rfl,lL,m,t,M⟩;obtain⟨T,rfl⟩:=M.open;refine U ?_;refine mE rfl (λo=>?_) (λo=>?_)
  ·have u:j<l.length:=by have:=am o;omega
   obtain⟨e,q⟩:∃e,l[j]? =some e:=⟨_,ad u⟩;have N:l'[j]? =some e:=by(have O:(l'.drop j)[0]? =(l.drop j)[0]?:=by rw[t]);simpa[q] using O
   have y:=zF p q;have oC:l'.drop (j+1)=l.drop (j+1):=by rw[<-cI,<-cI,t]
   have n:=s.len e;refine U ?_;refine qO (xs:=l') rfl rfl u lL (p9 (e:=215) (c:=c) m0) rfl rfl ?_;refine uV rfl (p9 (l:=l') (e:=215) (c:=c) m0) N n rfl rfl ?_;refine U ?_;intro V;refine U ?_;refine xL (cs:=[.int .i64 0,.slice none 0 0]) (vs:=enc e) rfl rfl (by rw[aK];exact s.one e) n p0 rfl rfl (λ_=>trivial) rfl ?_;refine U ?_;refine zY rfl m0 n rfl rfl ?_;refine mi (fst:=[]) (cap:=cap) (hf H (le_refl _) e (ar q)) ?_;generalize X:p e=b at*;cases b with
   |true=>refine U ?_;refine⟨l.length-(j+1),li 215 2 enc A c l'::fz H::L,by omega,Zu,j+1,i,l',by omega,by omega,rfl,rfl,lL,?_,oC,rfl,rfl,rfl,rfl,trivial⟩;rw[y,aj rfl];exact m
   |false=>(refine U ?_;refine zY rfl m0 n rfl rfl ?_;refine qO (xs:=l') rfl rfl (show i<l.length by omega) lL (p9 (e:=215) (c:=c) (m1 m0)) rfl rfl ?_;refine z7 (c:=c) (e:=215) (enc:=enc) (l:=l') (y':=e) rfl rfl Zo (p1 p0) rfl (λ_=>trivial) rfl ?_;refine U ?_;refine⟨l.length-(j+1),li 215 2 enc A c (l'.set i e)::fz H::L,by omega,Zu,j+1,i+1,l'.set i e,by omega,by omega,rfl,rfl,by rw[bB];exact lL,?_,?_,rfl,rfl,rfl,rfl,trivial⟩;·rw[y,ai Zs,<-m,aT,cB Zo,fA (aA _)];rfl);·rw[fB Zo];exact oC
  ·have P:j=l.length:=by have:=av o;omega
   subst P;rw[bf] at m;have B:(l'.take i).length=i:=by rw[aC];omega
   refine SC.mL (L':=li 215 2 enc A c (l'.take i)::fz H::L) (λw a=>a.EC i p0) ?_;refine U ?_;refine vX (l:=i) rfl rfl Zo rfl rfl ?_;refine CV (c:=c) (lo:=i) (zero:=[.int .i64 0,.slice none 0 0]) (l:=l'.take i) rfl z C.symm m0 (gQ B) Zo rfl rfl ?_;refine U ?_;refine rW (h:=i) rfl rfl Zo rfl rfl ?_;refine U ?_;refine kS ?_;rw[<-m,B];exact lj results155 Zt lv ⟨rfl,rfl⟩
theorem NI{α:Type}(enc:α->List Value)[s:m6 enc 4](H:kM)(A:Option Addr)(c k:Nat)(cap:List Value)(p:α->Bool)(l:List α)(hl:l.length<=100000)(z:α)(C:([.int .i64 0,.int .i64 0,.slice none 0 0,.bool false]:List Value)=enc z)(hf:∀g,H.le g->∀x∈l,Rf prog k (Value.agg (enc x).toArray::cap).toArray g (.bool (p x))) (W:World) (L:List kM):m3 prog W 156 #[.slice A l.length c,.func (.func k) #[] cap.toArray] (li 187 4 enc A c l::fz H::L) (λv L'=>v=.slice A (oT l p).length c/\L'=li 187 4 enc A c (oT l p)::fz H::L):=by
 refine enter func156 ?_;refine SC.pure (φ:=l.length<=c/\c<=maxLen) (λw a=>yC m0 a) (λQ=>?_);refine U ?_;refine sm (k1 (k1 k0)) (λg D E=>I3 enc g A c l Zo (ra (D _ m0)) k cap p (hf g (E _ (m1 m0)))) ?_;cases f:l.findIdx? p with
 |none=>rw[show m9 l p=-1 from by unfold m9;rw[f]];refine U ?_;refine kS ?_;rw[cv] at f;have:oT l p=l:=zG (λi w _ a=>f w (ar a));rw[this];exact lj results156 Zt lv ⟨rfl,rfl⟩
 |some d=>
  rw[show m9 l p=(d:Int) from by unfold m9;rw[f]];rw[bR] at f;obtain⟨F,G,I⟩:=f;have J:oT (l.take (d+1)) p=l.take d:=by rw[zF p (ad F),aj G];refine zG (λi w K a=>?_);rw[aC] at K;rw[cx Zo,ad Zo] at a;cases a;simpa using I i Zo
  refine U ?_;rw[show((d:Int)==-1)=false from Zq];refine U ?_;refine mP (λr σ L'=>∃(j i:Nat) (l':List α),j<=l.length/\i<j/\r=l.length-j/\L'=li 187 4 enc A c l'::fz H::L/\l'.length=l.length/\l'.take i=oT (l.take j) p/\l'.drop j=l.drop j/\
   ml σ [(0,.slice A l.length c),(1,.func (.func k) #[] cap.toArray),(5,nN i),(6,nN j)]) (l.length-(d+1))
   _ (s1 _) ⟨d+1,d,l,by omega,by omega,rfl,rfl,rfl,J.symm,rfl,rfl,rfl,rfl,rfl,trivial⟩ ?_
  rintro r σ _ ⟨j,i,l',R,S,rfl,rfl,lL,m,t,M⟩;obtain⟨T,rfl⟩:=M.open;refine U ?_;refine mE rfl (λo=>?_) (λo=>?_)
  ·have u:j<l.length:=by have:=am o;omega
   obtain⟨e,q⟩:∃e,l[j]? =some e:=⟨_,ad u⟩;have N:l'[j]? =some e:=by(have O:(l'.drop j)[0]? =(l.drop j)[0]?:=by rw[t]);simpa[q] using O
   have y:=zF p q;have oC:l'.drop (j+1)=l.drop (j+1):=by rw[<-cI,<-cI,t]
   have n:=s.len e;refine U ?_;refine qO (xs:=l') rfl rfl u lL (p9 (e:=187) (c:=c) m0) rfl rfl ?_;refine uV rfl (p9 (l:=l') (e:=187) (c:=c) m0) N n rfl rfl ?_;refine U ?_;intro V;refine U ?_;refine xL (cs:=[.int .i64 0,.int .i64 0,.slice none 0 0,.bool false]) (vs:=enc e) rfl rfl (by rw[aK];exact s.one e) n p0 rfl rfl (λ_=>trivial) rfl ?_;refine U ?_;refine zY rfl m0 n rfl rfl ?_;refine mi (fst:=[]) (cap:=cap) (hf H (le_refl _) e (ar q)) ?_;generalize X:p e=b at*;cases b with
   |true=>refine U ?_;refine⟨l.length-(j+1),li 187 4 enc A c l'::fz H::L,by omega,Zu,j+1,i,l',by omega,by omega,rfl,rfl,lL,?_,oC,rfl,rfl,rfl,rfl,trivial⟩;rw[y,aj rfl];exact m
   |false=>(refine U ?_;refine zY rfl m0 n rfl rfl ?_;refine qO (xs:=l') rfl rfl (show i<l.length by omega) lL (p9 (e:=187) (c:=c) (m1 m0)) rfl rfl ?_;refine z7 (c:=c) (e:=187) (enc:=enc) (l:=l') (y':=e) rfl rfl Zo (p1 p0) rfl (λ_=>trivial) rfl ?_;refine U ?_;refine⟨l.length-(j+1),li 187 4 enc A c (l'.set i e)::fz H::L,by omega,Zu,j+1,i+1,l'.set i e,by omega,by omega,rfl,rfl,by rw[bB];exact lL,?_,?_,rfl,rfl,rfl,rfl,trivial⟩;·rw[y,ai Zs,<-m,aT,cB Zo,fA (aA _)];rfl);·rw[fB Zo];exact oC
  ·have P:j=l.length:=by have:=av o;omega
   subst P;rw[bf] at m;have B:(l'.take i).length=i:=by rw[aC];omega
   refine SC.mL (L':=li 187 4 enc A c (l'.take i)::fz H::L) (λw a=>a.EC i p0) ?_;refine U ?_;refine vX (l:=i) rfl rfl Zo rfl rfl ?_;refine CV (c:=c) (lo:=i) (zero:=[.int .i64 0,.int .i64 0,.slice none 0 0,.bool false]) (l:=l'.take i) rfl z C.symm m0 (gQ B) Zo rfl rfl ?_;refine U ?_;refine rW (h:=i) rfl rfl Zo rfl rfl ?_;refine U ?_;refine kS ?_;rw[<-m,B];exact lj results156 Zt lv ⟨rfl,rfl⟩
theorem Vn{α:Type}(enc:α->List Value)[S:m6 enc 1](g:α->Int)(m:∀x,enc x=[.int .i64 (g x)])(H:kM)(A:Option Addr)(c n:Nat)(cap:List Value)(p:α->Bool)(l:List α)(hl:l.length<=100000)(z:α)(D:([.int .i64 0]:List Value)=enc z)(hf:∀k,H.le k->∀x∈l,Rf prog n (Value.int .i64 (g x)::cap).toArray k (.bool (p x))) (W:World) (L:List kM):m3 prog W 258 #[.slice A l.length c,.func (.func n) #[] cap.toArray] (li 3 1 enc A c l::fz H::L) (λv L'=>v=.slice A (oT l p).length c/\L'=li 3 1 enc A c (oT l p)::fz H::L):=by
 refine enter func258 ?_;refine SC.pure (φ:=l.length<=c/\c<=maxLen) (λw a=>yC m0 a) (λT=>?_);refine U ?_;refine sm (k1 (k1 k0)) (λk E F=>T4 enc (λx=>.int .i64 (g x)) m k A c l Zo (ra (E _ m0)) n cap p (hf k (F _ (m1 m0)))) ?_;cases f:l.findIdx? p with
 |none=>rw[show m9 l p=-1 from by unfold m9;rw[f]];refine U ?_;refine kS ?_;rw[cv] at f;have:oT l p=l:=zG (λi w _ a=>f w (ar a));rw[this];exact lj results258 Zt lv ⟨rfl,rfl⟩
 |some d=>
  rw[show m9 l p=(d:Int) from by unfold m9;rw[f]];rw[bR] at f;obtain⟨G,I,J⟩:=f;have K:oT (l.take (d+1)) p=l.take d:=by rw[zF p (ad G),aj I];refine zG (λi w M a=>?_);rw[aC] at M;rw[cx Zo,ad Zo] at a;cases a;simpa using J i Zo
  refine U ?_;rw[show((d:Int)==-1)=false from Zq];refine U ?_;refine mP (λr σ L'=>∃(j i:Nat) (l':List α),j<=l.length/\i<j/\r=l.length-j/\L'=li 3 1 enc A c l'::fz H::L/\l'.length=l.length/\l'.take i=oT (l.take j) p/\l'.drop j=l.drop j/\
   ml σ [(0,.slice A l.length c),(1,.func (.func n) #[] cap.toArray),(5,nN i),(6,nN j)]) (l.length-(d+1))
   _ (s1 _) ⟨d+1,d,l,by omega,by omega,rfl,rfl,rfl,K.symm,rfl,rfl,rfl,rfl,rfl,trivial⟩ ?_
  rintro r σ _ ⟨j,i,l',V,X,rfl,rfl,lL,o,t,N⟩;obtain⟨Y,rfl⟩:=N.open;refine U ?_;refine mE rfl (λq=>?_) (λq=>?_)
  ·have u:j<l.length:=by have:=am q;omega
   obtain⟨e,s⟩:∃e,l[j]? =some e:=⟨_,ad u⟩;have O:l'[j]? =some e:=by(have P:(l'.drop j)[0]? =(l.drop j)[0]?:=by rw[t]);simpa[s] using P
   have B:=zF p s;have oC:l'.drop (j+1)=l.drop (j+1):=by rw[<-cI,<-cI,t]
   have Q:(enc e)[0]? =some (Value.int .i64 (g e)):=by rw[m];rfl
   refine U ?_;refine qO (xs:=l') rfl rfl u lL (p9 (e:=3) (c:=c) m0) rfl rfl ?_;refine FT rfl (p9 (l:=l') (e:=3) (c:=c) m0) O Q rfl rfl ?_;refine U ?_;refine mi (fst:=[]) (cap:=cap) (hf H (le_refl _) e (ar s)) ?_;generalize kF:p e=b at*;cases b with
   |true=>refine U ?_;refine⟨l.length-(j+1),li 3 1 enc A c l'::fz H::L,by omega,Zu,j+1,i,l',by omega,by omega,rfl,rfl,lL,?_,oC,rfl,rfl,rfl,rfl,trivial⟩;rw[B,aj rfl];exact o
   |false=>(refine U ?_;refine qO (xs:=l') rfl rfl (show i<l.length by omega) lL (p9 (e:=3) (c:=c) m0) rfl rfl ?_;refine wN (c:=c) (e:=3) (enc:=enc) (l:=l') (y:=l'[i]'Zo) (y':=e) (j:=0) rfl rfl rfl (ad Zo) (by rw[m,m];rfl) Zd p0 rfl (λ_=>trivial) rfl ?_;refine U ?_;refine⟨l.length-(j+1),li 3 1 enc A c (l'.set i e)::fz H::L,by omega,Zu,j+1,i+1,l'.set i e,by omega,by omega,rfl,rfl,by rw[bB];exact lL,?_,?_,rfl,rfl,rfl,rfl,trivial⟩;·rw[B,ai Zs,<-o,aT,cB Zo,fA (aA _)];rfl);·rw[fB Zo];exact oC
  ·have R:j=l.length:=by have:=av q;omega
   subst R;rw[bf] at o;have C:(l'.take i).length=i:=by rw[aC];omega
   refine SC.mL (L':=li 3 1 enc A c (l'.take i)::fz H::L) (λw a=>a.EC i p0) ?_;refine U ?_;refine vX (l:=i) rfl rfl Zo rfl rfl ?_;refine CV (c:=c) (lo:=i) (zero:=[.int .i64 0]) (l:=l'.take i) rfl z D.symm m0 (gQ C) Zo rfl rfl ?_;refine U ?_;refine rW (h:=i) rfl rfl Zo rfl rfl ?_;refine U ?_;refine kS ?_;rw[<-o,C];exact lj results258 Zt lv ⟨rfl,rfl⟩
section
variable{P:Program}{n:Sz}{W:World}{Q:Exit->St->List kM->Prop}{σ:St}{L:List kM}{Z:Array Oper}{rest:List Oper}
 {dst:Option Nat} {ty:TypeId} {pos:String} {lf:Array Edge} {gd:Option (Nat×Bool)}
def Fc(L:List kM)(e e':kM)(L0 L':List kM):Prop:=∃pre post,L=pre++e::post/\L0=pre++post/\L'=pre++e'::post
theorem z0{e e':kM}{L:List kM}:Fc (e::L) e e' L (e'::L):=⟨[],L,rfl,rfl,rfl⟩
theorem z1{x e e':kM}{L L0 L':List kM}(h:Fc L e e' L0 L'):Fc (x::L) e e' (x::L0) (x::L'):=by obtain⟨pre,post,rfl,rfl,rfl⟩:=h;exact⟨x::pre,post,rfl,rfl,rfl⟩
def Ce(P:Program)(f:FuncId)(args:Array Value)(e:kM)(v:Value)(e':kM):Prop:=∀W L,m3 P W f args (e::L) (λv' L'=>v'=v/\L'=e'::L)
def NJ(P:Program)(f:FuncId)(args:Array Value)(H e:kM)(v:Value)(e':kM):Prop:=∀W L,m3 P W f args (e::fz H::L) (λv' L'=>v'=v/\L'=e'::fz H::L)
theorem Fe{f:Operand}{l:List Operand}{b:Array TypeId}{k:Nat}{fst cap:List Value}{e e':kM}{v:Value}{L0 L':List kM}(c:Fc L e e' L0 L')(d:Ce P k (fst++l.map (ev σ)++cap).toArray e v e') (h:SL P n W .plain Z Q rest (l6 σ dst v) L')(hf:ev σ f=.func (.func k) fst.toArray cap.toArray:=by rfl) (g:lP Z σ ⟨dst,.call {callee:=.value f,args:=l.toArray,argTypes:=b},ty,pos,lf,gd⟩=true:=by rfl) (i:l8 n dst=true:=by rfl):
 SL P n W .plain Z Q (⟨dst,.call {callee:=.value f,args:=l.toArray,argTypes:=b},ty,pos,lf,gd⟩::rest) σ L:=by
 obtain⟨pre,post,rfl,rfl,rfl⟩:=c;refine nR (R:=λv' j=>v'=v/\j=pre++e'::post) (((d W (pre++post)).mL λw a=>a.ny (rT pre post e)).conv ?_) ?_ hf g i;·rintro v' _ ⟨rfl,rfl⟩;exact⟨_,λw a=>a.ny (rT pre post e').symm,rfl,rfl⟩
 ·rintro _ _ ⟨rfl,rfl⟩;exact h
theorem NK{f:Operand}{l:List Operand}{d:Array TypeId}{k:Nat}{fst cap:List Value}{H e e':kM}{v:Value}{L0 L':List kM}(g:Fc L e e' L0 L')(i:NJ P k (fst++l.map (ev σ)++cap).toArray H e v e') (h:SL P n W .plain Z Q rest (l6 σ dst v) L')(j:fz H∈L0:=by repeat first|exact m0|refine m1 ?_)
 (hf:ev σ f=.func (.func k) fst.toArray cap.toArray:=by rfl) (m:lP Z σ ⟨dst,.call {callee:=.value f,args:=l.toArray,argTypes:=d},ty,pos,lf,gd⟩=true:=by rfl) (o:l8 n dst=true:=by rfl):
 SL P n W .plain Z Q (⟨dst,.call {callee:=.value f,args:=l.toArray,argTypes:=d},ty,pos,lf,gd⟩::rest) σ L:=by
 obtain⟨pre,post,rfl,rfl,rfl⟩:=g;obtain⟨a,b,p⟩:=d9 j;have hp:∀x:kM,(pre++x::post).Perm (x::fz H::(a++b)):=λx=>(rT pre post x).trans ((p▸rT a b (fz H)).cons x);refine nR (R:=λv' q=>v'=v/\q=pre++e'::post) (((i W (a++b)).mL λw c=>c.ny (hp e)).conv ?_) ?_ hf m o;·rintro v' _ ⟨rfl,rfl⟩;exact⟨_,λw c=>c.ny (hp e').symm,rfl,rfl⟩
 ·rintro _ _ ⟨rfl,rfl⟩;exact h
end
instance:Ew prog 206 np where
 guard:=λop X Y x y w=>by apply gH;kernel_rfl
 eql:=λx y w=>by obtain⟨a,s⟩:=x;obtain⟨b,t⟩:=y;simp only[np];simp[go_sem];by_cases c:a=b<;>by_cases d:s=t<;>simp[c,d]
 neq:=λx y w=>by obtain⟨a,s⟩:=x;obtain⟨b,t⟩:=y;simp only[np];simp[go_sem];by_cases c:a=b<;>by_cases d:s=t<;>simp[c,d]
theorem Vo(H:kM)(g:Nat)(n:Int)(a:H.kn (nX g [nI n]))(x:Int×Int):Rf prog 255 #[.agg (np x).toArray,.pointer (some ⟨g,0,none⟩)] H (.bool (x.1==n)):=λW L=>by refine enter func255 ?_;refine U ?_;intro b;refine U ?_;refine kS ?_;exact lj results255 Zt lv ⟨rfl,rfl⟩
theorem Vp(H:kM)(g:Nat)(n:Int)(a:H.kn (nX g [nI n]))(x:Int×Int):Rf prog 262 #[.agg (np x).toArray,.pointer (some ⟨g,0,none⟩)] H (.bool (x.1==n)):=λW L=>by refine enter func262 ?_;refine U ?_;intro b;refine U ?_;refine kS ?_;exact lj results262 Zt lv ⟨rfl,rfl⟩
theorem Vq(H:kM)(g:Nat)(n:Int)(a:H.kn (nX g [nI n]))(x:Int×Int):Rf prog 107 #[.agg (np x).toArray,.pointer (some ⟨g,0,none⟩)] H (.bool (x.2==n)):=λW L=>by refine enter func107 ?_;refine U ?_;intro b;refine U ?_;refine kS ?_;exact lj results107 Zt lv ⟨rfl,rfl⟩
theorem Vr(H:kM)(g:Nat)(n:Int)(a:H.kn (nX g [nI n]))(x:Int×Int):Rf prog 264 #[.agg (np x).toArray,.pointer (some ⟨g,0,none⟩)] H (.bool (x.2==n)):=λW L=>by refine enter func264 ?_;refine U ?_;intro b;refine U ?_;refine kS ?_;exact lj results264 Zt lv ⟨rfl,rfl⟩
theorem Vs(H:kM)(g:Nat)(y:Int×Int)(a:H.kn (nX g (np y)))(x:Int×Int):Rf prog 209 #[.agg (np x).toArray,.pointer (some ⟨g,0,none⟩)] H (.bool (x==y)):=λW L=>by refine enter func209 ?_;refine U ?_;intro b;refine U ?_;refine Ex x y rfl rfl rfl rfl ?_;refine U ?_;refine kS ?_;exact lj results209 Zt lv ⟨congrArg Value.bool (show decide (x=y)=(x==y) from by by_cases h:x=y<;>simp[h]),rfl⟩
theorem Vt(H:kM)(A:Option Addr)(c:Nat)(l:List (Int×Int))(x:Int×Int)(hl:l.length<=9223372036854775807)(n:H.kn (Rd A 2 np l)):Rf prog 260 #[.slice A l.length c,.agg (np x).toArray] H (nI (m9 l (λy=>decide (x=y)))):=λW L=>by
 refine enter func260 ?_;refine U ?_;intro b;refine U ?_;refine mP (λr σ L'=>L'=k4 b 206 (np x)::fz H::L/\∃k:Nat,k<=l.length/\r=l.length-k/\ml σ [(0,.slice A l.length c),(3,.pointer (some ⟨b,0,none⟩)),(7,nN l.length),(8,nN k)]/\∀i w,i<k->l[i]? =some w->(λy=>decide (x=y)) w=false) l.length
  _ (s1 _) ⟨rfl,0,by omega,by omega,⟨rfl,rfl,rfl,rfl,trivial⟩,λi w f=>by omega⟩ ?_
 rintro r σ _ ⟨rfl,k,o,rfl,g,mz⟩;obtain⟨q,rfl⟩:=g.open;refine U ?_;refine mE rfl (λa=>?_) (λa=>?_)
 ·have h:k<l.length:=by have:=am a;omega
  obtain⟨e,d⟩:∃e,l[k]? =some e:=⟨_,ad h⟩;refine U ?_;refine Et Zk Zk ?_;refine U ?_;refine Ex x e rfl rfl rfl rfl ?_;refine U ?_;refine mE rfl (λa=>?_) (λj=>?_);·refine U ?_;refine kS ?_;exact lj results260 Zt lv ⟨by rw[show m9 l (λy=>decide (x=y))=(k:Int) from by unfold m9;rw[yN d a mz]]<;>rfl,rfl⟩
  ·refine U ?_;exact⟨l.length-(k+1),_,by omega,s1 _,rfl,k+1,by omega,rfl,⟨rfl,rfl,rfl,rfl,trivial⟩,yP (p:=λy=>decide (x=y)) d j mz⟩
 ·refine U ?_;refine kS ?_;have a:=av a;have:l.findIdx? (λy=>decide (x=y))=none:=yO (λi w f m=>mz i w Zo m);exact lj results260 Zt lv ⟨by unfold m9;rw[this]<;>rfl,rfl⟩
theorem NL(A:Option Addr)(c i:Nat)(l:List (Int×Int))(e:i<l.length)(hl:l.length<=100000):Ce prog 261 #[.slice A l.length c,.int .i64 (i:Int),.int .i64 ((i:Int)+1)] (li 206 2 np A c l) (.slice A (l.eraseIdx i).length c) (li 206 2 np A c (l.eraseIdx i)):=λW L=>by
 rw[show(i:Int)+1=((i+1:Nat):Int) from by omega];have b:l.eraseIdx i=l.take i++l.drop (i+1):=ej ..;have a:(l.take i++l.drop (i+1)).length=i+(l.length-(i+1)):=by rw[ak,aC,bi];omega
 rw[b];refine enter func261 ?_;refine SC.pure (φ:=l.length<=c/\c<=maxLen) (λw d=>yC m0 d) (λf=>?_);refine U ?_;refine SJ (k:=l.length) (l:=i) (h:=i+1) (m:=l.length) rfl (λw=>LD Zo Zo Zo w) rfl rfl (λ_=>?_);refine U ?_;rw[show((i:Int)==((i+1:Nat):Int))=false from Zq];refine U ?_;refine nq [0,1,2,3,4,5,6,7] Zk Zk Zk Zk Zk (λ_ _ _ h=>h) ?_;refine U ?_;refine rW (h:=i) rfl rfl Zo rfl rfl ?_;refine U ?_;refine vX (l:=i+1) rfl rfl Zo rfl rfl ?_;refine SK (i:=i) (j:=i+1) (l:=l) rfl rfl Zo Zo Zo p0 rfl (λ_=>Sub.of (bu _)) rfl rfl ?_;refine U ?_;refine SI (l:=i+(l.length-(i+1))) (h:=l.length) rfl rfl rfl Zo Zo rfl rfl ?_;refine CV (c:=c) (lo:=i+(l.length-(i+1))) (zero:=[.int .i64 0,.int .i64 0]) (l:=l.take i++l.drop (i+1)) rfl (0,0) rfl m0 (gQ a) Zo rfl rfl ?_;refine U ?_;refine kS ?_;refine lj results261 Zt lv ⟨?_,rfl⟩;rw[a];rfl
structure w9(H:kM)(a b:Value)(t:nt):Prop where
 h:Sl 2 np H a t.1
 w:Sl 2 np H b t.2
theorem w9.up{H a:kM}{b c:Value}{t:nt}(h:w9 H b c t)(hl:H.le a):w9 a b c t:=⟨h.h.up hl,h.w.up hl⟩
theorem Ff{p:Int×Int->Bool}:∀(l:List (Int×Int)) (i:Nat),l.findIdx? p=some i->l.eraseIdx i=l.eraseP p/\∃y,l[i]? =some y/\l.find? p=some y
 |[],i,h=>by simp at h
 |a::r,i,h=>by
  rw[eb] at h;by_cases e:p a=true;·rw[aj e] at h;cases h;exact⟨by rw[List.eraseP_cons_of_pos e];rfl,a,rfl,by rw[dA,e]⟩
  ·rw[ai e] at h;cases b:r.findIdx? p with
   |none=>rw[b] at h;cases h
   |some j=>rw[b] at h;cases h;obtain⟨c,y,d,f⟩:=Ff r j b;refine⟨by rw[List.eraseP_cons_of_neg e,<-c];rfl,y,d,?_⟩;rw[dA];simp only[dD] at e;rw[e];exact f
theorem Jm{p:Int×Int->Bool}{l:List (Int×Int)}(h:l.findIdx? p=none):l.find? p=none:=by rw[cv] at h;rw[bK];intro x a;simp[h x a]
theorem Vu{x:Int×Int}{l:List (Int×Int)}{i:Nat}(h:l.findIdx? (λw=>decide (x=w))=some i):l.eraseIdx i=l.erase x/\x∈l:=by
 obtain⟨a,y,b,c⟩:=Ff l i h;have d:x=y:=by simpa using cP c
 subst d;refine⟨?_,ar b⟩;rw[a,List.erase_eq_eraseP];congr 1;funext w;rw[eS];simp
theorem Vv{x:Int×Int}{l:List (Int×Int)}(h:l.findIdx? (λw=>decide (x=w))=none):x∉l:=by rw[cv] at h;intro a;simpa using h x a
def zH(o:Option Int):Int×Bool:=match o with
 |some n=>(n,true)
 |none=>(0,false)
abbrev Jn(o:Option Int):Value:=.tuple #[nI (zH o).1,.bool (zH o).2]
theorem Vw(H:kM)(b d:Value)(t:nt)(g:w9 H b d t)(n:Int):Rf prog 208 #[.agg #[b,d],nI n] H (Jn (Ai t n)):=λW L=>by
 obtain⟨A,c,rfl,o,j⟩:=g.h;refine enter func208 ?_;refine U ?_;intro p;refine U ?_;intro e;refine U ?_;refine sm (k1 (k1 (k1 k0))) (λf k l=>E5 np f A c (t.1) Zo (j.up (l _ (m1 (m1 m0)))) 255 [.pointer (some ⟨e,0,none⟩)] (λw=>w.1==n) (λx _=>Vo f e n (pj (k _ m0)) x)) ?_;unfold Ai;cases a:(t.1).findIdx? (λw=>w.1==n) with
 |none=>rw[show m9 (t.1) (λw=>w.1==n)=-1 from by unfold m9;rw[a]];rw[Jm a];refine U ?_;refine kS ?_;exact og results208 Zt Zt lv ⟨rfl,rfl⟩
 |some i=>rw[show m9 (t.1) (λw=>w.1==n)=(i:Int) from by unfold m9;rw[a]];obtain⟨_,y,m,hf⟩:=Ff _ _ a;rw[hf];have q:i<(t.1).length:=(ax.1 m).1;refine U ?_;rw[show decide ((i:Int)<0)=false from Zq];refine U ?_;refine kS ?_;exact og results208 Zt Zt lv ⟨rfl,rfl⟩
theorem Vx(H:kM)(b d:Value)(t:nt)(g:w9 H b d t)(n:Int):Rf prog 45 #[.agg #[b,d],nI n] H (Jn (pl t n)):=λW L=>by
 obtain⟨A,c,rfl,m,h⟩:=g.w;refine enter func45 ?_;refine U ?_;intro o;refine U ?_;intro e;refine U ?_;refine sm (k1 (k1 (k1 k0))) (λf j k=>E5 np f A c (t.2) Zo (h.up (k _ (m1 (m1 m0)))) 107 [.pointer (some ⟨e,0,none⟩)] (λw=>w.2==n) (λx _=>Vq f e n (pj (j _ m0)) x)) ?_;unfold pl;cases a:(t.2).findIdx? (λw=>w.2==n) with
 |none=>rw[show m9 (t.2) (λw=>w.2==n)=-1 from by unfold m9;rw[a]];rw[Jm a];refine U ?_;refine kS ?_;exact og results45 Zt Zt lv ⟨rfl,rfl⟩
 |some i=>rw[show m9 (t.2) (λw=>w.2==n)=(i:Int) from by unfold m9;rw[a]];obtain⟨_,y,l,hf⟩:=Ff _ _ a;rw[hf];have p:i<(t.2).length:=(ax.1 l).1;refine U ?_;rw[show decide ((i:Int)<0)=false from Zq];refine U ?_;refine kS ?_;exact og results45 Zt Zt lv ⟨rfl,rfl⟩
abbrev mz(g:Nat)(A B:Option Addr)(c d:Nat)(t:nt)(L:List kM):List kM:=k4 g 350 [.slice A t.1.length c,.slice B t.2.length d]::li 206 2 np B d t.2::li 206 2 np A c t.1::L
theorem Jo(H:kM)(f i:Value)(t:nt)(j:w9 H f i t)(o:t.1.length<=100000)(p:t.2.length<=100000):Mk prog 207 #[.agg #[f,i]] H (λes v=>∃g a c1 b e,es=mz g a b c1 e t []/\v=.pointer (some ⟨g,0,none⟩)):=λW L=>by obtain⟨A,c,rfl,q,m⟩:=j.h;obtain⟨B,d,rfl,r,n⟩:=j.w;refine enter func207 ?_;refine U ?_;intro s;refine U ?_;refine qN _ (lC.Z [0,3] (lC.p8 [1,4] (lC.Z [2,5,6,7,8,9] .mZ))) Zk Zk Zk Zk (λ_ _ _ h=>h) Sub.refl ?_;refine mM _ _ _ _ Zk ?_;refine U ?_;refine qu _ _ _ Zk ?_;refine U ?_;refine mM _ _ _ _ Zk ?_;refine U ?_;refine ov (MW np H A c t.1 Zo m) ?_;rintro _ _ ⟨a,k,rfl,rfl⟩;refine ov (MW np H B d t.2 Zo n) ?_;rintro _ _ ⟨b,e,rfl,rfl⟩;simp only[aD];refine U ?_;intro l;refine U ?_;refine kS ?_;exact lj results207 Zt lv ⟨mz l a b k e t [],rfl,l,a,k,b,e,rfl,rfl⟩
theorem NM{t:nt}{a lk:Int}(h:(lk,a)∉t.1):pw t a lk=(t,none):=by unfold pw;rw[ai h]
theorem NN{t:nt}{a lk:Int}(h:(lk,a)∈t.1)(b:t.2.find? (λw=>w.1==lk)=none):pw t a lk=((t.1.erase (lk,a),t.2),none):=by unfold pw;rw[aj h,b]
theorem NO{t:nt}{a lk:Int}{x:Int×Int}(h:(lk,a)∈t.1)(b:t.2.find? (λw=>w.1==lk)=some x):pw t a lk=((t.1.erase (lk,a)++[x],t.2.eraseP (λy=>y.1==lk)),some x.2):=by unfold pw;rw[aj h,b]
theorem NP(W:World)(L:List kM)(g:Nat)(A B:Option Addr)(c d:Nat)(t:nt)(a lk:Int)(u:t.1.length<=50000)(y:t.2.length<=50000):
 m3 prog W 212 #[.pointer (some ⟨g,0,none⟩),nI a,nI lk] (mz g A B c d t L)
  (λv L'=>v=Jn (pw t a lk).2/\∃z C D E,L'=mz g z C D E (pw t a lk).1 L):=by
 obtain⟨h,w⟩:=t;simp only at u y;refine enter func212 ?_;refine U ?_;intro n;refine U ?_;refine qN _ (lC.Z [0,1,2,3,6] (lC.p8 [4,5] (lC.Z [7,8,9] .mZ))) Zk Zk Zk Zk (λ_ _ _ h=>h) Sub.refl ?_;refine mM _ _ _ _ Zk ?_;refine U ?_;refine qu _ _ _ Zk ?_;refine U ?_;refine mM _ _ _ _ Zk ?_;refine U ?_;refine sm (k1 (k1 (k1 (k1 k0)))) (λe f F=>Vt e A c h (lk,a) Zo (ra (f _ (m1 (m1 (m1 m0)))))) ?_;refine U ?_;cases b:h.findIdx? (λw=>decide ((lk,a)=w)) with
 |none=>rw[show m9 h (λw=>decide ((lk,a)=w))=-1 from by unfold m9;rw[b]];refine U ?_;refine kS ?_;rw[NM (t:=(h,w)) (Vv b)];exact og results212 Zt Zt (L':=mz g A B c d (h,w) L) lv ⟨rfl,A,B,c,d,rfl⟩
 |some i=>
  rw[show m9 h (λw=>decide ((lk,a)=w))=(i:Int) from by unfold m9;rw[b]];obtain⟨G,o⟩:=Vu b;have p:i<h.length:=by rw[bR] at b;exact b.1
  have lL:(h.eraseIdx i).length=h.length-1:=List.length_eraseIdx_of_lt p;rw[show decide ((i:Int)<0)=false from Zq];refine U ?_;refine Fe (z1 (z1 (z1 z0))) (NL A c i h p Zo) ?_;rw[G] at lL⊢;generalize q:h.erase (lk,a)=m at*;refine U ?_;refine sm (k1 (k1 (k1 (k1 k0)))) (λe f F=>E5 np e B d w Zo (ra (f _ (m1 (m1 m0)))) 262 [.pointer (some ⟨n,0,none⟩)] (λx=>x.1==lk) (λx _=>Vp e n lk (pj (f _ m0)) x)) ?_;refine U ?_;cases k:w.findIdx? (λx=>x.1==lk) with
  |none=>have hf:w.find? (λx=>x.1==lk)=none:=Jm k;rw[show m9 w (λx=>x.1==lk)=-1 from by unfold m9;rw[k]];refine U ?_;refine kS ?_;rw[NN (t:=(h,w)) o hf,q];exact og results212 Zt Zt (L':=mz g A B c d (m,w) L) lv ⟨rfl,A,B,c,d,rfl⟩
  |some j=>rw[show m9 w (λx=>x.1==lk)=(j:Int) from by unfold m9;rw[k]];obtain⟨H,x,I,hf⟩:=Ff _ _ k;have J:j<w.length:=(ax.1 I).1;rw[show decide ((j:Int)<0)=false from Zq];refine U ?_;intro N;refine U ?_;refine Fe (z1 (z1 (z1 z0))) (NL B d j w J Zo) ?_;rw[H];generalize K:w.eraseP (λx=>x.1==lk)=w' at*;refine U ?_;refine nq [0,1,2,3,4,5,6,7,8,9,10,11,12] Zk Zk Zk Zk Zk (λ_ _ _ h=>h) ?_;refine U ?_;intro M;refine U ?_;refine td (l:=m) (news:=[x]) rfl rfl (oG (g:=M) (t:=206) (cs:=np x) Zn rfl) (λ_ _=>by(first|exact p0|exact p1 p0|exact p1 (p1 p0)|exact p1 (p1 (p1 p0))|exact p1 (p1 (p1 (p1 p0)))|exact p1 (p1 (p1 (p1 (p1 p0))))|exact p1 (p1 (p1 (p1 (p1 (p1 p0)))))|exact p1 (p1 (p1 (p1 (p1 (p1 (p1 p0)))))))) Zl Zm rfl (λ_ _ _=>Sub.of (bu _)) rfl rfl (λr s=>?_);refine U ?_;refine kS ?_;rw[NO (t:=(h,w)) o hf,q,K];exact og results212 Zt Zt (L':=mz g r B s d (m++[x],w') L) lv ⟨rfl,r,B,s,d,rfl⟩
def Jp(t:nt)(H:kM)(r:Value):Prop:=∃a b,r=.agg #[a,b]/\w9 H a b t
theorem Vy(t:nt)(a lk:Int):(pw t a lk).1.1.length<=t.1.length/\(pw t a lk).1.2.length<=t.2.length:=by
 by_cases h:(lk,a)∈t.1
 ·have b:(t.1.erase (lk,a)).length=t.1.length-1:=gR h;have c:0<t.1.length:=fK h;cases hf:t.2.find? (λw=>w.1==lk) with
  |none=>rw[NN h hf];exact⟨by show(t.1.erase (lk,a)).length<=_;omega,aA _⟩
  |some x=>rw[NO h hf];exact⟨by show(t.1.erase (lk,a)++[x]).length<=_;rw[ak,b];simp;omega,List.length_eraseP_le⟩
 ·rw[NM h];exact⟨aA _,aA _⟩
theorem NQ(H:kM)(e i:Value)(t:nt)(b:w9 H e i t)(a lk:Int)(l:t.1.length<=50000)(m:t.2.length<=50000):Fn prog 134 #[.agg #[e,i],nI a,nI lk] H (λj r=>∃v,r=.tuple #[v,nI (zH (pw t a lk).2).1,.bool (zH (pw t a lk).2).2]/\Jp (pw t a lk).1 j v):=λW L=>by obtain⟨A,c,rfl,z,C⟩:=Zi b.h;obtain⟨B,d,rfl,D,E⟩:=Zi b.w;refine enter func134 ?_;refine U ?_;intro F;refine U ?_;intro G;refine U ?_;refine ov (Jo H _ _ t b Zo Zo) ?_;rintro _ _ ⟨g,n,o,p,q,rfl,rfl⟩;simp only[bQ,aS];refine U ?_;refine nR (NP W _ g n p o q t a lk l m) ?_;rintro _ _ ⟨rfl,s,u,x,y,rfl⟩;generalize pw t a lk=f at*;refine U ?_;refine kS ?_;exact tg (c1 (c1 (c1 (c1 (c1 c0))))) results134 (.agg (cs:=[.slice s f.1.1.length x,.slice u f.1.2.length y]) inferInstance rfl lW rfl) Zt Zt (λj hl k=>⟨_,rfl,_,_,rfl,k.sl (m1 (m1 m0)),k.sl (m1 m0)⟩)
theorem Vz(H:kM)(O P:Value)(t:nt)(F:w9 H O P t)(a:Int)(h1:t.1.length<=50000)(h2:t.2.length<=50000):Fn prog 216 #[.agg #[O,P],nI a] H (λu r=>∃v Q,r=.tuple #[v,Q]/\Jp (u6 t a).1 u v/\Sl 2 np u Q (u6 t a).2):=λW L=>by
 obtain⟨A,c,rfl,C,hr⟩:=Zi F.h;obtain⟨B,d,rfl,hd,hq⟩:=Zi F.w;refine enter func216 ?_;refine SC.oA 206 2 np none ?_;refine U ?_;intro R;refine U ?_;intro G;refine U ?_;intro I;refine U ?_;refine tI (hf:=f1 (f1 (f1 f0))) (o1 o0) ?_;intro y S kF;refine ov (Jo y _ _ t (F.up S) Zo Zo) ?_;rintro _ _ ⟨g,A1,kG,T,V,rfl,rfl⟩;simp only[bQ,aS];refine U ?_;refine NK (z1 z0) (H:=y) (λW L=>Vm np y T V 264 [.pointer (some ⟨G,0,none⟩)] (λx=>x.2==a) t.2 Zo (0,0) rfl (λu hl x _=>Vr u G a (kF.up hl) x) W L) ?_;have kH:(oT t.2 (λx=>x.2==a)).length<=t.2.length:=NG _;have kI:u6 t a=t.1.foldl (vI a) ((t.1,oT t.2 (λx=>x.2==a)),[]):=rfl;generalize k5:oT t.2 (λx=>x.2==a)=J at*;refine U ?_;refine mP (λm σ L'=>∃(i:Nat) (s:nt×List (Int×Int)) (b j E:Option Addr) (k p e:Nat),m=t.1.length-i/\i<=t.1.length/\s=(t.1.take i).foldl (vI a) ((t.1,J),[])/\s.1.1.length<=t.1.length/\s.1.2.length<=t.2.length/\s.2.length<=i/\
  L'=mz g b j k p s.1 (k4 I 34 [.slice none 0 0,.slice none 0 0]::k4 R 34 [.slice A t.1.length c,.slice B t.2.length d]::li 206 2 np E e s.2::fz y::L)/\
  ml σ [(3,.pointer (some ⟨G,0,none⟩)),(4,.pointer (some ⟨I,0,none⟩)),(6,.pointer (some ⟨g,0,none⟩)),(7,.func (.func 212) #[.pointer (some ⟨g,0,none⟩)] #[]),(8,.slice E s.2.length e),(29,.slice A t.1.length c),(30,nN t.1.length),(31,nN i)]) t.1.length
  _ (s1 _) ⟨0,((t.1,J),[]),A1,T,none,kG,V,0,by omega,by omega,rfl,aA _,kH,by simp,rfl,rfl,rfl,rfl,rfl,rfl,rfl,rfl,rfl,trivial⟩ ?_
 rintro m σ _ ⟨i,s,b,j,E,k,p,e,rfl,X,K,kJ,kL,k7,rfl,kO⟩;obtain⟨k8,rfl⟩:=kO.open;refine U ?_;refine mE rfl (λC=>?_) (λC=>?_)
 ·have kQ:i<t.1.length:=by have:=am C;omega
  obtain⟨x,hx⟩:∃x,t.1[i]? =some x:=⟨_,ad kQ⟩;have M:(t.1.take (i+1)).foldl (vI a) ((t.1,J),[])=vI a s x:=by rw[aT,hx,K,bV];rfl
  have k9:=hr.up S;refine U ?_;intro kT;refine U ?_;by_cases D:x.2=a
  ·have q:vI a s x=match pw s.1 a x.1 with
    |(t,some n)=>(t,s.2++[(x.1,n)])
    |(t,none)=>(t,s.2):=by unfold vI;rw[aj D];rcases pw s.1 a x.1 with⟨f,_|n⟩<;>rfl
   have z:=Vy s.1 a x.1;rw[show(x.2 != a)=false from by simpa using D];refine U ?_;refine SL.mL (L':=mz g b j k p s.1 (k4 kT 206 (np x)::k4 I 34 [.slice none 0 0,.slice none 0 0]::k4 R 34 [.slice A t.1.length c,.slice B t.2.length d]::li 206 2 np E e s.2::fz y::L)) (λw hw=>hw.ny (((bX _ _ _).trans ((bX _ _ _).cons _)).trans (((bX _ _ _).cons _).cons _))) ?_;refine nR (fst:=[.pointer (some ⟨g,0,none⟩)]) (cap:=[]) (NP W _ g b j k p s.1 a x.1 Zo Zo) ?_;rintro _ _ ⟨rfl,Y,B2,c2,d2,rfl⟩;rcases hf:pw s.1 a x.1 with⟨f,o⟩;rw[hf] at z q;rw[<-M] at q;cases o with
   |none=>refine U ?_;exact⟨t.1.length-(i+1),_,by omega,Zu,i+1,(f,s.2),Y,B2,E,c2,d2,e,rfl,by omega,q.symm,by simp only at z⊢;omega,by simp only at z⊢;omega,by simp only;omega,rfl,rfl,rfl,rfl,rfl,rfl,rfl,rfl,rfl,trivial⟩
   |some n=>refine U ?_;intro kX;refine U ?_;refine ap (l:=s.2) (news:=[(x.1,n)]) (oG (g:=kX) (t:=206) (cs:=np (x.1,n)) Zn rfl) Zl (λkY kZ=>?_);refine U ?_;exact⟨t.1.length-(i+1),_,by omega,Zu,i+1,(f,s.2++[(x.1,n)]),Y,B2,kY,c2,d2,kZ,rfl,by omega,q.symm,by simp only at z⊢;omega,by simp only at z⊢;omega,by simp only[ak,dy];omega,rfl,rfl,rfl,rfl,rfl,rfl,rfl,rfl,rfl,trivial⟩
  ·have q:vI a s x=s:=by unfold vI;rw[ai D]
   rw[q] at M;rw[show(x.2 != a)=true from by simpa using D];refine U ?_;exact⟨t.1.length-(i+1),_,by omega,Zu,i+1,s,b,j,E,k,p,e,rfl,by omega,M.symm,kJ,kL,by omega,rfl,rfl,rfl,rfl,rfl,rfl,rfl,rfl,rfl,trivial⟩
 ·have X:i=t.1.length:=by have:=av C;omega
  subst X;rw[bf,<-kI] at K;refine U ?_;refine kS ?_;rw[<-K];exact m7 (c1 (c1 (c1 (c1 (c1 (c1 c0)))))) results216 (.agg (cs:=[.slice b s.1.1.length k,.slice j s.1.2.length p]) inferInstance rfl lW rfl) Zt (λu hl N=>⟨_,_,rfl,⟨_,_,rfl,N.sl (m1 (m1 m0)),N.sl (m1 m0)⟩,N.sl (m1 (m1 (m1 (m1 (m1 m0)))))⟩)
theorem NR(H:kM)(s u:Value)(t:nt)(i:w9 H s u t)(a lk:Int)(E:t.1.length<=50000)(F:t.2.length<=50000):Fn prog 132 #[.agg #[s,u],nI a,nI lk] H (λf r=>∃v,r=.tuple #[v,.bool (qV t a lk).2]/\Jp (qV t a lk).1 f v):=λW L=>by
 obtain⟨A,c,rfl,G,I⟩:=Zi i.h;obtain⟨B,d,rfl,J,K⟩:=Zi i.w;refine enter func132 ?_;refine U ?_;intro M;refine U ?_;intro N;refine U ?_;refine ov (Jo H _ _ t i Zo Zo) ?_;rintro _ _ ⟨g,n,o,j,k,rfl,rfl⟩;simp only[bQ,aS];refine U ?_;intro z;refine U ?_;refine mi (Vw H _ _ t i lk) ?_;unfold qV;cases O:Ai t lk with
 |some y=>
  refine U ?_;by_cases m:y=a;·rw[show((zH (some y)).1==a)=true from by simpa[zH] using m];simp only[aj m];refine U ?_;refine kS ?_;exact m7 (c1 (c1 (c1 (c1 (c1 (c1 c0)))))) results132 (.agg (cs:=[.slice n t.1.length o,.slice j t.2.length k]) inferInstance rfl lW rfl) Zt (λf hl e=>⟨_,rfl,_,_,rfl,e.sl (m1 (m1 (m1 m0))),e.sl (m1 (m1 m0))⟩)
  ·rw[show((zH (some y)).1==a)=false from by simpa[zH] using m];simp only[ai m];refine U ?_;refine sm (k1 (k1 (k1 (k1 k0)))) (λf e P=>Ub np f j k t.2 Zo (ra (e _ (m1 (m1 m0)))) 209 [.pointer (some ⟨z,0,none⟩)] (λw=>w==(lk,a)) (λx _=>Vs f z (lk,a) (pj (e _ m0)) x)) ?_;generalize Q:t.2.any (λw=>w==(lk,a))=b at*;cases b with
   |true=>refine U ?_;refine kS ?_;exact m7 (c1 (c1 (c1 (c1 (c1 (c1 c0)))))) results132 (.agg (cs:=[.slice n t.1.length o,.slice j t.2.length k]) inferInstance rfl lW rfl) Zt (λf hl e=>⟨_,rfl,_,_,rfl,e.sl (m1 (m1 (m1 m0))),e.sl (m1 (m1 m0))⟩)
   |false=>refine U ?_;refine nq [0,1,2,3,4,5,6,7,8,9,10,11,12] Zk Zk Zk Zk Zk (λ_ _ _ h=>h) ?_;refine U ?_;intro C;refine U ?_;refine td (l:=t.2) (news:=[(lk,a)]) rfl rfl (oG (g:=C) (t:=206) (cs:=np (lk,a)) Zn rfl) (λ_ _=>by(first|exact p0|exact p1 p0|exact p1 (p1 p0)|exact p1 (p1 (p1 p0))|exact p1 (p1 (p1 (p1 p0)))|exact p1 (p1 (p1 (p1 (p1 p0))))|exact p1 (p1 (p1 (p1 (p1 (p1 p0)))))|exact p1 (p1 (p1 (p1 (p1 (p1 (p1 p0)))))))) Zl Zm rfl (λ_ _ _=>Sub.of (bu _)) rfl rfl (λp q=>?_);refine U ?_;refine kS ?_;exact m7 (c1 (c1 (c1 (c1 (c1 (c1 (c1 c0))))))) results132 (.agg (cs:=[.slice n t.1.length o,.slice p (t.2++[(lk,a)]).length q]) inferInstance rfl lW rfl) Zt (λf hl e=>⟨_,rfl,_,_,rfl,e.sl (m1 (m1 (m1 (m1 m0)))),e.sl (m1 (m1 (m1 m0)))⟩)
 |none=>refine U ?_;refine nq [0,1,2,3,4,5,6,7,8,9,10,11,12] Zk Zk Zk Zk Zk (λ_ _ _ h=>h) ?_;refine U ?_;intro D;refine U ?_;refine td (l:=t.1) (news:=[(lk,a)]) rfl rfl (oG (g:=D) (t:=206) (cs:=np (lk,a)) Zn rfl) (λ_ _=>by(first|exact p0|exact p1 p0|exact p1 (p1 p0)|exact p1 (p1 (p1 p0))|exact p1 (p1 (p1 (p1 p0)))|exact p1 (p1 (p1 (p1 (p1 p0))))|exact p1 (p1 (p1 (p1 (p1 (p1 p0)))))|exact p1 (p1 (p1 (p1 (p1 (p1 (p1 p0)))))))) Zl Zm rfl (λ_ _ _=>Sub.of (bu _)) rfl rfl (λp q=>?_);refine U ?_;refine kS ?_;exact m7 (c1 (c1 (c1 (c1 (c1 (c1 (c1 c0))))))) results132 (.agg (cs:=[.slice p (t.1++[(lk,a)]).length q,.slice j t.2.length k]) inferInstance rfl lW rfl) Zt (λf hl e=>⟨_,rfl,_,_,rfl,e.sl (m1 (m1 (m1 (m1 m0)))),e.sl (m1 (m1 (m1 m0)))⟩)
def Dr(H:kM)(v:Value)(g:wj):Prop:=∃a,v=.agg #[nI g.1,a]/\Sl 2 np H a g.2
theorem VA(H:kM)(g:Nat)(n:Int)(a:H.kn (nX g [nI n]))(x:Int×Int):Rf prog 109 #[.agg (np x).toArray,.pointer (some ⟨g,0,none⟩)] H (.bool (x.1==n)):=λW L=>by refine enter func109 ?_;refine U ?_;intro b;refine U ?_;refine kS ?_;exact lj results109 Zt lv ⟨rfl,rfl⟩
theorem VB(H:kM)(g:Nat)(n:Int)(a:H.kn (nX g [nI n]))(x:Int×Int):Rf prog 218 #[.agg (np x).toArray,.pointer (some ⟨g,0,none⟩)] H (.bool (x.1==n)):=λW L=>by refine enter func218 ?_;refine U ?_;intro b;refine U ?_;refine kS ?_;exact lj results218 Zt lv ⟨rfl,rfl⟩
theorem NS(H:kM)(v:Value)(g:wj)(d:Dr H v g)(n:Int):Rf prog 46 #[v,nI n] H (.bool (oU g n)):=λW L=>by obtain⟨_,rfl,A,c,rfl,i,e⟩:=d;refine enter func46 ?_;refine U ?_;intro j;refine U ?_;intro a;refine U ?_;refine sm (k1 (k1 (k1 k0))) (λb f h=>T7 np b A c g.2 Zo (e.up (h _ (m1 (m1 m0)))) 109 [.pointer (some ⟨a,0,none⟩)] (λw=>w.1==n) (λx _=>VA b a n (pj (f _ m0)) x)) ?_;refine U ?_;refine kS ?_;exact lj results46 Zt lv ⟨rfl,rfl⟩
def Jq(g:wj):Option (Int×Int):=match g.2 with
 |[]=>none
 |w::l=>some (w.1,(w::l).foldl (λm x=>max m x.2) w.2)
def NT(o:Option (Int×Int)):Value:=match o with
 |some p=>.tuple #[nI p.1,nI p.2,.bool true]
 |none=>.tuple #[nI 0,nI 0,.bool false]
theorem VC(H:kM)(v:Value)(g:wj)(k:Dr H v g):Rf prog 47 #[v] H (NT (Jq g)):=λW L=>by
 obtain⟨_,rfl,A,c,rfl,d,f⟩:=k;refine enter func47 ?_;refine U ?_;intro h;refine U ?_;unfold Jq;cases hl:g.2 with
 |nil=>rw[hl] at f d;refine U ?_;refine kS ?_;exact pd results47 Zt Zt Zt lv ⟨rfl,rfl⟩
 |cons a b=>
  rw[hl] at f d;have q:(a::b)[0]? =some a:=rfl;rw[show(((a::b).length:Int)==0)=false from Zq];refine U ?_;refine qO (xs:=a::b) (i:=0) rfl rfl (fX _) rfl (nS Zn f (le_refl _)) rfl rfl ?_;refine U ?_;refine mP (λm σ L'=>∃i:Nat,m=(a::b).length-i/\i<=(a::b).length/\L'=k4 h 37 [nI g.1,.slice A (a::b).length c]::fz H::L/\ml σ [(1,.pointer (some ⟨h,0,none⟩)),(5,nI (((a::b).take i).foldl (λm x=>max m x.2) a.2)),(18,.slice A (a::b).length c),(19,nN (a::b).length),(20,nN i)]) (a::b).length
   _ (s1 _) ⟨0,rfl,aR _,rfl,rfl,rfl,rfl,rfl,rfl,trivial⟩ ?_
  rintro m σ _ ⟨i,rfl,j,rfl,l⟩;obtain⟨r,rfl⟩:=l.open;refine U ?_;refine mE rfl (λd=>?_) (λd=>?_)
  ·have n:i<(a::b).length:=by have:=am d;omega
   obtain⟨e,o⟩:∃e,(a::b)[i]? =some e:=⟨_,ad n⟩;have p:((a::b).take (i+1)).foldl (λm x=>max m x.2) a.2=max (((a::b).take i).foldl (λm x=>max m x.2) a.2) e.2:=by rw[aT,o,bV];rfl
   refine U ?_;intro s;refine U ?_;exact⟨(a::b).length-(i+1),_,by omega,Zu,i+1,rfl,by omega,rfl,rfl,by rw[p];rfl,rfl,rfl,rfl,trivial⟩
  ·have j:i=(a::b).length:=by have:=av d;omega
   subst j;rw[bf];refine U ?_;refine qO (xs:=a::b) (i:=0) rfl rfl (fX _) rfl (nS Zn f (le_refl _)) rfl rfl ?_;refine U ?_;refine kS ?_;exact pd results47 Zt Zt Zt lv ⟨rfl,rfl⟩
theorem NU(H:kM)(v:Value)(g:wj)(B:Dr H v g)(a up:Int)(q:g.2.length<=50000):Fn prog 138 #[v,nI a,nI up] H (λd r=>∃v',r=.tuple #[v',.bool (wk g a up).2]/\Dr d v' (wk g a up).1):=λW L=>by
 obtain⟨_,rfl,A,c,rfl,J,C⟩:=B;obtain⟨x,l⟩:=g;refine enter func138 ?_;refine U ?_;intro K;refine U ?_;intro o;refine U ?_;intro M;refine U ?_;refine ov (MT np H A c l (by simp only at q;omega) C) ?_;rintro _ _ ⟨k,f,rfl,rfl⟩;simp only[aD];simp only at q;refine U ?_;unfold wk;simp only;by_cases m:up<=x;·rw[show decide (up<=x)=true from aZ m,aj m];refine U ?_;refine kS ?_;exact m7 (c1 (c1 (c1 (c1 c0)))) results138 (.agg (cs:=[nI x,.slice k l.length f]) inferInstance rfl lW rfl) Zt (λd hl b=>⟨_,rfl,_,rfl,b.sl Zn⟩)
 ·rw[show decide (up<=x)=false from bx m,ai m];refine U ?_;refine sm (k1 (k1 (k1 (k1 k0)))) (λd b N=>I2 np d k f l Zo (ra (b (li 170 2 np k f l) Zn)) 218 [.pointer (some ⟨o,0,none⟩)] (λw=>w.1==a) (λx _=>VB d o a (pj (b (k4 o 3 [nI a]) Zn)) x)) ?_;refine U ?_;cases n:l.findIdx? (λw=>w.1==a) with
  |none=>rw[show m9 l (λw=>w.1==a)=-1 from by unfold m9;rw[n]];refine U ?_;intro D;refine U ?_;refine ap (l:=l) (news:=[(a,up)]) (oG (g:=D) (t:=170) (cs:=np (a,up)) Zn rfl) Zl (λE F=>?_);refine U ?_;refine kS ?_;exact m7 (c1 (c1 (c1 (c1 (c1 c0))))) results138 (.agg (cs:=[nI x,.slice E (l++[(a,up)]).length F]) inferInstance rfl lW rfl) Zt (λd hl b=>⟨_,rfl,_,rfl,b.sl Zn⟩)
  |some i=>
   have u:i<l.length:=by rw[bR] at n;exact n.1
   obtain⟨y,z⟩:∃e,l[i]? =some e:=⟨_,ad u⟩;have G:l.modify i (λw=>(w.1,max w.2 up))=l.set i (y.1,max y.2 up):=by(apply cK;intro j;rw[bM,kz];by_cases p:i=j;·subst p;rw[aj rfl,aj u,z];simp);·rw[ai p];cases l[j]?<;>simp[p]
   rw[show m9 l (λw=>w.1==a)=(i:Int) from by unfold m9;rw[n]];rw[show decide ((i:Int)<0)=false from Zq];simp only[G];refine U ?_;refine nq [0,1,2,3,4,5,6,7,8,9,10,11,12,13] Zk Zk Zk Zk Zk (λ_ _ _ h=>h) ?_;refine U ?_;refine wN (c:=f) (e:=170) (enc:=np) (l:=l) (y:=y) (y':=(y.1,max y.2 up)) rfl rfl rfl z Zr Zd (by(first|exact p0|exact p1 p0|exact p1 (p1 p0)|exact p1 (p1 (p1 p0))|exact p1 (p1 (p1 (p1 p0)))|exact p1 (p1 (p1 (p1 (p1 p0))))|exact p1 (p1 (p1 (p1 (p1 (p1 p0)))))|exact p1 (p1 (p1 (p1 (p1 (p1 (p1 p0)))))))) rfl (λ_=>Sub.of (bu _)) rfl ?_;refine U ?_;refine kS ?_;have I:(l.set i (y.1,max y.2 up)).length=l.length:=bB;exact m7 (c1 (c1 (c1 (c1 c0)))) results138 (.agg (cs:=[nI x,.slice k l.length f]) inferInstance rfl lW rfl) Zt (λd hl b=>⟨_,rfl,_,rfl,by have:=b.sl (A:=k) (c:=f) (l:=l.set i (y.1,max y.2 up)) (e:=170) (s:=2) (enc:=np) Zn;rw[I] at this;exact this⟩)
def yS(l:List (Int×Int))(k:Int):List (Int×Int):=l.filter (λw=>!decide (w.2<=k))
def yT(l:List (Int×Int))(k:Int):List (Int×Int):=l.filter (λw=>decide (w.2<=k))
theorem VD(l:List (Int×Int))(k:Int):(yS l k).length+(yT l k).length=l.length:=by
 unfold yS yT;induction l with
 |nil=>rfl
 |cons w r a=>
  rw[cX,cX];by_cases h:w.2<=k;·simp[h];omega
  ·simp[h];omega
theorem VE{l:List (Int×Int)}{k:Nat}{e:Int×Int}(x:Int)(h:l[k]? =some e):yS (l.take (k+1)) x=if e.2<=x then yS (l.take k) x else yS (l.take k) x++[e]:=by unfold yS;rw[aT,h,cm];by_cases a:e.2<=x<;>simp[a]
theorem VF{l:List (Int×Int)}{k:Nat}{e:Int×Int}(x:Int)(h:l[k]? =some e):yT (l.take (k+1)) x=if e.2<=x then yT (l.take k) x++[e] else yT (l.take k) x:=by unfold yT;rw[aT,h,cm];by_cases a:e.2<=x<;>simp[a]
theorem VG(W:World)(L:List kM)(j k:Nat)(m n:Option Addr)(o p:Nat)(a b:List (Int×Int))(c:Int)(q:Value)(w:Int×Int)(z:a.length<=100000)(A:b.length<=100000):
 m3 prog W 130 #[.agg (np w).toArray,.pointer (some ⟨j,0,none⟩),.pointer (some ⟨k,0,none⟩)]
  (li 170 2 np m o a::li 170 2 np n p b::k4 k 242 [.slice m a.length o,.slice n b.length p]::k4 j 37 [nI c,q]::L)
  (λv L'=>v=.tuple #[]/\∃s u x y,L'=li 170 2 np s x (if w.2<=c then a else a++[w])::li 170 2 np u y (if w.2<=c then b++[w] else b)::k4 k 242 [.slice s (if w.2<=c then a else a++[w]).length x,.slice u (if w.2<=c then b++[w] else b).length y]::k4 j 37 [nI c,q]::L):=by
 refine enter func130 ?_;refine U ?_;intro B;refine U ?_;refine mE rfl (λd=>?_) (λd=>?_);·have d:=am d;refine U ?_;refine qN [] (lC.Z [0,1,2,3,4,5,6] (lC.p8 [7] (lC.Z [8] .mZ))) Zk Zk Zk Zk (λ_ _ _ h=>h) (.of Zu) ?_;refine mM _ _ _ _ Zk ?_;refine U ?_;refine zc (i:=1) rfl rfl Zd rfl rfl ?_;refine U ?_;intro r;refine U ?_;refine td (l:=b) (news:=[w]) rfl rfl (oG (g:=r) (t:=170) (cs:=np w) Zn rfl) (λ_ _=>by(first|exact p0|exact p1 p0|exact p1 (p1 p0)|exact p1 (p1 (p1 p0))|exact p1 (p1 (p1 (p1 p0)))|exact p1 (p1 (p1 (p1 (p1 p0))))|exact p1 (p1 (p1 (p1 (p1 (p1 p0)))))|exact p1 (p1 (p1 (p1 (p1 (p1 (p1 p0)))))))) Zl Zm rfl (λ_ _ _=>Sub.of (bu _)) rfl rfl (λe f=>?_);refine q8 ?_;refine qu _ _ _ Zk ?_;refine zc (i:=1) rfl rfl Zd rfl rfl ?_;refine q8 ?_;refine mM _ _ _ _ Zk ?_;refine U ?_;exact qD results130 (L':=li 170 2 np m o a::li 170 2 np e f (b++[w])::k4 k 242 [.slice m a.length o,.slice e (b++[w]).length f]::k4 j 37 [nI c,q]::L) lv ⟨rfl,m,e,o,f,by simp only[aj d]⟩
 ·have d:=av d;refine U ?_;refine qN [] (lC.Z [0,1,2,3,4,5,6] (lC.p8 [7] (lC.Z [8] .mZ))) Zk Zk Zk Zk (λ_ _ _ h=>h) (.of Zu) ?_;refine mM _ _ _ _ Zk ?_;refine U ?_;refine zc (i:=0) rfl rfl Zd rfl rfl ?_;refine U ?_;intro r;refine U ?_;refine td (l:=a) (news:=[w]) rfl rfl (oG (g:=r) (t:=170) (cs:=np w) Zn rfl) (λ_ _=>by(first|exact p0|exact p1 p0|exact p1 (p1 p0)|exact p1 (p1 (p1 p0))|exact p1 (p1 (p1 (p1 p0)))|exact p1 (p1 (p1 (p1 (p1 p0))))|exact p1 (p1 (p1 (p1 (p1 (p1 p0)))))|exact p1 (p1 (p1 (p1 (p1 (p1 (p1 p0)))))))) Zl Zm rfl (λ_ _ _=>Sub.of (bu _)) rfl rfl (λe f=>?_);refine q8 ?_;refine qu _ _ _ Zk ?_;refine zc (i:=0) rfl rfl Zd rfl rfl ?_;refine q8 ?_;refine mM _ _ _ _ Zk ?_;refine U ?_;exact qD results130 (L':=li 170 2 np e f (a++[w])::li 170 2 np n p b::k4 k 242 [.slice e (a++[w]).length f,.slice n b.length p]::k4 j 37 [nI c,q]::L) lv ⟨rfl,e,n,f,p,by simp only[ai d]⟩
def wC(l:List (Int×Int))(k:Nat):List Int:=(l.take k).map (·.1)++List.replicate (l.length-k) 0
theorem VH{l:List (Int×Int)}{k:Nat}(h:k<=l.length):(wC l k).length=l.length:=by unfold wC;simp;omega
theorem VI(l:List (Int×Int)):wC l 0=List.replicate l.length 0:=by simp[wC]
theorem VJ(l:List (Int×Int)):wC l l.length=l.map (·.1):=by simp[wC]
theorem VK{l:List (Int×Int)}{k:Nat}(h:k<l.length):(wC l k)[k]? =some 0:=by
 unfold wC;have a:(List.map (·.1) (List.take k l)).length=k:=by rw[bO,aC];omega
 rw[bZ Zo,a,dF,show l.length-k=(l.length-(k+1))+1 from by omega];rfl
theorem VL{l:List (Int×Int)}{k:Nat}{e:Int×Int}(h:l[k]? =some e):(wC l k).set k e.1=wC l (k+1):=by
 have b:k<l.length:=(ax.1 h).1;unfold wC;have a:(List.map (·.1) (List.take k l)).length=k:=by rw[bO,aC];omega
 rw[iu,ai Zo,aT,h,a,dF,show l.length-k=(l.length-(k+1))+1 from by omega,dr,eN];simp
theorem NV(H:kM)(v:Value)(g:wj)(I:Dr H v g)(mD:Int)(J:g.2.length<=50000):Fn prog 68 #[v,nI mD] H (λu r=>∃v' E,r=.tuple #[v',E]/\Dr u v' (wm g mD).1/\Sl 1 oY u E (wm g mD).2):=λW L=>by
 obtain⟨_,rfl,A,c,rfl,b,K⟩:=I;obtain⟨x,l⟩:=g;simp only at J K b;have F:wm (x,l) mD=((max x mD,yS l (max x mD)),(yT l (max x mD)).map (·.1)):=rfl;rw[F];clear F;refine enter func68 ?_;refine U ?_;intro d;refine U ?_;intro p;refine U ?_;intro f;refine U ?_;generalize Y:max x mD=a;refine SC.oA 170 2 np none ?_;refine SC.oA 170 2 np none ?_;refine SC.mL (L':=li 170 2 np none 0 []::li 170 2 np none 0 []::k4 f 242 [.slice none 0 0,.slice none 0 0]::k4 d 37 [nI a,.slice A l.length c]::k4 p 37 [nI 0,.slice none 0 0]::fz H::L) (λw q=>?_) ?_;·exact q.ny ((((bX _ _ _).cons _).cons _).cons _)
 refine mP (λr σ L'=>∃k n o h m,k<=l.length/\r=l.length-k/\
  L'=li 170 2 np n o (yS (l.take k) a)::li 170 2 np h m (yT (l.take k) a)::k4 f 242 [.slice n (yS (l.take k) a).length o,.slice h (yT (l.take k) a).length m]::k4 d 37 [nI a,.slice A l.length c]::k4 p 37 [nI 0,.slice none 0 0]::fz H::L/\
  ml σ [(2,.pointer (some ⟨d,0,none⟩)),(4,.pointer (some ⟨p,0,none⟩)),(6,.pointer (some ⟨f,0,none⟩)),(7,.func (.func 130) #[] #[.pointer (some ⟨d,0,none⟩),.pointer (some ⟨f,0,none⟩)]),(20,.slice A l.length c),(21,nN l.length),(22,nN k)]) l.length
  _ (s1 _) ⟨0,none,0,none,0,by omega,by omega,rfl,rfl,rfl,rfl,rfl,rfl,rfl,rfl,trivial⟩ ?_
 rintro r σ _ ⟨k,n,o,h,m,B,rfl,rfl,C⟩;obtain⟨kF,rfl⟩:=C.open;have G:=VD (l.take k) a;rw[aC] at G;refine U ?_;refine mE rfl (λb=>?_) (λb=>?_)
 ·have s:k<l.length:=by have:=am b;omega
  obtain⟨e,t⟩:∃e,l[k]? =some e:=⟨_,ad s⟩;have M:=VE a t;have N:=VF a t;refine U ?_;intro g9;refine U ?_;refine nR (fst:=[]) (cap:=[.pointer (some ⟨d,0,none⟩),.pointer (some ⟨f,0,none⟩)])
   ((VG W (k4 p 37 [nI 0,.slice none 0 0]::fz H::L) d f n h o m (yS (l.take k) a) (yT (l.take k) a) a (.slice A l.length c) e Zo Zo).mL (λw q=>q.sublist (dI _ _))) ?_
  rintro _ _ ⟨rfl,O,P,Q,R,rfl⟩;rw[<-M,<-N];refine U ?_;exact⟨l.length-(k+1),_,by omega,s1 _,k+1,O,Q,P,R,by omega,rfl,rfl,rfl,rfl,rfl,rfl,rfl,rfl,rfl,trivial⟩
 ·have kG:k=l.length:=by have:=av b;omega
  rw[show l.take k=l from aY Zo] at G⊢;refine U ?_;generalize kH:yT l a=go at*;generalize kI:yS l a=ke at*;refine zc (i:=1) rfl rfl Zd rfl rfl ?_;refine U ?_;refine De oY 0 go.length rfl rfl Zo Zo rfl rfl rfl rfl rfl (λD=>?_);refine SL.mL (L':=li 3 1 oY (some ⟨D,0,none⟩) (List.replicate go.length 0).length (List.replicate go.length 0)::_) (λw q=>q.In (rU:=rfl) (by rw[bS];unfold maxLen;omega) oe.oL) ?_;refine U ?_;refine zc (i:=1) rfl rfl Zd rfl rfl ?_;refine U ?_;refine mP (λr σ L'=>∃j,j<=go.length/\r=go.length-j/\
   L'=li 3 1 oY (some ⟨D,0,none⟩) go.length (wC go j)::li 170 2 np n o ke::li 170 2 np h m go::k4 f 242 [.slice n ke.length o,.slice h go.length m]::k4 d 37 [nI a,.slice A l.length c]::k4 p 37 [nI 0,.slice none 0 0]::fz H::L/\
   ml σ [(2,.pointer (some ⟨d,0,none⟩)),(4,.pointer (some ⟨p,0,none⟩)),(6,.pointer (some ⟨f,0,none⟩)),(10,.slice (some ⟨D,0,none⟩) go.length go.length),(35,.slice h go.length m),(36,nN go.length),(37,nN j)]) go.length
   _ (s1 _) ⟨0,by omega,by omega,by rw[VI,bS],rfl,rfl,rfl,rfl,rfl,rfl,rfl,trivial⟩ ?_
  rintro r σ _ ⟨j,S,rfl,rfl,C⟩;obtain⟨kJ,rfl⟩:=C.open;have T:=VH S;refine U ?_;refine mE rfl (λb=>?_) (λb=>?_)
  ·have s:j<go.length:=by have:=am b;omega
   obtain⟨e,t⟩:∃e,go[j]? =some e:=⟨_,ad s⟩;refine U ?_;intro kL;refine U ?_;refine qO (xs:=wC go j) rfl rfl s T (p9 (l:=wC go j) (e:=3) (c:=go.length) Zn) rfl rfl ?_;refine U ?_;refine wN (c:=go.length) (e:=3) (enc:=oY) (l:=wC go j) (y:=0) (y':=e.1) rfl rfl rfl (VK s) Zr Zd (by(first|exact p0|exact p1 p0|exact p1 (p1 p0)|exact p1 (p1 (p1 p0))|exact p1 (p1 (p1 (p1 p0)))|exact p1 (p1 (p1 (p1 (p1 p0))))|exact p1 (p1 (p1 (p1 (p1 (p1 p0)))))|exact p1 (p1 (p1 (p1 (p1 (p1 (p1 p0)))))))) rfl (λ_=>trivial) rfl ?_;rw[VL t];refine U ?_;exact⟨go.length-(j+1),_,by omega,Zu,j+1,by omega,rfl,rfl,rfl,rfl,rfl,rfl,rfl,rfl,rfl,trivial⟩
  ·have V:j=go.length:=by have:=av b;omega
   rw[V,VJ] at*;refine U ?_;refine zc (i:=1) rfl rfl Zd rfl rfl ?_;refine U ?_;refine SB (enc:=np) (e:=170) (c:=m) (A:=h) (l:=go) (z:=(0,0)) rfl rfl (by(first|exact p0|exact p1 p0|exact p1 (p1 p0)|exact p1 (p1 (p1 p0))|exact p1 (p1 (p1 (p1 p0)))|exact p1 (p1 (p1 (p1 (p1 p0))))|exact p1 (p1 (p1 (p1 (p1 (p1 p0)))))|exact p1 (p1 (p1 (p1 (p1 (p1 (p1 p0)))))))) rfl (λ_=>trivial) rfl ?_;refine U ?_;refine zc (i:=0) rfl rfl Zd rfl rfl ?_;refine U ?_;refine kS ?_;have X:(go.map (·.1)).length=go.length:=bO ..;rw[<-X];exact m7 (c1 (c1 (c1 (c1 (c1 (c1 c0)))))) results68 (.agg (cs:=[nI a,.slice n ke.length o]) inferInstance rfl lW rfl) Zt (λu hl B=>⟨_,_,rfl,⟨_,rfl,B.sl (m1 m0)⟩,B.sl m0⟩)
def zI(k:Int):Option Nat:=
 if k=1\/k=2\/k=6\/k=10 then some 1
 else if k=3 then some 5
 else if k=4\/k=7 then some 9
 else if k=5 then some 3
 else if k=9\/k=11 then some 8
 else if k=13 then some 4
 else if k=8\/k=12 then some 0
 else none
def VM(o:Option Nat):Value:=match o with
 |some n=>.tuple #[nN n,.bool true]
 |none=>.tuple #[nN 0,.bool false]
theorem VN(k:Int):Pf prog 76 #[nI k] (VM (zI k)):=λW L=>by
 by_cases p:1<=k/\k<=13
 ·have:k=1\/k=2\/k=3\/k=4\/k=5\/k=6\/k=7\/k=8\/k=9\/k=10\/k=11\/k=12\/k=13:=by omega
  rcases this with rfl|rfl|rfl|rfl|rfl|rfl|rfl|rfl|rfl|rfl|rfl|rfl|rfl;all_goals
   refine enter func76 ?_;refine U ?_;refine kS ?_;exact og results76 Zt Zt lv ⟨rfl,rfl⟩
 ·have h:zI k=none:=by unfold zI;repeat rw[ai Zo]
  rw[h];have a:(k==1)=false:=by simp;omega
  have b:(k==2)=false:=by simp;omega
  have c:(k==3)=false:=by simp;omega
  have d:(k==4)=false:=by simp;omega
  have e:(k==5)=false:=by simp;omega
  have f:(k==6)=false:=by simp;omega
  have g:(k==7)=false:=by simp;omega
  have i:(k==8)=false:=by simp;omega
  have j:(k==9)=false:=by simp;omega
  have l:(k==10)=false:=by simp;omega
  have m:(k==11)=false:=by simp;omega
  have n:(k==12)=false:=by simp;omega
  have o:(k==13)=false:=by simp;omega
  refine enter func76 ?_;refine U ?_;rw[a];refine U ?_;rw[b];refine U ?_;rw[f];refine U ?_;rw[l];refine U ?_;rw[c];refine U ?_;rw[d];refine U ?_;rw[g];refine U ?_;rw[e];refine U ?_;rw[j];refine U ?_;rw[m];refine U ?_;rw[o];refine U ?_;rw[i];refine U ?_;rw[n];refine U ?_;refine kS ?_;exact og results76 Zt Zt lv ⟨rfl,rfl⟩
theorem Bt(H:kM)(g n b:Nat)(d:H.kn (nX g [nN n]))(x y:Bool)(e:b=1\/b=2\/b=4\/b=8)(f:n<16):Rf prog 77 #[nN b,.bool x,.bool y,.pointer (some ⟨g,0,none⟩)] H (.bool (if n&&& b=0 then y else x)):=λW L=>by
 refine enter func77 ?_;refine U ?_;have h:n=0\/n=1\/n=2\/n=3\/n=4\/n=5\/n=6\/n=7\/n=8\/n=9\/n=10\/n=11\/n=12\/n=13\/n=14\/n=15:=by omega
 refine FY (a:=n) (b:=b) rfl rfl Zo Zo rfl rfl ?_;by_cases c:n&&& b=0;·rw[aj c,c];refine U ?_;refine kS ?_;exact lj results77 Zt lv ⟨rfl,rfl⟩
 ·rw[ai c];refine U ?_;rw[show((((n&&& b:Nat):Int)) != 0)=true from by simpa using c];refine U ?_;refine kS ?_;exact lj results77 Zt lv ⟨rfl,rfl⟩
theorem VO(H:kM)(s:kV)(a:s.length<=1000000000):Fn prog 78 #[sv s] H (λ_ r=>r=.bool ((oy s).isSome)):=λW L=>by
 refine enter func78 ?_;refine U ?_;refine l4 (yR H s a) ?_;rintro b _ c ⟨v',rfl,B,d,rfl,_⟩;generalize(oy s).getD []=e;cases(oy s).isSome with
 |true=>rw[aj rfl];refine U ?_;refine kS ?_;exact lX c0 results78 Zt (λ_ _ _=>rfl)
 |false=>rw[ai Zd];refine U ?_;refine kS ?_;exact lX c0 results78 Zt (λ_ _ _=>rfl)
theorem GF(s:kV)(a:s.length<=1000000000):Pf prog 78 #[sv s] (.bool ((oy s).isSome)):=Fn.pf λH=>VO H s a
end
end Go.Proofs.YtkbifmngmocjnaaGreatDoor
