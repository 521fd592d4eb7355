/- Proved here, packed: what the parts Gena Enc Treea Lname Lpath prove (rules of the walk, contracts of functions, plain laws). Conditions: in each statement. -/
import Derived.Test.YtkbifmngmocjnaaGreatDoorPAE
namespace Go.Proofs.YtkbifmngmocjnaaGreatDoor
set_option maxRecDepth 100000
set_option maxHeartbeats 8000000
set_option linter.all false
section
open Proofs.Tryz
def m9{α:Type}(l:List α)(p:α->Bool):Int:=match l.findIdx? p with
 |some i=>(i:Int)
 |none=>-1
section
variable{α:Type}{l:List α}{p:α->Bool}
theorem yN{k:Nat}{e:α}(a:l[k]? =some e)(hp:p e=true)(mz:∀i w,i<k->l[i]? =some w->p w=false):l.findIdx? p=some k:=by obtain⟨b,a⟩:=ax.1 a;rw[bR];refine⟨b,by rw[a];exact hp,λj c=>?_⟩;have:=mz j _ c (ad Zo);simp[this]
theorem yO(mz:∀i w,i<l.length->l[i]? =some w->p w=false):l.findIdx? p=none:=by rw[cv];intro x b;obtain⟨i,a,rfl⟩:=cr b;exact mz i _ a (ad a)
theorem yP{k:Nat}{e:α}(b:l[k]? =some e)(hp:p e=false)(mz:∀i w,i<k->l[i]? =some w->p w=false):∀i w,i<k+1->l[i]? =some w->p w=false:=by
 intro i w c a;rcases eM i k with h|h
 ·exact mz i w h a
 ·have:i=k:=by omega
  subst this;rw[b] at a;cases a;exact hp
theorem Au(l:List α)(p:α->Bool):decide (0<=m9 l p)=l.any p:=by
 unfold m9;cases h:l.findIdx? p with
 |none=>
  rw[cv] at h;have:l.any p=false:=by rw[fQ];intro x a;simp[h x a]
  rw[this];rfl
 |some i=>
  rw[bR] at h;obtain⟨b,c,_⟩:=h;have:l.any p=true:=by rw[eF];exact⟨_,bv b,c⟩
  rw[this];exact aZ (show(0:Int)<=(i:Int) by omega)
end
theorem xz{α:Type}{s:Nat}{enc:α->List Value}{l:List α}{w:World}(h:Rd none s enc l w):l=[]:=by
 rcases ir (l=[]) with a|a;·exact a
 ·obtain⟨_,_,b,_⟩:=h a;cases b
theorem I0{α:Type}(enc:α->List Value)[m6 enc 18](H:kM)(A:Option Addr)(c:Nat)(l:List α)(hl:l.length*216<=140737488355328)(b:H.kn (Rd A 18 enc l)):Mk prog 29 #[.slice A l.length c] H (λes v=>∃d e,es=[li 64 18 enc d e l]/\v=.slice d l.length e):=λW L=>by
 refine enter func29 ?_;refine U ?_;refine yE rfl rfl rfl rfl ?_;cases A with
 |none=>refine U ?_;refine SC.pure (φ:=l=[]) (λw f=>xz (nS m0 b (le_refl _) w f)) (λhl=>?_);subst hl;refine SC.oA 64 18 enc none ?_;refine U ?_;refine kS ?_;exact lj results29 Zt lv ⟨[_],rfl,none,0,rfl,rfl⟩
 |some a=>refine U ?_;intro g;refine U ?_;refine SL.oA 64 18 enc (some ⟨g,0,none⟩) ?_;refine ap (l:=[]) (news:=l) (kn (h:=nS Zn b (le_refl _))) (by simpa using hl) (λi c1=>?_);rw[aS];refine U ?_;refine kS ?_;exact lj results29 Zt lv ⟨[_],rfl,i,c1,rfl,rfl⟩
theorem MT{α:Type}(enc:α->List Value)[m6 enc 2](H:kM)(A:Option Addr)(c:Nat)(l:List α)(hl:l.length*16<=140737488355328)(b:H.kn (Rd A 2 enc l)):Mk prog 66 #[.slice A l.length c] H (λes v=>∃d e,es=[li 170 2 enc d e l]/\v=.slice d l.length e):=λW L=>by
 refine enter func66 ?_;refine U ?_;refine yE rfl rfl rfl rfl ?_;cases A with
 |none=>refine U ?_;refine SC.pure (φ:=l=[]) (λw f=>xz (nS m0 b (le_refl _) w f)) (λhl=>?_);subst hl;refine SC.oA 170 2 enc none ?_;refine U ?_;refine kS ?_;exact lj results66 Zt lv ⟨[_],rfl,none,0,rfl,rfl⟩
 |some a=>refine U ?_;intro g;refine U ?_;refine SL.oA 170 2 enc (some ⟨g,0,none⟩) ?_;refine ap (l:=[]) (news:=l) (kn (h:=nS Zn b (le_refl _))) (by simpa using hl) (λi c1=>?_);rw[aS];refine U ?_;refine kS ?_;exact lj results66 Zt lv ⟨[_],rfl,i,c1,rfl,rfl⟩
theorem Dm{α:Type}(enc:α->List Value)[m6 enc 4](H:kM)(A:Option Addr)(c:Nat)(l:List α)(hl:l.length*48<=140737488355328)(b:H.kn (Rd A 4 enc l)):Mk prog 91 #[.slice A l.length c] H (λes v=>∃d e,es=[li 187 4 enc d e l]/\v=.slice d l.length e):=λW L=>by
 refine enter func91 ?_;refine U ?_;refine yE rfl rfl rfl rfl ?_;cases A with
 |none=>refine U ?_;refine SC.pure (φ:=l=[]) (λw f=>xz (nS m0 b (le_refl _) w f)) (λhl=>?_);subst hl;refine SC.oA 187 4 enc none ?_;refine U ?_;refine kS ?_;exact lj results91 Zt lv ⟨[_],rfl,none,0,rfl,rfl⟩
 |some a=>refine U ?_;intro g;refine U ?_;refine SL.oA 187 4 enc (some ⟨g,0,none⟩) ?_;refine ap (l:=[]) (news:=l) (kn (h:=nS Zn b (le_refl _))) (by simpa using hl) (λi c1=>?_);rw[aS];refine U ?_;refine kS ?_;exact lj results91 Zt lv ⟨[_],rfl,i,c1,rfl,rfl⟩
theorem Gu{α:Type}(enc:α->List Value)[m6 enc 1](H:kM)(A:Option Addr)(c:Nat)(l:List α)(hl:l.length*16<=140737488355328)(b:H.kn (Rd A 1 enc l)):Mk prog 117 #[.slice A l.length c] H (λes v=>∃d e,es=[li 9 1 enc d e l]/\v=.slice d l.length e):=λW L=>by
 refine enter func117 ?_;refine U ?_;refine yE rfl rfl rfl rfl ?_;cases A with
 |none=>refine U ?_;refine SC.pure (φ:=l=[]) (λw f=>xz (nS m0 b (le_refl _) w f)) (λhl=>?_);subst hl;refine SC.oA 9 1 enc none ?_;refine U ?_;refine kS ?_;exact lj results117 Zt lv ⟨[_],rfl,none,0,rfl,rfl⟩
 |some a=>refine U ?_;intro g;refine U ?_;refine SL.oA 9 1 enc (some ⟨g,0,none⟩) ?_;refine ap (l:=[]) (news:=l) (kn (h:=nS Zn b (le_refl _))) (by simpa using hl) (λi c1=>?_);rw[aS];refine U ?_;refine kS ?_;exact lj results117 Zt lv ⟨[_],rfl,i,c1,rfl,rfl⟩
theorem MU{α:Type}(enc:α->List Value)[m6 enc 2](H:kM)(A:Option Addr)(c:Nat)(l:List α)(hl:l.length*24<=140737488355328)(b:H.kn (Rd A 2 enc l)):Mk prog 118 #[.slice A l.length c] H (λes v=>∃d e,es=[li 68 2 enc d e l]/\v=.slice d l.length e):=λW L=>by
 refine enter func118 ?_;refine U ?_;refine yE rfl rfl rfl rfl ?_;cases A with
 |none=>refine U ?_;refine SC.pure (φ:=l=[]) (λw f=>xz (nS m0 b (le_refl _) w f)) (λhl=>?_);subst hl;refine SC.oA 68 2 enc none ?_;refine U ?_;refine kS ?_;exact lj results118 Zt lv ⟨[_],rfl,none,0,rfl,rfl⟩
 |some a=>refine U ?_;intro g;refine U ?_;refine SL.oA 68 2 enc (some ⟨g,0,none⟩) ?_;refine ap (l:=[]) (news:=l) (kn (h:=nS Zn b (le_refl _))) (by simpa using hl) (λi c1=>?_);rw[aS];refine U ?_;refine kS ?_;exact lj results118 Zt lv ⟨[_],rfl,i,c1,rfl,rfl⟩
theorem I1{α:Type}(enc:α->List Value)[m6 enc 8](H:kM)(A:Option Addr)(c:Nat)(l:List α)(hl:l.length*80<=140737488355328)(b:H.kn (Rd A 8 enc l)):Mk prog 149 #[.slice A l.length c] H (λes v=>∃d e,es=[li 166 8 enc d e l]/\v=.slice d l.length e):=λW L=>by
 refine enter func149 ?_;refine U ?_;refine yE rfl rfl rfl rfl ?_;cases A with
 |none=>refine U ?_;refine SC.pure (φ:=l=[]) (λw f=>xz (nS m0 b (le_refl _) w f)) (λhl=>?_);subst hl;refine SC.oA 166 8 enc none ?_;refine U ?_;refine kS ?_;exact lj results149 Zt lv ⟨[_],rfl,none,0,rfl,rfl⟩
 |some a=>refine U ?_;intro g;refine U ?_;refine SL.oA 166 8 enc (some ⟨g,0,none⟩) ?_;refine ap (l:=[]) (news:=l) (kn (h:=nS Zn b (le_refl _))) (by simpa using hl) (λi c1=>?_);rw[aS];refine U ?_;refine kS ?_;exact lj results149 Zt lv ⟨[_],rfl,i,c1,rfl,rfl⟩
theorem Gv{α:Type}(enc:α->List Value)[m6 enc 2](H:kM)(A:Option Addr)(c:Nat)(l:List α)(hl:l.length*32<=140737488355328)(b:H.kn (Rd A 2 enc l)):Mk prog 150 #[.slice A l.length c] H (λes v=>∃d e,es=[li 215 2 enc d e l]/\v=.slice d l.length e):=λW L=>by
 refine enter func150 ?_;refine U ?_;refine yE rfl rfl rfl rfl ?_;cases A with
 |none=>refine U ?_;refine SC.pure (φ:=l=[]) (λw f=>xz (nS m0 b (le_refl _) w f)) (λhl=>?_);subst hl;refine SC.oA 215 2 enc none ?_;refine U ?_;refine kS ?_;exact lj results150 Zt lv ⟨[_],rfl,none,0,rfl,rfl⟩
 |some a=>refine U ?_;intro g;refine U ?_;refine SL.oA 215 2 enc (some ⟨g,0,none⟩) ?_;refine ap (l:=[]) (news:=l) (kn (h:=nS Zn b (le_refl _))) (by simpa using hl) (λi c1=>?_);rw[aS];refine U ?_;refine kS ?_;exact lj results150 Zt lv ⟨[_],rfl,i,c1,rfl,rfl⟩
theorem MV{α:Type}(enc:α->List Value)[m6 enc 2](H:kM)(A:Option Addr)(c:Nat)(l:List α)(hl:l.length*24<=140737488355328)(b:H.kn (Rd A 2 enc l)):Mk prog 186 #[.slice A l.length c] H (λes v=>∃d e,es=[li 318 2 enc d e l]/\v=.slice d l.length e):=λW L=>by
 refine enter func186 ?_;refine U ?_;refine yE rfl rfl rfl rfl ?_;cases A with
 |none=>refine U ?_;refine SC.pure (φ:=l=[]) (λw f=>xz (nS m0 b (le_refl _) w f)) (λhl=>?_);subst hl;refine SC.oA 318 2 enc none ?_;refine U ?_;refine kS ?_;exact lj results186 Zt lv ⟨[_],rfl,none,0,rfl,rfl⟩
 |some a=>refine U ?_;intro g;refine U ?_;refine SL.oA 318 2 enc (some ⟨g,0,none⟩) ?_;refine ap (l:=[]) (news:=l) (kn (h:=nS Zn b (le_refl _))) (by simpa using hl) (λi c1=>?_);rw[aS];refine U ?_;refine kS ?_;exact lj results186 Zt lv ⟨[_],rfl,i,c1,rfl,rfl⟩
theorem MW{α:Type}(enc:α->List Value)[m6 enc 2](H:kM)(A:Option Addr)(c:Nat)(l:List α)(hl:l.length*16<=140737488355328)(b:H.kn (Rd A 2 enc l)):Mk prog 254 #[.slice A l.length c] H (λes v=>∃d e,es=[li 206 2 enc d e l]/\v=.slice d l.length e):=λW L=>by
 refine enter func254 ?_;refine U ?_;refine yE rfl rfl rfl rfl ?_;cases A with
 |none=>refine U ?_;refine SC.pure (φ:=l=[]) (λw f=>xz (nS m0 b (le_refl _) w f)) (λhl=>?_);subst hl;refine SC.oA 206 2 enc none ?_;refine U ?_;refine kS ?_;exact lj results254 Zt lv ⟨[_],rfl,none,0,rfl,rfl⟩
 |some a=>refine U ?_;intro g;refine U ?_;refine SL.oA 206 2 enc (some ⟨g,0,none⟩) ?_;refine ap (l:=[]) (news:=l) (kn (h:=nS Zn b (le_refl _))) (by simpa using hl) (λi c1=>?_);rw[aS];refine U ?_;refine kS ?_;exact lj results254 Zt lv ⟨[_],rfl,i,c1,rfl,rfl⟩
theorem TZ{α:Type}(enc:α->List Value)[m6 enc 17](H:kM)(A:Option Addr)(c:Nat)(l:List α)(hl:l.length*160<=140737488355328)(b:H.kn (Rd A 17 enc l)):Mk prog 274 #[.slice A l.length c] H (λes v=>∃d e,es=[li 212 17 enc d e l]/\v=.slice d l.length e):=λW L=>by
 refine enter func274 ?_;refine U ?_;refine yE rfl rfl rfl rfl ?_;cases A with
 |none=>refine U ?_;refine SC.pure (φ:=l=[]) (λw f=>xz (nS m0 b (le_refl _) w f)) (λhl=>?_);subst hl;refine SC.oA 212 17 enc none ?_;refine U ?_;refine kS ?_;exact lj results274 Zt lv ⟨[_],rfl,none,0,rfl,rfl⟩
 |some a=>refine U ?_;intro g;refine U ?_;refine SL.oA 212 17 enc (some ⟨g,0,none⟩) ?_;refine ap (l:=[]) (news:=l) (kn (h:=nS Zn b (le_refl _))) (by simpa using hl) (λi c1=>?_);rw[aS];refine U ?_;refine kS ?_;exact lj results274 Zt lv ⟨[_],rfl,i,c1,rfl,rfl⟩
theorem T0{α:Type}(enc:α->List Value)[m6 enc 1](H:kM)(A:Option Addr)(c:Nat)(l:List α)(hl:l.length*8<=140737488355328)(b:H.kn (Rd A 1 enc l)):Mk prog 293 #[.slice A l.length c] H (λes v=>∃d e,es=[li 3 1 enc d e l]/\v=.slice d l.length e):=λW L=>by
 refine enter func293 ?_;refine U ?_;refine yE rfl rfl rfl rfl ?_;cases A with
 |none=>refine U ?_;refine SC.pure (φ:=l=[]) (λw f=>xz (nS m0 b (le_refl _) w f)) (λhl=>?_);subst hl;refine SC.oA 3 1 enc none ?_;refine U ?_;refine kS ?_;exact lj results293 Zt lv ⟨[_],rfl,none,0,rfl,rfl⟩
 |some a=>refine U ?_;intro g;refine U ?_;refine SL.oA 3 1 enc (some ⟨g,0,none⟩) ?_;refine ap (l:=[]) (news:=l) (kn (h:=nS Zn b (le_refl _))) (by simpa using hl) (λi c1=>?_);rw[aS];refine U ?_;refine kS ?_;exact lj results293 Zt lv ⟨[_],rfl,i,c1,rfl,rfl⟩
theorem T1{α:Type}(enc:α->List Value)[f:m6 enc 18](H:kM)(A:Option Addr)(c:Nat)(l:List α)(hl:l.length<=9223372036854775807)(g:H.kn (Rd A 18 enc l))(d:Nat)(cap:List Value)(p:α->Bool)(hf:∀x∈l,Rf prog d (Value.agg (enc x).toArray::cap).toArray H (.bool (p x))):Rf prog 105 #[.slice A l.length c,.func (.func d) #[] cap.toArray] H (.int .i64 (m9 l p)):=λW L=>by
 refine enter func105 ?_;refine U ?_;refine mP (λr σ L'=>L'=fz H::L/\∃k:Nat,k<=l.length/\r=l.length-k/\ml σ [(0,.slice A l.length c),(1,.func (.func d) #[] cap.toArray),(7,.int .i64 (l.length:Int)),(8,.int .i64 (k:Int))]/\∀i w,i<k->l[i]? =some w->p w=false) l.length
  _ (s1 _) ⟨rfl,0,by omega,by omega,⟨rfl,rfl,rfl,rfl,trivial⟩,λi w h=>by omega⟩ ?_
 rintro r σ _ ⟨rfl,k,s,rfl,j,mz⟩;obtain⟨t,rfl⟩:=j.open;refine U ?_;refine mE rfl (λa=>?_) (λa=>?_)
 ·have m:k<l.length:=by have:=am a;omega
  obtain⟨e,b⟩:∃e,l[k]? =some e:=⟨_,ad m⟩;have n:=f.len e;refine U ?_;refine uV rfl (nS m0 g (le_refl _)) b n rfl rfl ?_;refine mi (fst:=[]) (cap:=cap) (hf e (ar b)) ?_;refine U ?_;refine mE rfl (λa=>?_) (λo=>?_);·refine U ?_;refine kS ?_;exact lj results105 Zt lv ⟨by rw[show m9 l p=(k:Int) from by unfold m9;rw[yN b a mz]]<;>rfl,rfl⟩
  ·refine U ?_;exact⟨l.length-(k+1),_,by omega,s1 _,rfl,k+1,by omega,rfl,⟨rfl,rfl,rfl,rfl,trivial⟩,yP b o mz⟩
 ·refine U ?_;refine kS ?_;have a:=av a;have:l.findIdx? p=none:=yO (λi w h q=>mz i w Zo q);exact lj results105 Zt lv ⟨by unfold m9;rw[this]<;>rfl,rfl⟩
theorem E5{α:Type}(enc:α->List Value)[f:m6 enc 2](H:kM)(A:Option Addr)(c:Nat)(l:List α)(hl:l.length<=9223372036854775807)(g:H.kn (Rd A 2 enc l))(d:Nat)(cap:List Value)(p:α->Bool)(hf:∀x∈l,Rf prog d (Value.agg (enc x).toArray::cap).toArray H (.bool (p x))):Rf prog 106 #[.slice A l.length c,.func (.func d) #[] cap.toArray] H (.int .i64 (m9 l p)):=λW L=>by
 refine enter func106 ?_;refine U ?_;refine mP (λr σ L'=>L'=fz H::L/\∃k:Nat,k<=l.length/\r=l.length-k/\ml σ [(0,.slice A l.length c),(1,.func (.func d) #[] cap.toArray),(7,.int .i64 (l.length:Int)),(8,.int .i64 (k:Int))]/\∀i w,i<k->l[i]? =some w->p w=false) l.length
  _ (s1 _) ⟨rfl,0,by omega,by omega,⟨rfl,rfl,rfl,rfl,trivial⟩,λi w h=>by omega⟩ ?_
 rintro r σ _ ⟨rfl,k,s,rfl,j,mz⟩;obtain⟨t,rfl⟩:=j.open;refine U ?_;refine mE rfl (λa=>?_) (λa=>?_)
 ·have m:k<l.length:=by have:=am a;omega
  obtain⟨e,b⟩:∃e,l[k]? =some e:=⟨_,ad m⟩;have n:=f.len e;refine U ?_;refine uV rfl (nS m0 g (le_refl _)) b n rfl rfl ?_;refine mi (fst:=[]) (cap:=cap) (hf e (ar b)) ?_;refine U ?_;refine mE rfl (λa=>?_) (λo=>?_);·refine U ?_;refine kS ?_;exact lj results106 Zt lv ⟨by rw[show m9 l p=(k:Int) from by unfold m9;rw[yN b a mz]]<;>rfl,rfl⟩
  ·refine U ?_;exact⟨l.length-(k+1),_,by omega,s1 _,rfl,k+1,by omega,rfl,⟨rfl,rfl,rfl,rfl,trivial⟩,yP b o mz⟩
 ·refine U ?_;refine kS ?_;have a:=av a;have:l.findIdx? p=none:=yO (λi w h q=>mz i w Zo q);exact lj results106 Zt lv ⟨by unfold m9;rw[this]<;>rfl,rfl⟩
theorem I2{α:Type}(enc:α->List Value)[f:m6 enc 2](H:kM)(A:Option Addr)(c:Nat)(l:List α)(hl:l.length<=9223372036854775807)(g:H.kn (Rd A 2 enc l))(d:Nat)(cap:List Value)(p:α->Bool)(hf:∀x∈l,Rf prog d (Value.agg (enc x).toArray::cap).toArray H (.bool (p x))):Rf prog 129 #[.slice A l.length c,.func (.func d) #[] cap.toArray] H (.int .i64 (m9 l p)):=λW L=>by
 refine enter func129 ?_;refine U ?_;refine mP (λr σ L'=>L'=fz H::L/\∃k:Nat,k<=l.length/\r=l.length-k/\ml σ [(0,.slice A l.length c),(1,.func (.func d) #[] cap.toArray),(7,.int .i64 (l.length:Int)),(8,.int .i64 (k:Int))]/\∀i w,i<k->l[i]? =some w->p w=false) l.length
  _ (s1 _) ⟨rfl,0,by omega,by omega,⟨rfl,rfl,rfl,rfl,trivial⟩,λi w h=>by omega⟩ ?_
 rintro r σ _ ⟨rfl,k,s,rfl,j,mz⟩;obtain⟨t,rfl⟩:=j.open;refine U ?_;refine mE rfl (λa=>?_) (λa=>?_)
 ·have m:k<l.length:=by have:=am a;omega
  obtain⟨e,b⟩:∃e,l[k]? =some e:=⟨_,ad m⟩;have n:=f.len e;refine U ?_;refine uV rfl (nS m0 g (le_refl _)) b n rfl rfl ?_;refine mi (fst:=[]) (cap:=cap) (hf e (ar b)) ?_;refine U ?_;refine mE rfl (λa=>?_) (λo=>?_);·refine U ?_;refine kS ?_;exact lj results129 Zt lv ⟨by rw[show m9 l p=(k:Int) from by unfold m9;rw[yN b a mz]]<;>rfl,rfl⟩
  ·refine U ?_;exact⟨l.length-(k+1),_,by omega,s1 _,rfl,k+1,by omega,rfl,⟨rfl,rfl,rfl,rfl,trivial⟩,yP b o mz⟩
 ·refine U ?_;refine kS ?_;have a:=av a;have:l.findIdx? p=none:=yO (λi w h q=>mz i w Zo q);exact lj results129 Zt lv ⟨by unfold m9;rw[this]<;>rfl,rfl⟩
theorem I3{α:Type}(enc:α->List Value)[f:m6 enc 4](H:kM)(A:Option Addr)(c:Nat)(l:List α)(hl:l.length<=9223372036854775807)(g:H.kn (Rd A 4 enc l))(d:Nat)(cap:List Value)(p:α->Bool)(hf:∀x∈l,Rf prog d (Value.agg (enc x).toArray::cap).toArray H (.bool (p x))):Rf prog 157 #[.slice A l.length c,.func (.func d) #[] cap.toArray] H (.int .i64 (m9 l p)):=λW L=>by
 refine enter func157 ?_;refine U ?_;refine mP (λr σ L'=>L'=fz H::L/\∃k:Nat,k<=l.length/\r=l.length-k/\ml σ [(0,.slice A l.length c),(1,.func (.func d) #[] cap.toArray),(7,.int .i64 (l.length:Int)),(8,.int .i64 (k:Int))]/\∀i w,i<k->l[i]? =some w->p w=false) l.length
  _ (s1 _) ⟨rfl,0,by omega,by omega,⟨rfl,rfl,rfl,rfl,trivial⟩,λi w h=>by omega⟩ ?_
 rintro r σ _ ⟨rfl,k,s,rfl,j,mz⟩;obtain⟨t,rfl⟩:=j.open;refine U ?_;refine mE rfl (λa=>?_) (λa=>?_)
 ·have m:k<l.length:=by have:=am a;omega
  obtain⟨e,b⟩:∃e,l[k]? =some e:=⟨_,ad m⟩;have n:=f.len e;refine U ?_;refine uV rfl (nS m0 g (le_refl _)) b n rfl rfl ?_;refine mi (fst:=[]) (cap:=cap) (hf e (ar b)) ?_;refine U ?_;refine mE rfl (λa=>?_) (λo=>?_);·refine U ?_;refine kS ?_;exact lj results157 Zt lv ⟨by rw[show m9 l p=(k:Int) from by unfold m9;rw[yN b a mz]]<;>rfl,rfl⟩
  ·refine U ?_;exact⟨l.length-(k+1),_,by omega,s1 _,rfl,k+1,by omega,rfl,⟨rfl,rfl,rfl,rfl,trivial⟩,yP b o mz⟩
 ·refine U ?_;refine kS ?_;have a:=av a;have:l.findIdx? p=none:=yO (λi w h q=>mz i w Zo q);exact lj results157 Zt lv ⟨by unfold m9;rw[this]<;>rfl,rfl⟩
theorem MX{α:Type}(enc:α->List Value)[f:m6 enc 2](H:kM)(A:Option Addr)(c:Nat)(l:List α)(hl:l.length<=9223372036854775807)(g:H.kn (Rd A 2 enc l))(d:Nat)(cap:List Value)(p:α->Bool)(hf:∀x∈l,Rf prog d (Value.agg (enc x).toArray::cap).toArray H (.bool (p x))):Rf prog 222 #[.slice A l.length c,.func (.func d) #[] cap.toArray] H (.int .i64 (m9 l p)):=λW L=>by
 refine enter func222 ?_;refine U ?_;refine mP (λr σ L'=>L'=fz H::L/\∃k:Nat,k<=l.length/\r=l.length-k/\ml σ [(0,.slice A l.length c),(1,.func (.func d) #[] cap.toArray),(7,.int .i64 (l.length:Int)),(8,.int .i64 (k:Int))]/\∀i w,i<k->l[i]? =some w->p w=false) l.length
  _ (s1 _) ⟨rfl,0,by omega,by omega,⟨rfl,rfl,rfl,rfl,trivial⟩,λi w h=>by omega⟩ ?_
 rintro r σ _ ⟨rfl,k,s,rfl,j,mz⟩;obtain⟨t,rfl⟩:=j.open;refine U ?_;refine mE rfl (λa=>?_) (λa=>?_)
 ·have m:k<l.length:=by have:=am a;omega
  obtain⟨e,b⟩:∃e,l[k]? =some e:=⟨_,ad m⟩;have n:=f.len e;refine U ?_;refine uV rfl (nS m0 g (le_refl _)) b n rfl rfl ?_;refine mi (fst:=[]) (cap:=cap) (hf e (ar b)) ?_;refine U ?_;refine mE rfl (λa=>?_) (λo=>?_);·refine U ?_;refine kS ?_;exact lj results222 Zt lv ⟨by rw[show m9 l p=(k:Int) from by unfold m9;rw[yN b a mz]]<;>rfl,rfl⟩
  ·refine U ?_;exact⟨l.length-(k+1),_,by omega,s1 _,rfl,k+1,by omega,rfl,⟨rfl,rfl,rfl,rfl,trivial⟩,yP b o mz⟩
 ·refine U ?_;refine kS ?_;have a:=av a;have:l.findIdx? p=none:=yO (λi w h q=>mz i w Zo q);exact lj results222 Zt lv ⟨by unfold m9;rw[this]<;>rfl,rfl⟩
theorem T2{α:Type}(enc:α->List Value)[f:m6 enc 7](H:kM)(A:Option Addr)(c:Nat)(l:List α)(hl:l.length<=9223372036854775807)(g:H.kn (Rd A 7 enc l))(d:Nat)(cap:List Value)(p:α->Bool)(hf:∀x∈l,Rf prog d (Value.agg (enc x).toArray::cap).toArray H (.bool (p x))):Rf prog 225 #[.slice A l.length c,.func (.func d) #[] cap.toArray] H (.int .i64 (m9 l p)):=λW L=>by
 refine enter func225 ?_;refine U ?_;refine mP (λr σ L'=>L'=fz H::L/\∃k:Nat,k<=l.length/\r=l.length-k/\ml σ [(0,.slice A l.length c),(1,.func (.func d) #[] cap.toArray),(7,.int .i64 (l.length:Int)),(8,.int .i64 (k:Int))]/\∀i w,i<k->l[i]? =some w->p w=false) l.length
  _ (s1 _) ⟨rfl,0,by omega,by omega,⟨rfl,rfl,rfl,rfl,trivial⟩,λi w h=>by omega⟩ ?_
 rintro r σ _ ⟨rfl,k,s,rfl,j,mz⟩;obtain⟨t,rfl⟩:=j.open;refine U ?_;refine mE rfl (λa=>?_) (λa=>?_)
 ·have m:k<l.length:=by have:=am a;omega
  obtain⟨e,b⟩:∃e,l[k]? =some e:=⟨_,ad m⟩;have n:=f.len e;refine U ?_;refine uV rfl (nS m0 g (le_refl _)) b n rfl rfl ?_;refine mi (fst:=[]) (cap:=cap) (hf e (ar b)) ?_;refine U ?_;refine mE rfl (λa=>?_) (λo=>?_);·refine U ?_;refine kS ?_;exact lj results225 Zt lv ⟨by rw[show m9 l p=(k:Int) from by unfold m9;rw[yN b a mz]]<;>rfl,rfl⟩
  ·refine U ?_;exact⟨l.length-(k+1),_,by omega,s1 _,rfl,k+1,by omega,rfl,⟨rfl,rfl,rfl,rfl,trivial⟩,yP b o mz⟩
 ·refine U ?_;refine kS ?_;have a:=av a;have:l.findIdx? p=none:=yO (λi w h q=>mz i w Zo q);exact lj results225 Zt lv ⟨by unfold m9;rw[this]<;>rfl,rfl⟩
theorem T3{α:Type}(enc:α->List Value)[f:m6 enc 17](H:kM)(A:Option Addr)(c:Nat)(l:List α)(hl:l.length<=9223372036854775807)(g:H.kn (Rd A 17 enc l))(d:Nat)(cap:List Value)(p:α->Bool)(hf:∀x∈l,Rf prog d (Value.agg (enc x).toArray::cap).toArray H (.bool (p x))):Rf prog 265 #[.slice A l.length c,.func (.func d) #[] cap.toArray] H (.int .i64 (m9 l p)):=λW L=>by
 refine enter func265 ?_;refine U ?_;refine mP (λr σ L'=>L'=fz H::L/\∃k:Nat,k<=l.length/\r=l.length-k/\ml σ [(0,.slice A l.length c),(1,.func (.func d) #[] cap.toArray),(7,.int .i64 (l.length:Int)),(8,.int .i64 (k:Int))]/\∀i w,i<k->l[i]? =some w->p w=false) l.length
  _ (s1 _) ⟨rfl,0,by omega,by omega,⟨rfl,rfl,rfl,rfl,trivial⟩,λi w h=>by omega⟩ ?_
 rintro r σ _ ⟨rfl,k,s,rfl,j,mz⟩;obtain⟨t,rfl⟩:=j.open;refine U ?_;refine mE rfl (λa=>?_) (λa=>?_)
 ·have m:k<l.length:=by have:=am a;omega
  obtain⟨e,b⟩:∃e,l[k]? =some e:=⟨_,ad m⟩;have n:=f.len e;refine U ?_;refine uV rfl (nS m0 g (le_refl _)) b n rfl rfl ?_;refine mi (fst:=[]) (cap:=cap) (hf e (ar b)) ?_;refine U ?_;refine mE rfl (λa=>?_) (λo=>?_);·refine U ?_;refine kS ?_;exact lj results265 Zt lv ⟨by rw[show m9 l p=(k:Int) from by unfold m9;rw[yN b a mz]]<;>rfl,rfl⟩
  ·refine U ?_;exact⟨l.length-(k+1),_,by omega,s1 _,rfl,k+1,by omega,rfl,⟨rfl,rfl,rfl,rfl,trivial⟩,yP b o mz⟩
 ·refine U ?_;refine kS ?_;have a:=av a;have:l.findIdx? p=none:=yO (λi w h q=>mz i w Zo q);exact lj results265 Zt lv ⟨by unfold m9;rw[this]<;>rfl,rfl⟩
theorem T4{α:Type}(enc:α->List Value)[s:m6 enc 1](one:α->Value)(f:∀x,enc x=[one x])(H:kM)(A:Option Addr)(c:Nat)(l:List α)(hl:l.length<=9223372036854775807)(g:H.kn (Rd A 1 enc l))(d:Nat)(cap:List Value)(p:α->Bool)(hf:∀x∈l,Rf prog d (one x::cap).toArray H (.bool (p x))):Rf prog 294 #[.slice A l.length c,.func (.func d) #[] cap.toArray] H (.int .i64 (m9 l p)):=λW L=>by
 refine enter func294 ?_;refine U ?_;refine mP (λr σ L'=>L'=fz H::L/\∃k:Nat,k<=l.length/\r=l.length-k/\ml σ [(0,.slice A l.length c),(1,.func (.func d) #[] cap.toArray),(7,.int .i64 (l.length:Int)),(8,.int .i64 (k:Int))]/\∀i w,i<k->l[i]? =some w->p w=false) l.length
  _ (s1 _) ⟨rfl,0,by omega,by omega,⟨rfl,rfl,rfl,rfl,trivial⟩,λi w h=>by omega⟩ ?_
 rintro r σ _ ⟨rfl,k,t,rfl,j,mz⟩;obtain⟨u,rfl⟩:=j.open;refine U ?_;refine mE rfl (λa=>?_) (λa=>?_)
 ·have m:k<l.length:=by have:=am a;omega
  obtain⟨e,b⟩:∃e,l[k]? =some e:=⟨_,ad m⟩;have n:(enc e)[0]? =some (one e):=by rw[f];rfl
  refine U ?_;refine FT rfl (nS m0 g (le_refl _)) b n rfl rfl ?_;refine mi (fst:=[]) (cap:=cap) (hf e (ar b)) ?_;refine U ?_;refine mE rfl (λa=>?_) (λo=>?_);·refine U ?_;refine kS ?_;exact lj results294 Zt lv ⟨by rw[show m9 l p=(k:Int) from by unfold m9;rw[yN b a mz]]<;>rfl,rfl⟩
  ·refine U ?_;exact⟨l.length-(k+1),_,by omega,s1 _,rfl,k+1,by omega,rfl,⟨rfl,rfl,rfl,rfl,trivial⟩,yP b o mz⟩
 ·refine U ?_;refine kS ?_;have a:=av a;have:l.findIdx? p=none:=yO (λi w h q=>mz i w Zo q);exact lj results294 Zt lv ⟨by unfold m9;rw[this]<;>rfl,rfl⟩
theorem T5{α:Type}(enc:α->List Value)[s:m6 enc 1](one:α->Value)(f:∀x,enc x=[one x])(H:kM)(A:Option Addr)(c:Nat)(l:List α)(hl:l.length<=9223372036854775807)(g:H.kn (Rd A 1 enc l))(d:Nat)(cap:List Value)(p:α->Bool)(hf:∀x∈l,Rf prog d (one x::cap).toArray H (.bool (p x))):Rf prog 309 #[.slice A l.length c,.func (.func d) #[] cap.toArray] H (.int .i64 (m9 l p)):=λW L=>by
 refine enter func309 ?_;refine U ?_;refine mP (λr σ L'=>L'=fz H::L/\∃k:Nat,k<=l.length/\r=l.length-k/\ml σ [(0,.slice A l.length c),(1,.func (.func d) #[] cap.toArray),(7,.int .i64 (l.length:Int)),(8,.int .i64 (k:Int))]/\∀i w,i<k->l[i]? =some w->p w=false) l.length
  _ (s1 _) ⟨rfl,0,by omega,by omega,⟨rfl,rfl,rfl,rfl,trivial⟩,λi w h=>by omega⟩ ?_
 rintro r σ _ ⟨rfl,k,t,rfl,j,mz⟩;obtain⟨u,rfl⟩:=j.open;refine U ?_;refine mE rfl (λa=>?_) (λa=>?_)
 ·have m:k<l.length:=by have:=am a;omega
  obtain⟨e,b⟩:∃e,l[k]? =some e:=⟨_,ad m⟩;have n:(enc e)[0]? =some (one e):=by rw[f];rfl
  refine U ?_;refine FT rfl (nS m0 g (le_refl _)) b n rfl rfl ?_;refine mi (fst:=[]) (cap:=cap) (hf e (ar b)) ?_;refine U ?_;refine mE rfl (λa=>?_) (λo=>?_);·refine U ?_;refine kS ?_;exact lj results309 Zt lv ⟨by rw[show m9 l p=(k:Int) from by unfold m9;rw[yN b a mz]]<;>rfl,rfl⟩
  ·refine U ?_;exact⟨l.length-(k+1),_,by omega,s1 _,rfl,k+1,by omega,rfl,⟨rfl,rfl,rfl,rfl,trivial⟩,yP b o mz⟩
 ·refine U ?_;refine kS ?_;have a:=av a;have:l.findIdx? p=none:=yO (λi w h q=>mz i w Zo q);exact lj results309 Zt lv ⟨by unfold m9;rw[this]<;>rfl,rfl⟩
theorem T6{α:Type}(enc:α->List Value)[d:m6 enc 18](H:kM)(A:Option Addr)(c:Nat)(l:List α)(hl:l.length<=9223372036854775807)(b:H.kn (Rd A 18 enc l))(a:Nat)(cap:List Value)(p:α->Bool)(hf:∀x∈l,Rf prog a (Value.agg (enc x).toArray::cap).toArray H (.bool (p x))):Rf prog 43 #[.slice A l.length c,.func (.func a) #[] cap.toArray] H (.bool (l.any p)):=λW L=>by refine enter func43 ?_;refine U ?_;refine mi (T1 enc H A c l hl b a cap p hf) ?_;refine U ?_;refine kS ?_;exact lj results43 Zt lv ⟨by rw[<-Au]<;>rfl,rfl⟩
theorem T7{α:Type}(enc:α->List Value)[d:m6 enc 2](H:kM)(A:Option Addr)(c:Nat)(l:List α)(hl:l.length<=9223372036854775807)(b:H.kn (Rd A 2 enc l))(a:Nat)(cap:List Value)(p:α->Bool)(hf:∀x∈l,Rf prog a (Value.agg (enc x).toArray::cap).toArray H (.bool (p x))):Rf prog 108 #[.slice A l.length c,.func (.func a) #[] cap.toArray] H (.bool (l.any p)):=λW L=>by refine enter func108 ?_;refine U ?_;refine mi (I2 enc H A c l hl b a cap p hf) ?_;refine U ?_;refine kS ?_;exact lj results108 Zt lv ⟨by rw[<-Au]<;>rfl,rfl⟩
theorem T8{α:Type}(enc:α->List Value)[d:m6 enc 2](H:kM)(A:Option Addr)(c:Nat)(l:List α)(hl:l.length<=9223372036854775807)(b:H.kn (Rd A 2 enc l))(a:Nat)(cap:List Value)(p:α->Bool)(hf:∀x∈l,Rf prog a (Value.agg (enc x).toArray::cap).toArray H (.bool (p x))):Rf prog 153 #[.slice A l.length c,.func (.func a) #[] cap.toArray] H (.bool (l.any p)):=λW L=>by refine enter func153 ?_;refine U ?_;refine mi (MX enc H A c l hl b a cap p hf) ?_;refine U ?_;refine kS ?_;exact lj results153 Zt lv ⟨by rw[<-Au]<;>rfl,rfl⟩
theorem T9{α:Type}(enc:α->List Value)[d:m6 enc 4](H:kM)(A:Option Addr)(c:Nat)(l:List α)(hl:l.length<=9223372036854775807)(b:H.kn (Rd A 4 enc l))(a:Nat)(cap:List Value)(p:α->Bool)(hf:∀x∈l,Rf prog a (Value.agg (enc x).toArray::cap).toArray H (.bool (p x))):Rf prog 154 #[.slice A l.length c,.func (.func a) #[] cap.toArray] H (.bool (l.any p)):=λW L=>by refine enter func154 ?_;refine U ?_;refine mi (I3 enc H A c l hl b a cap p hf) ?_;refine U ?_;refine kS ?_;exact lj results154 Zt lv ⟨by rw[<-Au]<;>rfl,rfl⟩
theorem Ua{α:Type}(enc:α->List Value)[d:m6 enc 7](H:kM)(A:Option Addr)(c:Nat)(l:List α)(hl:l.length<=9223372036854775807)(b:H.kn (Rd A 7 enc l))(a:Nat)(cap:List Value)(p:α->Bool)(hf:∀x∈l,Rf prog a (Value.agg (enc x).toArray::cap).toArray H (.bool (p x))):Rf prog 163 #[.slice A l.length c,.func (.func a) #[] cap.toArray] H (.bool (l.any p)):=λW L=>by refine enter func163 ?_;refine U ?_;refine mi (T2 enc H A c l hl b a cap p hf) ?_;refine U ?_;refine kS ?_;exact lj results163 Zt lv ⟨by rw[<-Au]<;>rfl,rfl⟩
theorem Ub{α:Type}(enc:α->List Value)[d:m6 enc 2](H:kM)(A:Option Addr)(c:Nat)(l:List α)(hl:l.length<=9223372036854775807)(b:H.kn (Rd A 2 enc l))(a:Nat)(cap:List Value)(p:α->Bool)(hf:∀x∈l,Rf prog a (Value.agg (enc x).toArray::cap).toArray H (.bool (p x))):Rf prog 210 #[.slice A l.length c,.func (.func a) #[] cap.toArray] H (.bool (l.any p)):=λW L=>by refine enter func210 ?_;refine U ?_;refine mi (E5 enc H A c l hl b a cap p hf) ?_;refine U ?_;refine kS ?_;exact lj results210 Zt lv ⟨by rw[<-Au]<;>rfl,rfl⟩
theorem Uc{α:Type}(enc:α->List Value)[d:m6 enc 17](H:kM)(A:Option Addr)(c:Nat)(l:List α)(hl:l.length<=9223372036854775807)(b:H.kn (Rd A 17 enc l))(a:Nat)(cap:List Value)(p:α->Bool)(hf:∀x∈l,Rf prog a (Value.agg (enc x).toArray::cap).toArray H (.bool (p x))):Rf prog 223 #[.slice A l.length c,.func (.func a) #[] cap.toArray] H (.bool (l.any p)):=λW L=>by refine enter func223 ?_;refine U ?_;refine mi (T3 enc H A c l hl b a cap p hf) ?_;refine U ?_;refine kS ?_;exact lj results223 Zt lv ⟨by rw[<-Au]<;>rfl,rfl⟩
end
section
open Top
abbrev nI(n:Int):Value:=.int .i64 n
def nA(o:lQ):List Value:=[nI o.tm.c,nI o.tm.r,nI o.kind,nI o.node,nI o.lZ,sv o.name,sv o.data]
def oR(n:la):List Value:=[nI n.id,nI n.lZ,sv n.name,nI n.pg.c,nI n.pg.r,sv n.data,nI n.xP.c,nI n.xP.r]
def yQ(u:tL):List Value:=[.bool u.EI,.bool u.C8,nI u.my.id,nI u.my.lZ,sv u.my.name,nI u.my.pg.c,nI u.my.pg.r,sv u.my.data,nI u.my.xP.c,nI u.my.xP.r]
def qK(e:rg):List Value:=[nI e.op.tm.c,nI e.op.tm.r,nI e.op.kind,nI e.op.node,nI e.op.lZ,sv e.op.name,sv e.op.data,.bool e.t7.EI,.bool e.t7.C8,nI e.t7.my.id,nI e.t7.my.lZ,sv e.t7.my.name,nI e.t7.my.pg.c,nI e.t7.my.pg.r,sv e.t7.my.data,nI e.t7.my.xP.c,nI e.t7.my.xP.r]
def sE(t:oI):List Value:=[sv t.path,nI t.id,sv t.data]
def nY(e:nk):List Value:=[nI e.kind,sv e.path]
def np(h:Int×Int):List Value:=[nI h.1,nI h.2]
def qL(c:mo):List Value:=[nI c.kind,sv c.path,sv c.to,sv c.data,nI c.n]
def oY(n:Int):List Value:=[nI n]
instance:m6 oY 1:=⟨λ_=>rfl,λx v a=>by simp[oY] at a;subst a;rfl⟩
instance:m6 nA 7:=⟨λ_=>rfl,λx v a=>by
 simp only[nA,aJ,cQ,eG] at a
 (repeat' (rcases a with rfl|a))
 all_goals first|rfl|exact t6 _|(subst a;first|rfl|exact t6 _)⟩
instance:m6 oR 8:=⟨λ_=>rfl,λx v a=>by
 simp only[oR,aJ,cQ,eG] at a
 (repeat' (rcases a with rfl|a))
 all_goals first|rfl|exact t6 _|(subst a;first|rfl|exact t6 _)⟩
instance:m6 qK 17:=⟨λ_=>rfl,λx v a=>by
 simp only[qK,aJ,cQ,eG] at a
 (repeat' (rcases a with rfl|a))
 all_goals first|rfl|exact t6 _|(subst a;first|rfl|exact t6 _)⟩
instance:m6 sE 3:=⟨λ_=>rfl,λx v a=>by
 simp only[sE,aJ,cQ,eG] at a
 (repeat' (rcases a with rfl|a))
 all_goals first|rfl|exact t6 _|(subst a;first|rfl|exact t6 _)⟩
instance:m6 nY 2:=⟨λ_=>rfl,λx v a=>by
 simp only[nY,aJ,cQ,eG] at a
 (repeat' (rcases a with rfl|a))
 all_goals first|rfl|exact t6 _|(subst a;first|rfl|exact t6 _)⟩
instance:m6 np 2:=⟨λ_=>rfl,λx v a=>by
 simp only[np,aJ,cQ,eG] at a
 (repeat' (rcases a with rfl|a))
 all_goals first|rfl|exact t6 _|(subst a;first|rfl|exact t6 _)⟩
instance:m6 qL 5:=⟨λ_=>rfl,λx v a=>by
 simp only[qL,aJ,cQ,eG] at a
 (repeat' (rcases a with rfl|a))
 all_goals first|rfl|exact t6 _|(subst a;first|rfl|exact t6 _)⟩
abbrev qW(o:lQ):Value:=.agg (nA o).toArray
abbrev qk(n:la):Value:=.agg (oR n).toArray
abbrev MY(u:tL):Value:=.agg (yQ u).toArray
abbrev qX(t:oI):Value:=.agg (sE t).toArray
abbrev nN(n:Nat):Value:=.int .i64 (n:Int)
def nb(l:List la):Prop:=l.Pairwise (λa b=>a.id<b.id)/\∀n∈l,(oO n.id).isSome=true
theorem ud{l:List la}:rZ l=true↔nb l:=by
 induction l with
 |nil=>simp[rZ,nb]
 |cons n l e=>
  cases l with
  |nil=>simp[rZ,nb]
  |cons m l=>
   unfold rZ;simp only[aF,bz,e];unfold nb;constructor
   ·rintro⟨⟨d,b⟩,c,f⟩;refine⟨bJ.2 ⟨λx a=>?_,c⟩,λx a=>?_⟩;·(rcases aJ.1 a with rfl|a;·exact b);·exact Int.lt_trans b ((bJ.1 c).1 x a)
    ·(rcases aJ.1 a with rfl|a;·exact d);·exact f x a
   ·rintro⟨d,b⟩;have c:=bJ.1 d;exact⟨⟨b n (ay ..),c.1 m (ay ..)⟩,c.2,λx a=>b x (aI _ a)⟩
theorem Ud{id:Int}(h:(oO id).isSome=true):0<=id/\id<134217984:=by
 unfold oO at h;split at h;·cases h
 ·split at h;·rename_i c a;unfold ow at a;simp only[aF,bz] at a;have b:=a.1.1.2;rw[eY Zo] at b;omega
  ·cases h
theorem nb.bd{l:List la}(h:nb l):∀n∈l,0<=n.id/\n.id<134217984:=λn a=>Ud (h.2 n a)
theorem Ue(l:List la)(lo c:Int)(hp:l.Pairwise (λa b=>a.id<b.id))(h:∀n∈l,lo<=n.id/\n.id<c)(g:lo<=c):(l.length:Int)<=c-lo:=by
 induction l generalizing lo with
 |nil=>simp;omega
 |cons n l f=>have i:=h n (ay ..);have d:=bJ.1 hp;have:=f (n.id+1) d.2 (λm e=>⟨by have:=d.1 m e;omega,(h m (aI _ e)).2⟩) Zo;simp only[aG];omega
theorem nb.len{l:List la}(h:nb l):l.length<=134217984:=by have:=Ue l 0 134217984 h.1 h.bd Zo;omega
theorem nb.at{l:List la}(h:nb l){i j:Nat}(a:i<j)(b:j<l.length):l[i].id<l[j].id:=fb.1 h.1 i j Zo b a
theorem nb.xk{l:List la}(h:nb l)(id:Int):m8 l id<=l.length/\∀(k:Nat) (a:k<l.length),(l[k].id<id↔k<m8 l id):=by
 unfold m8;induction l with
 |nil=>simp
 |cons n l d=>
  have hp:=bJ.1 h.1;obtain⟨i,e⟩:=d ⟨hp.2,λm c=>h.2 m (aI _ c)⟩;rw[ig];by_cases b:n.id<id
  ·rw[aj (by simpa using b)];refine⟨by simp only[aG];omega,λk a=>?_⟩;cases k with
   |zero=>simp[b]
   |succ k=>simp only[jH];rw[e k (by simpa using a)];omega
  ·rw[ai (by simpa using b)];have f:l.countP (λn=>decide (n.id<id))=0:=by rw[List.countP_eq_zero];intro m c;have:=hp.1 m c;simp;omega
   rw[f];refine⟨by simp,λk a=>?_⟩;cases k with
   |zero=>simp[b]
   |succ k=>
    have g:k<l.length:=by simpa using a
    have:=hp.1 l[k] (bv g);simp only[jH];omega
theorem nb.find{l:List la}(h:nb l)(id:Int):(∃a:m8 l id<l.length,l[m8 l id].id=id/\nr l id=some l[m8 l id])\/(nr l id=none/\∀a:m8 l id<l.length,l[m8 l id].id≠id):=by
 obtain⟨p,c⟩:=h.xk id;unfold nr;cases hf:l.find? (λn=>n.id==id) with
 |none=>rw[bK] at hf;exact .inr ⟨rfl,λa e=>hf _ (bv a) (by simp[e])⟩
 |some n=>
  have d:=bF hf;have f:n.id=id:=by simpa using cP hf
  obtain⟨i,b,rfl⟩:=cr d;have g:m8 l id=i:=by
   have j:=c i b;rcases gX (m8 l id) i with k|m|o
   ·have q:=h.at k b;have a3:=c (m8 l id) Zo;omega
   ·exact m
   ·have:=j.2 o;omega
  left;subst g;exact⟨b,f,rfl⟩
end
section
open Top Proofs.Tryz
structure pq(H:kM)(v:Value)(l:List la):Prop where
 sl:Sl 8 oR H v l
 ok:nb l
theorem pq.up{H a:kM}{v:Value}{l:List la}(h:pq H v l)(hl:H.le a):pq a v l:=⟨h.sl.up hl,h.ok⟩
theorem MZ(a:Int):Pf prog 120 #[nI a] (.bool false):=λW L=>by refine enter func120 ?_;refine U ?_;refine kS ?_;exact lj results120 Zt lv ⟨by rw[show(a != a)=false from by simp]<;>rfl,rfl⟩
def w5(a b:Int):Int:=if a<b then -1 else if b<a then 1 else 0
theorem M4(a b:Int):Pf prog 57 #[nI a,nI b] (nI (w5 a b)):=λW L=>by
 refine enter func57 ?_;have c:w5 a b=if a<b then -1 else if b<a then 1 else 0:=rfl;refine U ?_;refine md (MZ a W _) ?_;refine U ?_;refine md (MZ b W _) ?_;refine U ?_;refine mE rfl (λd=>?_) (λd=>?_);·rw[aj (am d)] at c;refine U ?_;refine kS ?_;exact lj results57 Zt lv ⟨by rw[c]<;>rfl,rfl⟩
 ·rw[ai (av d)] at c;refine U ?_;refine mE rfl (λd=>?_) (λd=>?_);·rw[aj (am d)] at c;refine U ?_;refine kS ?_;exact lj results57 Zt lv ⟨by rw[c]<;>rfl,rfl⟩
  ·rw[ai (av d)] at c;refine U ?_;refine kS ?_;exact lj results57 Zt lv ⟨by rw[c]<;>rfl,rfl⟩
theorem Cj(H:kM)(v:Value)(l:List la)(d:pq H v l):Rf prog 58 #[v] H (.bool true):=λW L=>by
 obtain⟨⟨A,c,rfl,a,n⟩,b⟩:=d;refine enter func58 ?_;refine U ?_;refine mP (λm σ L'=>∃i:Nat,m=l.length-i/\i<=l.length/\L'=fz H::L/\ml σ [(0,.slice A l.length c),(8,.slice A l.length c),(9,nN l.length),(10,nN i)]) l.length _ (s1 _) ⟨0,by simp,by simp,rfl,rfl,rfl,rfl,rfl,trivial⟩ ?_;rintro m σ _ ⟨i,rfl,e,rfl,f⟩;obtain⟨o,rfl⟩:=f.open;refine U ?_;refine mE rfl (λa=>?_) (λa=>?_)
 ·have p:=am a;have q:l[i]? =some l[i]:=ad Zo;have g:=b.2 l[i] (bv _);have r:=b.bd l[i] (bv _);have j:∀e:0<i,l[i-1].id<l[i].id:=λh=>b.at Zo Zo;generalize l[i]=x at*;have s:(oR x).length=8:=rfl;refine U ?_;intro t;refine U ?_;refine md (Cc x.id Zo W _) ?_;rw[g];refine U ?_;intro u;refine U ?_;refine Et Zk Zk ?_;refine U ?_;by_cases k:0<i;·rw[show decide (0<(i:Int))=true from by simp;omega];refine U ?_;have w:l[i-1]? =some l[i-1]:=ad Zo;rw[show(i:Int)-1=((i-1:Nat):Int) from by omega];have z:=j k;generalize l[i-1]=y at*;have B:(oR y).length=8:=rfl;refine U ?_;rw[show decide (x.id<=y.id)=false from by simp;omega];refine U ?_;exact⟨l.length-(i+1),_,by omega,Zu,i+1,rfl,by omega,rfl,rfl,rfl,rfl,rfl,trivial⟩
  ·rw[show decide (0<(i:Int))=false from by simp;omega];refine U ?_;exact⟨l.length-(i+1),_,by omega,Zu,i+1,rfl,by omega,rfl,rfl,rfl,rfl,rfl,trivial⟩
 ·refine U ?_;refine kS ?_;exact lj results58 Zt lv ⟨rfl,rfl⟩
end
namespace Top
theorem Uf:∀a b,qv a b=-1\/qv a b=0\/qv a b=1
 |[],[]=>.inr (.inl rfl)
 |[],_::_=>.inl rfl
 |_::_,[]=>.inr (.inr rfl)
 |a::l,b::m=>by
  unfold qv;split;·exact .inl rfl
  ·split;·exact .inr (.inr rfl)
   ·exact Uf l m
theorem M5:∀a b,qv a b=0->a=b
 |[],[],_=>rfl
 |[],_::_,h=>by unfold qv at h;omega
 |_::_,[],h=>by unfold qv at h;omega
 |a::l,b::m,h=>by
  unfold qv at h;split at h;·omega
  ·split at h;·omega
   ·rw[M5 l m h,show a=b from by omega]
theorem M6:∀a,qv a a=0
 |[]=>rfl
 |a::l=>by unfold qv;rw[ai Zo,ai Zo];exact M6 l
theorem M7:∀a b,qv b a=-(qv a b)
 |[],[]=>rfl
 |[],_::_=>rfl
 |_::_,[]=>rfl
 |a::l,b::m=>by
  unfold qv;by_cases c:a<b;·rw[aj c,ai Zo,aj c];rfl
  ·by_cases d:b<a;·simp[c,d]
   ·rw[ai c,ai d,ai d,ai c];exact M7 l m
theorem M8:∀a b c,qv a b<0->qv b c<0->qv a c<0
 |[],[],_,h,_=>by unfold qv at h;omega
 |[],_::_,[],_,h=>by unfold qv at h;omega
 |[],_::_,_::_,_,_=>by unfold qv;omega
 |_::_,[],_,h,_=>by unfold qv at h;omega
 |_::_,_::_,[],_,h=>by unfold qv at h;omega
 |a::l,b::m,c::n,e,d=>by
  unfold qv at e d⊢;by_cases i:a<b
  ·by_cases f:b<c;·rw[aj Zo];omega
   ·(by_cases g:c<b;·rw[ai f,aj g] at d;omega);·rw[aj Zo];omega
  ·by_cases j:b<a;·rw[ai i,aj j] at e;omega
   ·(rw[ai i,ai j] at e;by_cases f:b<c;·rw[aj Zo];omega);·(by_cases g:c<b;·rw[ai f,aj g] at d;omega);·rw[ai f,ai g] at d;rw[ai Zo,ai Zo];exact M8 l m n e d
def zC(c:Nat):kV:=
 if c<128 then[UInt8.ofNat c]
 else if c<2048 then[UInt8.ofNat (192+c/64),UInt8.ofNat (128+c%64)]
 else if c<65536 then[UInt8.ofNat (224+c/4096),UInt8.ofNat (128+c/64%64),UInt8.ofNat (128+c%64)]
 else[UInt8.ofNat (240+c/262144),UInt8.ofNat (128+c/4096%64),UInt8.ofNat (128+c/64%64),UInt8.ofNat (128+c%64)]
theorem Gw(b:UInt8)(n:Nat)(h:n=b.toNat):UInt8.ofNat n=b:=by subst h;simp
theorem Gx(b:UInt8):b.toNat<256:=b.toNat_lt
theorem Ug{l:kV}(h:1<=l.length):l.take 1=[l.getD 0 0]:=by
 match l,h with
 |_::_,_=>rfl
theorem Uh{l:kV}(h:2<=l.length):l.take 2=[l.getD 0 0,l.getD 1 0]:=by
 match l,h with
 |_::_::_,_=>rfl
 |[_],h=>simp at h
theorem Ui{l:kV}(h:3<=l.length):l.take 3=[l.getD 0 0,l.getD 1 0,l.getD 2 0]:=by
 match l,h with
 |_::_::_::_,_=>rfl
 |[_,_],h=>simp at h
 |[_],h=>simp at h
theorem Uj{l:kV}(h:4<=l.length):l.take 4=[l.getD 0 0,l.getD 1 0,l.getD 2 0,l.getD 3 0]:=by
 match l,h with
 |_::_::_::_::_,_=>rfl
 |[_,_,_],h=>simp at h
 |[_,_],h=>simp at h
 |[_],h=>simp at h
theorem Uk{l:kV}(h:[239,191,189].isPrefixOf l=true):3<=l.length/\(l.getD 0 0).toNat=239/\(l.getD 1 0).toNat=191/\(l.getD 2 0).toNat=189:=by
 match l,h with
 |a::b::c::r,h=>simp[List.isPrefixOf] at h;obtain⟨rfl,rfl,rfl⟩:=h;exact⟨by simp,rfl,rfl,rfl⟩
 |[],h=>simp[List.isPrefixOf] at h
 |[_],h=>simp[List.isPrefixOf] at h
 |[_,_],h=>simp[List.isPrefixOf] at h
theorem Ul{l:kV}(hl:l≠[])(f:(sM l).1≠wR\/[239,191,189].isPrefixOf l=true):l.take (sM l).2=zC (sM l).1/\(sM l).1<=1114111/\1<=(sM l).2:=by
 have lL:1<=l.length:=cA.2 hl;have c:=Gw (l.getD 0 0);have d:=Gw (l.getD 1 0);have g:=Gw (l.getD 2 0);have o:=Gw (l.getD 3 0);have x:=Gx (l.getD 0 0);have y:=Gx (l.getD 1 0);have z:=Gx (l.getD 2 0);have A:=Gx (l.getD 3 0);have p:=Ug (l:=l) lL;have q:=Uh (l:=l);have r:=Ui (l:=l);have s:=Uj (l:=l);have hp:=Uk (l:=l);have a:(sM l).1≠wR\/(3<=l.length/\(l.getD 0 0).toNat=239/\(l.getD 1 0).toNat=191/\(l.getD 2 0).toNat=189):=f.imp id hp;clear f hp;unfold sM at a⊢;simp only at a⊢;simp only[aF,ck,bz] at a⊢;have B:wR=65533:=rfl;by_cases e:(l.getD 0 0).toNat<128;·rw[aj e] at a⊢;refine⟨?_,by simp only;omega,aA _⟩;unfold zC;rw[aj e,p,c _ rfl]
 rw[ai e] at a⊢;by_cases i:(l.getD 0 0).toNat/32=6/\1<l.length/\(l.getD 1 0).toNat/64=2
 ·rw[aj i] at a⊢;by_cases b:(l.getD 0 0).toNat%32*64+(l.getD 1 0).toNat%64>=128;·rw[aj b] at a⊢;refine⟨?_,by simp only;omega,by simp⟩;simp only;generalize j:(l.getD 0 0).toNat%32*64+(l.getD 1 0).toNat%64=v at b⊢;unfold zC;rw[ai Zo,aj Zo,q Zo,c (192+v/64) Zo,d (128+v%64) Zo]
  ·rw[ai b] at a;simp only at a;omega
 rw[ai i] at a⊢;by_cases k:((l.getD 0 0).toNat/16=14/\1<l.length/\(l.getD 1 0).toNat/64=2)/\2<l.length/\(l.getD 2 0).toNat/64=2
 ·rw[aj k] at a⊢;by_cases b:(l.getD 0 0).toNat%16*4096+(l.getD 1 0).toNat%64*64+(l.getD 2 0).toNat%64>=2048/\Bb ((l.getD 0 0).toNat%16*4096+(l.getD 1 0).toNat%64*64+(l.getD 2 0).toNat%64)=true;·rw[aj b] at a⊢;refine⟨?_,by simp only;omega,by simp⟩;simp only;obtain⟨b,_⟩:=b;generalize j:(l.getD 0 0).toNat%16*4096+(l.getD 1 0).toNat%64*64+(l.getD 2 0).toNat%64=v at b⊢;unfold zC;rw[ai Zo,ai Zo,aj Zo,r Zo,c (224+v/4096) Zo,d (128+v/64%64) Zo,g (128+v%64) Zo]
  ·rw[ai b] at a;simp only at a;exfalso;rcases a with h|⟨_,t,u,w⟩
   ·exact h rfl
   ·rw[t,u,w] at b;exact b ⟨by decide,by decide⟩
 rw[ai k] at a⊢;by_cases m:(((l.getD 0 0).toNat/8=30/\1<l.length/\(l.getD 1 0).toNat/64=2)/\2<l.length/\(l.getD 2 0).toNat/64=2)/\3<l.length/\(l.getD 3 0).toNat/64=2
 ·rw[aj m] at a⊢;by_cases b:(l.getD 0 0).toNat%8*262144+(l.getD 1 0).toNat%64*4096+(l.getD 2 0).toNat%64*64+(l.getD 3 0).toNat%64>=65536/\Bb ((l.getD 0 0).toNat%8*262144+(l.getD 1 0).toNat%64*4096+(l.getD 2 0).toNat%64*64+(l.getD 3 0).toNat%64)=true;·rw[aj b] at a⊢;obtain⟨b,n⟩:=b;unfold Bb at n;simp only[eO,aF,bz] at n;refine⟨?_,by simp only;omega,by simp⟩;simp only;generalize j:(l.getD 0 0).toNat%8*262144+(l.getD 1 0).toNat%64*4096+(l.getD 2 0).toNat%64*64+(l.getD 3 0).toNat%64=v at b⊢;unfold zC;rw[ai Zo,ai Zo,ai Zo,s Zo,c (240+v/262144) Zo,d (128+v/4096%64) Zo,g (128+v/64%64) Zo,o (128+v%64) Zo]
  ·rw[ai b] at a;simp only at a;omega
 rw[ai m] at a;simp only at a;omega
theorem M9:∀(f:Nat) (l:kV) (r:List Nat),l.length<=f->vE f l=some r->l=r.flatMap zC/\∀c∈r,c<=1114111
 |0,l,r,hl,h=>by have:l=[]:=bN Zo;subst this;unfold vE at h;cases h;exact⟨rfl,by simp⟩
 |f+1,l,r,hl,h=>by
  unfold vE at h;split at h;·rename_i a;cases h;exact⟨a,by simp⟩
  ·rename_i a;simp only at h;split at h
   ·rename_i e;obtain⟨g,i,m⟩:=Ul a (by simpa using e);cases b:vE f (l.drop (sM l).2) with
    |none=>rw[b] at h;cases h
    |some r'=>(rw[b] at h;cases h;obtain⟨j,k⟩:=M9 f _ r' (by rw[bi];omega) b;refine⟨?_,λc d=>?_⟩;·rw[bj,<-g,<-j,bT]);·(rcases aJ.1 d with rfl|d;·exact i);·exact k c d
   ·cases h
theorem Gy{l:kV}{r:List Nat}(h:tk l=some r):l=r.flatMap zC/\∀c∈r,c<=1114111:=M9 _ l r (aA _) h
theorem Um{a b:kV}(h:vF a=vF b):a=b:=by
 unfold vF at h;have nil:∀x:kV,tk x=none->x≠[]:=by rintro x e rfl;cases e
 have bytes:∀x y:kV,x.map (λb=>1114112+b.toNat)=y.map (λb=>1114112+b.toNat)->x=y:=by
  intro x;induction x with
  |nil=>intro y h;cases y with|nil=>rfl|cons _ _=>cases h
  |cons u x f=>
   intro y h;cases y with
   |nil=>cases h
   |cons v y=>rw[bk,bk,cH] at h;rw[f y h.2,show u=v from iw.1 Zo]
 have mixed:∀(x y:kV) (r:List Nat),tk x=some r->tk y=none->r=y.map (λb=>1114112+b.toNat)->False:=by
  intro x y r e g i;cases y with
  |nil=>exact nil _ g rfl
  |cons v y=>have:=(Gy e).2 (1114112+v.toNat) (by rw[i];simp);omega
 cases d:tk a with
 |some r=>
  cases c:tk b with
  |some s=>rw[d,c] at h;simp only at h;rw[(Gy d).1,(Gy c).1,h]
  |none=>rw[d,c] at h;exact(mixed a b r d c h).elim
 |none=>
  cases c:tk b with
  |some s=>rw[d,c] at h;exact(mixed b a s c d h.symm).elim
  |none=>rw[d,c] at h;exact bytes a b h
theorem I4(a b:kV):re a b=true↔qv (vF a) (vF b)<0:=by unfold re;exact decide_eq_true_iff
theorem Na(a:kV):re a a=false:=by unfold re;rw[M6];rfl
theorem I5{a b c:kV}(d:re a b=true)(e:re b c=true):re a c=true:=by rw[I4] at*;exact M8 _ _ _ d e
theorem I6{a b:kV}(c:re a b=false)(d:re b a=false):a=b:=by
 refine Um (M5 _ _ ?_);have f:¬qv (vF a) (vF b)<0:=λh=>by rw[(I4 a b).2 h] at c;cases c
 have e:¬qv (vF b) (vF a)<0:=λh=>by rw[(I4 b a).2 h] at d;cases d
 rw[M7] at e;omega
theorem Nb{a b:kV}(h:re a b=true):re b a=false:=by
 cases c:re b a with
 |false=>rfl
 |true=>have:=I5 h c;rw[Na] at this;cases this
theorem Nc{a b c:kV}(g:re a b=false)(d:re b c=false):re a c=false:=by
 cases e:re a c with
 |false=>rfl
 |true=>
  cases f:re b a with
  |true=>rw[I5 f e] at d;cases d
  |false=>have:=I6 g f;subst this;rw[d] at e;cases e
theorem I7(s:kV):∀l,(BU s l).Perm (s::l)
 |[]=>fW _
 |t::l=>by
  unfold BU;split;·exact fW _
  ·exact((I7 s l).cons t).trans (bX _ _ _)
theorem x8:∀l,(rising l).Perm l
 |[]=>fW _
 |s::l=>(I7 s _).trans ((x8 l).cons s)
def Bs(l:List kV):Prop:=l.Pairwise (λa b=>re b a=false)
theorem Nd(s:kV):∀l,Bs l->Bs (BU s l)
 |[],_=>by unfold BU Bs;simp
 |t::l,h=>by
  obtain⟨c,d⟩:=bJ.1 h;unfold BU;split
  ·rename_i b;refine bJ.2 ⟨λx a=>?_,h⟩;rcases aJ.1 a with rfl|a
   ·exact Nb b
   ·exact Nc (c x a) (Nb b)
  ·rename_i b;refine bJ.2 ⟨λx a=>?_,Nd s l d⟩;rcases aJ.1 ((I7 s l).mem_iff.1 a) with rfl|a
   ·simpa using b
   ·exact c x a
theorem I8:∀l,Bs (rising l)
 |[]=>jc
 |s::l=>Nd s _ (I8 l)
theorem Nf:∀{l m:List kV},l.Perm m->Bs l->Bs m->l=m
 |[],m,hp,_,_=>(List.nil_perm.1 hp).symm
 |a::l,m,hp,hl,c=>by
  cases m with
  |nil=>exact absurd hp.length_eq Zs
  |cons b m=>
   obtain⟨d,e⟩:=bJ.1 hl;obtain⟨f,g⟩:=bJ.1 c;have i:a=b:=by(rcases aJ.1 (hp.mem_iff.1 (ay ..)) with h|j;·exact h);·(rcases aJ.1 (hp.mem_iff.2 (ay ..)) with h|k;·exact h.symm);·exact I6 (f a j) (d b k)
   subst i;rw[Nf (List.Perm.cons_inv hp) e g]
theorem Ng{l m:List kV}(hp:l.Perm m)(a:Bs l):l=rising m:=Nf (hp.trans (x8 m).symm) a (I8 m)
end Top
namespace Top
theorem Nh(l:kV):1<=(sM l).2/\(∀k,1<=k->k<(sM l).2->l.getD k 0≠47)/\(l.getD 0 0=47->(sM l).1=47):=by
 have b:∀k,(decide (k<l.length)&&(l.getD k 0).toNat/64==2)=true->l.getD k 0≠47:=by intro k h e;rw[e] at h;simp at h
 have c:l.getD 0 0=47->(l.getD 0 0).toNat<128:=by intro e;rw[e];decide
 unfold sM;simp only;split;·rename_i h;refine⟨aA _,λk d a=>by omega,λe=>by rw[e];rfl⟩
 ·rename_i h;refine⟨?_,?_,λe=>absurd (c e) h⟩
  ·repeat' split
   all_goals exact dv rfl
  ·intro k d a;split at a
   ·rename_i g;simp only[aF] at g;split at a;·(have:k=1:=by simp at a;omega);subst this;exact b 1 (by simpa using g.2)
    ·simp at a;omega
   ·split at a
    ·rename_i g;simp only[aF] at g;split at a
     ·(have:k=1\/k=2:=by simp at a;omega);rcases this with rfl|rfl
      ·exact b 1 (by simpa using g.1.2)
      ·exact b 2 (by simpa using g.2)
     ·simp at a;omega
    ·split at a
     ·rename_i g;simp only[aF] at g;split at a
      ·(have:k=1\/k=2\/k=3:=by simp at a;omega);rcases this with rfl|rfl|rfl
       ·exact b 1 (by simpa using g.1.1.2)
       ·exact b 2 (by simpa using g.1.2)
       ·exact b 3 (by simpa using g.2)
      ·simp at a;omega
     ·simp at a;omega
theorem Un(f:Nat)(l:kV)(r:List Nat)(hf:l.length<=f)(h:vE f l=some r)(a:(47:UInt8)∈l):47∈r:=by
 induction f generalizing l r with
 |zero=>have:l=[]:=bN Zo;subst this;simp at a
 |succ f k=>
  unfold vE at h;by_cases hl:l=[];·subst hl;simp at a
  rw[ai hl] at h;obtain⟨m,e,g⟩:=Nh l;generalize sM l=n at*;obtain⟨c,w⟩:=n;simp only at h m e g;split at h
  ·cases b:vE f (l.drop w) with
   |none=>rw[b] at h;cases h
   |some r'=>(rw[b] at h;simp only[aW,cD] at h;subst h;obtain⟨i,j,d⟩:=cr a;by_cases o:i<w;·(by_cases p:i=0;·(subst p;have:l.getD 0 0=47:=by simp[cF,ad j,d]);rw[g this];exact ay ..);·exact absurd (by simp[cF,ad j,d]) (e i Zo o));·refine aI _ (k _ _ (by simp;omega) b ?_);rw[List.mem_iff_getElem];exact⟨i-w,by simp;omega,by simp[show w+(i-w)=i from by omega,d]⟩
  ·cases h
theorem Uo{s:kV}(h:wS s=true):(47:UInt8)∉s:=by
 intro c;unfold wS at h;cases a:tk s with
 |none=>rw[a] at h;cases h
 |some r=>rw[a] at h;have:=Un _ s r (aA _) a c;simp only[aF,cJ] at h;have b:=h.2;rw[fQ] at b;exact absurd (b 47 this) Zd
def zD(m:Nm):Prop:=(m.map (·.1)).Nodup
theorem Ni(m:Nm)(s:kV)(n:la)(h:zD m):zD (tq m s n):=by
 unfold zD tq at*;split
 ·have:∀x:kV×la,(if x.1==s then(s,n) else x).1=x.1:=by
   intro x;split;·rename_i h;exact(by simpa using h:x.1=s).symm
   ·rfl
  rw[ex];have e:((λx:kV×la=>x.1)∘λx=>if(x.1==s)=true then(s,n) else x)=λx=>x.1:=by funext x;exact this x
  rw[e];exact h
 ·rename_i f;rw[bA,cC];refine⟨h,by simp,?_⟩;intro a c b d;simp at d;subst d;intro e;subst e;apply f;rw[aU] at c;obtain⟨x,g,rfl⟩:=c;rw[eF];exact⟨x,g,by simp⟩
theorem Nj(m:Nm)(s:kV)(n:la)(k:kV)(h:k∈(tq m s n).map (·.1)):k=s\/k∈m.map (·.1):=by
 unfold tq at h;split at h
 ·rw[ex,aU] at h;obtain⟨x,a,rfl⟩:=h;by_cases e:x.1==s;·left;simp only[Function.comp];rw[aj e]
  ·right;simp only[Function.comp];rw[ai e];exact gE a
 ·rw[bA,aQ] at h;rcases h with h|h
  ·exact .inr h
  ·left;simpa using h
theorem Up(m:Nm)(n:la)(h:zD m):zD (po m n):=by
 unfold po;split;·exact Ni _ _ _ h
 ·split;·exact h
  ·exact Ni _ _ _ h
theorem Uq(m:Nm)(n:la)(k:kV)(h:k∈(po m n).map (·.1)):k=n.name\/k∈m.map (·.1):=by
 unfold po at h;split at h;·exact Nj _ _ _ _ h
 ·split at h;·exact .inr h
  ·exact Nj _ _ _ _ h
theorem Nk(l:List la)(m:Nm)(h:zD m):zD (l.foldl po m)/\∀k∈(l.foldl po m).map (·.1),(∃n∈l,n.name=k)\/k∈m.map (·.1):=by
 induction l generalizing m with
 |nil=>exact⟨h,λk a=>.inr a⟩
 |cons n l b=>
  obtain⟨c,d⟩:=b (po m n) (Up m n h);refine⟨c,λk a=>?_⟩;rcases d k a with⟨x,e,rfl⟩|f;·exact .inl ⟨x,aI _ e,rfl⟩
  ·rcases Uq m n k f with rfl|g;·exact .inl ⟨n,ay ..,rfl⟩
   ·exact .inr g
def w7(l:List la):Prop:=∀n∈l,ow n.pg=true->(47:UInt8)∉n.name
theorem Ur(l:List la)(dir:Int):zD (rI l dir):=(Nk _ [] (by simp[zD])).1
theorem Nl{l:List la}(hl:w7 l)(dir:Int)(k:kV)(h:k∈(rI l dir).map (·.1)):(47:UInt8)∉k:=by
 rcases(Nk _ [] (by simp[zD])).2 k h with⟨n,a,rfl⟩|h;·rw[bp] at a;simp only[aF] at a;exact hl n a.1 a.2.2
 ·simp at h
theorem Nn{l:List la}(hl:w7 l)(out:List Int)(f:Nat)(dir:Int)(path:kV)(t:oI)(h:t∈r5 l out f dir path):∃s r,(47:UInt8)∉s/\t.path=path++47::(s++r)/\(r=[]\/∃r',r=47::r'):=by
 induction f generalizing dir path with
 |zero=>simp[r5] at h
 |succ f b=>
  unfold r5 at h;simp only[cW] at h;obtain⟨s,c,h⟩:=h;have a:(47:UInt8)∉s:=by refine Nl hl dir s ?_;have:=(x8 _).mem_iff.1 c;rw[aU] at this⊢;obtain⟨x,d,e⟩:=this;exact⟨x,(bp.1 d).1,e⟩
  split at h;·simp at h
  ·rw[aJ] at h;rcases h with rfl|h
   ·exact⟨s,[],a,by simp,.inl rfl⟩
   ·split at h;·obtain⟨g,r',_,i,_⟩:=b _ _ h;exact⟨s,47::(g++r'),a,by rw[i];simp,.inr ⟨_,rfl⟩⟩
    ·simp at h
theorem Us{s c r r':kV}(d:(47:UInt8)∉s)(f:(47:UInt8)∉c)(g:r=[]\/∃x,r=47::x)(i:r'=[]\/∃x,r'=47::x)(h:s++r=c++r'):s=c:=by
 induction s generalizing c with
 |nil=>
  cases c with
  |nil=>rfl
  |cons a c=>
   simp only[aS,bQ] at h;rcases g with rfl|⟨x,rfl⟩
   ·cases h
   ·simp only[cH] at h;exact absurd (by rw[<-h.1];exact ay ..) f
 |cons a s j=>
  cases c with
  |nil=>
   simp only[aS,bQ] at h;rcases i with rfl|⟨x,rfl⟩
   ·cases h
   ·simp only[cH] at h;exact absurd (by rw[h.1];exact ay ..) d
  |cons b c=>simp only[bQ,cH] at h;rw[h.1,j (λe=>d (aI _ e)) (λe=>f (aI _ e)) h.2]
theorem Ut{l:List la}(hl:w7 l)(out:List Int)(f:Nat)(dir:Int)(path:kV):(r5 l out f dir path).Pairwise (λa b=>a.path≠b.path):=by
 induction f generalizing dir path with
 |zero=>simp[r5]
 |succ f m=>
  unfold r5;simp only;have o:(rising (((rI l dir).filter λx=>!(out.contains x.2.id)).map (·.1))).Nodup:=by refine(x8 _).nodup_iff.2 ?_;exact(Ur l dir).sublist (List.Sublist.map _ (dJ ..))
  have h:∀s∈rising (((rI l dir).filter λx=>!(out.contains x.2.id)).map (·.1)),(47:UInt8)∉s:=by intro s i;refine Nl hl dir s ?_;have:=(x8 _).mem_iff.1 i;rw[aU] at this⊢;obtain⟨x,g,e⟩:=this;exact⟨x,(bp.1 g).1,e⟩
  have j:∀s (t:oI),(t∈match pR ((rI l dir).filter λx=>!(out.contains x.2.id)) s with
   |none=>[]
   |some n=>(⟨path++47::s,n.id,n.data⟩:oI)::(if nM n.id then r5 l out f n.id (path++47::s) else[]))->∃r,t.path=path++47::(s++r)/\(r=[]\/∃r',r=47::r'):=by
   intro s t c;split at c;·simp at c
   ·(rw[aJ] at c;rcases c with rfl|c);·exact⟨[],by simp,.inl rfl⟩
    ·split at c;·obtain⟨k,r',_,d,_⟩:=Nn hl out f _ _ _ c;exact⟨47::(k++r'),by rw[d];simp,.inr ⟨_,rfl⟩⟩
     ·simp at c
  rw[jO];refine⟨λs i=>?_,?_⟩
  ·split;·simp
   ·rw[bJ];refine⟨λt c=>?_,?_⟩
    ·split at c;·obtain⟨k,r',_,d,_⟩:=Nn hl out f _ _ _ c;rw[d];intro e;have:=congrArg List.length e;simp at this
     ·simp at c
    ·split;·exact m _ _
     ·simp
  ·refine(List.Pairwise.imp_of_mem (R:=λa b=>a≠b) ?_ o);intro a b p q u x g y v e;obtain⟨r,w,d⟩:=j a x g;obtain⟨r',z,A⟩:=j b y v;rw[w,z,List.append_cancel_left_eq,cH] at e;exact u (Us (h a p) (h b q) d A e.2)
theorem Uu{l:List la}(hl:w7 l)(dir:Int):(sN l dir).Pairwise (λa b=>a.path≠b.path):=by
 unfold sN;split;·exact Ut hl _ _ _ _
 ·simp
theorem Uv{l:List oI}(h:l.Pairwise (λa b=>a.path≠b.path)){a b:oI}(c:a∈l)(j:b∈l)(e:a.path=b.path):a=b:=by
 induction l with
 |nil=>simp at c
 |cons x l k=>
  rw[bJ] at h;rcases aJ.1 c with d|f<;>rcases aJ.1 j with g|i
  ·rw[d,g]
  ·subst d;exact absurd e (h.1 b i)
  ·subst g;exact absurd e.symm (h.1 a f)
  ·exact k h.2 f i
theorem No{l:List oI}(h:l.Pairwise (λa b=>a.path≠b.path)){t:oI}(c:t∈l):wU l t.path=some t:=by
 unfold wU;cases hf:l.reverse.find? (λx=>x.path==t.path) with
 |none=>rw[bK] at hf;exact absurd Zs (hf t (eI.2 c))
 |some n=>have d:=bF hf;have e:=cP hf;rw[Uv h (eI.1 d) c (by simpa using e)]
theorem Dn{l:List la}(hl:w7 l)(dir:Int):ss l l dir=[]:=by
 have h:=Uu hl dir;unfold ss;simp only;generalize sN l dir=L at*;have b:∀t∈L,ph L t=false:=by intro t a;unfold ph;rw[No h a];simp
 have c:∀t∈L,uY L t=false:=by intro t a;unfold uY;rw[No h a];simp
 rw[cT.2 (λt a=>by rw[b t (eI.1 a)];simp),cT.2 (λt a=>by rw[b t a];simp),cT.2 (λt a=>by rw[c t a];simp)];rfl
theorem Uw(a b:List la)(dir:Int):∀e∈ss a b dir,e.kind≠9:=by intro e c;unfold ss at c;simp only[aQ,aU] at c;rcases c with(⟨_,_,rfl⟩|⟨_,_,rfl⟩)|⟨_,_,rfl⟩<;>simp
end Top
end Go.Proofs.YtkbifmngmocjnaaGreatDoor
