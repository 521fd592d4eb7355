/- Proved here, packed: what the parts Maps Rndb Mapr Forc Forcy Cpy prove (rules of the walk, contracts of functions, plain laws). Conditions: in each statement. -/
import Derived.Test.YtkbifmngmocjnaaGreatDoorPAF
namespace Go.Proofs.YtkbifmngmocjnaaGreatDoor
set_option maxRecDepth 100000
set_option maxHeartbeats 8000000
set_option linter.all false
section
open Go.RowKit
theorem MC{α β:Type}(f:α->β)(l:List α)(j:Nat):(l.eraseIdx j).map f=(l.map f).eraseIdx j:=by rw[ej,ej,bA,j5,i8]
theorem Bm{α β:Type}(f:α->β){l:List α}(d:(l.map f).Nodup){i j:Nat}{x y:α}(e:l[i]? =some x)(g:l[j]? =some y):f x=f y↔i=j:=by
 obtain⟨k,rfl⟩:=ax.1 e;obtain⟨m,rfl⟩:=ax.1 g;constructor
 ·intro h;have hp:=fb.1 d;have b:i<(l.map f).length:=by simpa using k
  have c:j<(l.map f).length:=by simpa using m
  rcases gX i j with a|n|a;·exact absurd (by simpa using h) (hp i j b c a)
  ·exact n
  ·exact absurd (by simpa using h.symm) (hp j i c b a)
 ·rintro rfl;rfl
section
variable{κ ν:Type}[BEq κ][LawfulBEq κ]
def qG(m:List (κ×ν))(a:κ):Option ν:=(m.find? λx=>x.1==a).map (·.2)
def wy(m:List (κ×ν))(a:κ)(v:ν):List (κ×ν):=if m.any (λx=>x.1==a) then m.map (λx=>if x.1==a then(a,v) else x) else m++[(a,v)]
def Aq(m:List (κ×ν))(a:κ):List (κ×ν):=m.filter λx=>!(x.1==a)
theorem EV{m:List (κ×ν)}{a:κ}{j:Nat}(d:(m.map (·.1)).Nodup)(h:m.findIdx? (λx=>a==x.1)=some j):∃x,m[j]? =some x/\x.1=a/\∀i y,m[i]? =some y->((y.1==a)=true↔i=j):=by
 rw[bR] at h;obtain⟨b,hp,_⟩:=h;have c:a=m[j].1:=by simpa using hp
 refine⟨m[j],ad b,c.symm,λi y e=>?_⟩;obtain⟨f,rfl⟩:=ax.1 e;rw[ck,c];exact Bm (·.1) d (ad f) (ad b)
theorem EW{m:List (κ×ν)}{a:κ}(h:m.findIdx? (λx=>a==x.1)=none):∀x∈m,(x.1==a)=false:=by rw[cv] at h;intro x b;have:=h x b;rw[<-this];exact BEq.comm
omit [LawfulBEq κ] in
theorem IP{m:List (κ×ν)}{a:κ}{j:Nat}{x:κ×ν}(b:m[j]? =some x)(c:∀i y,m[i]? =some y->((y.1==a)=true↔i=j)):qG m a=some x.2:=by
 unfold qG;have:m.find? (λx=>x.1==a)=some x:=by
  rw[iy];obtain⟨d,rfl⟩:=ax.1 b;refine⟨(c j _ b).2 rfl,j,d,rfl,λi g=>?_⟩;have e:=c i m[i] (ad Zo);cases f:(m[i].1==a);·rfl
  ·exact absurd (e.1 f) Zo
 rw[this];rfl
omit [LawfulBEq κ] in
theorem IQ{m:List (κ×ν)}{a:κ}(h:∀x∈m,(x.1==a)=false):qG m a=none:=by unfold qG;rw[bK.2 (λx b=>by rw[h x b];simp)];rfl
omit [LawfulBEq κ] in
theorem MD{m:List (κ×ν)}{a:κ}{v:ν}{j:Nat}{x:κ×ν}(c:m[j]? =some x)(d:∀i y,m[i]? =some y->((y.1==a)=true↔i=j)):wy m a v=m.modify j (λ_=>(a,v)):=by
 unfold wy;rw[aj (by rw[eF];exact⟨x,ar c,(d j x c).2 rfl⟩)];refine cK λi=>?_;rw[bP,bM];cases f:m[i]? with
 |none=>simp
 |some y=>
  have:=d i y f;by_cases b:i=j;·subst b;simp[this.2 rfl]
  ·have hf:(y.1==a)=false:=by cases g:(y.1==a) with|false=>rfl|true=>exact absurd (this.1 g) b
   simp[hf,show¬j=i from λe=>b e.symm]
omit [LawfulBEq κ] in
theorem ME{m:List (κ×ν)}{a:κ}{v:ν}(h:∀x∈m,(x.1==a)=false):wy m a v=m++[(a,v)]:=by unfold wy;rw[ai (by rw[eF];rintro⟨x,c,b⟩;rw[h x c] at b;cases b)]
omit [LawfulBEq κ] in
theorem MF{m:List (κ×ν)}{a:κ}{j:Nat}{x:κ×ν}(f:m[j]? =some x)(c:∀i y,m[i]? =some y->((y.1==a)=true↔i=j)):Aq m a=m.eraseIdx j:=by
 unfold Aq;obtain⟨n,g⟩:=ax.1 f;have h:m=m.take j++x::m.drop (j+1):=by rw[<-g,dp,bT]
 have k:(m.take j).filter (λx=>!(x.1==a))=m.take j:=by
  rw[du];intro y d;obtain⟨i,b⟩:=cL d;rw[dP] at b;split at b
  ·rename_i o;have:=c i y b;cases e:(y.1==a) with
   |false=>rfl
   |true=>exact absurd (this.1 e) Zo
  ·cases b
 have l:(m.drop (j+1)).filter (λx=>!(x.1==a))=m.drop (j+1):=by
  rw[du];intro y d;obtain⟨i,b⟩:=cL d;rw[dQ] at b;have:=c _ y b;cases e:(y.1==a) with
  |false=>rfl
  |true=>exact absurd (this.1 e) Zo
 rw[ej];conv=>lhs;rw[h]
 rw[cm,k,cX,(c j x f).2 rfl,l];simp
omit [LawfulBEq κ] in
theorem MG{m:List (κ×ν)}{a:κ}(h:∀x∈m,(x.1==a)=false):Aq m a=m:=by unfold Aq;rw[du];intro x b;rw[h x b];rfl
theorem IR{m:List (κ×ν)}(a:κ)(v:ν)(h:(m.map (·.1)).Nodup):((wy m a v).map (·.1)).Nodup:=by
 unfold wy;split
 ·have:(m.map (λx=>if x.1==a then(a,v) else x)).map (·.1)=m.map (·.1):=by
   rw[ex];refine gD λx _=>?_;show(if x.1==a then(a,v) else x).1=x.1;cases c:(x.1==a) with
   |false=>simp
   |true=>simp[<-(ck.1 c)]
  rw[this];exact h
 ·rename_i d;rw[bA,cC];refine⟨h,by simp,λy e z b=>?_⟩;simp only[bk,cu,aE] at b;obtain⟨x,f,rfl⟩:=aU.1 e;rintro rfl;exact d (by rw[eF];exact⟨x,f,by simp[b]⟩)
end
class wz(P:Program)(t:Nat)(k e:outParam Nat):Prop where
 ul:P.underlying t=some (.map k e)
class Bo(P:Program)(e:Nat)(z:outParam Value):Prop where
 q9:∃i,P.info? e=some i/\i.zero=some z
class wX(P:Program)(k:Nat){κ:Type}[BEq κ](ke:κ->Value):Prop where
 IS:∃d,P.underlying k=some d/\∀a b,Instr.sameNow d (ke a) (ke b)=some (a==b)
 Cf:∀(e:Bool) (a:κ) (w:World),(Instr.checkKey e 10000 k (ke a)).run P w=.ok () w
 bits:∀a,Instr.sameBits 10000 (ke a) (ke a)=true
theorem TA{P:Program}{k:Nat}(h:P.underlying k=some .string):wX P k sv where
 IS:=⟨_,h,λa b=>by
  show some (ByteArray.mk a.toArray==ByteArray.mk b.toArray)=some (a==b);congr 1;show(a.toArray==b.toArray)=(a==b);rw[eS,ck,ck];constructor;·intro h;exact List.toArray_inj h
  ·rintro rfl;rfl⟩
 Cf e a w:=by show(Instr.checkKey e (9999+1) k (sv a)).run P w=_;unfold Instr.checkKey;simp[aB,aL h,sv]
 bits a:=by show(a.toArray==a.toArray)=true;exact gA _
theorem MH{P:Program}{k:Nat}(h:P.underlying k=some (.int .i64)):wX P k (λa:Int=>Value.int .i64 a) where
 IS:=⟨_,h,λa b=>by show(if IntKind.i64=IntKind.i64 then some (a==b) else none)=some (a==b);rw[aj rfl]⟩
 Cf e a w:=by show(Instr.checkKey e (9999+1) k (.int .i64 a)).run P w=_;unfold Instr.checkKey;simp[aB,aL h]
 bits a:=by show Instr.sameBits (9999+1) (.int .i64 a) (.int .i64 a)=true;simp[Instr.sameBits]
section
variable{κ ν:Type}[BEq κ][LawfulBEq κ]{ke:κ->Value}{ve:ν->Value}{m:List (κ×ν)}{l:List MapEntry}{c:Nat}
structure tv(ke:κ->Value)(ve:ν->Value)(m:List (κ×ν))(l:List MapEntry)(c:Nat):Prop where
 kv:l.map (λe=>(e.key,e.val))=m.map (λx=>(ke x.1,ve x.2))
 lt:∀e∈l,e.born<c
 ap:(l.map (·.born)).Nodup
 nd:(m.map (·.1)).Nodup
omit [LawfulBEq κ] [BEq κ] in
theorem tv.len(h:tv ke ve m l c):l.length=m.length:=by simpa using congrArg List.length h.kv
omit [LawfulBEq κ] [BEq κ] in
theorem tv.at(h:tv ke ve m l c){j:Nat}{x:κ×ν}(b:m[j]? =some x):∃e,l[j]? =some e/\e.key=ke x.1/\e.val=ve x.2:=by
 have a:(l.map (λe=>(e.key,e.val)))[j]? =(m.map (λx=>(ke x.1,ve x.2)))[j]?:=by rw[h.kv]
 rw[bP,bP,b] at a;cases hl:l[j]? with
 |none=>rw[hl] at a;cases a
 |some e=>rw[hl] at a;injection a with a;injection a with d f;exact⟨e,rfl,d,f⟩
omit [LawfulBEq κ] [BEq κ] in
theorem tv.IT(h:tv ke ve m l c){j:Nat}{e:MapEntry}(a:l[j]? =some e):∃x,m[j]? =some x/\e.key=ke x.1/\e.val=ve x.2:=by
 have b:j<m.length:=by rw[<-h.len];exact(ax.1 a).1
 obtain⟨e',d,f,g⟩:=h.at (ad b);rw[a] at d;cases d;exact⟨_,ad b,f,g⟩
omit [LawfulBEq κ] in
theorem MI{d:TypeDesc}(c:∀a b,Instr.sameNow d (ke a) (ke b)=some (a==b))(a:κ):∀(l:List MapEntry) (m:List (κ×ν)) (i:Nat),l.map (λe=>(e.key,e.val))=m.map (λx=>(ke x.1,ve x.2))->Instr.findNow d (ke a) l i=some ((m.findIdx? (λx=>a==x.1)).bind λj=>(m[j]?).map λx=>(i+j,ve x.2))
 |[],[],i,_=>rfl
 |e::l,x::m,i,h=>by
  simp only[bk,cH,bE] at h;obtain⟨⟨g,k⟩,n⟩:=h;unfold Instr.findNow;rw[g,c];cases f:(a==x.1) with
  |true=>simp[eb,f,k]
  |false=>
   show Instr.findNow d (ke a) l (i+1)=_;rw[MI c a l m (i+1) n];simp only[eb,f];cases m.findIdx? (λx=>a==x.1) with
   |none=>rfl
   |some j=>simp[eX,kl 1 j]
 |[],_::_,_,h=>by simp at h
 |_::_,[],_,h=>by simp at h
omit [LawfulBEq κ] in
theorem EX{P:Program}{k:Nat}[b:wX P k ke](h:tv ke ve m l c)(a:κ)(w:World):(Instr.findKey k (ke a) l).run P w=.ok ((m.findIdx? (λx=>a==x.1)).bind λj=>(m[j]?).map λx=>(j,ve x.2)) w:=by obtain⟨d,e,f⟩:=b.IS;unfold Instr.findKey;have:=MI f a l m 0 h.kv;simp only[cV] at this;simp only[aB,aL e,au,this,aH]
@[irreducible] def nG(g:Nat)(ke:κ->Value)(ve:ν->Value)(m:List (κ×ν)):kM:=⟨(·=g),λw=>∃l c,w.heap[g]? =some (.map l.toArray c)/\tv ke ve m l c,λ_ _ h hp=>by obtain⟨l,c,a,b⟩:=hp;exact⟨l,c,(h g rfl).trans a,b⟩⟩
omit [LawfulBEq κ] [BEq κ] in
theorem wA{g k:Nat}:(nG g ke ve m).S k↔k=g:=by unfold nG;exact gU
omit [LawfulBEq κ] [BEq κ] in
theorem Ar{g:Nat}{w:World}:(nG g ke ve m).p w↔∃l c,w.heap[g]? =some (.map l.toArray c)/\tv ke ve m l c:=by unfold nG;exact gU
omit [LawfulBEq κ] [BEq κ] in
theorem Mem.Dh{W w:World}{L:List kM}{g:Nat}(a:Mem W w L)(b:nG g ke ve m∈L):∃l c,w.heap[g]? =some (.map l.toArray c)/\tv ke ve m l c:=Ar.1 (a.ok _ b).holds
theorem Bp{P:Program}{w:World}{g:Nat}{es:Array MapEntry}{c:Nat}(h:w.heap[g]? =some (.map es c)):(getObj g).run P w=.ok (.map es c) w:=by simp[getObj,Sem.run,h]
theorem EY{P:Program}{w:World}{g:Nat}{es:Array MapEntry}{c:Nat}(h:w.heap[g]? =some (.map es c))(o:Obj):(setObj g o).run P w=.ok () (w.putObj g o):=by simp[setObj,Sem.run,h,World.putObj]
theorem Mem.Gk{W w:World}{L L':List kM}{e e':kM}{g:Nat}{o b:Obj}(c:Mem W w L)(hp:oe L e e' L')(j:w.heap[g]? =some o)(f:e.S g)(d:∀k,e'.S k->e.S k)(h:e'.p (w.putObj g b)):Mem W (w.putObj g b) L':=by have i:=(c.ok _ hp.mem).lt;refine c.put hp rfl rfl rfl Zs (λk _ a=>dC (λe=>a (e▸f))) ⟨λk a=>by simpa using i k (d k a),h⟩ (λk a=>.inl (d k a))
theorem tv.tD{P:Program}{k:Nat}[o:wX P k ke]{w:World}{g t e:Nat}(C:P.underlying t=some (.map k e))(n:w.heap[g]? =some (.map l.toArray c))(h:tv ke ve m l c)(a:κ)(v:ν):∃(l':List MapEntry) (p:Nat),(Instr.mapUpdate t (.map (some g)) (ke a) (ve v)).run P w=.ok () (w.putObj g (.map l'.toArray p))/\tv ke ve (wy m a v) l' p:=by
 have hf:=EX (P:=P) (k:=k) h a w;unfold Instr.mapUpdate;simp only[aB,aL C,au,Bp n,o.Cf,hf];cases q:m.findIdx? (λx=>a==x.1) with
 |none=>
  have r:=EW q;refine⟨l++[{key:=ke a,val:=ve v,born:=c}],c+1,?_,?_⟩;·simp[EY n]
  ·rw[ME r];refine⟨by simp[h.kv],λe b=>?_,?_,?_⟩;·(rcases aQ.1 b with b|b;·have:=h.lt e b;omega);·simp only[aE] at b;subst b;exact ic c
   ·rw[bA,cC];refine⟨h.ap,by simp,λy D z E=>?_⟩;simp only[bk,cu,aE] at E;obtain⟨e,b,rfl⟩:=aU.1 D;have:=h.lt e b;omega
   ·rw[<-ME (v:=v) r];exact IR a v h.nd
 |some j=>
  obtain⟨x,d,F,s⟩:=EV h.nd q;obtain⟨J,u,G,K⟩:=h.at d;refine⟨l.modify j (λe=>{e with key:=ke a,val:=ve v}),c,?_,?_⟩;·simp only[eB,d,aW,cY,u,aN,G,F,Instr.keyThatStays,o.bits,cc,aB,aH,au,EY n];simp
  ·rw[MD d s];have A:(l.modify j (λe=>{e with key:=ke a,val:=ve v})).map (·.born)=l.map (·.born):=by
    refine cK λi=>?_;rw[bP,bP,bM];cases l[i]? with
    |none=>simp
    |some e=>by_cases f:j=i<;>simp[f]
   refine⟨?_,λe b=>?_,A▸h.ap,?_⟩
   ·(refine cK λi=>?_;rw[bP,bP,bM,bM];have B:(l.map (λe=>(e.key,e.val)))[i]? =(m.map (λx=>(ke x.1,ve x.2)))[i]?:=by rw[h.kv]);rw[bP,bP] at B;by_cases f:j=i;·subst f;simp[u,d]
    ·simpa[f] using B
   ·(have:e.born∈l.map (·.born):=by rw[<-A];exact aU.2 ⟨e,b,rfl⟩);obtain⟨e',H,I⟩:=aU.1 this;rw[<-I];exact h.lt e' H
   ·rw[<-MD (v:=v) d s];exact IR a v h.nd
theorem tv.TB{P:Program}{k:Nat}[u:wX P k ke]{w:World}{g t e ty:Nat}(v:P.underlying t=some (.map k e))(o:w.heap[g]? =some (.map l.toArray c))(h:tv ke ve m l c)(a:κ):
 ∃l':List MapEntry,(Builtin.delete_ #[t,k] ty #[.map (some g),ke a]).run P w=.ok (.tuple #[]) (w.putObj g (.map l'.toArray c))/\tv ke ve (Aq m a) l' c/\
  (∀(b:Nat) (e:MapEntry) (x:κ×ν),(l':List MapEntry)[b]? =some e->(Aq m a)[b]? =some x->∃i:Nat,l[i]? =some e/\m[i]? =some x):=by
 have hf:=EX (P:=P) (k:=k) h a w;unfold Builtin.delete_;simp only[cf,cY,dW,fC,aB,aL v,au,Bp o,u.Cf,hf];cases p:m.findIdx? (λx=>a==x.1) with
 |none=>have q:=EW p;refine⟨l,?_,by rw[MG q];exact h,λb e x f d=>⟨b,f,by rwa [MG q] at d⟩⟩;simp[EY o,aB]
 |some j=>
  obtain⟨x,n,C,r⟩:=EV h.nd p;obtain⟨D,z,E,F⟩:=h.at n;have A:j<l.length:=(ax.1 z).1;refine⟨l.eraseIdx j,?_,?_,?_⟩;·simp only[eB,n,aW,aB,EY o,au,aH];congr 2;simp[Array.eraseIdxIfInBounds,A]
  ·rw[MF n r];refine⟨?_,λe B=>h.lt e (List.mem_of_mem_eraseIdx B),h.ap.sublist ((jM _ _).map _),h.nd.sublist ((jM _ _).map _)⟩;rw[MC,MC,h.kv]
  ·intro b e y f d;rw[MF n r] at d;rw[List.getElem?_eraseIdx] at f d;by_cases s:b<j;·rw[aj s] at f d;exact⟨b,f,d⟩
   ·rw[ai s] at f d;exact⟨b+1,f,d⟩
end
section
variable{P:Program}{n:Sz}{W:World}{q:Md}{Q:Exit->St->List kM->Prop}{σ:St}{L:List kM}{Z:Array Oper}{rest:List Oper}
 {dst:Option Nat} {ty:TypeId} {pos:String} {lf:Array Edge} {gd:Option (Nat×Bool)}
variable{κ ν:Type}[BEq κ][LawfulBEq κ]{ke:κ->Value}{ve:ν->Value}{m:List (κ×ν)}
omit [LawfulBEq κ] [BEq κ] in
theorem EZ(ke:κ->Value)(ve:ν->Value){t:Nat}{r:Option Operand}{k e:Nat}[c:wz P t k e](d:r=none\/∃x i,r=some x/\ev σ x=.int .i64 i)(f:lP Z σ ⟨dst,.makeMap t r,ty,pos,lf,gd⟩=true) (j:l8 n dst=true)(h:∀g,SL P n W .plain Z Q rest (l6 σ dst (.map (some g))) (nG g ke ve []::L)):SL P n W .plain Z Q (⟨dst,.makeMap t r,ty,pos,lf,gd⟩::rest) σ L:=by
 refine uC f j λw l=>⟨_,w.alloc (.map #[] 0),_,?_,?_,h w.heap.size⟩
 ·rcases d with rfl|⟨x,i,rfl,a⟩;·simp only[execOp,cO,Instr.makeMap,aB,ie,au,aH]
  ·simp only[execOp,aW,a,Instr.makeMap,asInt,asIntOf,aB,aL c.ul,ie,au,aH]
 ·refine l.grow (es:=[nG w.heap.size ke ve []]) rfl rfl rfl Zs (λk b=>dx w _ b) ?_ ?_ Zs;·intro x a;simp only[aE] at a;subst a;refine⟨λk b=>by rw[wA] at b;subst b;simp,Ar.2 ⟨[],0,dU w _,rfl,by simp,by simp,by simp⟩⟩
  ·intro x a k b;simp only[aE] at a;subst a;rw[wA] at b;omega
theorem yM{x y:Operand}{t k e g:Nat}{z:Value}[p:wz P t k e][r:wX P k ke][s:Bo P e z]{a:κ}(b:ev σ x=.map (some g))(u:ev σ y=ke a)(v:nG g ke ve m∈L)(A:q.pb=true) (B:lP Z σ ⟨dst,.lookup t x y true,ty,pos,lf,gd⟩=true) (C:l8 n dst=true)(h:SL P n W q Z Q rest (l6 σ dst (.tuple #[((qG m a).map ve).getD z,.bool (qG m a).isSome])) L):SL P n W q Z Q (⟨dst,.lookup t x y true,ty,pos,lf,gd⟩::rest) σ L:=by
 refine tc A Zb B C λw d=>⟨_,w,L,?_,d,λ_=>Sub.refl,.inr id,h⟩;obtain⟨l,c,D,f⟩:=d.Dh v;obtain⟨i,E,F⟩:=s.q9;have hf:=EX (P:=P) (k:=k) f a w;simp only[execOp,b,u,Instr.lookup,aB,aL p.ul,au,Bp D,aH,r.Cf,hf];cases o:m.findIdx? (λx=>a==x.1) with
 |none=>rw[IQ (EW o)];simp[zeroValue,aB,typeInfo,E,F]
 |some j=>obtain⟨x,b,H,G⟩:=EV f.nd o;rw[IP b G];simp[b,aB]
theorem TC{x y:Operand}{t k e g:Nat}{z:Value}[p:wz P t k e][r:wX P k ke][s:Bo P e z]{a:κ}(b:ev σ x=.map (some g))(u:ev σ y=ke a)(v:nG g ke ve m∈L)(A:q.pb=true) (B:lP Z σ ⟨dst,.lookup t x y false,ty,pos,lf,gd⟩=true) (C:l8 n dst=true)(h:SL P n W q Z Q rest (l6 σ dst (((qG m a).map ve).getD z)) L):SL P n W q Z Q (⟨dst,.lookup t x y false,ty,pos,lf,gd⟩::rest) σ L:=by
 refine tc A Zb B C λw d=>⟨_,w,L,?_,d,λ_=>Sub.refl,.inr id,h⟩;obtain⟨l,c,D,f⟩:=d.Dh v;obtain⟨i,E,F⟩:=s.q9;have hf:=EX (P:=P) (k:=k) f a w;simp only[execOp,b,u,Instr.lookup,aB,aL p.ul,au,Bp D,aH,r.Cf,hf];cases o:m.findIdx? (λx=>a==x.1) with
 |none=>rw[IQ (EW o)];simp[zeroValue,aB,typeInfo,E,F]
 |some j=>obtain⟨x,b,H,G⟩:=EV f.nd o;rw[IP b G];simp[b,aB]
theorem E0{x y z:Operand}{t k e g:Nat}[j:wz P t k e][E:wX P k ke]{a:κ}{v:ν}{L':List kM}(o:ev σ x=.map (some g))(p:ev σ y=ke a)(r:ev σ z=ve v)(hp:oe L (nG g ke ve m) (nG g ke ve (wy m a v)) L')(s:q.pb=true) (u:q.nP L->q.nP L') (A:lP Z σ ⟨none,.mapUpdate t x y z,ty,pos,lf,gd⟩=true)(h:SL P n W q Z Q rest σ L'):SL P n W q Z Q (⟨none,.mapUpdate t x y z,ty,pos,lf,gd⟩::rest) σ L:=by
 refine zW s rfl A rfl λw d=>?_;obtain⟨l,c,b,B⟩:=d.Dh hp.mem;obtain⟨l',f,C,D⟩:=B.tD j.ul b a v;refine⟨w.putObj g (.map l'.toArray f),L',?_,?_,u,h⟩;·simp only[execOp,o,p,r,aB,C,au,aH]
 ·exact d.Gk hp b (wA.2 rfl) (λk i=>by rw[wA] at i⊢;exact i) (Ar.2 ⟨l',f,dH (aO.1 b).1,D⟩)
theorem uc{x y z:Operand}{t k e g:Nat}[j:wz P t k e][E:wX P k ke]{a:κ}{v:ν}{L':List kM}(o:ev σ x=.map (some g))(p:ev σ y=ke a)(r:ev σ z=ve v)(hp:oe L (nG g ke ve m) (nG g ke ve (wy m a v)) L')(s:q.pb=true) (u:q.nP L->q.nP L') (A:lP Z σ ⟨none,.insert t x y z,ty,pos,lf,gd⟩=true)(h:SL P n W q Z Q rest σ L'):SL P n W q Z Q (⟨none,.insert t x y z,ty,pos,lf,gd⟩::rest) σ L:=by
 refine zW s rfl A rfl λw d=>?_;obtain⟨l,c,b,B⟩:=d.Dh hp.mem;obtain⟨l',f,C,D⟩:=B.tD j.ul b a v;refine⟨w.putObj g (.map l'.toArray f),L',?_,?_,u,h⟩;·simp only[execOp,o,p,r,aB,C,au,aH]
 ·exact d.Gk hp b (wA.2 rfl) (λk i=>by rw[wA] at i⊢;exact i) (Ar.2 ⟨l',f,dH (aO.1 b).1,D⟩)
omit [LawfulBEq κ] [BEq κ] in
theorem TD{x:Operand}{t k e g:Nat}[f:wz P t k e]{L':List kM}(i:ev σ x=.map (some g))(hp:oe L (nG g ke ve m) (nG g ke ve []) L')(j:q.pb=true) (o:q.nP L->q.nP L') (p:lP Z σ ⟨dst,.call {callee:=.builtin .clear,args:=#[x],argTypes:=#[t]},ty,pos,lf,gd⟩=true) (r:l8 n dst=true)
 (h:SL P n W q Z Q rest (l6 σ dst (.tuple #[])) L'):SL P n W q Z Q (⟨dst,.call {callee:=.builtin .clear,args:=#[x],argTypes:=#[t]},ty,pos,lf,gd⟩::rest) σ L:=by
 refine tc j Zb p r λw b=>?_;obtain⟨l,c,a,s⟩:=b.Dh hp.mem;refine⟨_,w.putObj g (.map #[] c),L',?_,?_,λh=>(by cases h),.inr o,h⟩;·simp[execOp,resolve,i,invoke,builtin,Builtin.clear_,aB,aL f.ul,Bp a,EY a]
 ·exact b.Gk hp a (wA.2 rfl) (λk d=>by rw[wA] at d⊢;exact d) (Ar.2 ⟨[],c,dH (aO.1 a).1,rfl,by simp,by simp,by simp⟩)
end
section
variable{κ ν:Type}[BEq κ][LawfulBEq κ]{ke:κ->Value}{ve:ν->Value}{m:List (κ×ν)}
structure TE(ke:κ->Value)(ve:ν->Value)(m:List (κ×ν))(l:List MapEntry)(c a:Nat)(seen:Array Nat)(oh:List κ):Prop where
 zy:tv ke ve m l c
 ru:∀e∈l,e.born<a
 le:a<=c
 oh:∀(i:Nat) (e:MapEntry) (x:κ×ν),l[i]? =some e->m[i]? =some x->(seen.contains e.born=true↔x.1∈oh)
def MJ(gm gi:Nat)(ke:κ->Value)(ve:ν->Value)(m:List (κ×ν))(oh:List κ)(cur:Option κ)(w:World):Prop:=
 ∃l c b seen,w.heap[gm]? =some (.map l.toArray c)/\w.heap[gi]? =some (.mapIter (some gm) b seen c)/\TE ke ve m l c b seen oh/\
  ∀a,cur=some a->∃(i:Nat) (e:MapEntry) (x:κ×ν),l[i]? =some e/\m[i]? =some x/\x.1=a/\seen.back? =some e.born
@[irreducible] def wY(gm gi:Nat)(ke:κ->Value)(ve:ν->Value)(m:List (κ×ν))(oh:List κ)(cur:Option κ):kM:=⟨λk=>k=gm\/k=gi,MJ gm gi ke ve m oh cur,λ_ _ h ⟨l,c,s,n,a,b,d⟩=>⟨l,c,s,n,(h gm (.inl rfl)).trans a,(h gi (.inr rfl)).trans b,d⟩⟩
variable{gm gi:Nat}{oh:List κ}{cur:Option κ}
omit [LawfulBEq κ] [BEq κ] in
theorem zz{k:Nat}:(wY gm gi ke ve m oh cur).S k↔k=gm\/k=gi:=by unfold wY;exact gU
omit [LawfulBEq κ] [BEq κ] in
theorem Cg{w:World}:(wY gm gi ke ve m oh cur).p w↔MJ gm gi ke ve m oh cur w:=by unfold wY;exact gU
omit [LawfulBEq κ] [BEq κ] in
theorem Mem.TF{W w:World}{L L':List kM}(b:Mem W w L)(hp:oe L (wY gm gi ke ve m oh cur) (nG gm ke ve m) L'):Mem W w L':=by
 obtain⟨l,c,s,n,d,g,e,h⟩:=Cg.1 (b.ok _ hp.mem).holds;have f:=(b.ok _ hp.mem).lt;refine b.put hp rfl rfl rfl (aA _) (λ_ _ _=>rfl) ⟨λk a=>?_,Ar.2 ⟨l,c,d,e.zy⟩⟩ (λk a=>.inl ?_);·rw[wA] at a;exact f k (zz.2 (.inl a))
 ·rw[wA] at a;exact zz.2 (.inl a)
variable{P:Program}{n:Sz}{W:World}{q:Md}{Q:Exit->St->List kM->Prop}{σ:St}{L:List kM}{Z:Array Oper}{rest:List Oper}
 {dst:Option Nat} {ty:TypeId} {pos:String} {lf:Array Edge} {gd:Option (Nat×Bool)}
omit [LawfulBEq κ] [BEq κ] in
theorem TG{x:Operand}{t k e:Nat}[g:wz P t k e]{L':Nat->List kM}(j:ev σ x=.map (some gm))(hp:∀gi,oe L (nG gm ke ve m) (wY gm gi ke ve m [] none) (L' gi))(o:lP Z σ ⟨dst,.range t x,ty,pos,lf,gd⟩=true) (p:l8 n dst=true)(h:∀gi,SL P n W .plain Z Q rest (l6 σ dst (.pointer (some ⟨gi,0,none⟩))) (L' gi)):SL P n W .plain Z Q (⟨dst,.range t x,ty,pos,lf,gd⟩::rest) σ L:=by
 refine uC o p λw d=>?_;obtain⟨l,c,b,f⟩:=d.Dh (hp 0).mem;refine⟨_,w.alloc (.mapIter (some gm) c #[] c),L' w.heap.size,?_,?_,h w.heap.size⟩;·simp only[execOp,j,Instr.range,aB,aL g.ul,au,Bp b,aH,ie]
 ·have q:gm<w.heap.size:=(aO.1 b).1;refine d.put (hp w.heap.size) rfl rfl rfl Zs (λk a _=>dx w _ a) ⟨λk a=>?_,Cg.2 ⟨l,c,c,#[],?_,dU w _,⟨f,f.lt,aA _,λi e x _ _=>by simp⟩,by simp⟩⟩ (λk a=>?_)
  ·rw[zz] at a;rcases a with rfl|rfl
   ·simp;omega
   ·simp
  ·exact(dx w _ q).trans b
  ·rw[zz] at a;rcases a with rfl|rfl
   ·exact .inl (wA.2 rfl)
   ·exact .inr (aA _)
omit [LawfulBEq κ] [BEq κ] in
theorem TH{x:Operand}{L':List κ->Option κ->List kM}(q:ev σ x=.pointer (some ⟨gi,0,none⟩))(hp:∀C D,oe L (wY gm gi ke ve m oh cur) (wY gm gi ke ve m C D) (L' C D))(J:lP Z σ ⟨dst,.next x false,ty,pos,lf,gd⟩=true) (K:l8 n dst=true)(M:(∀y∈m,y.1∈oh)->SL P n W .plain Z Q rest (l6 σ dst (.tuple #[.bool false])) L)(N:∀y,y∈m->y.1∉oh->SL P n W .plain Z Q rest (l6 σ dst (.tuple #[.bool true,ke y.1,ve y.2])) (L' (y.1::oh) (some y.1))):SL P n W .plain Z Q (⟨dst,.next x false,ty,pos,lf,gd⟩::rest) σ L:=by
 refine uC J K λw j=>?_;have o:=(hp [] none).mem;obtain⟨l,c,s,seen,r,u,b,h4⟩:=Cg.1 (j.ok _ o).holds;have O:=(j.ok _ o).lt;rcases run_next_at (P:=P) w ty gi gm s c seen l.toArray c u r (λx q=>b.ru x (by simpa using q)) b.le with⟨R,v⟩|⟨e,p,t,E,v⟩
 ·refine⟨_,w,L,?_,j,M λy g=>?_⟩;·simp only[execOp,q,aB,v,au,aH]
  ·obtain⟨i,f⟩:=cL g;obtain⟨e,p,_,_⟩:=b.zy.at f;refine(b.oh i e y p f).1 ?_;cases S:seen.contains e.born with
   |true=>rfl
   |false=>(have:leftOf l.toArray seen=#[]:=fG R;have o:e∈leftOf l.toArray seen:=by unfold leftOf;rw[jr];exact⟨by simpa using ar p,by rw[S];rfl⟩);rw[this] at o;simp at o
 ·have F:e∈l/\seen.contains e.born=false:=by unfold leftOf at p;simpa using p
  obtain⟨i,f⟩:=cL F.1;obtain⟨y,g,d,T⟩:=b.zy.IT f;have V:y.1∉oh:=λh=>by have:=(b.oh i e y f g).2 h;rw[F.2] at this;cases this
  have X:Mem W t L:=by rcases E with rfl|rfl;exact j;exact j.drew _
  have z:t.heap=w.heap:=by rcases E with rfl|rfl<;>rfl
  refine⟨_,t.putObj gi (.mapIter (some gm) s (seen.push e.born) c),_,?_,?_,N y (ar g) V⟩;·simp only[execOp,q,aB,v,au,aH,d,T];rfl
  ·have Y:gm≠gi:=λe=>by rw[e,u] at r;cases r
   have kF:gi<t.heap.size:=by rw[z];exact(aO.1 u).1
   refine X.put (hp _ _) rfl rfl rfl Zs (λk _ d=>dC (λe=>d (zz.2 (.inr e)))) ⟨λk d=>by simpa[z] using O k (by rw[zz] at d⊢;exact d),Cg.2
    ⟨l,c,s,seen.push e.born,?_,dH kF,⟨b.zy,b.ru,b.le,λA e' G H I=>?_⟩,λa ha=>?_⟩⟩ (λk d=>.inl (by rw[zz] at d⊢;exact d))
   ·rw[dC Y,z];exact r
   ·have B:=b.oh A e' G H I;rw[il] at B⊢;simp only[bz,Array.mem_push,aJ] at B⊢;rw[B];have kG:e'.born=e.born↔A=i:=Bm (·.born) b.zy.ap H f;have kH:G.1=y.1↔A=i:=Bm (·.1) b.zy.nd I g;rw[kG,kH];exact Or.comm
   ·cases ha;exact⟨i,e,y,f,g,rfl,by simp⟩
omit [LawfulBEq κ] [BEq κ] in
theorem TI{x:Operand}{y:κ×ν}(p:ev σ x=.pointer (some ⟨gi,0,none⟩))(r:wY gm gi ke ve m oh (some y.1)∈L)(t:y∈m)(u:q.pb=true) (v:lP Z σ ⟨dst,.entry x,ty,pos,lf,gd⟩=true) (z:l8 n dst=true)(h:SL P n W q Z Q rest (l6 σ dst (.tuple #[ke y.1,ve y.2])) L):SL P n W q Z Q (⟨dst,.entry x,ty,pos,lf,gd⟩::rest) σ L:=by
 refine tc u Zb v z λw f=>⟨_,w,L,?_,f,λ_=>Sub.refl,.inr id,h⟩;obtain⟨l,c,s,seen,A,B,b,C⟩:=Cg.1 (f.ok _ r).holds;obtain⟨i,e,x0,g,d,D,E⟩:=C _ rfl;have F:x0=y:=by obtain⟨j,a⟩:=cL t;have:=(Bm (·.1) b.zy.nd d a).1 D;subst this;rw[d] at a;cases a;rfl
 subst F;obtain⟨e',k,G,H⟩:=b.zy.at d;rw[g] at k;cases k;have hf:l.toArray.find? (λx=>x.born==e.born)=some e:=by
  rw[List.find?_toArray];rw[iy];obtain⟨o,rfl⟩:=ax.1 g;refine⟨by simp,i,o,rfl,λj a=>?_⟩;have:=Bm (·.born) b.zy.ap (ad (show j<l.length by omega)) (ad o);have I:¬l[j].born=l[i].born:=λe=>by have:=this.1 e;omega
  simpa using I
 simp only[execOp,p,Instr.entry,aB,getObj,Sem.run,A,B,Result.andThen,E,i9,aM,bH,hf,G,H];rfl
theorem TJ{x y:Operand}{t k e:Nat}[B:wz P t k e][M:wX P k ke]{a:κ}{L':List kM}(d:ev σ x=.map (some gm))(C:ev σ y=ke a)(hp:oe L (wY gm gi ke ve m oh cur) (wY gm gi ke ve (Aq m a) oh none) L')(D:q.pb=true) (E:q.nP L->q.nP L') (F:lP Z σ ⟨dst,.call {callee:=.builtin .delete,args:=#[x,y],argTypes:=#[t,k]},ty,pos,lf,gd⟩=true) (G:l8 n dst=true)
 (h:SL P n W q Z Q rest (l6 σ dst (.tuple #[])) L'):SL P n W q Z Q (⟨dst,.call {callee:=.builtin .delete,args:=#[x,y],argTypes:=#[t,k]},ty,pos,lf,gd⟩::rest) σ L:=by
 refine tc D Zb F G λw g=>?_;obtain⟨l,c,s,seen,o,p,f,N⟩:=Cg.1 (g.ok _ hp.mem).holds;have H:=(g.ok _ hp.mem).lt;have I:gi≠gm:=λe=>by rw[e,o] at p;cases p
 obtain⟨l',J,v,z⟩:=f.zy.TB (ty:=ty) B.ul o a;refine⟨_,w.putObj gm (.map l'.toArray c),L',?_,?_,λh=>(by cases h),.inr E,h⟩;·simp only[execOp,resolve,bY,bk,cu,d,C,aB,aH,au,invoke,builtin,J]
 ·refine g.put hp rfl rfl rfl Zs (λk _ b=>dC (λe=>b (zz.2 (.inl e)))) ⟨λk b=>by simpa using H k (by rw[zz] at b⊢;exact b),Cg.2
   ⟨l',c,s,seen,dH (aO.1 o).1,(dC I).trans p,⟨v,λe r=>?_,f.le,λi e x r d=>?_⟩,by simp⟩⟩ (λk b=>.inl (by rw[zz] at b⊢;exact b))
  ·obtain⟨i,A⟩:=cL r;obtain⟨x,d,_,_⟩:=v.IT A;obtain⟨j,u,_⟩:=z i e x A d;exact f.ru e (ar u)
  ·obtain⟨j,u,K⟩:=z i e x r d;exact f.oh j e x u K
end
section
variable{P:Program}{n:Sz}{W:World}{Q:Exit->St->List kM->Prop}{σ:St}{L:List kM}{Z:Array Oper}
theorem yL.mL{l:List Oper}{L':List kM}(b:∀w,Mem W w L->Mem W w L')(h:yL P n W Z Q l σ L'):yL P n W Z Q l σ L:=λa w c d=>h a w c (b w d)
theorem rN{o:Oper}{rest:List Oper}(hp:x6 o=true)(h:SL P n W .plain Z (CN (λσ L=>yL P n W Z Q rest σ L) Q) [o] σ L)(b:∀σ L,¬Q .outgrown σ L:=by exact λ_ _ h=>h):yL P n W Z Q (o::rest) σ L:=by intro a w c d;refine Gf (ro:=none) (pre:=[o]) (rest:=rest) (K:=λa w=>∃σ L,n9 n σ a/\Mem W w L/\yL P n W Z Q rest σ L) (λa w ⟨σ,L,f,g,i⟩=>i a w f g) (EQ b) a w (by rw[i7,hp];rfl) ?_;have:=h.run a w c d;refine cast ?_ this;congr 1;funext e a w;cases e<;>rfl
theorem Gl{id:Nat}(h:yL P n W Z Q Z.toList σ L):SC P n W (.region id Z false) Q σ L:=.mk λa w b c=>(jE (n:=0)).1 (wpIn_region_list (h a w b c))
end
theorem As{P:Program}{f:FuncId}{fn:Func}{c:Code}(hf:P.funcs[f]? =some fn)(a:fn.body=some c:=by rfl)(b:(fn.name== "runtime.NumGoroutine")=false:=by kernel_rfl):∀args w,(callFunc f args).run P w=.ok (.enter f args) w:=λargs w=>by
 have d:¬fn.name= "runtime.NumGoroutine":=by simpa using b
 simp[callFunc,hf,a,d]
theorem Gm{W:World}{L:List kM}{H:kM}(a:fz H∈L):oq W L H.p:=nS a (λ_ h=>h) (le_refl H)
theorem oq.kn{W:World}{L:List kM}{H:kM}{p:World->Prop}(h:oq W L H.p)(hp:H.kn p):oq W L p:=λw a=>hp w (h w a)
theorem Bq{W:World}{H a:kM}{L b es:List kM}(hl:H.le a)(c:(es++fz a::L).Sublist b):∀w,Mem W w b->Mem W w (es++fz H::L):=λ_ d=>(d.sublist c).fz hl ⟨es,L,rfl,rfl⟩
section
variable{κ ν:Type}[BEq κ][LawfulBEq κ]{ke:κ->Value}{ve:ν->Value}{m:List (κ×ν)}{l:List MapEntry}{c:Nat}
@[irreducible] def At(g:Nat)(l:List MapEntry)(c:Nat):kM:=⟨(·=g),λw=>w.heap[g]? =some (.map l.toArray c),λ_ _ h hp=>(h g rfl).trans hp⟩
theorem Gn{g k:Nat}:(At g l c).S k↔k=g:=by unfold At;exact gU
theorem IU{g:Nat}{w:World}:(At g l c).p w↔w.heap[g]? =some (.map l.toArray c):=by unfold At;exact gU
omit [LawfulBEq κ] [BEq κ] in
theorem Mem.TK{W w:World}{L L':List kM}{g:Nat}(e:tv ke ve m l c)(hp:oe L (At g l c) (nG g ke ve m) L')(b:Mem W w L):Mem W w L':=by have d:=b.ok _ hp.mem;refine b.put hp rfl rfl rfl (aA _) (λ_ _ _=>rfl) ⟨λk a=>d.lt k (by rw[wA] at a;rw[Gn];exact a),Ar.2 ⟨l,c,IU.1 d.holds,e⟩⟩ (λk a=>.inl (by rw[wA] at a;rw[Gn];exact a))
omit [LawfulBEq κ] [BEq κ] in
theorem Mem.IV{W w:World}{L:List kM}{g:Nat}{L':List MapEntry->Nat->List kM}(hp:∀l c,oe L (nG g ke ve m) (At g l c) (L' l c))(b:Mem W w L):∃l c,tv ke ve m l c/\Mem W w (L' l c):=by have d:=b.ok _ (hp [] 0).mem;obtain⟨l,c,e,f⟩:=Ar.1 d.holds;exact⟨l,c,f,b.put (hp l c) rfl rfl rfl (aA _) (λ_ _ _=>rfl) ⟨λk a=>d.lt k (by rw[Gn] at a;rw[wA];exact a),IU.2 e⟩ (λk a=>.inl (by rw[Gn] at a;rw[wA];exact a))⟩
omit [LawfulBEq κ] [BEq κ] in
theorem m3.IV{P:Program}{W:World}{f:FuncId}{args:Array Value}{L:List kM}{R:Value->List kM->Prop}{g:Nat}{L':List MapEntry->Nat->List kM}(hp:∀l c,oe L (nG g ke ve m) (At g l c) (L' l c))(a:∀args w,(callFunc f args).run P w=.ok (.enter f args) w) (h:∀l c,tv ke ve m l c->m3 P W f args (L' l c) R):m3 P W f args L R:=.of a λw b=>by obtain⟨l,c,d,e⟩:=b.IV hp;exact(h l c d).out w e
@[irreducible] def xx(gi gm c:Nat)(seen:Array Nat):kM:=⟨(·=gi),λw=>w.heap[gi]? =some (.mapIter (some gm) c seen c),λ_ _ h hp=>(h gi rfl).trans hp⟩
theorem Gp{gi gm k:Nat}{seen:Array Nat}:(xx gi gm c seen).S k↔k=gi:=by unfold xx;exact gU
theorem Gq{gi gm:Nat}{seen:Array Nat}{w:World}:(xx gi gm c seen).p w↔w.heap[gi]? =some (.mapIter (some gm) c seen c):=by unfold xx;exact gU
variable{P:Program}{n:Sz}{W:World}{q:Md}{Q:Exit->St->List kM->Prop}{σ:St}{L:List kM}{Z:Array Oper}{rest:List Oper}
 {dst:Option Nat} {ty:TypeId} {pos:String} {lf:Array Edge} {gd:Option (Nat×Bool)} {gm gi:Nat} {seen:Array Nat}
theorem TL{x:Operand}{t k e:Nat}[f:wz P t k e](b:ev σ x=.map (some gm))(a:oq W L (λw=>w.heap[gm]? =some (.map l.toArray c)))(g:lP Z σ ⟨dst,.range t x,ty,pos,lf,gd⟩=true) (i:l8 n dst=true)(h:∀gi,SL P n W .plain Z Q rest (l6 σ dst (.pointer (some ⟨gi,0,none⟩))) (xx gi gm c #[]::L)):SL P n W .plain Z Q (⟨dst,.range t x,ty,pos,lf,gd⟩::rest) σ L:=by
 refine uC g i λw d=>?_;have j:=a w d;refine⟨_,w.alloc (.mapIter (some gm) c #[] c),_,?_,?_,h w.heap.size⟩;·simp only[execOp,b,Instr.range,aB,aL f.ul,au,Bp j,aH,ie]
 ·refine d.grow (es:=[xx w.heap.size gm c #[]]) rfl rfl rfl Zs (λk a=>dx w _ a) ?_ ?_ Zs;·intro x b;simp only[aE] at b;subst b;exact⟨λk a=>by rw[Gp] at a;subst a;simp,Gq.2 (dU w _)⟩
  ·intro x b k a;simp only[aE] at b;subst b;rw[Gp] at a;omega
theorem TM{x:Operand}{L':Array Nat->List kM}(d:ev σ x=.pointer (some ⟨gi,0,none⟩))(f:oq W L (λw=>w.heap[gm]? =some (.map l.toArray c)))(t:∀e∈l,e.born<c)(hp:∀m,oe L (xx gi gm c seen) (xx gi gm c m) (L' m))(u:lP Z σ ⟨dst,.next x false,ty,pos,lf,gd⟩=true) (v:l8 n dst=true)(y:(∀e∈l,e.born∈seen)->SL P n W .plain Z Q rest (l6 σ dst (.tuple #[.bool false])) L)(z:∀e,e∈l->e.born∉seen->SL P n W .plain Z Q rest (l6 σ dst (.tuple #[.bool true,e.key,e.val])) (L' (seen.push e.born))):SL P n W .plain Z Q (⟨dst,.next x false,ty,pos,lf,gd⟩::rest) σ L:=by
 refine uC u v λw b=>?_;have A:=b.ok _ (hp #[]).mem;have h:=Gq.1 A.holds;have B:=f w b;rcases run_next_at (P:=P) w ty gi gm c c seen l.toArray c h B (λx d=>t x (by simpa using d)) (aA _) with⟨C,i⟩|⟨e,a,j,o,i⟩
 ·refine⟨_,w,L,?_,b,y λe a=>?_⟩;·simp only[execOp,d,aB,i,au,aH]
  ·by_cases p:e.born∈seen;·exact p
   ·(have:leftOf l.toArray seen=#[]:=fG C;have q:e∈leftOf l.toArray seen:=by unfold leftOf;rw[jr];exact⟨by simpa using a,by simpa[il] using p⟩);rw[this] at q;simp at q
 ·have r:e∈l/\e.born∉seen:=by unfold leftOf at a;rw[jW,jr] at a;exact⟨by simpa using a.1,by simpa[il] using a.2⟩
  have D:Mem W j L:=by rcases o with rfl|rfl;exact b;exact b.drew _
  have s:j.heap=w.heap:=by rcases o with rfl|rfl<;>rfl
  refine⟨_,j.putObj gi (.mapIter (some gm) c (seen.push e.born) c),_,?_,?_,z e r.1 r.2⟩;·simp only[execOp,d,aB,i,au,aH];rfl
  ·refine D.Gk (hp _) (g:=gi) (by rw[s];exact h) (Gp.2 rfl) (λk f=>by rw[Gp] at f⊢;exact f) (Gq.2 (dH (by rw[s];exact(aO.1 h).1)))
theorem TN{x:Operand}{e:MapEntry}(b:ev σ x=.pointer (some ⟨gi,0,none⟩))(d:oq W L (λw=>w.heap[gm]? =some (.map l.toArray c)))(f:(l.map (·.born)).Nodup)(g:e∈l)(i:xx gi gm c (seen.push e.born)∈L)(j:q.pb=true) (k:lP Z σ ⟨dst,.entry x,ty,pos,lf,gd⟩=true) (m:l8 n dst=true)(h:SL P n W q Z Q rest (l6 σ dst (.tuple #[e.key,e.val])) L):SL P n W q Z Q (⟨dst,.entry x,ty,pos,lf,gd⟩::rest) σ L:=by refine tc j Zb k m λw a=>⟨_,w,L,?_,a,λ_=>Sub.refl,.inr id,h⟩;have o:=Gq.1 (a.ok _ i).holds;have p:=run_entry_at (P:=P) w gi gm c seen l.toArray c e o (d w a) (by simpa using g) (by simpa using f);simp only[execOp,b,aB,p,au,aH]
end
def xy(Z:Array Oper):List (Bool×Nat)->Array Bool->Bool
 |[],listed=>(Region.ready .any Z listed).isEmpty
 |(true,i)::r,listed=>Nat.ble (vC Z i) 1&&(Region.ready .any Z listed).contains i&&Region.free .any Z listed i&&xy Z r (listed.setIfInBounds i true)
 |(false,i)::r,listed=>(match Region.ready .any Z listed with|[j]=>j==i|_=>false)&&xy Z r (listed.setIfInBounds i true)
section
variable{P:Program}{n:Sz}{W:World}{Q:Exit->St->List kM->Prop}{σ:St}{L Ls:List kM}{Z:Array Oper}
def SF(P:Program)(n:Sz)(W:World)(Ls:List kM)(Z:Array Oper)(Q:Exit->St->List kM->Prop)(l:List (Bool×Nat))(σ:St)(L:List kM):Prop:=
 ∀listed a w,xy Z l listed=true->Region.noSelect Z=true->(∀c σ L,¬Q (.panic c) σ L)->n9 n σ a->Mem W w L->Sub Ls L->
  uU P Z (λw=>Mem W w Ls) (λw=>Mem W w Ls) (nQ n W Q) l.length listed a w
theorem Br{id:Nat}(Ls:List kM)(l:List (Bool×Nat))(b:P.follows .mixedOrders=true)(d:Region.noSelect Z=true)(hp:xy Z l (Array.replicate Z.size false)=true)(lL:l.length=Z.size) (e:∀c σ L,¬Q (.panic c) σ L) (f:Sub Ls L) (h:SF P n W Ls Z Q l σ L):SC P n W (.region id Z true) Q σ L:=SC.mk λa w g i=>by refine jZ b (FN (D:=λw=>Mem W w Ls) (C:=λw=>Mem W w Ls) _ _ _ _ ?_);have:=h _ a _ hp d e g (i.drew (w.drawn+1)) f;rw[lL] at this;exact this
theorem zA(h:Q .normal σ L):SF P n W Ls Z Q [] σ L:=λ_ _ _ hp _ _ a b _=>⟨by simpa[xy] using hp,σ,L,a,b,h⟩
def MK(P:Program)(n:Sz)(W:World)(Ls:List kM)(Z:Array Oper)(Q:Exit->St->List kM->Prop)(r:List (Bool×Nat))(L:List kM):Exit->St->List kM->Prop
 |.normal,σ,_=>SF P n W Ls Z Q r σ L
 |_,_,_=>False
theorem SL.IW{l:List Oper}(h:SL P n W (.sched Ls) Z Q l σ L):AR P n W Ls Z Q l σ L:=by unfold SL at h;exact h
theorem ML:∀(l:List Nat) (r:List (Bool×Nat)) (σ:St),(l.all λi=>((Z[i]?).map λo=>decide (o7 o.op<=1)).getD false)=true->AR P n W [] Z (MK P n W Ls Z Q r L) (l.filterMap (Z[·]?)) σ Ls->SF P n W Ls Z Q (l.map (λi=>(true,i))++r) σ L
 |[],_,_,_,h=>h
 |i::l,r,σ,k,h=>by
  rw[aK] at k;have f:=k i (ay ..);cases d:Z[i]? with
  |none=>rw[d] at f;cases f
  |some o=>
   rw[d] at f;have x:o7 o.op<=1:=by simpa using f
   have y:(i::l).filterMap (Z[·]?)=o::l.filterMap (Z[·]?):=by simp[d]
   rw[y] at h;obtain⟨v,z,A,B⟩:=h.1 x;have C:=ML l r _ (by rw[aK];exact λj D=>k j (aI _ D)) B;intro listed a w hp q s m b g;simp only[bk,bQ,xy,aF] at hp;obtain⟨⟨⟨t,E⟩,hf⟩,F⟩:=hp;have G:∀c a w,¬nQ n W Q (.panic c) a w:=λc a w ⟨σ,L,_,_,h⟩=>s c σ L h;have u:=m.wanted Z o;have H:uA P Z (λw=>Mem W w Ls) o v a:=by(rcases A with⟨p,e⟩|⟨p,e⟩;·(refine .inl ⟨by rw[u];exact p,λw b=>?_⟩;rw[m.eval];split at e;·exact e w);·exact e w b);·exact .inr ⟨by rw[u];exact p,e⟩
   have I:vC Z i≠3:=by intro h;rw[h] at t;cases t
   exact Ii d (eZ q) G I (λ_=>True) (λ_ _ _ _ _ _=>⟨trivial,λ_ h _=>h⟩) _ listed a w trivial (g _ _ b) (g _ _ b) (λ_=>g _ _ b) (gr d hf) (by simpa using E) H
    (C _ _ w F q s (m.sW z v) b g)
theorem wZ(l:List Nat)(r:List (Bool×Nat))(a:(l.all λi=>((Z[i]?).map λo=>decide (o7 o.op<=1)).getD false)=true)(h:SL P n W (.sched []) Z (MK P n W Ls Z Q r L) (l.filterMap (Z[·]?)) σ Ls):SF P n W Ls Z Q (l.map (λi=>(true,i))++r) σ L:=ML l r σ a h.IW
def IX(P:Program)(n:Sz)(W:World)(Ls:List kM)(Z:Array Oper)(Q:Exit->St->List kM->Prop)(r:List (Bool×Nat)):Exit->St->List kM->Prop
 |.normal,σ,L=>Sub Ls L/\SF P n W Ls Z Q r σ L
 |e,σ,L=>Q e σ L
theorem qx{i:Nat}{o:Oper}{r:List (Bool×Nat)}(p:Z[i]? =some o)(h:SL P n W .plain Z (IX P n W Ls Z Q r) [o] σ L):SF P n W Ls Z Q ((false,i)::r) σ L:=by
 intro listed a w hp q s t u F;simp only[xy,aF] at hp;obtain⟨d,v⟩:=hp;have g:Region.ready .any Z listed=[i]:=by
  split at d
  ·rename_i j c;have A:j=i:=by simpa using d
   subst A;exact c
  ·cases d
 refine⟨λh=>(by rw[g] at h;cases h),λj c=>?_⟩;rw[g] at c;have c:j=i:=by simpa using c
 subst c;have b:=h.run a w t u;unfold wpList at b;unfold wpOp;rw[p];dsimp only;have k:∀e,e≠ .normal->∀a w,nQ n W (IX P n W Ls Z Q r) e a w->nQ n W Q e a w:=λe B a w ⟨l,L',x,y,z⟩=>by cases e<;>first|exact(B rfl).elim|exact⟨l,L',x,y,z⟩
 have m:∀a w,wpList P Z (nQ n W (IX P n W Ls Z Q r)) [] a w->Mem W w Ls/\(still Z (listed.setIfInBounds j true)=true->Mem W w Ls)/\uU P Z (λw=>Mem W w Ls) (λw=>Mem W w Ls) (nQ n W Q) r.length (listed.setIfInBounds j true) a w:=λa w ⟨l,L',x,y,z1,C⟩=>⟨z1 _ _ y,λ_=>z1 _ _ y,C _ _ _ v q s x y z1⟩;split
 ·rename_i f;rw[aj f] at b;rcases b with b|⟨b,D,w',E⟩
  ·exact .inl (FQ k (gM m b))
  ·exact .inr ⟨b,D,w',k _ Zs _ _ E⟩
 ·rename_i f;rw[ai f] at b;exact m _ _ b
end
theorem TO{F:Fence}{n:Nat}{P:Program}{o:Oper}{a:Act}{next h:Act->World->Prop}{Q g:Exit->Act->World->Prop}(f:∀a w,next a w->h a w)(hp:∀c a w,Q (.panic c) a w->g (.panic c) a w) (hl:LetsOut Q->LetsOut g) {r:Result Next} (b:o.uponIn F n P a next Q r):o.uponIn F n P a h g r:=by
 cases r with
 |ok x w'=>
  cases x<;>simp only[Oper.uponIn] at b⊢<;>
   first
    |exact f _ _ b
    |exact⟨b.1,CallsIn.mono b.2 (λe i d=>by cases e<;>first|exact f _ _ d|exact hp _ _ _ d|exact hl d)⟩
    |exact⟨b.1,RowsIn.mono b.2 (λ_ _ d=>f _ _ d)⟩
    |exact⟨b.1,RoundIn.mono b.2 (λe i d=>by cases e<;>first|exact f _ _ d|exact hp _ _ _ d|exact hl d)⟩
 |halt x w'=>cases x<;>simp only[Oper.uponIn] at b⊢<;>first|exact hp _ _ _ b|exact hl b|exact b
section
variable{P:Program}{n:Sz}{W:World}{Q:Exit->St->List kM->Prop}{σ:St}{L:List kM}{Z:Array Oper}
def zB(P:Program)(n:Sz)(W:World)(Z:Array Oper)(Q:Exit->St->List kM->Prop)(l:List (Bool×Nat))(σ:St)(L:List kM):Prop:=
 ∀listed a w,xy Z l listed=true->Region.noSelect Z=true->(∀c σ L,¬Q (.panic c) σ L)->n9 n σ a->Mem W w L->
  wpAnyIn (Fr none) 0 P .any Z (nQ n W Q) l.length listed a w
theorem TP{id:Nat}(l:List (Bool×Nat))(b:P.follows .mixedOrders=true)(d:Region.noSelect Z=true)(hp:xy Z l (Array.replicate Z.size false)=true)(lL:l.length=Z.size) (e:∀c σ L,¬Q (.panic c) σ L) (h:zB P n W Z Q l σ L):SC P n W (.region id Z true) Q σ L:=SC.mk λa w f g=>(jE (n:=0)).1 (wpIn_region_any b (by have:=h _ a _ hp d e f (g.drew (w.drawn+1));rw[lL] at this;exact this))
theorem Gr(h:Q .normal σ L):zB P n W Z Q [] σ L:=λ_ _ _ hp _ _ a b=>⟨by simpa[xy] using hp,σ,L,a,b,h⟩
def IY(Z:Array Oper)(i:Nat):Bool:=match Z[i]? with
 |some o=>(match o.op with
  |.call _=>false
  |_=>decide (o7 o.op=0))
 |none=>false
def MM(P:Program)(n:Sz)(W:World)(Z:Array Oper)(Q:Exit->St->List kM->Prop)(r:List (Bool×Nat))(L:List kM):Exit->St->List kM->Prop
 |.normal,σ,_=>zB P n W Z Q r σ L
 |_,_,_=>False
theorem MN:∀(l:List Nat) (r:List (Bool×Nat)) (σ:St),(l.all (IY Z))=true->AR P n W [] Z (MM P n W Z Q r L) (l.filterMap (Z[·]?)) σ []->zB P n W Z Q (l.map (λi=>(true,i))++r) σ L
 |[],_,_,_,h=>h
 |i::l,r,σ,f,h=>by
  rw[aK] at f;have b:=f i (ay ..);unfold IY at b;cases d:Z[i]? with
  |none=>rw[d] at b;cases b
  |some o=>
   rw[d] at b;have s:o7 o.op=0:=by
    dsimp only at b;split at b;·cases b
    ·simpa using b
   have t:∀(w:World) (ρ:Operand->Value),o.about P w ρ=none:=by
    intro w ρ;dsimp only at b;unfold Oper.about;split at b;·cases b
    ·rename_i u;cases x:o.op<;>first|rfl|exact absurd x (u _)
   have y:(i::l).filterMap (Z[·]?)=o::l.filterMap (Z[·]?):=by simp[d]
   rw[y] at h;obtain⟨v,z,A,B⟩:=h.1 Zo;have C:=MN l r _ (by rw[aK];exact λj D=>f j (aI _ D)) B;intro listed a w hp m p g E;simp only[bk,bQ,xy,aF] at hp;obtain⟨⟨⟨M,G⟩,hf⟩,H⟩:=hp;have I:∀c a w,¬nQ n W Q (.panic c) a w:=λc a w ⟨σ,L,_,_,h⟩=>p c σ L h;have q:=g.wanted Z o;have J:Yields P Z o v a:=by(rcases A with⟨k,e⟩|⟨k,e⟩;·refine .inl ⟨by rw[q];exact k,λw=>?_⟩;rw[g.eval];rw[aj s] at e;exact e w);·exact .inr ⟨by rw[q];exact k,e⟩
   exact wpAnyIn_take (F:=Fr none) rfl d m hf G (λc N w' K=>absurd K (I _ _ _)) ⟨J,λw=>t w _⟩ (C _ _ w H m p (g.sW z v) E)
theorem x7(l:List Nat)(r:List (Bool×Nat))(a:(l.all (IY Z))=true)(h:SL P n W (.sched []) Z (MM P n W Z Q r L) (l.filterMap (Z[·]?)) σ []):zB P n W Z Q (l.map (λi=>(true,i))++r) σ L:=MN l r σ a h.IW
def Di(P:Program)(n:Sz)(W:World)(Z:Array Oper)(Q:Exit->St->List kM->Prop)(r:List (Bool×Nat)):Exit->St->List kM->Prop
 |.normal,σ,L=>zB P n W Z Q r σ L
 |e,σ,L=>Q e σ L
theorem MO{i:Nat}{o:Oper}{r:List (Bool×Nat)}(q:Z[i]? =some o)(h:yL P n W Z (Di P n W Z Q r) [o] σ L):zB P n W Z Q ((false,i)::r) σ L:=by
 intro listed a w hp s t u v;simp only[xy,aF] at hp;obtain⟨f,A⟩:=hp;have k:Region.ready .any Z listed=[i]:=by
  split at f
  ·rename_i j d;have B:j=i:=by simpa using f
   subst B;exact d
  ·cases f
 refine⟨λh=>(by rw[k] at h;cases h),λj d=>?_⟩;rw[k] at d;have d:j=i:=by simpa using d
 subst d;have b:=h a w u v;unfold wpListIn at b;unfold wpOpIn;rw[q];dsimp only;have l:∀e,e≠ .normal->∀a w,nQ n W (Di P n W Z Q r) e a w->nQ n W Q e a w:=λe C a w ⟨m,L',x,y,z⟩=>by cases e<;>first|exact(C rfl).elim|exact⟨m,L',x,y,z⟩
 have p:∀a w,wpListIn (Fr none) 0 P Z (nQ n W (Di P n W Z Q r)) [] a w->wpAnyIn (Fr none) 0 P .any Z (nQ n W Q) r.length (listed.setIfInBounds j true) a w:=λa w ⟨m,L',x,y,z⟩=>z _ _ _ A s t x y;have hl:LetsOut (nQ n W (Di P n W Z Q r))->LetsOut (nQ n W Q):=λ⟨a,w,h⟩=>⟨a,w,l _ Zs _ _ h⟩;split;·rename_i g;rw[aj g] at b;exact⟨b.1,TO p (λc a w h=>l _ Zs _ _ h) hl b.2⟩
 ·rename_i g;rw[ai g] at b;exact⟨b.1,p _ _ b.2⟩
theorem E4{i:Nat}{o:Oper}{r:List (Bool×Nat)}(b:Z[i]? =some o)(c:x6 o=true)(h:SL P n W .plain Z (Di P n W Z Q r) [o] σ L)(d:∀σ L,¬Q .outgrown σ L:=by exact λ_ _ h=>h):zB P n W Z Q ((false,i)::r) σ L:=MO b λa w e f=>IN (l:=[o]) (EQ (Q:=Di P n W Z Q r) (λσ L h=>d σ L h)) (by simp[c]) (h.run a w e f)
theorem Dj{i:Nat}{o:Oper}{v:Value}{r:List (Bool×Nat)}(k:Z[i]? =some o)(l:∀(w:World) (ρ:Operand->Value),o.about P w ρ=none)(m:(lP Z σ o=true/\∀w,(execOp (ev σ) o).run P w=.ok (.value v) w)\/(lP Z σ o=false/\v=undef)) (p:l8 n o.dst=true)(h:zB P n W Z Q r (l6 σ o.dst v) L):zB P n W Z Q ((true,i)::r) σ L:=by
 intro listed a w hp f g b q;simp only[xy,aF] at hp;obtain⟨⟨⟨y,s⟩,hf⟩,t⟩:=hp;have j:=b.wanted Z o;have u:Yields P Z o v a:=by
  rcases m with⟨d,e⟩|⟨d,e⟩;·exact .inl ⟨by rw[j];exact d,λw=>by rw[b.eval];exact e w⟩
  ·exact .inr ⟨by rw[j];exact d,e⟩
 exact wpAnyIn_take (F:=Fr none) rfl k f hf s (λc z w' ⟨σ,L,_,_,x⟩=>absurd x (g c σ L)) ⟨u,λw=>l w _⟩ (h _ _ w t f g (b.sW p v) q)
theorem MP{x c:Operand}{t:TypeId}{s:kV}{i:Nat}{b:UInt8}[e:xj P t](f:ev σ x=sv s)(g:ev σ c=.int .i64 (i:Int))(a:s[i]? =some b){dst:Option Nat}{ty:TypeId}{pos:String}{lf:Array Edge}{gd:Option (Nat×Bool)}(w:World):(execOp (ev σ) ⟨dst,.index t x c,ty,pos,lf,gd⟩).run P w=.ok (.value (.int .u8 (b.toNat:Int))) w:=by
 have d:i<s.length:=(ax.1 a).1;have h:(⟨s.toArray⟩:ByteArray)[i]? =some b:=by rw[getElem?_pos _ _ (by show i<s.toArray.size;simpa using d)];rw[ad d] at a;cases a;rfl
 simp only[execOp,f,g];unfold sv;simp only[Instr.index,asIntOf,aB,aH,au,aL e.ul];rw[aj (show(0:Int)<=(i:Int) by omega),bC,h];simp only[aH,au]
theorem TQ{x lo a:Operand}{t:TypeId}{s:kV}{l h:Nat}[b:xj P t](c:ev σ x=sv s)(hl:ev σ lo=.int .i64 (l:Int))(d:ev σ a=.int .i64 (h:Int))(e:l<=h)(f:h<=s.length){dst:Option Nat}{ty:TypeId}{pos:String}{lf:Array Edge}{gd:Option (Nat×Bool)}(w:World):(execOp (ev σ) ⟨dst,.slice t x (some lo) (some a) none,ty,pos,lf,gd⟩).run P w=.ok (.value (sv ((s.take h).drop l))) w:=by
 have g:(⟨s.toArray⟩:ByteArray).extract l h=⟨((s.take h).drop l).toArray⟩:=by rw[fO];simp[eK,eE]
 simp only[execOp,c,aW,cO,hl,d];unfold sv;simp only[Instr.sliceAt,Instr.slice,aB,aL b.ul,au,cN,aM,bH,ByteArray.size,cf,LU e f,aH,g]
end
theorem TS{P:Program}{n:Nat}{W:World}{σ:St}{L:List kM}{Q:Exit->St->List kM->Prop}{QM:Nat->Exit->St->List kM->Prop}{c:Code}(h:uO P n W c (λe b L'=>match e with|.goto _=>False|e=>Q e b L') (λD e b L'=>match e with|.goto _=>False|e=>QM D e b L') σ L):uO P n W (.scope c) Q QM σ L:=λa w i j=>by
 refine wp_scope_straight (eP (h a w i j) ?_);rintro e k w' (⟨b,L',f,g,d⟩|⟨D,b,L',f,g,d⟩)
 ·cases e;case goto=>exact d.elim
  all_goals exact .inl ⟨b,L',f,g,d⟩
 ·cases e;case goto=>exact d.elim
  all_goals exact .inr ⟨D,b,L',f,g,d⟩
theorem Gs{P:Program}{Z:Array Oper}{Q:Exit->Act->World->Prop}{ro:Option Nat}(d:¬LetsOut Q)(e:Z.toList.all x6=true):∀(c:Nat) (listed:Array Bool) (a:Act) (w:World),wpAny P .any Z Q c listed a w->wpAnyIn (Fr ro) 0 P .any Z Q c listed a w
 |0,_,_,_,h=>h
 |c+1,listed,a,w,h=>by
  refine⟨h.1,λi k=>?_⟩;have b:=h.2 i k;unfold wpOp at b;unfold wpOpIn;cases g:Z[i]? with
  |none=>rw[g] at b;exact Gs d e c _ a w b
  |some o=>
   rw[g] at b;dsimp only at b⊢;have hp:x6 o=true:=by rw[aK] at e;exact e o (jW.2 (fV g))
   split
   ·rename_i j;rw[aj j] at b;rcases b with b|b
    ·refine⟨λf _=>EP ro f,?_⟩;rw[j4 _ _ _ (Mv hp)];exact Mw (λa w h=>Gs d e c _ a w h) (λ_ _ _ h=>h) (λh=>absurd h d) b
    ·exact absurd b.2 d
   ·rename_i j;rw[ai j] at b;exact⟨λf _=>EP ro f,Gs d e c _ _ w b⟩
section
variable{P:Program}{n:Sz}{W:World}{Q:Exit->St->List kM->Prop}{σ:St}{L:List kM}{Z:Array Oper}{l:Nat}
theorem MQ{id:Nat}(Ls:List kM)(b:lC)(d:P.follows .mixedOrders=true)(e:Region.noSelect Z=true)(hp:sK Z false b (Array.replicate Z.size false)=true)(lL:b.len=Z.size) (f:∀c σ L,¬Q (.panic c) σ L) (g:Sub Ls L) (h:uB P n W Ls Z Q b σ L) (i:Z.toList.all x6=true:=by rfl) (j:∀σ L,¬Q .outgrown σ L:=by exact λ_ _ h=>h):ub P n W l (.region id Z true) Q σ L:=λa w k m=>by refine wpIn_region_any d (Gs (EQ j) i _ _ _ _ (FN (D:=λw=>Mem W w Ls) (C:=λw=>Mem W w L) _ _ _ _ ?_));have:=(BI e f b _ σ L a _ h k (m.drew (w.drawn+1)) g).1 hp;rw[lL] at this;exact this
theorem TT{id:Nat}(a:List Nat)(b:P.follows .mixedOrders=true)(d:Region.noSelect Z=true)(hp:sK Z false (lC.Z a .mZ) (Array.replicate Z.size false)=true)(lL:(lC.Z a .mZ).len=Z.size) (e:(a.all λi=>(Z[i]?).isSome)=true) (f:∀c σ L,¬Q (.panic c) σ L) (h:SL P n W (.sched []) Z (FP P n W [] Z Q .mZ) (a.filterMap (Z[·]?)) σ L) (g:Z.toList.all x6=true:=by rfl) (j:∀σ L,¬Q .outgrown σ L:=by exact λ_ _ h=>h):ub P n W l (.region id Z true) Q σ L:=MQ [] _ b d hp lL f Sub.nil (mM _ _ _ _ e h) g j
end
theorem TU(l:kV)(n:Nat):(((ByteArray.mk l.toArray).extract 0 n).data.map λb=>Value.int .u8 b.toNat)=((l.take n).flatMap mI).toArray:=by
 rw[Ac];have:(ByteArray.mk l.toArray).extract 0 n=⟨(l.take n).toArray⟩:=by apply ByteArray.ext;rw[eK];simp
 rw[this];simp
theorem MR(P:Program)(w:World)(s n:Nat)(l:kV):(Builtin.firstCells s n (sv l)).run P w=.ok ((l.take n).flatMap mI).toArray w:=by unfold sv;simp only[Builtin.firstCells,aH];rw[TU]
theorem MS(P:Program)(w:World)(l:kV):(Builtin.lenOf (sv l)).run P w=.ok l.length w:=by unfold sv;simp[Builtin.lenOf,ByteArray.size]
section
variable{P:Program}{n:Sz}{W:World}{q:Md}{Q:Exit->St->List kM->Prop}{σ:St}{L:List kM}{Z:Array Oper}{rest:List Oper}
 {dst:Option Nat} {ty:TypeId} {pos:String} {lf:Array Edge} {gd:Option (Nat×Bool)}
theorem IZ{x:Operand}{t len e s:Nat}[b:AV P t len e s]{a:Addr}(c:ev σ x=.pointer (some a))(d:lP Z σ ⟨dst,.slice t x none none none,ty,pos,lf,gd⟩=true) (f:l8 n dst=true)(H:SL P n W q Z Q rest (l6 σ dst (.slice (some a) len len)) L):SL P n W q Z Q (⟨dst,.slice t x none none none,ty,pos,lf,gd⟩::rest) σ L:=by
 refine uD _ rfl d f (λw m=>?_) H;obtain⟨i,g,h⟩:=b.sj;have j:(sizeOf e).run P w=.ok s w:=by simp[sizeOf,typeInfo,g,h]
 have k:(Instr.sliceBounds false len len none none none).run P w=.ok (0,len,len) w:=by simp[Instr.sliceBounds]
 have l:(if len=0 then a else a.add (0*s))=a:=by
  split;·rfl
  ·rw[jm,Mu]
 simp only[execOp,c,cO,Instr.sliceAt,Instr.sureAddr,aB,aL b.ul,au,k,j,aH,l,Nat.sub_zero]
theorem TV{x lo:Operand}{t len e s l:Nat}[b:AV P t len e s]{a:Addr}(c:ev σ x=.pointer (some a))(d:ev σ lo=.int .i64 (l:Int))(hl:l<len)(f:lP Z σ ⟨dst,.slice t x (some lo) none none,ty,pos,lf,gd⟩=true) (g:l8 n dst=true)(H:SL P n W q Z Q rest (l6 σ dst (.slice (some (a.add (l*s))) (len-l) (len-l))) L):SL P n W q Z Q (⟨dst,.slice t x (some lo) none none,ty,pos,lf,gd⟩::rest) σ L:=by
 refine uD _ rfl f g (λw o=>?_) H;obtain⟨i,h,j⟩:=b.sj;have k:(sizeOf e).run P w=.ok s w:=by simp[sizeOf,typeInfo,h,j]
 have m:(Instr.sliceBounds false len len (some (.int .i64 (l:Int))) none none).run P w=.ok (l,len,len) w:=by
  have:l<=len:=by omega
  simp[Instr.sliceBounds,Instr.sliceBound,asIntOf,this]
 simp only[execOp,c,d,cO,aW,Instr.sliceAt,Instr.sureAddr,aB,aL b.ul,au,m,k,aH,ai (show¬len=l from by omega)]
theorem TW{x lo a d:Operand}{t:TypeId}{A:Option Addr}{k c l h m:Nat}{e s b:Nat}[f:nV P t e s b](g:ev σ x=.slice A k c) (i:ev σ lo=.int .i64 (l:Int)) (j:ev σ a=.int .i64 (h:Int)) (o:ev σ d=.int .i64 (m:Int)) (p:l<=h) (r:h<=m) (u:m<=c)(v:lP Z σ ⟨dst,.slice t x (some lo) (some a) (some d),ty,pos,lf,gd⟩=true) (y:l8 n dst=true)(H:SL P n W q Z Q rest (l6 σ dst (.slice (qd A m l s) (h-l) (m-l))) L):SL P n W q Z Q (⟨dst,.slice t x (some lo) (some a) (some d),ty,pos,lf,gd⟩::rest) σ L:=by refine uD _ rfl v y (λw B=>?_) H;have z:=yD (P:=P) (t:=t) w;simp only[execOp,g,i,j,o,aW,Instr.sliceAt,Instr.slice,aB,aL f.ul,au,LD p r u,z,aH];rfl
theorem TX{t t':Nat}{e b:Nat}[i:nV P t e 1 b]{x y:Operand}{g o dl dc te:Nat}{str:kV}{cs:List Value}{L':List kM}(a:ev σ x=.slice (some ⟨g,o,none⟩) dl dc) (j:ev σ y=sv str) (F:o+dl<=cs.length)(hp:oe L (k4 g te cs) (k4 g te (qC cs o ((str.take dl).flatMap mI))) L')(k:q.pb=true) (l:q.nP L->q.nP L') (m:lP Z σ ⟨dst,.call {callee:=.builtin .copy,args:=#[x,y],argTypes:=#[t,t']},ty,pos,lf,gd⟩=true) (p:l8 n dst=true)
 (h:SL P n W q Z Q rest (l6 σ dst (.int .i64 ((str.take dl).length:Int))) L'):
 SL P n W q Z Q (⟨dst,.call {callee:=.builtin .copy,args:=#[x,y],argTypes:=#[t,t']},ty,pos,lf,gd⟩::rest) σ L:=by
 refine tc k Zb m p λw c=>⟨_,_,L',?_,c.setRow hp,λr=>(by cases r),.inr l,h⟩;have s:=yD (P:=P) (t:=t) w;have v:=AU c hp.mem;have z:str.take (Nat.min str.length dl)=str.take dl:=by rw[jN];show min (min str.length dl) str.length=min dl str.length;omega
 have lL:(str.take dl).length=Nat.min str.length dl:=by rw[aC];exact js _ _
 have A:∀u∈(str.take dl).flatMap mI,u.oneCell'=true:=λu B=>by obtain⟨x,_,a⟩:=cW.1 B;simp[mI] at a;subst a;rfl
 have C:((str.take dl).flatMap mI).length=(str.take dl).length:=xm _;have G:Nat.min str.length dl<=dl:=jt _ _;have d:=db P g o te ((str.take dl).flatMap mI) 0 cs.toArray w v (by rw[C,lL];simp;omega) A;have f:=MR P w 1 (Nat.min str.length dl) str;rw[z] at f;have D:=MS P w str;have E:(cs.toArray.toList.take (o+0)++(str.take dl).flatMap mI++cs.toArray.toList.drop (o+0+((str.take dl).flatMap mI).length)).toArray=(qC cs o ((str.take dl).flatMap mI)).toArray:=by simp[qC]
 rw[E] at d;rw[lL];simp only[execOp,resolve,bY,bk,cu,a,j,aB,aH,au,invoke,builtin,Builtin.copy_,cY,dW,fC,aL i.ul,D,s,f,d,goInt]
theorem TY(bs p:kV)(o:Nat)(c:o+p.length<=bs.length)(cur:List Value)(a:cur.take bs.length=bs.flatMap mI):(cur.take o++p.flatMap mI++cur.drop (o+p.length)).take bs.length=(bs.take o++p++bs.drop (o+p.length)).flatMap mI:=by
 have hf:∀(l:kV) (i:Nat),(l.take i).flatMap mI=(l.flatMap mI).take i:=by intro l i;rw[Ac,Ac,j5]
 have oC:∀(l:kV) (i:Nat),(l.drop i).flatMap mI=(l.flatMap mI).drop i:=by intro l i;rw[Ac,Ac,i8]
 rw[bD,bD,hf,oC,<-a];have b:(p.flatMap mI).length=p.length:=xm p;have d:bs.length<=cur.length:=by have:=congrArg List.length a;rw[xm,aC] at this;omega
 rw[aV,aV,dO,dO,dG,dG,js o,aC,ci (show o<=cur.length from by omega),b,aY (l:=p.flatMap mI) (by rw[b];omega),eE,kC]
theorem Gt{t t':Nat}{e b:Nat}[p:nV P t e 1 b]{x y:Operand}{g o dl dc te cap:Nat}{str bs:kV}{L':List kM}(d:ev σ x=.slice (some ⟨g,o,none⟩) dl dc) (r:ev σ y=sv str) (N:o+dl<=bs.length)(hp:oe L (so te g cap bs) (so te g cap (bs.take o++str.take dl++bs.drop (o+(str.take dl).length))) L')(s:q.pb=true) (v:q.nP L->q.nP L') (z:lP Z σ ⟨dst,.call {callee:=.builtin .copy,args:=#[x,y],argTypes:=#[t,t']},ty,pos,lf,gd⟩=true) (A:l8 n dst=true)
 (h:SL P n W q Z Q rest (l6 σ dst (.int .i64 ((str.take dl).length:Int))) L'):
 SL P n W q Z Q (⟨dst,.call {callee:=.builtin .copy,args:=#[x,y],argTypes:=#[t,t']},ty,pos,lf,gd⟩::rest) σ L:=by
 refine tc s Zb z A λw j=>?_;have B:=yD (P:=P) (t:=t) w;obtain⟨cur,C,f,a,D,E,O,F⟩:=C0 (j.ok _ hp.mem).holds;have G:str.take (Nat.min str.length dl)=str.take dl:=by rw[jN];show min (min str.length dl) str.length=min dl str.length;omega
 have lL:(str.take dl).length=Nat.min str.length dl:=by rw[aC];exact js _ _
 have R:Nat.min str.length dl<=dl:=jt _ _;have H:∀u∈(str.take dl).flatMap mI,u.oneCell'=true:=λu I=>by obtain⟨x,_,d⟩:=cW.1 I;simp[mI] at d;subst d;rfl
 have i:((str.take dl).flatMap mI).length=(str.take dl).length:=xm _;have J:=Ix P g o te C ((str.take dl).flatMap mI) 0 cur w f (by rcases a with a|a;exact .inl a;exact .inr Zo) (by rw[i,lL];omega) H;have l:=MR P w 1 (Nat.min str.length dl) str;rw[G] at l;have K:=MS P w str;have m:(bs.take o++str.take dl++bs.drop (o+(str.take dl).length)).length=bs.length:=by simp only[ak,aC,bi];omega
 refine⟨_,w.setRow g (cur.toList.take (o+0)++(str.take dl).flatMap mI++cur.toList.drop (o+0+((str.take dl).flatMap mI).length)).toArray,L',?_,?_,λa=>(by cases a),.inr v,h⟩;·rw[lL];simp only[execOp,resolve,bY,bk,cu,d,r,aB,aH,au,invoke,builtin,Builtin.copy_,cY,dW,fC,aL p.ul,K,B,l,J,goInt]
 ·have M:vY te g cap (bs.take o++str.take dl++bs.drop (o+(str.take dl).length)) (w.setRow g (cur.toList.take (o+0)++(str.take dl).flatMap mI++cur.toList.drop (o+0+((str.take dl).flatMap mI).length)).toArray):=by
   refine vY.set f a E ?_ (by rw[m];exact D) ?_;·simp only[ak,aC,bi,fy,i];omega
   ·rw[m];have:=TY bs (str.take dl) o Zo cur.toList F;rw[i];simpa using this
  refine j.put hp rfl rfl rfl (by simp[World.setRow]) (λk _ c=>ep w g k _ (λe=>c (xl.2 e))) ⟨λk c=>?_,?_⟩ (λk c=>.inl (xl.2 (xl.1 c)));·rw[xl.1 c];have:=(aO.1 f).1;simpa[World.setRow] using this
  ·rw[BQ];exact M
end
end
end Go.Proofs.YtkbifmngmocjnaaGreatDoor
