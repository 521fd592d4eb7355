/- Proved here, packed: what the parts Ord Drn prove (rules of the walk, contracts of functions, plain laws). Conditions: in each statement. -/
import Derived.Test.YtkbifmngmocjnaaGreatDoorPPre
namespace Go.Proofs.YtkbifmngmocjnaaGreatDoor
set_option maxRecDepth 100000
set_option maxHeartbeats 8000000
set_option linter.all false
section
open Go.RowKit
def o7:Op->Nat
 |.move _|.assign _|.pick ..|.extract ..|.unOp ..|.binOp ..|.fieldAddr ..|.build ..|.makeFunc ..|.nilCheck ..|.convert ..|.makeInterface ..=>0
 |.call {callee:=.builtin .len,..}|.call {callee:=.builtin .cap,..}|.call {callee:=.builtin .max,..}|.call {callee:=.builtin .min,..}=>0
 |.load ..|.indexAddr ..|.slice ..|.index ..|.field ..|.typeAssert ..=>1
 |.alloc _|.box ..|.buildSlice ..|.makeSlice ..|.makeChan ..=>2
 |.call {callee:=.value _,..}=>2
 |_=>3
def vC(Z:Array Oper)(i:Nat):Nat:=((Z[i]?).map (λo=>o7 o.op)).getD 3
def still(Z:Array Oper)(listed:Array Bool):Bool:=(List.range Z.size).all λj=>vC Z j != 3||!listed.getD j true
def BG(Z:Array Oper):Nat->Nat->Nat->Bool
 |0,_,_=>false
 |f+1,j,i=>match Z[j]? with
  |some o=>(o.after.any λe=>Region.binds .any e&&e.on==i)||(o.after.any λe=>Region.binds .any e&&(match e.ground with|.phase=>false|_=>BG Z f e.on i))
  |none=>false
def waited(Z:Array Oper)(listed:Array Bool)(i:Nat):Bool:=(List.range Z.size).all λj=>vC Z j != 3||listed.getD j true||BG Z 8 j i
def zb(Z:Array Oper)(listed:Array Bool):Bool:=(List.range Z.size).all λj=>!listed.getD j true||(match Z[j]? with
 |some o=>o.after.all λe=>!Region.binds .any e||listed.getD e.on false
 |none=>true)
inductive lC where
 |mZ
 |op (i:Nat) (p:lC)
 |yz (i:Nat) (p:lC)
 |o8 (p q:lC)
def lC.len:lC->Nat
 |.mZ=>0
 |.op _ p=>p.len+1
 |.yz _ p=>p.len+1
 |.o8 p _=>p.len
def lC.rF:lC->List Nat
 |.mZ=>[]
 |.op i _=>[i]
 |.yz _ _=>[]
 |.o8 p q=>p.rF++q.rF
def lC.Z:List Nat->lC->lC
 |[],p=>p
 |i::r,p=>.op i (lC.Z r p)
def lC.p8:List Nat->lC->lC
 |[],p=>p
 |i::r,p=>.yz i (lC.p8 r p)
def sK(Z:Array Oper):Bool->lC->Array Bool->Bool
 |_,.mZ,listed=>(Region.ready .any Z listed).isEmpty
 |a,.op i r,listed=>
  (match vC Z i with
   |0=>!a&&((Region.ready .any Z listed).contains i&&Region.free .any Z listed i)
   |1=>!a&&((Region.ready .any Z listed).contains i&&Region.free .any Z listed i&&still Z listed&&waited Z listed i&&zb Z listed)
   |_=>a||(match Region.ready .any Z listed with|[j]=>j==i|_=>false))&&sK Z false r (listed.setIfInBounds i true)
 |a,.yz i r,listed=>!a&&(match vC Z i with|0=>true|1=>true|_=>false)&&(Region.ready .any Z listed).contains i&&Region.free .any Z listed i&&sK Z false r (listed.setIfInBounds i true)
 |a,.o8 p q,listed=>(a||(!(Region.ready .any Z listed).isEmpty&&(Region.ready .any Z listed).all ((p.rF++q.rF).contains ·)))&&p.len==q.len&&sK Z true p listed&&sK Z true q listed
section
variable{P:Program}{Z:Array Oper}{Q:Exit->Act->World->Prop}{D C:World->Prop}
def uU(P:Program)(Z:Array Oper)(D C:World->Prop)(Q:Exit->Act->World->Prop):Nat->Array Bool->Act->World->Prop
 |0,listed,a,w=>Region.ready .any Z listed=[]/\Q .normal a w
 |b+1,listed,a,w=>(Region.ready .any Z listed=[]->Q .normal a w)/\
  ∀i∈Region.ready .any Z listed,wpOp P Z Q i (λc w'=>D w'/\(still Z (listed.setIfInBounds i true)=true->C w')/\uU P Z D C Q b (listed.setIfInBounds i true) c w') a w
theorem FN:∀(b:Nat) (listed:Array Bool) (a:Act) (w:World),uU P Z D C Q b listed a w->wpAny P .any Z Q b listed a w
 |0,_,_,_,h=>h
 |b+1,_,_,_,h=>⟨h.1,λi c=>gK (λd w' e=>FN b _ d w' e.2.2) (h.2 i c)⟩
theorem Lj{d:World->Prop}(e:∀w,C w->d w):∀(b:Nat) (listed:Array Bool) (a:Act) (w:World),uU P Z D C Q b listed a w->uU P Z D d Q b listed a w
 |0,_,_,_,h=>h
 |b+1,_,_,_,h=>⟨h.1,λi f=>gK (λg w' c=>⟨c.1,λj=>e _ (c.2.1 j),Lj e b _ g w' c.2.2⟩) (h.2 i f)⟩
theorem Ig{listed:Array Bool}{i:Nat}(h:still Z (listed.setIfInBounds i true)=true):still Z listed=true:=by
 unfold still at*;rw[aK] at*;intro j b;have a:=h j b;by_cases e:i=j
 ·subst e;by_cases c:i<listed.size
  ·have:(listed.setIfInBounds i true).getD i true=true:=by simp
   rw[this] at a;simp at a⊢;exact .inl a
  ·have:listed.setIfInBounds i true=listed:=by rw[Array.setIfInBounds,dif_neg c]
   rwa [this] at a
 ·rwa [ff true e] at a
theorem Lk{g:World->Prop}:∀(b:Nat) (listed:Array Bool) (a:Act) (w:World),still Z listed=false->uU P Z D C Q b listed a w->uU P Z D g Q b listed a w
 |0,_,_,_,_,h=>h
 |b+1,listed,_,_,d,h=>⟨h.1,λi j=>gK (λk w' e=>by
  have f:still Z (listed.setIfInBounds i true)=false:=by rw[<-dD];intro c;rw[Ig c] at d;cases d
  exact⟨e.1,λc=>(by rw[f] at c;cases c),Lk b _ k w' f e.2.2⟩) (h.2 i j)⟩
def uA(P:Program)(Z:Array Oper)(E:World->Prop)(o:Oper)(v:Value)(a:Act):Prop:=
 (Region.wanted o (yielded Z a.tmps)=true/\∀w,E w->(execOp a.eval o).run P w=.ok (.value v) w)\/
 (Region.wanted o (yielded Z a.tmps)=false/\v=undef)
variable{E:World->Prop}
theorem uA.wpOp{i:Nat}{o:Oper}{v:Value}{a:Act}(c:Z[i]? =some o)(d:uA P Z E o v a){K:Act->World->Prop} {w:World} (e:E w) (h:K (a.put o.dst v) w):wpOp P Z Q i K a w:=by
 unfold Go.wpOp;simp only[c];rcases d with⟨b,f⟩|⟨b,rfl⟩
 ·simp only[b,cc,Oper.wp,f w e,Oper.upon];exact .inl h
 ·simp only[b,aM,bH];exact h
theorem uA.Ll{o:Oper}{v:Value}{a b:Act}(c:uA P Z E o v a)(d:execOp b.eval o=execOp a.eval o)(e:Region.wanted o (yielded Z b.tmps)=Region.wanted o (yielded Z a.tmps)):uA P Z E o v b:=by unfold uA at*;rw[d,e];exact c
theorem Lm{j:Nat}{g i:Oper}{v:Value}(A:Z[j]? =some i)(B:g.apart Z i=true)(C:∀cs b,g.op≠ .select cs b) (q:∀cs b,i.op≠ .select cs b)(s:∀c a w,¬Q (.panic c) a w) {K:Act->World->Prop} {a:Act} {w:World}(k:uA P Z E g v a) (h:wpOp P Z Q j K (a.put g.dst v) w):wpOp P Z Q j (λt w'=>uA P Z E g v t/\K (t.put g.dst v) w') a w:=by
 obtain⟨o,l,y⟩:=Oper.apart_spec B;have tY:∀(a:Act),uA P Z E g v a->∀u,uA P Z E g v (a.put i.dst u):=λa k u=>k.Ll (execOp_put g C a i.dst u y) (wanted_put g a i.dst u y);have D:∀d,uA P Z E g v {a with defers:=d::a.defers}:=λd=>k.Ll rfl rfl;unfold wpOp at*;simp only[A] at*;rw[wanted_put i a g.dst v o] at h;split
 ·rename_i p;simp only[p,cc] at h;rcases h with h|⟨z,F⟩
  case inr=>exact .inr ⟨by unfold Oper.asks at*;rw[execOp_put i q a g.dst v o] at z;exact z,F⟩
  refine .inl ?_;unfold Oper.wp at*;rw[execOp_put i q a g.dst v o] at h;generalize(execOp a.eval i).run P w=r at*;cases r with
  |ok n w'=>
   cases n<;>simp only[Oper.upon] at h⊢;case value u=>exact⟨tY a k u,by rw[<-gL a v u l];exact h⟩
   case skip=>exact⟨tY a k _,by rw[<-gL a v undef l];exact h⟩
   case defer d=>refine⟨tY _ (D d) _,?_⟩;rw[<-gL _ v undef l,<-Act.put_defers];exact h
   case enter f args=>
    refine fF h λe G m=>?_;cases e with
    |returned u=>exact⟨tY a k u,by rw[<-gL a v u l];exact m⟩
    |panicked c=>exact(s _ _ _ m).elim
    |outgrown=>exact m
   case row row args=>exact Rows.mono h λu G m=>⟨tY a k u,by rw[<-gL a v u l];exact m⟩
  |halt x w'=>cases x<;>simp only[Oper.upon] at h⊢;case panic u=>exact(s _ _ _ h).elim
 ·rename_i p;simp only[p] at h;exact⟨tY a k _,by rw[<-gL a v undef l];exact h⟩
theorem Ln{listed:Array Bool}{i:Nat}(a:vC Z i≠3)(h:still Z listed=true):still Z (listed.setIfInBounds i true)=true:=by
 unfold still at*;rw[aK] at*;intro j b;by_cases e:i=j;·subst e;simp[a]
 ·rw[ff true e];exact h j b
theorem Lo{listed:Array Bool}(h:zb Z listed=true){j:Nat}{o:Oper}(a:Z[j]? =some o)(b:listed.getD j true=true):∀e∈o.after,Region.binds .any e=true->listed.getD e.on false=true:=by unfold zb at h;rw[aK] at h;have:=h j (d8.2 (aO.1 a).1);rw[b,a] at this;simp only[eV,eW] at this;rw[fj] at this;intro e c d;have:=this e c;rw[d] at this;simpa using this
theorem Lp{listed:Array Bool}{i:Nat}(h:zb Z listed=true)(g:i∈Region.ready .any Z listed):zb Z (listed.setIfInBounds i true)=true:=by
 have k:=h;unfold zb;rw[aK];intro j l;cases c:Z[j]? with
 |none=>simp
 |some o=>
  simp only[eO,cJ];by_cases d:i=j
  ·subst d;right;rw[fj];intro e a;obtain⟨_,m,f,mz⟩:=gj.1 g;rw[c] at f;cases f;cases b:Region.binds .any e with
   |false=>rfl
   |true=>simpa using getD_set_true (mz e a b)
  ·rw[ff true d];cases hl:listed.getD j true with
   |false=>exact .inl rfl
   |true=>
    right;rw[fj];intro e a;cases b:Region.binds .any e with
    |false=>rfl
    |true=>simpa using getD_set_true (Lo k c hl e a b)
theorem Ih{listed:Array Bool}(l:zb Z listed=true){i:Nat}:∀(f j:Nat) (o:Oper),Z[j]? =some o->(∀e∈o.after,Region.binds .any e=true->listed.getD e.on false=true)->BG Z f j i=true->listed.getD i false=true
 |0,_,_,_,_,h=>by cases h
 |f+1,j,o,m,mz,h=>by
  unfold BG at h;rw[m] at h;simp only[eO] at h;rcases h with h|h
  ·rw[kh] at h;obtain⟨e,c,a⟩:=h;simp only[aF,ck] at a;rw[<-a.2];exact mz e c a.1
  ·rw[kh] at h;obtain⟨e,c,a⟩:=h;simp only[aF] at a;have b:BG Z f e.on i=true:=by
    have d:=a.2;split at d;·cases d
    ·exact d
   have hl:=mz e c a.1;cases g:Z[e.on]? with
   |none=>cases f with
    |zero=>cases b
    |succ f=>unfold BG at b;rw[g] at b;cases b
   |some n=>(have p:listed.getD e.on true=true:=by(rcases eM e.on listed.size with k|k;·simp[k] at hl⊢;exact hl);·simp[dX k] at hl);exact Ih l f e.on n g (Lo l g p) b
theorem Ii{i:Nat}{m:Oper}{v:Value}(s:Z[i]? =some m)(G:∀(j:Nat) (o:Oper) cs b,Z[j]? =some o->o.op≠ .select cs b)(O:∀c a w,¬Q (.panic c) a w) (t:vC Z i≠3) (Inv:Array Bool->Prop)
 (R:∀listed j,Inv listed->i∈Region.ready .any Z listed->j∈Region.ready .any Z listed->j≠i->Inv (listed.setIfInBounds j true)/\
  ∀w',D w'->(still Z (listed.setIfInBounds j true)=true->C w')->E w'):
 ∀(n:Nat) (listed:Array Bool) (a:Act) (w:World),Inv listed->E w->D w->(still Z listed=true->C w)->
  (∀j g,Z[j]? =some g->j≠i->listed.getD j true=false->(∀e∈g.after,Region.binds .any e=true->e.on≠i)->m.apart Z g=true)->
  i∈Region.ready .any Z listed->uA P Z E m v a->
  uU P Z D C Q n (listed.setIfInBounds i true) (a.put m.dst v) w->uU P Z D C Q (n+1) listed a w:=by
 intro n;induction n with
 |zero=>
  intro listed a w I u x y _ f r H;refine⟨λh=>(by rw[h] at f;cases f),λj p=>?_⟩;by_cases d:j=i;·subst d;exact r.wpOp s u ⟨x,λq=>y (Ig q),H⟩
  ·have:=im p d;rw[H.1] at this;cases this
 |succ n S=>
  intro listed a w I u x y J f r H;refine⟨λh=>(by rw[h] at f;cases f),λj p=>?_⟩;by_cases d:j=i;·subst d;exact r.wpOp s u ⟨x,λq=>y (Ig q),H⟩
  ·have l:=H.2 j (im p d);obtain⟨K,g,z,mz⟩:=gj.1 p;have T:∀e∈g.after,Region.binds .any e=true->e.on≠i:=λe V W X=>by
    have l:=mz e V W;have L:=(gj.1 f).1;rw[X] at l;rcases eM i listed.size with A|A
    ·simp[A] at L l;rw[L] at l;cases l
    ·simp[dX A] at l
   have Y:=Lm z (J j g z d K T) (λcs b=>G i m cs b s) (λcs b=>G j g cs b z) O r l;have kF:∀k ok,Z[k]? =some ok->k≠i->(listed.setIfInBounds j true).getD k true=false->
    (∀e∈ok.after,Region.binds .any e=true->e.on≠i)->m.apart Z ok=true:=λk ok hk t M kG=>by
    (refine J k ok hk t ?_ kG;by_cases N:j=k;·subst N;exact K);·rw[ff true N] at M;exact M
   obtain⟨kH,kI⟩:=R listed j I f p d;refine gK (λa' w' h3=>?_) Y;obtain⟨kJ,B,kL,kO⟩:=h3;have F:still Z (listed.setIfInBounds j true)=true->C w':=λq=>by refine kL ?_;rw[fk _ _ (fE d)];exact Ln t q
   refine⟨B,F,S (listed.setIfInBounds j true) a' w' kH (kI w' B F) B F kF (im f (fE d)) kJ ?_⟩;rw[fk _ _ d];exact kO
end
end
theorem Ij{α:Type}:∀(q:Ask α) (w:World),w.drawn<=(w.ask q).2.drawn
 |.done a,w=>aA _
 |.ask b range k,w=>by
  unfold World.ask;simp only;split;·exact Ij (k 0) w
  ·exact cR (gC _) (Ij (k _) {w with drawn:=w.drawn+1})
theorem RJ(w:World)(c:Sys):w.drawn<=(w.sys c).2.drawn:=by
 have h:=Ij (Kernel.perform c w.os) w;unfold World.sys;split;·exact aA _
 ·rename_i a;rw[a] at h;exact h
theorem RK{P:Program}{w w':World}{a k:Addr}{u:TypeId}{v:Value}{b:Bool}{l:List Addr}(h:w.viewStore P a u k v b=.ok (w',l)):w'.drawn=w.drawn:=by
 unfold World.viewStore at h;simp only[bind,Except.bind,pure,Except.pure,throw,throwThe,MonadExceptOf.throw] at h
 repeat' split at h
 all_goals first
  |(cases h;rfl)
  |cases h
theorem RL{P:Program}{w w':World}{a:Addr}{v:Value}{b:Bool}{l:List Addr}(h:w.farStore P a v b=.ok (w',l)):w'.drawn=w.drawn:=by
 unfold World.farStore at h;split at h
 ·split at h;·rename_i c;cases h;exact RK c
  ·cases h
 ·cases h
theorem Lq{α:Type}{P:Program}:∀(s:Sem α) (w:World) (a:α) (w':World),s.run P w=.ok a w'->w.drawn<=w'.drawn:=by
 intro s;induction s with
 |pure a=>intro w b w' h;cases h;exact aA _
 |load m a k d=>
  intro w b w' h;unfold Sem.run at h;split at h;·exact d _ _ _ _ h
  ·split at h;·exact d _ _ _ _ h
   ·cases h
 |store m a v k d=>
  intro w b w' h;cases v;case agg=>simp only[Sem.run] at h;cases h
  case tuple=>simp only[Sem.run] at h;cases h
  all_goals
   simp only[Sem.run] at h;split at h
   ·split at h;·cases h
    ·have e:=d _ _ _ h;exact e
   ·split at h;·rename_i hf;rw[<-RL hf];exact d _ _ _ h
    ·cases h
 |new o k d=>intro w b w' h;simp only[Sem.run] at h;have e:=d _ _ _ _ h;exact e
 |shape r k d=>intro w b w' h;exact d _ _ _ _ h
 |freeze a n k d=>intro w b w' h;have:=d _ _ _ h;unfold World.freeze at this;split at this<;>exact this
 |frozen a k d=>intro w b w' h;exact d _ _ _ _ h
 |getObj r k d=>
  intro w b w' h;unfold Sem.run at h;split at h;·cases h
  ·exact d _ _ _ _ h
  ·cases h
 |setObj r o k d=>
  intro w b w' h;unfold Sem.run at h;split at h;·cases h
  ·have e:=d _ _ _ h;exact e
  ·cases h
 |choose q k d=>
  intro w b w' h;unfold Sem.run at h;split at h;·exact d _ _ _ _ h
  ·exact cR (gC _) (d _ _ _ _ h)
 |sys c k d=>intro w b w' h;exact cR (RJ w c) (d _ _ _ _ h)
 |program k d=>intro w b w' h;exact d _ _ _ _ h
 |mark m k d=>intro w b w' h;exact d _ _ _ h
 |halt h=>intro w b w' h;cases h
end Go.Proofs.YtkbifmngmocjnaaGreatDoor
