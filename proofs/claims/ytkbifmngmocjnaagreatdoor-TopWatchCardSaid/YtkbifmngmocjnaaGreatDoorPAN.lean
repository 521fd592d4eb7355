/- Proved here, packed: what the parts Wrt Walc Wald Wale Walf Walg Uns Walh Wali prove (rules of the walk, contracts of functions, plain laws). Conditions: in each statement. -/
import Derived.Test.YtkbifmngmocjnaaGreatDoorPAM
namespace Go.Proofs.YtkbifmngmocjnaaGreatDoor
set_option maxRecDepth 100000
set_option maxHeartbeats 8000000
set_option linter.all false
section
open Go.RowKit
def pO(ws:List Nat)(Z:Array Oper)(i:Nat):Nat:=if ws.contains i then 3 else vC Z i
theorem Wt(ws:List Nat)(Z:Array Oper)(i:Nat):pO ws Z i<=3:=by
 have a:∀x:Op,o7 x<=3:=by intro x;unfold o7;split<;>omega
 unfold pO vC;split;·exact aA _
 ·cases Z[i]? with
  |none=>exact aA _
  |some o=>exact a o.op
def tw(ws:List Nat)(Z:Array Oper)(listed:Array Bool):Bool:=(List.range Z.size).all λj=>pO ws Z j != 3||!listed.getD j true
def GU(ws:List Nat)(Z:Array Oper)(listed:Array Bool)(i:Nat):Bool:=(List.range Z.size).all λj=>pO ws Z j != 3||listed.getD j true||BG Z 8 j i
def um(ws:List Nat)(Z:Array Oper):Bool->lC->Array Bool->Bool
 |_,.mZ,listed=>(Region.ready .any Z listed).isEmpty
 |a,.op i r,listed=>
  (match pO ws Z i with
   |0=>!a&&((Region.ready .any Z listed).contains i&&Region.free .any Z listed i)
   |1=>!a&&((Region.ready .any Z listed).contains i&&Region.free .any Z listed i&&tw ws Z listed&&GU ws Z listed i&&zb Z listed)
   |_=>a||(match Region.ready .any Z listed with|[j]=>j==i|_=>false))&&um ws Z false r (listed.setIfInBounds i true)
 |a,.yz i r,listed=>!a&&(match pO ws Z i with|0=>true|1=>true|_=>false)&&(Region.ready .any Z listed).contains i&&Region.free .any Z listed i&&um ws Z false r (listed.setIfInBounds i true)
 |a,.o8 p q,listed=>(a||(!(Region.ready .any Z listed).isEmpty&&(Region.ready .any Z listed).all ((p.rF++q.rF).contains ·)))&&p.len==q.len&&um ws Z true p listed&&um ws Z true q listed
section
variable{ws:List Nat}{P:Program}{Z:Array Oper}{Q:Exit->Act->World->Prop}{D C:World->Prop}
def wF(ws:List Nat)(P:Program)(Z:Array Oper)(D C:World->Prop)(Q:Exit->Act->World->Prop):Nat->Array Bool->Act->World->Prop
 |0,listed,a,w=>Region.ready .any Z listed=[]/\Q .normal a w
 |b+1,listed,a,w=>(Region.ready .any Z listed=[]->Q .normal a w)/\
  ∀i∈Region.ready .any Z listed,wpOp P Z Q i (λc w'=>D w'/\(tw ws Z (listed.setIfInBounds i true)=true->C w')/\wF ws P Z D C Q b (listed.setIfInBounds i true) c w') a w
theorem Ov:∀(b:Nat) (listed:Array Bool) (a:Act) (w:World),wF ws P Z D C Q b listed a w->wpAny P .any Z Q b listed a w
 |0,_,_,_,h=>h
 |b+1,_,_,_,h=>⟨h.1,λi c=>gK (λd w' e=>Ov b _ d w' e.2.2) (h.2 i c)⟩
theorem Ow{d:World->Prop}(e:∀w,C w->d w):∀(b:Nat) (listed:Array Bool) (a:Act) (w:World),wF ws P Z D C Q b listed a w->wF ws P Z D d Q b listed a w
 |0,_,_,_,h=>h
 |b+1,_,_,_,h=>⟨h.1,λi f=>gK (λg w' c=>⟨c.1,λj=>e _ (c.2.1 j),Ow e b _ g w' c.2.2⟩) (h.2 i f)⟩
theorem JI{listed:Array Bool}{i:Nat}(h:tw ws Z (listed.setIfInBounds i true)=true):tw ws Z listed=true:=by
 unfold tw at*;rw[aK] at*;intro j b;have a:=h j b;by_cases e:i=j
 ·subst e;by_cases c:i<listed.size
  ·have:(listed.setIfInBounds i true).getD i true=true:=by simp
   rw[this] at a;simp at a⊢;exact .inl a
  ·have:listed.setIfInBounds i true=listed:=by rw[Array.setIfInBounds,dif_neg c]
   rwa [this] at a
 ·rwa [ff true e] at a
theorem Ox{g:World->Prop}:∀(b:Nat) (listed:Array Bool) (a:Act) (w:World),tw ws Z listed=false->wF ws P Z D C Q b listed a w->wF ws P Z D g Q b listed a w
 |0,_,_,_,_,h=>h
 |b+1,listed,_,_,d,h=>⟨h.1,λi j=>gK (λk w' e=>by
  have f:tw ws Z (listed.setIfInBounds i true)=false:=by rw[<-dD];intro c;rw[JI c] at d;cases d
  exact⟨e.1,λc=>(by rw[f] at c;cases c),Ox b _ k w' f e.2.2⟩) (h.2 i j)⟩
variable{E:World->Prop}
theorem Oy{listed:Array Bool}{i:Nat}(a:pO ws Z i≠3)(h:tw ws Z listed=true):tw ws Z (listed.setIfInBounds i true)=true:=by
 unfold tw at*;rw[aK] at*;intro j b;by_cases e:i=j;·subst e;simp[a]
 ·rw[ff true e];exact h j b
theorem Oz{i:Nat}{m:Oper}{v:Value}(s:Z[i]? =some m)(G:∀(j:Nat) (o:Oper) cs b,Z[j]? =some o->o.op≠ .select cs b)(O:∀c a w,¬Q (.panic c) a w) (t:pO ws Z i≠3) (Inv:Array Bool->Prop)
 (R:∀listed j,Inv listed->i∈Region.ready .any Z listed->j∈Region.ready .any Z listed->j≠i->Inv (listed.setIfInBounds j true)/\
  ∀w',D w'->(tw ws Z (listed.setIfInBounds j true)=true->C w')->E w'):
 ∀(n:Nat) (listed:Array Bool) (a:Act) (w:World),Inv listed->E w->D w->(tw ws Z listed=true->C w)->
  (∀j g,Z[j]? =some g->j≠i->listed.getD j true=false->(∀e∈g.after,Region.binds .any e=true->e.on≠i)->m.apart Z g=true)->
  i∈Region.ready .any Z listed->uA P Z E m v a->
  wF ws P Z D C Q n (listed.setIfInBounds i true) (a.put m.dst v) w->wF ws P Z D C Q (n+1) listed a w:=by
 intro n;induction n with
 |zero=>
  intro listed a w I u x y _ f r H;refine⟨λh=>(by rw[h] at f;cases f),λj p=>?_⟩;by_cases d:j=i;·subst d;exact r.wpOp s u ⟨x,λq=>y (JI q),H⟩
  ·have:=im p d;rw[H.1] at this;cases this
 |succ n S=>
  intro listed a w I u x y J f r H;refine⟨λh=>(by rw[h] at f;cases f),λj p=>?_⟩;by_cases d:j=i;·subst d;exact r.wpOp s u ⟨x,λq=>y (JI q),H⟩
  ·have l:=H.2 j (im p d);obtain⟨K,g,z,mz⟩:=gj.1 p;have T:∀e∈g.after,Region.binds .any e=true->e.on≠i:=λe V W X=>by
    have l:=mz e V W;have L:=(gj.1 f).1;rw[X] at l;rcases eM i listed.size with A|A
    ·simp[A] at L l;rw[L] at l;cases l
    ·simp[dX A] at l
   have Y:=Lm z (J j g z d K T) (λcs b=>G i m cs b s) (λcs b=>G j g cs b z) O r l;have kF:∀k ok,Z[k]? =some ok->k≠i->(listed.setIfInBounds j true).getD k true=false->
    (∀e∈ok.after,Region.binds .any e=true->e.on≠i)->m.apart Z ok=true:=λk ok hk t M kG=>by
    (refine J k ok hk t ?_ kG;by_cases N:j=k;·subst N;exact K);·rw[ff true N] at M;exact M
   obtain⟨kH,kI⟩:=R listed j I f p d;refine gK (λa' w' h3=>?_) Y;obtain⟨kJ,B,kL,kO⟩:=h3;have F:tw ws Z (listed.setIfInBounds j true)=true->C w':=λq=>by refine kL ?_;rw[fk _ _ (fE d)];exact Oy t q
   refine⟨B,F,S (listed.setIfInBounds j true) a' w' kH (kI w' B F) B F kF (im f (fE d)) kJ ?_⟩;rw[fk _ _ d];exact kO
end
section
variable{ws:List Nat}{P:Program}{n:Sz}{W:World}{Q:Exit->St->List kM->Prop}{σ:St}{L:List kM}
def uQ(ws:List Nat)(P:Program)(n:Sz)(W:World)(Ls:List kM)(Z:Array Oper)(Q:Exit->St->List kM->Prop):lC->St->List kM->Prop
 |.mZ,σ,L=>Q .normal σ L
 |.op i r,σ,L=>∃o,Z[i]? =some o/\
  (pO ws Z i<=1->∃v,l8 n o.dst=true/\((lP Z σ o=true/\(if pO ws Z i=0 then∀w,(execOp (ev σ) o).run P w=.ok (.value v) w else zV P W L σ o v))\/(lP Z σ o=false/\v=undef))/\
   uQ ws P n W Ls Z Q r (l6 σ o.dst v) L)/\
  (2<=pO ws Z i->∀a w,n9 n σ a->Mem W w L->
   (lP Z σ o=true->o.wp P a w (λc w'=>∃b L',n9 n b c/\Mem W w' L'/\(pO ws Z i=2->Sub L L')/\(Sub Ls L->Sub Ls L')/\uQ ws P n W Ls Z Q r b L') (nQ n W Q))/\
   (lP Z σ o=false->∃b,n9 n b (a.put o.dst undef)/\uQ ws P n W Ls Z Q r b L))
 |.yz i r,σ,L=>∃o,Z[i]? =some o/\∃v,l8 n o.dst=true/\((lP Z σ o=true/\zV P W Ls σ o v)\/(lP Z σ o=false/\v=undef))/\
  uQ ws P n W Ls Z Q r (l6 σ o.dst v) L
 |.o8 p q,σ,L=>uQ ws P n W Ls Z Q p σ L/\uQ ws P n W Ls Z Q q σ L
theorem DE{Z:Array Oper}{Ls:List kM}(A:Region.noSelect Z=true)(B:∀c σ L,¬Q (.panic c) σ L):∀(G:lC) (listed:Array Bool) (σ:St) (L:List kM) (a:Act) (w:World),uQ ws P n W Ls Z Q G σ L->n9 n σ a->Mem W w L->Sub Ls L->(um ws Z false G listed=true->wF ws P Z (λw=>Mem W w Ls) (λw=>Mem W w L) (nQ n W Q) G.len listed a w)/\ (um ws Z true G listed=true->∀i∈G.rF,wpOp P Z (nQ n W Q) i (λt w'=>Mem W w' Ls/\(tw ws Z (listed.setIfInBounds i true)=true->Mem W w' L)/\wF ws P Z (λw=>Mem W w Ls) (λw=>Mem W w L) (nQ n W Q) (G.len-1) (listed.setIfInBounds i true) t w') a w)
 |.mZ,listed,σ,L,a,w,y,l,b,u=>⟨λhp=>⟨by simpa[um] using hp,σ,L,l,b,y⟩,λ_ i m=>by simp[lC.rF] at m⟩
 |.o8 p q,listed,σ,L,a,w,y,l,b,u=>by
  have hh:um ws Z true (.o8 p q) listed=true->∀i∈(lC.o8 p q).rF,wpOp P Z (nQ n W Q) i (λt w'=>Mem W w' Ls/\(tw ws Z (listed.setIfInBounds i true)=true->Mem W w' L)/\wF ws P Z (λw=>Mem W w Ls) (λw=>Mem W w L) (nQ n W Q) ((lC.o8 p q).len-1) (listed.setIfInBounds i true) t w') a w:=by
   intro hp i m;simp only[um,fT,cE,aF,ck] at hp;obtain⟨⟨hl,d⟩,x⟩:=hp;rcases aQ.1 m with m|m
   ·exact(DE A B p listed σ L a w y.1 l b u).2 d i m
   ·have:=(DE A B q listed σ L a w y.2 l b u).2 x i m;rw[<-hl] at this;exact this
  refine⟨λhp=>?_,hh⟩;simp only[um,eW,aF,ck] at hp;obtain⟨⟨⟨⟨kH,mz⟩,hl⟩,d⟩,x⟩:=hp;have kI:um ws Z true (.o8 p q) listed=true:=by simp[um,hl,d,x]
  have kJ:Region.ready .any Z listed≠[]:=by intro h;rw[h] at kH;cases kH
  cases lL:(lC.o8 p q).len with
  |zero=>
   exfalso;obtain⟨i,m⟩:=jg _ kJ;rw[aK] at mz;have k7:=mz i m;have key:∀r:lC,i∈r.rF->um ws Z true r listed=true->0<r.len:=by
    intro r;induction r with
    |mZ=>intro h;simp[lC.rF] at h
    |op j r _=>intro _ _;simp[lC.len]
    |yz j r _=>intro h;simp[lC.rF] at h
    |o8 p q k8 k9=>
     intro h s;simp only[um,fT,cE,aF,ck] at s;rcases aQ.1 h with h|h
     ·exact k8 h s.1.2
     ·have:=k9 h s.2;simp only[lC.len];omega
   have:=key (.o8 p q) (by simpa[lC.rF] using k7) kI;omega
  |succ f=>refine⟨λh=>absurd h kJ,λi m=>?_⟩;rw[aK] at mz;have:=hh kI i (by simpa[lC.rF] using mz i m);rw[lL] at this;exact this
 |.yz i r,listed,σ,L,a,w,y,l,b,u=>by
  have V:∀c a w,¬nQ n W Q (.panic c) a w:=λc a w ⟨σ,L,_,_,h⟩=>B c σ L h;obtain⟨o,C,v,X,Y,kF⟩:=y;refine⟨λhp=>?_,λ_ i m=>by simp[lC.rF] at m⟩;simp only[um,gT,cE,aF] at hp;obtain⟨⟨⟨s,hr⟩,hf⟩,x⟩:=hp;have H:=l.wanted Z o;have N:uA P Z (λw=>Mem W w Ls) o v a:=by
   rcases Y with⟨e,g⟩|⟨e,g⟩;·exact .inl ⟨by rw[H];exact e,λw b=>by rw[l.eval];exact g w b⟩
   ·exact .inr ⟨by rw[H];exact e,g⟩
  have R:pO ws Z i≠3:=by intro h;rw[h] at s;cases s
  exact Oz C (eZ A) V R (λ_=>True) (λ_ _ _ _ _ _=>⟨trivial,λ_ h _=>h⟩) r.len listed a w trivial (u _ _ b) (u _ _ b) (λ_=>b) (gr C hf) (by simpa using hr) N
   ((DE A B r _ _ L _ w kF (l.sW X v) b u).1 x)
 |.op i r,listed,σ,L,a,w,y,l,b,u=>by
  have V:∀c a w,¬nQ n W Q (.panic c) a w:=λc a w ⟨σ,L,_,_,h⟩=>B c σ L h;obtain⟨o,C,y⟩:=y;have S:pO ws Z i=pO ws Z i:=rfl;have H:=l.wanted Z o;have state:2<=pO ws Z i->um ws Z false r (listed.setIfInBounds i true)=true->
   wpOp P Z (nQ n W Q) i (λt w'=>Mem W w' Ls/\(tw ws Z (listed.setIfInBounds i true)=true->Mem W w' L)/\wF ws P Z (λw=>Mem W w Ls) (λw=>Mem W w L) (nQ n W Q) r.len (listed.setIfInBounds i true) t w') a w:=by
   intro D x;unfold wpOp;rw[C];simp only;obtain⟨N,hn⟩:=y.2 D a w l b;have step:∀F L' t w',n9 n F t->Mem W w' L'->(pO ws Z i=2->Sub L L')->(Sub Ls L->Sub Ls L')->uQ ws P n W Ls Z Q r F L'->
    Mem W w' Ls/\(tw ws Z (listed.setIfInBounds i true)=true->Mem W w' L)/\wF ws P Z (λw=>Mem W w Ls) (λw=>Mem W w L) (nQ n W Q) r.len (listed.setIfInBounds i true) t w':=by
    intro F L' t w' e g I J O;have ih:=(DE A B r (listed.setIfInBounds i true) _ L' t w' O e g (J u)).1 x;refine⟨J u _ _ g,?_⟩;by_cases R:pO ws Z i=2;·exact⟨λ_=>I R _ _ g,Ow (λw b=>I R _ _ b) _ _ _ _ ih⟩
    ·have lz:=Wt ws Z i;have lc:pO ws Z i=3:=by rw[S];omega
     (have kL:tw ws Z (listed.setIfInBounds i true)=false:=by rw[<-dD];intro K;unfold tw at K;rw[aK] at K;have:=K i (d8.2 (aO.1 C).1);rw[lc] at this;simp at this);exact⟨λK=>(by rw[kL] at K;cases K),Ox _ _ _ _ kL ih⟩
   rw[H];by_cases T:lP Z σ o=true;·rw[aj T];exact .inl (gM (λt w' ⟨F,L',e,g,I,J,O⟩=>step F L' t w' e g I J O) (N T))
   ·rw[ai T];obtain⟨F,e,g⟩:=hn (by simpa using T);exact step F L _ w e b (λ_=>Sub.refl) id g
  constructor
  ·intro hp;simp only[um,gT,cE,eW,aF] at hp;obtain⟨d,x⟩:=hp;rw[S] at d;have value:∀(E:World->Prop) (Inv:Array Bool->Prop),pO ws Z i<=1->i∈Region.ready .any Z listed->Region.free .any Z listed i=true->E w->Inv listed->
    (∀listed j,Inv listed->i∈Region.ready .any Z listed->j∈Region.ready .any Z listed->j≠i->Inv (listed.setIfInBounds j true)/\
     ∀w',Mem W w' Ls->(tw ws Z (listed.setIfInBounds j true)=true->Mem W w' L)->E w')->
    (∀v,(if pO ws Z i=0 then∀w,(execOp (ev σ) o).run P w=.ok (.value v) w else zV P W L σ o v)->∀w,E w->(execOp (ev σ) o).run P w=.ok (.value v) w)->
    wF ws P Z (λw=>Mem W w Ls) (λw=>Mem W w L) (nQ n W Q) (r.len+1) listed a w:=by
    intro E Inv s hr hf hE hI lg lh;obtain⟨v,X,Y,kF⟩:=y.1 s;have N:uA P Z E o v a:=by(rcases Y with⟨e,g⟩|⟨e,g⟩;·exact .inl ⟨by rw[H];exact e,λw b=>by rw[l.eval];exact lh v g w b⟩);·exact .inr ⟨by rw[H];exact e,g⟩
    exact Oz C (eZ A) V (by rw[S];omega) Inv lg r.len listed a w hI hE (u _ _ b) (λ_=>b) (gr C hf) hr N
     ((DE A B r _ _ L _ w kF (l.sW X v) b u).1 x)
   show wF ws P Z (λw=>Mem W w Ls) (λw=>Mem W w L) (nQ n W Q) (r.len+1) listed a w;by_cases kG:pO ws Z i=0
   ·rw[kG] at d;simp only[aF] at d;exact value (λ_=>True) (λ_=>True) Zo (by simpa using d.1) d.2 trivial trivial (λ_ _ _ _ _ _=>⟨trivial,λ_ _ _=>trivial⟩)
     (λv h w _=>by rw[aj kG] at h;exact h w)
   ·by_cases lm:pO ws Z i=1
    ·rw[lm] at d;simp only[aF] at d;obtain⟨⟨⟨⟨e,g⟩,I⟩,O⟩,J⟩:=d;refine value (λw=>Mem W w L) (λlisted=>tw ws Z listed=true/\GU ws Z listed i=true/\zb Z listed=true) Zo (by simpa using e) g b ⟨I,O,J⟩ ?_
      (λv h w b=>by rw[ai kG] at h;exact h w b)
     rintro listed j ⟨lq,M,kO⟩ lu kQ kT;have lx:pO ws Z j≠3:=by
      intro s;obtain⟨ly,oj,kX,mz⟩:=gj.1 kQ;unfold GU at M;rw[aK] at M;have:=M j (d8.2 (aO.1 kX).1);rw[s,ly] at this;simp only[i9,eW] at this;have e:=Ih kO 8 j oj kX mz this;have h0:=(gj.1 lu).1;rcases eM i listed.size with h'|h'
      ·simp[h'] at h0 e;rw[h0] at e;cases e
      ·simp[dX h'] at e
     have kY:=Oy lx lq;refine⟨⟨kY,?_,Lp kO kQ⟩,λw' _ h=>h kY⟩;unfold GU at M⊢;rw[aK] at M⊢;intro k s;have:=M k s;by_cases kZ:j=k;·subst kZ;simp
     ·rw[ff true kZ];exact this
    ·have D:2<=pO ws Z i:=by omega
     have k5:Region.ready .any Z listed=[i]:=by
      revert d;generalize pO ws Z i=kk at D;match kk,D with
      |kk+2,_=>
       intro d;simp only at d;split at d
       ·rename_i j z;have kT:j=i:=by simpa using d
        subst kT;exact z
       ·cases d
     (refine⟨λh=>(by rw[k5] at h;cases h),λj z=>?_⟩;rw[k5] at z;have z:j=i:=by simpa using z);subst z;exact state D x
  ·intro hp j z;have z:j=i:=by simpa[lC.rF] using z
   subst z;simp only[um,eV,eC,fT,aF] at hp;obtain⟨d,x⟩:=hp;rw[S] at d;have D:2<=pO ws Z j:=by
    match s:pO ws Z j,d with
    |kk+2,_=>omega
   exact state D x
theorem DF{id:Nat}{Z:Array Oper}(Ls:List kM)(b:lC)(d:P.follows .mixedOrders=true)(e:Region.noSelect Z=true)(hp:um ws Z false b (Array.replicate Z.size false)=true)(lL:b.len=Z.size) (f:∀c σ L,¬Q (.panic c) σ L) (g:Sub Ls L) (h:uQ ws P n W Ls Z Q b σ L):SC P n W (.region id Z true) Q σ L:=SC.mk λa w i j=>by refine jZ d (Ov (ws:=ws) (D:=λw=>Mem W w Ls) (C:=λw=>Mem W w L) _ _ _ _ ?_);have:=(DE e f b _ σ L a _ h i (j.drew (w.drawn+1)) g).1 hp;rw[lL] at this;exact this
def JJ(ws:List Nat)(P:Program)(n:Sz)(W:World)(Ls:List kM)(Z:Array Oper)(Q:Exit->St->List kM->Prop)(p:lC):Exit->St->List kM->Prop
 |.normal,σ,L=>uQ ws P n W Ls Z Q p σ L
 |e,σ,L=>Q e σ L
theorem Wu{Z:Array Oper}{Ls:List kM}{p:lC}{e:Exit}(b:e≠ .normal){a:Act}{w:World}(h:nQ n W (JJ ws P n W Ls Z Q p) e a w):nQ n W Q e a w:=by obtain⟨σ,L,c,d,f⟩:=h;cases e<;>first|exact(b rfl).elim|exact⟨σ,L,c,d,f⟩
theorem OA{Z:Array Oper}{Ls:List kM}{i:Nat}{r:lC}:uQ ws P n W Ls Z Q (lC.op i r) σ L=(∃o,Z[i]? =some o/\
 (pO ws Z i<=1->∃v,l8 n o.dst=true/\((lP Z σ o=true/\(if pO ws Z i=0 then∀w,(execOp (ev σ) o).run P w=.ok (.value v) w else zV P W L σ o v))\/(lP Z σ o=false/\v=undef))/\
  uQ ws P n W Ls Z Q r (l6 σ o.dst v) L)/\
 (2<=pO ws Z i->∀a w,n9 n σ a->Mem W w L->
  (lP Z σ o=true->o.wp P a w (λc w'=>∃b L',n9 n b c/\Mem W w' L'/\(pO ws Z i=2->Sub L L')/\(Sub Ls L->Sub Ls L')/\uQ ws P n W Ls Z Q r b L') (nQ n W Q))/\
  (lP Z σ o=false->∃b,n9 n b (a.put o.dst undef)/\uQ ws P n W Ls Z Q r b L))):=rfl
theorem GV{Z:Array Oper}{Ls:List kM}:∀(l:List Nat) (p:lC) (σ:St) (L:List kM),(l.all λi=>(Z[i]?).isSome&&!ws.contains i)=true->AR P n W Ls Z (JJ ws P n W Ls Z Q p) (l.filterMap (Z[·]?)) σ L->uQ ws P n W Ls Z Q (lC.Z l p) σ L
 |[],_,_,_,_,h=>h
 |i::r,p,σ,L,d,h=>by
  rw[aK] at d;have f:=d i (ay ..);rw[aF] at f;obtain⟨o,g⟩:=fm.1 f.1;have t:pO ws Z i=o7 o.op:=by unfold pO;rw[ai (by simpa using f.2)];simp[vC,g]
  have u:(i::r).filterMap (Z[·]?)=o::r.filterMap (Z[·]?):=by simp[g]
  rw[u] at h;have k:(r.all λi=>(Z[i]?).isSome&&!ws.contains i)=true:=by rw[aK];exact λj x=>d j (aI _ x)
  obtain⟨b,c⟩:=h;rw[lC.Z,OA];refine⟨o,g,λm=>?_,λm a w y z=>?_⟩;all_goals rw[t] at*
  ·obtain⟨v,A,B,C⟩:=b m;exact⟨v,A,B,GV r p _ _ k C⟩
  ·obtain⟨D,E⟩:=c m a w y z;refine⟨λq=>FQ (λe F a w h=>Wu F h) (gM (λJ w' ⟨s,L',b,c,G,H,I⟩=>⟨s,L',b,c,G,H,GV r p _ _ k I⟩) (D q)),λq=>?_⟩;obtain⟨s,b,c⟩:=E q;exact⟨s,b,GV r p _ _ k c⟩
theorem Bv{Z:Array Oper}{Ls:List kM}(l:List Nat)(p:lC)(σ:St)(L:List kM)(a:(l.all λi=>(Z[i]?).isSome&&!ws.contains i)=true)(h:SL P n W (.sched Ls) Z (JJ ws P n W Ls Z Q p) (l.filterMap (Z[·]?)) σ L):uQ ws P n W Ls Z Q (lC.Z l p) σ L:=GV l p σ L a h.IW
def OB(ws:List Nat)(P:Program)(n:Sz)(W:World)(Ls:List kM)(Z:Array Oper)(Q:Exit->St->List kM->Prop)(p:lC):Exit->St->List kM->Prop
 |.normal,σ,L=>Sub Ls L/\uQ ws P n W Ls Z Q p σ L
 |e,σ,L=>Q e σ L
theorem DG{Z:Array Oper}{Ls:List kM}{i:Nat}{o:Oper}{p:lC}(k:ws.contains i=true)(l:Z[i]? =some o)(d:lP Z σ o=true)(m:∀σ L,¬Q .outgrown σ L)(h:SL P n W .plain Z (OB ws P n W Ls Z Q p) [o] σ L) (B:Sub Ls L):uQ ws P n W Ls Z Q (lC.op i p) σ L:=by
 rw[OA];have q:pO ws Z i=3:=by unfold pO;rw[aj k]
 rw[q];refine⟨o,l,λC=>by omega,λ_ a w f r=>⟨λ_=>?_,λg=>by rw[d] at g;cases g⟩⟩;have b:=h.run a w f r;unfold wpList at b;rw[f.wanted Z o,aj d] at b;have j:∀e,e≠ .normal->∀a w,nQ n W (OB ws P n W Ls Z Q p) e a w->nQ n W Q e a w:=λe s a w ⟨c,L',x,y,z⟩=>by cases e<;>first|exact(s rfl).elim|exact⟨c,L',x,y,z⟩
 rcases b with b|⟨b,t,w',u⟩;·exact FQ j (gM (λt w' ⟨c,L',x,y,z1,v⟩=>⟨c,L',x,y,λh=>by omega,λ_=>z1,v⟩) b)
 ·obtain⟨c,L',_,_,A⟩:=j _ Zs _ _ u;exact(m c L' A).elim
end
end
section
open Top Proofs.Tryz
def nc(w:Wl)(a b:Value):List Value:=[nN w.ln.size,sv w.ln.pU,a,nI w.seq,nI w.mR,nI w.next,nN w.mK,nI w.nu,nI w.mD,b,.bool w.tu,nI w.n7,nI w.oW,nI w.pV]
def vu(w:Wl)(a b:Value)(c:Nat):List Value:=[nN w.ln.size,sv w.ln.pU,a,nI w.seq,nI w.mR,nI w.next,nN w.mK,nI w.nu,nI w.mD,b,.bool w.tu,nI w.n7,nI w.oW,nI w.pV,.func (.func 172) #[] #[.pointer (some ⟨c,0,none⟩)]]
structure qM(H:kM)(w:Wl)(a b:Value):Prop where
 ld:Sl 2 sF H a w.ln.ld
 waits:Sl 1 ni H b w.waits
theorem qM.up{H a:kM}{w:Wl}{b c:Value}(h:qM H w b c)(hl:H.le a):qM a w b c:=⟨h.ld.up hl,h.waits.up hl⟩
def Cq(w:Wl)(H:kM)(r:Value):Prop:=∃a b,r=.agg (nc w a b).toArray/\qM H w a b
theorem Wv(H:kM)(w:Wl)(b d:Value)(h:qM H w b d)(W:World)(L:List kM):m3 prog W 97 #[.agg (nc w b d).toArray] (fz H::L) (λv L'=>∃g a f,H.le f/\f.kn (nX a [.pointer (some ⟨g,0,none⟩)])/\v=.pointer (some ⟨g,0,none⟩)/\L'=k4 g 198 (vu w b d a)::fz f::L):=by obtain⟨A,c,rfl,_,_⟩:=h.ld;obtain⟨B,e,rfl,_,_⟩:=h.waits;refine enter func97 ?_;refine U ?_;intro m;refine U ?_;intro i;refine U ?_;intro a;refine U ?_;refine C5 (hf:=f1 (f1 f0)) o0 (λj k l=>?_);refine kS ?_;exact lj results97 (L':=k4 i 198 (vu w (.slice A w.ln.ld.length c) (.slice B w.waits.length e) a)::fz j::L) Zt lv ⟨i,a,j,k,l,rfl,rfl⟩
theorem GW(w:Wl)(pos:Nat)(s:kV):xu w pos s=(vJ w.ln pos s).map λd=>{w with ln:=d}:=rfl
theorem GX(w:Wl)(pos:Nat)(s:kV):sB w pos s=(xu w pos s).getD w:=rfl
theorem DH(H:kM)(g b:Nat)(B:H.kn (nX b [.pointer (some ⟨g,0,none⟩)]))(w:Wl)(m e:Value)(i:qM H w m e)(hl:w.ln.ld.length<=1000000)(pos:Nat)(hp:pos<=1000000000)(p:w.ln.size<=1000000000)(s:kV)(q:s.length<=10000000):Ch prog 172 #[nN pos,sv s,.pointer (some ⟨b,0,none⟩)] H (k4 g 198 (vu w m e b)) (λt e' r=>∃n,qM t (sB w pos s) n e/\e'=k4 g 198 (vu (sB w pos s) n e b)/\r=nI (Az w.ln pos s)):=λW L=>by
 obtain⟨A,c,rfl,_,_⟩:=i.ld;have u:=GW w pos s;have a:=GX w pos s;rw[u] at a;have f:Az w.ln pos s=if(vJ w.ln pos s).isSome then 0 else if sy w.ln then 120 else 121:=rfl;refine enter func172 ?_;refine U ?_;refine l4 (hp:=f1 f0) (Wg H w.ln _ i.ld hl pos hp p s q) ?_;rintro j _ k ⟨_,rfl,C,rfl,h⟩;cases o:vJ w.ln pos s with
 |none=>rw[o] at a f h;obtain⟨l,c1,rfl,_,_⟩:=Zi h;simp only[cO,bI] at a;obtain⟨x,v,y⟩:∃x:Int,Az w.ln pos s=x/\x≠0:=⟨_,rfl,by rw[f];simp only[cN];split<;>first|contradiction|(split<;>decide)⟩;rw[v];simp only[bI];refine U ?_;intro z;refine U ?_;rw[show(x==0)=false from by simpa using y];refine U ?_;refine kS ?_;exact lj results172 (L':=k4 g 198 (vu w (.slice A w.ln.ld.length c) e b)::fz j::L) Zt lv ⟨j,_,k,rfl,_,by rw[a];exact i.up k,by rw[a],rfl⟩
 |some d=>rw[o] at a f h;obtain⟨l,c1,rfl,_,_⟩:=Zi h;simp only[aW,aN] at a;simp only[dR,cc] at f;rw[f];simp only[aN];refine U ?_;intro z;refine U ?_;refine rM (vs:=qz d (.slice l d.ld.length c1)) rfl rfl rfl rfl rfl (p1 p0) rfl (λ_=>trivial) rfl ?_;refine U ?_;refine kS ?_;exact lj results172 (L':=k4 g 198 (vu {w with ln:=d} (.slice l d.ld.length c1) e b)::fz j::L) Zt lv ⟨j,_,k,rfl,_,by rw[a];exact⟨h,i.waits.up k⟩,by rw[a]<;>rfl,rfl⟩
theorem OC(w:Wl):s5 w={w with ln:=sO w.ln,tu:=false}:=rfl
theorem JK(H:kM)(g e:Nat)(w:Wl)(f a:Value)(b:qM H w f a)(hl:w.ln.ld.length<=1000000):Ch prog 100 #[.pointer (some ⟨g,0,none⟩)] H (k4 g 198 (vu w f a e)) (λl e' _=>∃h,qM l (s5 w) h a/\e'=k4 g 198 (vu (s5 w) h a e)):=λW L=>by obtain⟨A,c,rfl,_,_⟩:=b.ld;have i:=OC w;refine enter func100 ?_;refine U ?_;refine l4 (hp:=f1 f0) (Wb H w.ln _ b.ld hl) ?_;rintro m _ j ⟨o,rfl,k⟩;generalize sO w.ln=d at*;obtain⟨n,c1,rfl,_,_⟩:=Zi k;refine U ?_;refine rM (vs:=qz d (.slice n d.ld.length c1)) rfl rfl rfl rfl rfl p0 rfl (λ_=>trivial) rfl ?_;refine U ?_;exact xK results100 ⟨m,_,j,rfl,_,by rw[i];exact⟨k,b.waits.up j⟩,by rw[i]<;>rfl⟩
theorem OD(H:kM)(g c:Nat)(w:Wl)(e b:Value)(f:qM H w e b)(hl:w.ln.ld.length<=1000000):Ch prog 236 #[.pointer (some ⟨g,0,none⟩)] H (k4 g 198 (vu w e b c)) (λi e' _=>∃d,qM i (sa w) d b/\e'=k4 g 198 (vu (sa w) d b c)):=λW L=>by
 have a:sa w=if w.tu then s5 w else w:=rfl;refine enter func236 ?_;refine U ?_;cases h:w.tu with
 |false=>rw[h] at a;refine U ?_;exact xK results236 ⟨H,_,le_refl H,rfl,_,by rw[a];exact f,by rw[a]<;>rfl⟩
 |true=>rw[h] at a;refine U ?_;refine tK o0 (JK H g c w _ _ f hl) ?_;rintro j _ _ k ⟨d,l,rfl⟩;refine q8 ?_;exact xK results236 ⟨j,_,k,rfl,_,by rw[a];exact l,by rw[a]<;>rfl⟩
structure qH(w:Wl):Prop where
 ln:qZ w.ln
 ld:w.ln.ld.length<=500000
 seq:0<=w.seq/\w.seq<=1000
 mR:0<=w.mR/\w.mR<=1000000000
 next:0<=w.next/\w.next<=1000000000
 mK:w.mK<=w.ln.size
 nu:-1000000000<=w.nu/\w.nu<=1000000000
 mD:-1000000000<=w.mD/\w.mD<=1000000000
 waits:w.waits.length<=100000
 se:∀p∈w.waits,p.length<=1000000
 n7:0<=w.n7/\w.n7<=2
 oW:0<=w.oW/\w.oW<=1000000000
 pV:0<=w.pV/\w.pV<=1000000000
theorem JL(w:Wl)(p:kV):zu w p=if p.length>40000\/w.next>1000000 then none else some {w with waits:=w.waits++[p],next:=w.next+1}:=rfl
theorem Ww(H:kM)(w:Wl)(n o:Value)(d:qM H w n o)(q:qH w)(p:kV)(hp:p.length<=1000000000):Fn prog 178 #[.agg (nc w n o).toArray,sv p] H (λf r=>∃v,r=.tuple #[v,nI (if(zu w p).isSome then w.next else 0),nI (if(zu w p).isSome then 0 else 130)]/\Cq ((zu w p).getD w) f v):=λW L=>by
 obtain⟨A,c,rfl,C,_⟩:=Zi d.ld;obtain⟨B,e,rfl,D,s⟩:=Zi d.waits;have b:=JL w p;have E:=q.next;have F:=q.waits;refine enter func178 ?_;refine U ?_;intro G;refine U ?_;intro I;refine U ?_;by_cases y:40000<p.length;·rw[show decide ((40000:Int)<(p.length:Int))=true from Zq];rw[aj (.inl y)] at b;refine U ?_;refine kS ?_;exact tg (c1 (c1 c0)) results178 (.agg (cs:=nc w (.slice A w.ln.ld.length c) (.slice B w.waits.length e)) inferInstance rfl lW rfl) Zt Zt (λf hl _=>⟨_,by rw[b]<;>rfl,by rw[b];exact⟨_,_,rfl,d.up hl⟩⟩)
 ·rw[show decide ((40000:Int)<(p.length:Int))=false from Zq];refine U ?_;by_cases i:1000000<w.next;·rw[show decide (1000000<w.next)=true from aZ i];rw[aj (.inr i)] at b;refine U ?_;refine kS ?_;exact tg (c1 (c1 c0)) results178 (.agg (cs:=nc w (.slice A w.ln.ld.length c) (.slice B w.waits.length e)) inferInstance rfl lW rfl) Zt Zt (λf hl _=>⟨_,by rw[b]<;>rfl,by rw[b];exact⟨_,_,rfl,d.up hl⟩⟩)
  ·rw[show decide (1000000<w.next)=false from bx i];rw[ai Zo] at b;refine U ?_;refine EO (h:=w.waits.length) rfl rfl rfl Zo rfl rfl ?_;refine U ?_;intro u;refine U ?_;cases B with
   |none=>refine SL.pure (φ:=w.waits=[]) (λw' z=>xz (nS Zn s (le_refl H) w' z)) (λx=>?_);rw[x] at b;refine SL.oA 9 1 ni none ?_;refine td (l:=([]:List kV)) (news:=[p]) (enc:=ni) (A:=none) (c:=0) (by show Value.slice none w.waits.length w.waits.length=_;rw[x]<;>rfl) rfl (oG (g:=u) (t:=9) (cs:=ni p) Zn rfl) (λ_ _=>by(first|exact p0|exact p1 p0|exact p1 (p1 p0)|exact p1 (p1 (p1 p0))|exact p1 (p1 (p1 (p1 p0)))|exact p1 (p1 (p1 (p1 (p1 p0))))|exact p1 (p1 (p1 (p1 (p1 (p1 p0)))))|exact p1 (p1 (p1 (p1 (p1 (p1 (p1 p0)))))))) Zl Zm rfl (λ_ _=>by(first|exact λ_=>trivial|(intro _;refine Sub.of ?_;exact Zu))) rfl rfl (λj k=>?_);refine U ?_;refine kS ?_;exact tg (c1 (c1 (c1 (c1 c0)))) results178 (.agg (cs:=nc {w with waits:=([]:List kV)++[p],next:=w.next+1} (.slice A w.ln.ld.length c) (.slice j (([]:List kV)++[p]).length k)) inferInstance rfl lW rfl) Zt Zt (λf hl m=>⟨_,by rw[b]<;>rfl,by rw[b];exact⟨_,_,rfl,d.ld.up hl,m.sl m0⟩⟩)
   |some a=>refine Mt (l:=w.waits) (news:=[p]) (enc:=ni) rfl (nS Zn s (le_refl H)) rfl (oG (g:=u) (t:=9) (cs:=ni p) Zn rfl) Zs Zl Zl rfl rfl (λj k=>?_);refine U ?_;refine kS ?_;exact tg (c1 (c1 (c1 (c1 c0)))) results178 (.agg (cs:=nc {w with waits:=w.waits++[p],next:=w.next+1} (.slice A w.ln.ld.length c) (.slice j (w.waits++[p]).length k)) inferInstance rfl lW rfl) Zt Zt (λf hl m=>⟨_,by rw[b]<;>rfl,by rw[b];exact⟨_,_,rfl,d.ld.up hl,m.sl m0⟩⟩)
section
variable{P:Program}{n:Sz}{W:World}{q:Md}{Q:Exit->St->List kM->Prop}{σ:St}{L:List kM}{Z:Array Oper}{rest:List Oper}
 {dst:Option Nat} {ty:TypeId} {pos:String} {lf:Array Edge} {gd:Option (Nat×Bool)}
def Mh(P:Program)(f:FuncId)(args:Array Value)(H:kM)(R:kM->List kM->Value->Prop):Prop:=∀W L,m3 P W f args (fz H::L) (λv L'=>∃a es,H.le a/\L'=es++fz a::L/\R a es v)
theorem DI{f:Operand}{l:List Operand}{e:Array TypeId}{k:Nat}{fst cap:List Value}{H:kM}{R:kM->List kM->Value->Prop}{L':kM->List kM}(i:Mh P k (fst++l.map (ev σ)++cap).toArray H R) (h:∀a es v,H.le a->R a es v->SL P n W q Z Q rest (l6 σ dst v) (es++L' a))(hp:vD L H L':=by repeat first|exact f0|refine f1 ?_)
 (j:q.pb=true:=by rfl)
 (hf:ev σ f=.func (.func k) fst.toArray cap.toArray:=by rfl) (m:lP Z σ ⟨dst,.call {callee:=.value f,args:=l.toArray,argTypes:=e},ty,pos,lf,gd⟩=true:=by rfl) (o:l8 n dst=true:=by rfl):
 SL P n W q Z Q (⟨dst,.call {callee:=.value f,args:=l.toArray,argTypes:=e},ty,pos,lf,gd⟩::rest) σ L:=by
 obtain⟨pre,post,p,r⟩:=id hp;have g:m3 P W k (fst++l.map (ev σ)++cap).toArray L (λv c=>∃a es,H.le a/\c=es++L' a/\R a es v):=
  ((
   i W (pre++post)).at pre post p).conv λv c ⟨a,es,b,s,t⟩=>by
   refine⟨es++L' a,λw d=>?_,a,es,b,rfl,t⟩;subst s;rw[r];exact d.ny ((rT pre post (fz a)).symm.append_left es)
 refine AT j rfl m o (BL hf g.BO) g ?_;rintro v c ⟨a,es,b,rfl,u⟩;exact⟨.inr λx w d=>(d.sublist (gG es _)).fz b (hp.put a),h a es v b u⟩
end
theorem DJ(H:kM)(w:Wl)(a b:Value)(e:qM H w a b):Mh prog 97 #[.agg (nc w a b).toArray] H (λd es v=>∃g c,d.kn (nX c [.pointer (some ⟨g,0,none⟩)])/\v=.pointer (some ⟨g,0,none⟩)/\es=[k4 g 198 (vu w a b c)]):=λW L=>(Wv H w a b e W L).conv λv f ⟨g,c,d,h,i,j,k⟩=>⟨f,λ_ l=>l,d,[k4 g 198 (vu w a b c)],h,k,g,c,i,j,rfl⟩
theorem JM(w:Wl):wv w=if w.n7≠0 then{s5 w with n7:=2,mD:=max w.nu (w.oW-1)} else{s5 w with mD:=w.nu}:=rfl
theorem OF(H:kM)(w:Wl)(n o:Value)(d:qM H w n o)(m:qH w):Fn prog 176 #[.agg (nc w n o).toArray] H (Cq (wv w)):=λW L=>by
 obtain⟨A,c,rfl,u,_⟩:=Zi d.ld;obtain⟨B,e,rfl,v,x⟩:=Zi d.waits;have f:wv w=if(s5 w).n7≠0 then{s5 w with n7:=2,mD:=max (s5 w).nu ((s5 w).oW-1)} else{s5 w with mD:=(s5 w).nu}:=rfl;have y:0<=(s5 w).oW/\(s5 w).oW<=1000000000:=m.oW;have z:-1000000000<=(s5 w).nu/\(s5 w).nu<=1000000000:=m.nu;have C:=m.ld;refine enter func176 ?_;refine U ?_;intro D;refine U ?_;intro E;refine U ?_;refine DI (L':=λp=>_) (hp:=f1 (f1 f0)) (DJ H w _ _ d) ?_;rintro q _ _ r ⟨g,s,F,rfl,rfl⟩;simp only[aD];refine U ?_;refine tK (hf:=f1 (f1 f0)) o0 (JK q g s w _ _ (d.up r) Zo) ?_;rintro G _ _ I ⟨J,b,rfl⟩;generalize s5 w=a at*;obtain⟨i,j,rfl,_,_⟩:=Zi b.ld;obtain⟨k,e',t,_,_⟩:=Zi b.waits;rw[t] at b⊢;refine U ?_;by_cases l:a.n7=0;·rw[ai (by simp[l])] at f;rw[show(a.n7 != 0)=false from by simp[l]];refine U ?_;refine pN rfl (qP Zn) (nc {a with mD:=a.nu} (.slice i a.ln.ld.length j) (.slice k a.waits.length e')) rfl rfl rfl rfl ?_;refine U ?_;refine kS ?_;exact lX (c1 (c1 (c1 c0))) results176 (.agg (cs:=nc {a with mD:=a.nu} (.slice i a.ln.ld.length j) (.slice k a.waits.length e')) inferInstance rfl lW rfl) (λp hl _=>by rw[f];exact⟨_,_,rfl,b.ld.up hl,b.waits.up hl⟩)
 ·rw[aj l] at f;rw[show(a.n7 != 0)=true from by simpa using l];refine U ?_;refine nq [0,1,2,3,4,5,6,7,8,9,10,11,12,13,14,15,16] Zk Zk Zk Zk Zk (λ_ _ _ h=>h) ?_;refine U ?_;refine pN rfl (qP Zn) (nc {a with n7:=2,mD:=max a.nu (a.oW-1)} (.slice i a.ln.ld.length j) (.slice k a.waits.length e')) rfl rfl rfl rfl ?_;refine U ?_;refine kS ?_;exact lX (c1 (c1 (c1 c0))) results176 (.agg (cs:=nc {a with n7:=2,mD:=max a.nu (a.oW-1)} (.slice i a.ln.ld.length j) (.slice k a.waits.length e')) inferInstance rfl lW rfl) (λp hl _=>by rw[f];exact⟨_,_,rfl,b.ld.up hl,b.waits.up hl⟩)
def vO(w:Wl):Wl:={w with seq:=w.seq+1,mR:=w.oW,mK:=nv w.ln.size,nu:=max w.nu (w.oW-1),waits:=w.waits.drop (min (max w.pV 0) w.waits.length).toNat}
theorem OG(w:Wl):Dc w=if w.n7≠2\/sy w.ln=false then none else some {sB (vO w) (vO w).mK (oV (((vO w).ln.size-(vO w).mK)*16)) with tu:=true,n7:=0,oW:=0,pV:=0}:=rfl
theorem Wx(H:kM)(w:Wl)(D E:Value)(f:qM H w D E)(d:qH w):Fn prog 181 #[.agg (nc w D E).toArray] H (λt r=>∃v,r=.tuple #[v,nI (if(Dc w).isSome then 0 else 140)]/\Cq ((Dc w).getD w) t v):=λW L=>by
 obtain⟨A,c,rfl,kJ,_⟩:=Zi f.ld;obtain⟨B,e,rfl,kL,Q⟩:=Zi f.waits;have i:=OG w;have R:=d.oW;have kO:=d.pV;have S:=d.nu;have T:=d.ld;have kQ:=d.seq;have V:=d.ln.size;have kT:=d.waits;refine enter func181 ?_;refine U ?_;intro u;refine U ?_;intro x;refine U ?_;by_cases p:w.n7=2
 ·rw[show(w.n7 != 2)=false from by simp[p]];refine U ?_;refine mi (Dv H w.ln _ f.ld) ?_;rw[Ay.2 d.ln];rw[ai (by rw[Ay.2 d.ln];simp[p])] at i;refine U ?_;refine DI (hp:=f1 (f1 f0)) (DJ H w _ _ f) ?_;rintro y _ _ F ⟨g,q,X,rfl,rfl⟩;simp only[aD];refine U ?_;refine md (JD w.ln.size Zo W _) ?_;refine U ?_;obtain⟨k,G,kX⟩:∃k:Nat,min (max w.pV 0) (w.waits.length:Int)=(k:Int)/\k<=w.waits.length:=⟨(min (max w.pV 0) (w.waits.length:Int)).toNat,by omega,by omega⟩;have I:vO w={w with seq:=w.seq+1,mR:=w.oW,mK:=nv w.ln.size,nu:=max w.nu (w.oW-1),waits:=w.waits.drop k}:=by unfold vO;rw[G];rfl
  obtain⟨b,n⟩:∃b:Wl,b={w with seq:=w.seq+1,mR:=w.oW,mK:=nv w.ln.size}:=⟨_,rfl⟩;have kY:0<=b.oW/\b.oW<=1000000000:=by rw[n];exact R
  have kZ:-1000000000<=b.nu/\b.nu<=1000000000:=by rw[n];exact S
  refine SC.mL (L':=k4 g 198 (vu b (.slice A w.ln.ld.length c) (.slice B w.waits.length e) q)::k4 x 76 (nc (default:Wl) (.slice none 0 0) (.slice none 0 0))::k4 u 76 (nc w (.slice A w.ln.ld.length c) (.slice B w.waits.length e))::fz y::L) (λ_ j=>by rw[n];exact j) ?_;refine nq [0,1,2,3,4,5,6,7,8,9,10,11,12,13,14,15,16] Zk Zk Zk Zk Zk (λ_ _ _ h=>h) ?_;refine U ?_;obtain⟨s,z⟩:∃s:Wl,s={b with nu:=max b.nu (b.oW-1)}:=⟨_,rfl⟩;have Y:s.pV=w.pV:=by rw[z,n]
  refine SC.mL (L':=k4 g 198 (vu s (.slice A w.ln.ld.length c) (.slice B w.waits.length e) q)::k4 x 76 (nc (default:Wl) (.slice none 0 0) (.slice none 0 0))::k4 u 76 (nc w (.slice A w.ln.ld.length c) (.slice B w.waits.length e))::fz y::L) (λ_ j=>by rw[z];exact j) ?_;refine nq [0,1,2,3,4,5,6,7,8,9,10,11,12,13,14,15,16,17,18,19,20,21,22,23,24] Zk Zk Zk Zk Zk (λ_ _ _ h=>h) ?_;refine U ?_;rw[Y];rw[G];refine vX (l:=k) rfl rfl Zo rfl rfl ?_;rw[show w.waits.length-k=(w.waits.drop k).length from bi.symm];refine U ?_;refine ov (Gu ni y (qd B e k 1) (e-k) (w.waits.drop k) (by rw[bi];omega) (Sl.drop (Q.up F) Zo k)) ?_;rintro _ _ ⟨J,K,rfl,rfl⟩;simp only[aD];refine U ?_;refine tJ (hf:=f1 (f1 (f1 f0))) o0 (λC M kF kG=>?_);refine SC.mL (L':=k4 g 198 (vu (vO w) (.slice A w.ln.ld.length c) (.slice J (vO w).waits.length K) q)::k4 x 76 (nc (default:Wl) (.slice none 0 0) (.slice none 0 0))::k4 u 76 (nc w (.slice A w.ln.ld.length c) (.slice B w.waits.length e))::fz C::L) (λ_ j=>by rw[I];rw[z,n] at j;exact j) ?_;have kH:qM C (vO w) (.slice A w.ln.ld.length c) (.slice J (vO w).waits.length K):=by rw[I];exact⟨f.ld.up (le_trans F M),⟨_,_,rfl,kG,kF⟩⟩
  have k5:(vO w).ln.ld.length<=500000:=T;have k7:(vO w).ln.size<=65536:=V;have k8:(vO w).mK<=(vO w).ln.size:=by show nv w.ln.size<=w.ln.size;unfold nv;omega
  generalize vO w=a at*;refine DF (ws:=[22]) [] (lC.Z [0,1,2,3,4,5,6,7,8,9,10,11,12,13,14,15,16,17,18,19,20,21] (.op 22 .mZ)) Zk Zk Zk Zk (λ_ _ _ h=>h) (.of Zu) ?_;refine Bv _ _ _ _ Zk ?_;refine U ?_;rw[show(a.ln.size:Int)-(a.mK:Int)=((a.ln.size-a.mK:Nat):Int) from by omega];refine md (JE (a.ln.size-a.mK) Zo W _) ?_;refine q8 ?_;refine DG rfl rfl rfl (λ_ _ h=>h) ?_ Sub.nil;refine tK (hf:=f1 (f1 f0)) o0 (DH C g q (X.up M) a _ _ kH Zo a.mK Zo Zo (oV ((a.ln.size-a.mK)*16)) (by unfold oV;rw[bS];omega)) ?_;rintro H3 _ _ k9 ⟨lc,o,rfl,rfl⟩;refine q8 ?_;refine⟨Sub.nil,?_⟩;generalize sB a a.mK (oV ((a.ln.size-a.mK)*16))=m at*;obtain⟨N,O,rfl,_,_⟩:=Zi o.ld;obtain⟨P,e',kI,_,_⟩:=Zi o.waits;rw[kI] at o⊢;refine U ?_;refine pN rfl (qP Zn) (nc {m with tu:=true,n7:=0,oW:=0,pV:=0} (.slice N m.ln.ld.length O) (.slice P m.waits.length e')) rfl rfl rfl rfl ?_;refine U ?_;refine kS ?_;exact m7 (c1 (c1 (c1 c0))) results181 (.agg (cs:=nc {m with tu:=true,n7:=0,oW:=0,pV:=0} (.slice N m.ln.ld.length O) (.slice P m.waits.length e')) inferInstance rfl lW rfl) Zt (λt hl _=>⟨_,by rw[i]<;>rfl,by rw[i];exact⟨_,_,rfl,o.ld.up hl,o.waits.up hl⟩⟩)
 ·rw[show(w.n7 != 2)=true from by simpa using p];rw[aj (.inl p)] at i;refine U ?_;refine kS ?_;exact m7 (c1 (c1 c0)) results181 (.agg (cs:=nc w (.slice A w.ln.ld.length c) (.slice B w.waits.length e)) inferInstance rfl lW rfl) Zt (λt hl _=>⟨_,by rw[i]<;>rfl,by rw[i];exact⟨_,_,rfl,f.up hl⟩⟩)
theorem DK(d:Dk):(sO d).size=d.size:=by rw[GJ];split<;>rfl
theorem Wy(d:Dk):(sO d).ld.length<=d.ld.length:=by rw[GJ];split<;>simp
structure Wz(w a:Wl):Prop where
 size:a.ln.size=w.ln.size
 ld:a.ln.ld.length<=w.ln.ld.length
 seq:a.seq=w.seq
 mR:a.mR=w.mR
 next:a.next=w.next
 mK:a.mK=w.mK
 nu:a.nu=w.nu
 mD:a.mD=w.mD
 waits:a.waits=w.waits
 n7:a.n7=w.n7
 oW:a.oW=w.oW
 pV:a.pV=w.pV
theorem OH(w:Wl):Wz w (sa w):=by
 unfold sa;split;·exact⟨DK _,Wy _,rfl,rfl,rfl,rfl,rfl,rfl,rfl,rfl,rfl,rfl⟩
 ·exact⟨rfl,aA _,rfl,rfl,rfl,rfl,rfl,rfl,rfl,rfl,rfl,rfl⟩
theorem OI(w:Wl)(state:kV):wV w state=if w.n7≠0\/w.seq>=200 then none else match xq w.next state with
 |none=>none
 |some text=>match u7 (w.seq+1) text with
  |none=>none
  |some s=>if s.length/16>w.ln.size/4 then none else match xu (sa w) (pp w.ln.size (w.seq+1)) s with
   |none=>none
   |some l=>some {l with n7:=1,oW:=l.next,pV:=l.waits.length}:=rfl
theorem OJ(d:Dk)(pos:Nat)(s:kV):Az d pos s=0↔(vJ d pos s).isSome=true:=by
 unfold Az;cases vJ d pos s with
 |some _=>simp
 |none=>simp;split<;>decide
theorem WA{mR:Int}{state t:kV}(h:xq mR state=some t):t.length<=40000:=by
 rw[Oq] at h;split at h;·cases h
 ·split at h;·cases h
  ·cases h;omega
theorem WB(H:kM)(F:Steps H)(w:Wl)(G I:Value)(k:qM H w G I)(p:qH w)(state:kV)(n:state.length<=1000000000):Fn prog 180 #[.agg (nc w G I).toArray,sv state] H (λl r=>∃v m,r=.tuple #[v,nI m]/\(m=0↔(wV w state).isSome=true)/\Cq ((wV w state).getD w) l v):=λW L=>by
 obtain⟨A,c,rfl,kQ,_⟩:=Zi k.ld;obtain⟨B,e,rfl,kT,kX⟩:=Zi k.waits;have f:=OI w state;have kY:=p.ld;have kZ:=p.seq;have k5:=p.ln.size;have k7:=p.waits;have k8:=p.next;obtain⟨z,X⟩:∃z:Nat,w.next=(z:Int):=⟨w.next.toNat,by omega⟩;refine enter func180 ?_;refine U ?_;intro g2;refine U ?_;intro g4;refine U ?_;by_cases C:w.n7=0
 ·rw[show(w.n7 != 0)=false from by simp[C]];refine U ?_;by_cases D:200<=w.seq;·rw[show decide ((200:Int)<=w.seq)=true from aZ D];rw[aj (.inr D)] at f;refine U ?_;refine kS ?_;exact m7 (c1 (c1 c0)) results180 (.agg (cs:=nc w (.slice A w.ln.ld.length c) (.slice B w.waits.length e)) inferInstance rfl lW rfl) Zt (λl hl _=>⟨_,193,rfl,by rw[f];simp,by rw[f];exact⟨_,_,rfl,k.up hl⟩⟩)
  ·rw[show decide ((200:Int)<=w.seq)=false from bx D];rw[ai Zo] at f;have J:Pf prog 94 #[nI w.next,sv state] (.tuple #[oS (xq w.next state),oE (xq w.next state) 130]):=by rw[X];exact Ot z Zo state Zo
   have n:=OH w;refine U ?_;cases q:xq w.next state with
   |none=>rw[q] at f;refine md (J.eq (v':=.tuple #[sv [],nI 130]) (by rw[q];rfl) W _) ?_;refine U ?_;refine kS ?_;exact m7 (c1 (c1 c0)) results180 (.agg (cs:=nc w (.slice A w.ln.ld.length c) (.slice B w.waits.length e)) inferInstance rfl lW rfl) Zt (λl hl _=>⟨_,130,rfl,by rw[f];simp,by rw[f];exact⟨_,_,rfl,k.up hl⟩⟩)
   |some text=>
    have k9:=WA q;simp only[q] at f;refine md (J.eq (v':=.tuple #[sv text,nI 0]) (by rw[q];rfl) W _) ?_;refine U ?_;cases t:u7 (w.seq+1) text with
    |none=>simp only[t] at f;refine mi ((Co H F (w.seq+1) ⟨by omega,by omega⟩ text Zo).eq (v':=.tuple #[sv [],nI 130]) (by rw[t];rfl)) ?_;refine U ?_;refine kS ?_;exact m7 (c1 (c1 c0)) results180 (.agg (cs:=nc w (.slice A w.ln.ld.length c) (.slice B w.waits.length e)) inferInstance rfl lW rfl) Zt (λl hl _=>⟨_,130,rfl,by rw[f];simp,by rw[f];exact⟨_,_,rfl,k.up hl⟩⟩)
    |some s=>
     have lc:=DB t;simp only[t] at f;refine mi ((Co H F (w.seq+1) ⟨by omega,by omega⟩ text Zo).eq (v':=.tuple #[sv s,nI 0]) (by rw[t];rfl)) ?_;refine U ?_;refine AW (a:=(s.length:Int)) (b:=16) rfl rfl Zd (by rw[show((s.length:Nat):Int).tdiv 16=((s.length/16:Nat):Int) from rfl];omega) rfl rfl ?_;rw[show((s.length:Nat):Int).tdiv 16=((s.length/16:Nat):Int) from rfl];refine U ?_;refine md (DC w.ln.size Zo W _) ?_;refine U ?_;by_cases K:w.ln.size/4<s.length/16;·rw[show decide (((w.ln.size/4:Nat):Int)<((s.length/16:Nat):Int))=true from Zq];rw[aj K] at f;refine U ?_;refine kS ?_;exact m7 (c1 (c1 c0)) results180 (.agg (cs:=nc w (.slice A w.ln.ld.length c) (.slice B w.waits.length e)) inferInstance rfl lW rfl) Zt (λl hl _=>⟨_,120,rfl,by rw[f];simp,by rw[f];exact⟨_,_,rfl,k.up hl⟩⟩)
     ·(rw[show decide (((w.ln.size/4:Nat):Int)<((s.length/16:Nat):Int))=false from Zq];rw[ai K] at f;refine U ?_;refine DI (hp:=f1 (f1 f0)) (DJ H w _ _ k) ?_;rintro Y _ _ M ⟨g,N,kF,rfl,rfl⟩;simp only[aD];refine U ?_;refine tK (hf:=f1 (f1 f0)) o0 (OD Y g N w _ _ (k.up M) Zo) ?_;rintro H2 _ _ O ⟨lg,P,rfl⟩;have u:sB (sa w) (pp w.ln.size (w.seq+1)) s=(xu (sa w) (pp w.ln.size (w.seq+1)) s).getD (sa w):=rfl;have o:xu (sa w) (pp w.ln.size (w.seq+1)) s=(vJ (sa w).ln (pp w.ln.size (w.seq+1)) s).map λd=>{sa w with ln:=d}:=rfl;generalize sa w=i at*;have kG:=n.size;have kH:=n.seq;have lh:=n.ld;have lm:=n.next;have kI:=n.waits;have lq:0<=i.seq/\i.seq<=1000:=by omega);obtain⟨A1,lu,rfl,_,_⟩:=Zi P.ld;refine U ?_;refine DF (ws:=[18]) [] (lC.Z [0,1,2,3,4,5,6,7,8,9,10,11,12,13,14,15,17,16] (.op 18 (lC.Z [19] .mZ))) Zk Zk Zk Zk (λ_ _ _ h=>h) (.of Zu) ?_;refine Bv _ _ _ _ Zk ?_;refine U ?_;refine md (GP i.ln.size Zo (i.seq+1) ⟨by omega,by omega⟩ W _) ?_;refine q8 ?_;rw[<-kG,<-kH] at f u o;have kJ:pp i.ln.size (i.seq+1)<=1000000000:=by unfold pp;split<;>omega
      refine DG rfl rfl rfl (λ_ _ h=>h) ?_ Sub.nil;refine tK (hf:=f1 (f1 f0)) o0 (DH H2 g N (kF.up O) i _ _ P Zo (pp i.ln.size (i.seq+1)) kJ Zo s Zo) ?_;rintro H3 _ _ kL ⟨lx,x,rfl,rfl⟩;have y:=OJ i.ln (pp i.ln.size (i.seq+1)) s;generalize Az i.ln (pp i.ln.size (i.seq+1)) s=m at*;refine q8 ?_;refine⟨Sub.nil,?_⟩;refine Bv _ _ _ _ Zk ?_;refine U ?_;cases Q:vJ i.ln (pp i.ln.size (i.seq+1)) s with
      |none=>(rw[Q] at y o;rw[o] at f u;have R:m≠0:=by intro h;have:=y.1 h;cases this);rw[show(m != 0)=true from by simpa using R];refine U ?_;refine kS ?_;exact m7 (c1 (c1 (c1 c0))) results180 (.agg (cs:=nc w (.slice A w.ln.ld.length c) (.slice B w.waits.length e)) inferInstance rfl lW rfl) Zt (λl hl _=>⟨_,m,rfl,by rw[f];simp[R],by rw[f];exact⟨_,_,rfl,k.up (le_trans M (le_trans O (le_trans kL hl)))⟩⟩)
      |some d=>
       (rw[Q] at y o;simp only[aW] at o;rw[o] at f u;have kO:m=0:=y.2 rfl;subst kO;simp only[aN] at u;rw[u] at x⊢;obtain⟨j,E⟩:∃j:Wl,j={i with ln:=d}:=⟨_,rfl⟩;have S:wV w state=some {j with n7:=1,oW:=j.next,pV:=w.waits.length}:=by rw[f,E];simp[kI]);have ly:0<=j.next/\j.next<=1000000000:=by rw[E];show 0<=i.next/\i.next<=1000000000;omega
       rw[<-E] at x⊢;obtain⟨T,V,rfl,_,_⟩:=Zi x.ld;refine U ?_;refine nq [0,1,2,3,4,5,6,7,8,9,10,11,12,13,14,15,16,17,18,19,20,21,22,23,24,25] Zk Zk Zk Zk Zk (λ_ _ _ h=>h) ?_;refine U ?_;refine pN rfl (qP Zn) (nc {j with n7:=1,oW:=j.next,pV:=w.waits.length} (.slice T j.ln.ld.length V) (.slice B w.waits.length e)) rfl rfl rfl rfl ?_;refine U ?_;refine kS ?_;exact m7 (c1 (c1 (c1 c0))) results180 (.agg (cs:=nc {j with n7:=1,oW:=j.next,pV:=w.waits.length} (.slice T j.ln.ld.length V) (.slice B w.waits.length e)) inferInstance rfl lW rfl) Zt (λl hl _=>⟨_,0,rfl,by rw[S];simp,by rw[S];exact⟨_,_,rfl,x.ld.up hl,x.waits.up hl⟩⟩)
 ·rw[show(w.n7 != 0)=true from by simpa using C];rw[aj (.inl C)] at f;refine U ?_;refine kS ?_;exact m7 (c1 (c1 c0)) results180 (.agg (cs:=nc w (.slice A w.ln.ld.length c) (.slice B w.waits.length e)) inferInstance rfl lW rfl) Zt (λl hl _=>⟨_,140,rfl,by rw[f];simp,by rw[f];exact⟨_,_,rfl,k.up hl⟩⟩)
section
open Go.RowKit
def WC(e:Nat)(A:Option Addr)(c:Nat)(l:kV)(w:World):Prop:=(c=0/\l=[])\/∃g cur a,0<c/\A=some ⟨g,0,none⟩/\w.heap[g]? =some (.cells cur e a)/\l.length<=cur.size/\cur.size<=maxLen/\cur.toList.take l.length=l.flatMap mI
def xT(e:Nat)(A:Option Addr)(c:Nat)(l:kV):kM:=
 ⟨λk=>0<c/\∃a,A=some a/\a.block=k,WC e A c l,λw w' h hp=>by
  rcases hp with hp|⟨g,cur,d,b,rfl,f,r⟩;·exact .inl hp
  ·exact .inr ⟨g,cur,d,b,rfl,(h g ⟨b,_,rfl,rfl⟩).trans f,r⟩⟩
theorem Mem.WD{W w:World}{L:List kM}{e c:Nat}{A:Option Addr}{l:kV}(h:Mem W w (li e 1 mI A c l::L)):Mem W w (xT e A c l::L):=by
 have d:=h.ok _ (ay ..);refine h.change (w':=w) (es:=[xT e A c l]) rfl rfl rfl (aA _) (λ_ _ _=>rfl) ?_ ?_ Zs
 ·intro x a;simp only[aE] at a;subst a;refine⟨λk b=>d.lt k (yK.2 b),?_⟩;rcases uE d.holds with f|⟨g,cur,i,rfl,j,n,o,p,m⟩
  ·exact .inl f
  ·exact .inr ⟨g,cur,(0,0),i,rfl,j,by omega,by omega,by simpa using m⟩
 ·intro x a k b;simp only[aE] at a;subst a;exact .inl (yK.2 b)
section
variable{P:Program}{n:Sz}{W:World}{q:Md}{Q:Exit->St->List kM->Prop}{σ:St}{L:List kM}{Z:Array Oper}{rest:List Oper}
 {dst:Option Nat} {ty:TypeId} {pos:String} {lf:Array Edge} {gd:Option (Nat×Bool)}
theorem WE{x y:Operand}{d f e c:Nat}[G:Ge P e]{A:Option Addr}{l:kV}{L0:List kM}(H:P.underlying d=some (.pointer e))(a:ev σ x=.pointer A)(I:ev σ y=.int .i64 (l.length:Int))(t:ti L (xT e A c l) L0) (J:q.pb=true)(K:lP Z σ ⟨dst,.call {callee:=.builtin .unsafeString,args:=#[x,y],argTypes:=#[d,f]},ty,pos,lf,gd⟩=true) (M:l8 n dst=true)
 (h:SL P n W q Z Q rest (l6 σ dst (sv l)) L):SL P n W q Z Q (⟨dst,.call {callee:=.builtin .unsafeString,args:=#[x,y],argTypes:=#[d,f]},ty,pos,lf,gd⟩::rest) σ L:=by
 have key:∀w,Mem W w L->∃w',(Builtin.unsafeString_ #[d,f] ty #[.pointer A,.int .i64 (l.length:Int)]).run P w=.ok (sv l) w'/\Mem W w' L:=by
  intro w i;have u:=i.ny t.ny;have v:=u.ok _ (ay ..);by_cases hl:l=[];·subst hl;exact⟨w,jh (P:=P) w d f ty A,i⟩
  ·rcases v.holds with⟨_,N⟩|⟨g,cur,z,B,rfl,m,C,D,E⟩;·exact absurd N hl
   ·refine⟨w.freeze ⟨g,0,none⟩ l.length,?_,?_⟩;·(refine jp (P:=P) w d f ty e H G.cells g cur.size (by simp[World.shape?,m]) l hl C (by unfold maxLen at D;omega) ?_;intro j b F;rw[cz,cV,dS w g j cur e z m];have p:(l.flatMap mI)[j]? =some (.int .u8 (b.toNat:Int)):=by have:=BM (enc:=mI) (size:=1) (λ_=>rfl) l j 0 b (.int .u8 (b.toNat:Int)) F rfl;simpa using this);rw[<-E] at p;have Y:j<l.length:=(ax.1 F).1;rw[cx Zo] at p;simpa using p
    ·have kF:g<w.heap.size:=(aO.1 m).1;have O:l.length≠0:=by simpa using hl
     (have r:∃s,(w.freeze ⟨g,0,none⟩ l.length).heap[g]? =some (.cells cur e s):=by unfold World.freeze;rw[ai O];obtain⟨lo,hi⟩:=z;simp only[eR,cc,m,aW];exact⟨_,rfl⟩);obtain⟨s,r⟩:=r;have:=u.change (w':=w.freeze ⟨g,0,none⟩ l.length) (oC:=by unfold World.freeze;split<;>exact aA _) (es:=[xT e (some ⟨g,0,none⟩) c l]) (by unfold World.freeze;split<;>rfl) (by unfold World.freeze;split<;>rfl) (by unfold World.freeze;split<;>rfl) (by unfold World.freeze;split<;>simp)
      (λk o R=>by
       have S:g≠k:=λe=>R ⟨B,_,rfl,e⟩;unfold World.freeze;split;·rfl
       ·simp only[eR,ai S])
      (λx a=>by(simp only[aE] at a;subst a;refine⟨λk o=>?_,.inr ⟨g,cur,s,B,rfl,r,C,D,E⟩⟩;have:=v.lt k o;have kG:(w.freeze ⟨g,0,none⟩ l.length).heap.size=w.heap.size:=by unfold World.freeze;split<;>simp);omega)
      (λx a k o=>by simp only[aE] at a;subst a;exact .inl o) Zs
     exact(show Mem W _ (xT e (some ⟨g,0,none⟩) c l::L0) from this).ny t.ny.symm
 refine tc J Zb K M λw i=>?_;obtain⟨w',T,V⟩:=key w i;refine⟨sv l,w',L,?_,V,λX=>(by cases X),.inr id,h⟩;simp only[execOp,resolve,bY,bk,cu,a,I,aB,aH,au,invoke,builtin,T]
end
end
theorem WF(g:Nat)(a:Bool)(A:Option Addr)(c:Nat)(b:Do A c)(s:kV)(W:World)(L:List kM):m3 prog W 237 #[.pointer (some ⟨g,0,none⟩)] (k4 g 383 [vM g a,.slice A s.length c]::xT 5 A c s::L) (λr L'=>r=sv s/\L'=k4 g 383 [vM g a,.slice A s.length c]::xT 5 A c s::L):=by refine enter func237 ?_;refine U ?_;refine qN [k4 g 383 [vM g a,.slice A s.length c]] (lC.Z [0,1,2,5,6,7] (lC.p8 [3,8] (lC.Z [9,4,10,11] .mZ))) Zk Zk Zk Zk (λ_ _ _ h=>h) (.of Zu) ?_;refine mM _ _ _ _ Zk ?_;refine U ?_;refine qu _ _ _ Zk ?_;refine U ?_;refine mM _ _ _ _ Zk ?_;refine U ?_;refine Mp rfl b rfl rfl rfl ?_;refine U ?_;refine WE (l:=s) (A:=A) (c:=c) rfl rfl rfl (o1 o0) rfl rfl rfl ?_;refine U ?_;refine kS ?_;exact lj results237 Zt lv ⟨rfl,rfl⟩
theorem WG(n:Int)(p:kV)(l:List kV):xS n (p::l)=match u7 n p with
 |none=>none
 |some s=>(xS (n+1) l).map (s++·):=rfl
theorem OK(w:Wl):xU w=if w.n7≠0 then none else match xS (w.nu+1) w.waits with
 |none=>none
 |some all=>if(all.length/16:Nat)>(w.ln.size:Int)-w.mK then none else if w.waits=[] then some w else
  match xu (sa w) w.mK all with
  |none=>none
  |some l=>some {l with mK:=l.mK+all.length/16,nu:=l.next-1,waits:=[]}:=rfl
theorem WH(H:kM)(T:Steps H)(w:Wl)(V X:Value)(q:qM H w V X)(y:qH w):Fn prog 175 #[.agg (nc w V X).toArray] H (λz r=>∃v C,r=.tuple #[v,nI C]/\(C=0↔(xU w).isSome=true)/\Cq ((xU w).getD w) z v):=λW L=>by
 obtain⟨A,c,rfl,k7,_⟩:=Zi q.ld;obtain⟨B,e,rfl,k8,k9⟩:=Zi q.waits;have j:=OK w;have lc:=y.ld;have lg:=y.nu;have lh:=y.ln.size;have lm:=y.waits;have lq:=y.next;have lu:=y.mK;refine enter func175 ?_;refine U ?_;intro G;refine U ?_;intro I;refine U ?_;by_cases J:w.n7=0
 ·rw[show(w.n7 != 0)=false from by simp[J]];rw[ai (by simp[J])] at j;refine U ?_;intro o;refine U ?_;refine SC.oA 5 1 mI none ?_;refine SC.mL (L':=k4 o 383 [vM o false,.slice none ([]:kV).length 0]::li 5 1 mI none 0 ([]:kV)::k4 I 76 (nc (default:Wl) (.slice none 0 0) (.slice none 0 0))::k4 G 76 (nc w (.slice A w.ln.ld.length c) (.slice B w.waits.length e))::fz H::L) (λw R=>R.ny (.swap _ _ _)) ?_;refine mP (λm σ L'=>∃(i:Nat) (f:kV) (u:Bool) (t:Option Addr) (d:Nat),m=w.waits.length-i/\i<=w.waits.length/\Do t d/\f.length<=i*1000000/\xS (w.nu+1) w.waits=(xS (w.nu+1+(i:Int)) (w.waits.drop i)).map (f++·)/\
   L'=k4 o 383 [vM o u,.slice t f.length d]::li 5 1 mI t d f::k4 I 76 (nc (default:Wl) (.slice none 0 0) (.slice none 0 0))::k4 G 76 (nc w (.slice A w.ln.ld.length c) (.slice B w.waits.length e))::fz H::L/\
   ml σ [(1,.pointer (some ⟨G,0,none⟩)),(2,.pointer (some ⟨I,0,none⟩)),(4,.pointer (some ⟨o,0,none⟩)),(17,.slice B w.waits.length e),(18,nN w.waits.length),(19,nN i)]) w.waits.length _ (s1 _)
   ⟨0,[],false,none,0,by simp,by simp,.inl ⟨rfl,rfl⟩,by simp,by simp,rfl,rfl,rfl,rfl,rfl,rfl,rfl,trivial⟩ ?_
  rintro m σ _ ⟨i,f,u,t,d,rfl,hi,Y,lx,n,rfl,kL⟩;obtain⟨ly,rfl⟩:=kL.open;refine U ?_;refine mE rfl (λE=>?_) (λE=>?_)
  ·have E:=am E;have lz:w.waits[i]? =some w.waits[i]:=ad Zo;have lB:=y.se w.waits[i] (bv _);rw[show w.waits.drop i=w.waits[i]::w.waits.drop (i+1) from br Zo] at n;generalize w.waits[i]=p at*;rw[WG] at n;refine U ?_;cases hp:u7 (w.nu+1+(i:Int)) p with
   |none=>rw[hp] at n;have n:xS (w.nu+1) w.waits=none:=n;rw[n] at j;refine mi ((Co H T (w.nu+1+(i:Int)) ⟨by omega,by omega⟩ p Zo).eq (v':=.tuple #[sv [],nI 130]) (by rw[hp];rfl)) ?_;refine U ?_;refine kS ?_;exact m7 (c1 (c1 (c1 (c1 c0)))) results175 (.agg (cs:=nc w (.slice A w.ln.ld.length c) (.slice B w.waits.length e)) inferInstance rfl lW rfl) Zt (λz hl _=>⟨_,130,rfl,by rw[j];simp,by rw[j];exact⟨_,_,rfl,q.up hl⟩⟩)
   |some s=>(have lE:=DB hp;rw[hp] at n;have kO:xS (w.nu+1) w.waits=(xS (w.nu+1+((i+1:Nat):Int)) (w.waits.drop (i+1))).map ((f++s)++·):=by rw[n,di,jv,<-j6];congr 1;funext x;simp);refine mi ((Co H T (w.nu+1+(i:Int)) ⟨by omega,by omega⟩ p Zo).eq (v':=.tuple #[sv s,nI 0]) (by rw[hp];rfl)) ?_;refine U ?_;refine nR (Nw o u t d Y f s Zo W _) ?_;rintro _ _ ⟨B',d',kQ,rfl,rfl⟩;refine U ?_;exact⟨w.waits.length-(i+1),_,by omega,Zu,i+1,f++s,true,B',d',rfl,by omega,kQ,by rw[ak];omega,kO,rfl,rfl,rfl,rfl,rfl,rfl,rfl,trivial⟩
  ·have E:=av E;rw[show w.waits.drop i=[] from aX Zo] at n;have n:xS (w.nu+1) w.waits=some f:=by rw[n];simp[xS]
   rw[n] at j;simp only at j;refine U ?_;refine nR (UY o u t d f.length W _ _ rfl) ?_;rintro _ _ ⟨rfl,rfl⟩;refine U ?_;refine AW (a:=(f.length:Int)) (b:=16) rfl rfl Zd (by rw[show((f.length:Nat):Int).tdiv 16=((f.length/16:Nat):Int) from rfl];omega) rfl rfl ?_;rw[show((f.length:Nat):Int).tdiv 16=((f.length/16:Nat):Int) from rfl];refine U ?_;by_cases K:(w.ln.size:Int)-(w.mK:Int)<((f.length/16:Nat):Int);·rw[show decide ((w.ln.size:Int)-(w.mK:Int)<((f.length/16:Nat):Int))=true from aZ K];rw[aj K] at j;refine U ?_;refine kS ?_;exact m7 (c1 (c1 (c1 (c1 c0)))) results175 (.agg (cs:=nc w (.slice A w.ln.ld.length c) (.slice B w.waits.length e)) inferInstance rfl lW rfl) Zt (λz hl _=>⟨_,120,rfl,by rw[j];simp,by rw[j];exact⟨_,_,rfl,q.up hl⟩⟩)
   ·rw[show decide ((w.ln.size:Int)-(w.mK:Int)<((f.length/16:Nat):Int))=false from bx K];rw[ai K] at j;refine U ?_;by_cases M:w.waits=[];·rw[show((w.waits.length:Int)==0)=true from by rw[M];rfl];rw[aj M] at j;refine U ?_;refine kS ?_;exact m7 (c1 (c1 (c1 (c1 c0)))) results175 (.agg (cs:=nc w (.slice A w.ln.ld.length c) (.slice B w.waits.length e)) inferInstance rfl lW rfl) Zt (λz hl _=>⟨_,0,rfl,by rw[j];simp,by rw[j];exact⟨_,_,rfl,q.up hl⟩⟩)
    ·rw[show((w.waits.length:Int)==0)=false from by have:=cA.2 M;simp;omega];rw[ai M] at j;refine U ?_;have N:=OH w;refine DI (hp:=f1 (f1 (f1 (f1 f0)))) (DJ H w _ _ q) ?_;rintro H1 _ _ kF ⟨g,S,kT,rfl,rfl⟩;simp only[aD];refine U ?_;refine tK (hf:=f1 (f1 (f1 (f1 f0)))) o0 (OD H1 g S w _ _ (q.up kF) Zo) ?_;rintro H2 _ _ kG ⟨lF,kH,rfl⟩;have F:sB (sa w) w.mK f=(xu (sa w) w.mK f).getD (sa w):=rfl;have D:xu (sa w) w.mK f=(vJ (sa w).ln w.mK f).map λd=>{sa w with ln:=d}:=rfl;generalize sa w=l at*;have lG:=N.size;have lH:=N.ld;have lI:=N.next;have kX:=N.mK;obtain⟨A1,kY,rfl,_,_⟩:=Zi kH.ld;refine U ?_;refine SC.mL (L':=k4 o 383 [vM o u,.slice t f.length d]::xT 5 t d f::k4 g 198 (vu l (.slice A1 l.ln.ld.length kY) (.slice B w.waits.length e) S)::k4 I 76 (nc (default:Wl) (.slice none 0 0) (.slice none 0 0))::k4 G 76 (nc w (.slice A w.ln.ld.length c) (.slice B w.waits.length e))::fz H2::L) (λw R=>(Mem.WD (R.ny ((bX _ _ _).trans (((bX _ _ _).cons _).trans (bX _ _ _))))).ny (bX _ _ _)) ?_;refine DF (ws:=[10]) [] (lC.Z [0,1,2,3,4,5,6,7,8,9] (.op 10 (lC.Z [11] .mZ))) Zk Zk Zk Zk (λ_ _ _ h=>h) (.of Zu) ?_;refine Bv _ _ _ _ Zk ?_;refine U ?_;refine md (WF o u t d Y f W _) ?_;refine q8 ?_;rw[<-kX] at j F D;refine DG rfl rfl rfl (λ_ _ h=>h) ?_ Sub.nil;refine tK (hf:=f1 (f1 (f1 (f1 f0)))) (o1 (o1 o0)) (DH H2 g S (kT.up kG) l _ _ kH Zo l.mK Zo Zo f Zo) ?_;rintro H3 _ _ kZ ⟨lJ,O,rfl,rfl⟩;have P:=OJ l.ln l.mK f;generalize Az l.ln l.mK f=C at*;refine q8 ?_;refine⟨Sub.nil,?_⟩;refine Bv _ _ _ _ Zk ?_;refine U ?_;cases h7:vJ l.ln l.mK f with
     |none=>(rw[h7] at P D;rw[D] at j F;have kI:C≠0:=by intro h;have:=P.1 h;cases this);rw[show(C != 0)=true from by simpa using kI];refine U ?_;refine kS ?_;exact m7 (c1 (c1 (c1 (c1 (c1 c0))))) results175 (.agg (cs:=nc w (.slice A w.ln.ld.length c) (.slice B w.waits.length e)) inferInstance rfl lW rfl) Zt (λz hl _=>⟨_,C,rfl,by rw[j];simp[kI],by rw[j];exact⟨_,_,rfl,q.up (le_trans kF (le_trans kG (le_trans kZ hl)))⟩⟩)
     |some dd=>
      (rw[h7] at P D;simp only[aW] at D;rw[D] at j F;have k5:C=0:=P.2 rfl;subst k5;simp only[aN] at F;rw[F] at O⊢;obtain⟨k,Q⟩:∃k:Wl,k={l with ln:=dd}:=⟨_,rfl⟩;have kJ:xU w=some {k with mK:=k.mK+f.length/16,nu:=k.next-1,waits:=[]}:=by rw[j,Q]);have lK:0<=k.next/\k.next<=1000000000:=by rw[Q];show 0<=l.next/\l.next<=1000000000;omega
      (have lO:k.mK<=65536:=by rw[Q];show l.mK<=65536;omega);rw[<-Q] at O⊢;obtain⟨A3,c3,rfl,_,_⟩:=Zi O.ld;refine U ?_;rw[show(k.mK:Int)+((f.length/16:Nat):Int)=((k.mK+f.length/16:Nat):Int) from by omega];refine U ?_;refine pN rfl (qP Zn) (nc {k with mK:=k.mK+f.length/16,nu:=k.next-1,waits:=[]} (.slice A3 k.ln.ld.length c3) (.slice none 0 0)) rfl rfl rfl rfl ?_;refine U ?_;refine kS ?_;exact m7 (c1 (c1 (c1 (c1 (c1 c0))))) results175 (.agg (cs:=nc {k with mK:=k.mK+f.length/16,nu:=k.next-1,waits:=[]} (.slice A3 k.ln.ld.length c3) (.slice none 0 0)) inferInstance rfl lW rfl) Zt (λz hl _=>⟨_,0,rfl,by rw[kJ];simp,by rw[kJ];exact⟨_,_,rfl,O.ld.up hl,Sl.nil _ _ _⟩⟩)
 ·rw[show(w.n7 != 0)=true from by simpa using J];rw[aj J] at j;refine U ?_;refine kS ?_;exact m7 (c1 (c1 c0)) results175 (.agg (cs:=nc w (.slice A w.ln.ld.length c) (.slice B w.waits.length e)) inferInstance rfl lW rfl) Zt (λz hl _=>⟨_,140,rfl,by rw[j];simp,by rw[j];exact⟨_,_,rfl,q.up hl⟩⟩)
def DL:kV:=(u7 1 ((xq 1 []).getD [])).getD []
def x9(d:Dk):Wl:=⟨d,1,1,1,nv d.size,0,0,[],false,0,0,0⟩
theorem OL(size:Int):Bk size=if DL.length/16>(uK size).size/4 then none else some (s5 (sB (x9 (uK size)) (pp (uK size).size 1) DL)):=rfl
theorem OM:xq 1 []=some [1,0]:=by decide
theorem WI(size:Int):(uK size).size<=65536/\(uK size).ld=[]:=by have a:uK size=⟨(min (max size 0) 65536).toNat,oV ((min (max size 0) 65536).toNat*16),[]⟩:=rfl;rw[a];exact⟨by show(min (max size 0) 65536).toNat<=65536;omega,rfl⟩
theorem ON(w:Wl)(pos:Nat)(s:kV)(a:w.ln.ld.length<=500000)(b:s.length<=1700000):(sB w pos s).ln.ld.length<=1000000:=by
 rw[GX,GW,GM];split;·show(w.ln.ld++(cut s).mapIdx λi c=>(pos+i,c)).length<=1000000;rw[ak,iV,<-GL,bO,Fh];unfold nO;omega
 ·show w.ln.ld.length<=1000000;omega
theorem WK(H:kM)(y:Steps H)(size:Int)(z:od size):Fn prog 39 #[nI size] H (λj r=>∃v m,r=.tuple #[v,nI m]/\(m=0↔(Bk size).isSome=true)/\Cq ((Bk size).getD default) j v):=λW L=>by
 have f:=OL size;obtain⟨B,C⟩:=WI size;refine enter func39 ?_;refine U ?_;intro P;refine U ?_;refine l4 (hp:=f1 f0) (V9 H size z) ?_;rintro n _ D ⟨Q,rfl,k⟩;generalize uK size=d at*;obtain⟨A,c,rfl,_,_⟩:=Zi k;refine U ?_;intro R;refine U ?_;refine md ((Ot 1 Zo [] Zs).eq (v':=.tuple #[sv [1,0],nI 0]) (by rw[show((1:Nat):Int)=1 from rfl,OM];rfl) W _) ?_;refine U ?_;have E:DL=(u7 1 [1,0]).getD []:=by unfold DL;rw[OM];rfl
 obtain⟨s,hp⟩:∃s,u7 1 [1,0]=some s:=⟨_,by rw[Jw,ai Zs]⟩;have F:DL=s:=by rw[E,hp];rfl
 rw[F] at f;have S:=DB hp;have T:([1,0]:kV).length=2:=rfl;refine mi ((Co n (y.up D) 1 ⟨by omega,by omega⟩ [1,0] Zs).eq (v':=.tuple #[sv s,nI 0]) (by rw[hp];rfl)) ?_;refine U ?_;refine AW (a:=(s.length:Int)) (b:=16) rfl rfl Zd (by rw[show((s.length:Nat):Int).tdiv 16=((s.length/16:Nat):Int) from rfl];omega) rfl rfl ?_;rw[show((s.length:Nat):Int).tdiv 16=((s.length/16:Nat):Int) from rfl];refine U ?_;refine md (DC d.size Zo W _) ?_;refine U ?_;by_cases o:d.size/4<s.length/16;·rw[show decide (((d.size/4:Nat):Int)<((s.length/16:Nat):Int))=true from Zq];rw[aj o] at f;refine U ?_;refine kS ?_;exact m7 (c1 (c1 c0)) results39 (.agg (cs:=nc default (.slice none 0 0) (.slice none 0 0)) inferInstance rfl lW rfl) Zt (λj hl _=>⟨_,120,rfl,by rw[f];simp,by rw[f];exact⟨_,_,rfl,Sl.nil _ _ _,Sl.nil _ _ _⟩⟩)
 ·rw[show decide (((d.size/4:Nat):Int)<((s.length/16:Nat):Int))=false from Zq];rw[ai o] at f;refine U ?_;refine nq [0,1,2,3,4,5,6] Zk Zk Zk Zk Zk (λ_ _ _ h=>h) ?_;refine U ?_;refine md (JD d.size Zo W _) ?_;refine U ?_;refine DI (hp:=f1 (f1 f0)) (DJ n (x9 d) (.slice A d.ld.length c) (.slice none 0 0) ⟨k,Sl.nil _ _ _⟩) ?_;rintro p _ _ G ⟨g,q,I,rfl,rfl⟩;simp only[aD];refine U ?_;have J:sB (x9 d) (pp d.size 1) s=sB (x9 d) (pp d.size (x9 d).seq) s:=rfl;have K:qM p (x9 d) (.slice A d.ld.length c) (.slice none 0 0):=⟨k.up G,Sl.nil _ _ _⟩;have V:(x9 d).ln.size<=65536:=B;have X:(x9 d).ln.ld.length<=1000:=by show d.ld.length<=1000;rw[C];simp
  have Y:(x9 d).seq=1:=rfl;have kF:d.size=(x9 d).ln.size:=rfl;rw[J] at f;generalize x9 d=e at*;have M:pp d.size e.seq<=1000000000:=by unfold pp;split<;>omega
  refine DF (ws:=[13]) [] (lC.Z [0,1,2,3,4,5,6,7,8,9,10,12,11] (.op 13 .mZ)) Zk Zk Zk Zk (λ_ _ _ h=>h) (.of Zu) ?_;refine Bv _ _ _ _ Zk ?_;refine U ?_;refine md (GP d.size Zo e.seq ⟨by omega,by omega⟩ W _) ?_;refine q8 ?_;refine DG rfl rfl rfl (λ_ _ h=>h) ?_ Sub.nil;refine tK (hf:=f1 (f1 f0)) o0 (DH p g q I e _ _ K Zo (pp d.size e.seq) M Zo s Zo) ?_;rintro N _ _ kG ⟨kH,t,rfl,rfl⟩;refine q8 ?_;refine⟨Sub.nil,?_⟩;have O:(sB e (pp d.size e.seq) s).ln.ld.length<=1000000:=ON e _ s Zo Zo;generalize sB e (pp d.size e.seq) s=u at*;obtain⟨A3,c3,rfl,_,_⟩:=Zi t.ld;refine U ?_;refine tK (hf:=f1 (f1 f0)) o0 (JK N g q u _ _ t O) ?_;rintro H4 _ _ kI ⟨kJ,l,rfl⟩;generalize s5 u=i at*;obtain⟨w,x,rfl,_,_⟩:=Zi l.ld;refine U ?_;refine pN rfl (qP Zn) (nc i (.slice w i.ln.ld.length x) (.slice none 0 0)) rfl rfl rfl rfl ?_;refine U ?_;refine kS ?_;exact m7 (c1 (c1 (c1 c0))) results39 (.agg (cs:=nc i (.slice w i.ln.ld.length x) (.slice none 0 0)) inferInstance rfl lW rfl) Zt (λj hl _=>⟨_,0,rfl,by rw[f];simp,by rw[f];exact⟨_,_,rfl,l.ld.up hl,l.waits.up hl⟩⟩)
end
end Go.Proofs.YtkbifmngmocjnaaGreatDoor
