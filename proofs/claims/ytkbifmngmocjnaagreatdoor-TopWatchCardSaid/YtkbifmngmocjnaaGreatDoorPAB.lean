/- Proved here, packed: what the parts Gun prove (rules of the walk, contracts of functions, plain laws). Conditions: in each statement. -/
import Derived.Test.YtkbifmngmocjnaaGreatDoorPAA
namespace Go.Proofs.YtkbifmngmocjnaaGreatDoor
set_option maxRecDepth 100000
set_option maxHeartbeats 8000000
set_option linter.all false
section
open Go.RowKit
abbrev St:=Nat->Value
def tD(σ:St)(d:Nat)(v:Value):St:=λi=>bif Nat.beq i d then v else σ i
def ev(σ:St):Operand->Value
 |.tmp t=>σ t
 |.const v=>v
 |.global g=>.pointer (some ⟨g,0,none⟩)
 |.func f=>.func (.func f) #[] #[]
structure Sz where
 n:Nat
 ds:List Deferred:=[]
instance:CoeOut Sz Nat:=⟨Sz.n⟩
structure n9(n:Sz)(σ:St)(a:Act):Prop where
 defers:a.defers=n.ds
 size:a.tmps.size=n.n
 get:∀i,a.tmps.getD i undef=σ i
theorem n9.eval{n:Sz}{σ:St}{a:Act}(h:n9 n σ a):a.eval=ev σ:=by
 funext x;cases x;·exact h.get _
 all_goals rfl
theorem n9.put{n:Sz}{σ:St}{a:Act}(h:n9 n σ a){d:Nat}(c:d<n)(v:Value):n9 n (tD σ d v) (a.put (some d) v):=by
 refine⟨h.defers,by simp[Act.put,h.size],λi=>?_⟩;have f:=h.size;have b:=h.get i;have g:a.tmps.getD i undef=(a.tmps[i]?).getD undef:=by simp
 have j:(a.tmps.setIfInBounds d v).getD i undef=((a.tmps.setIfInBounds d v)[i]?).getD undef:=by simp
 show(a.tmps.setIfInBounds d v).getD i undef=_;rw[j,Array.getElem?_setIfInBounds];rw[g] at b;unfold tD;by_cases e:d=i;·subst e;simp[f,c]
 ·have:Nat.beq i d=false:=by rw[<-dD,jf];exact λh=>e h.symm
  rw[this,ai e];exact b
structure kM where
 S:Nat->Prop
 p:World->Prop
 loc:∀w w':World,(∀k,S k->w'.heap[k]? =w.heap[k]?)->p w->p w'
structure kM.ok(e:kM)(w:World):Prop where
 lt:∀k,e.S k->k<w.heap.size
 holds:e.p w
structure Mem(W w:World)(L:List kM):Prop where
 os:w.os=W.os
 tape:w.tape=W.tape
 output:w.output=W.output
 size:W.heap.size<=w.heap.size
 drawn:W.drawn<=w.drawn
 ok:∀e∈L,e.ok w
 yA:L.Pairwise (λa b=>∀k,a.S k->¬b.S k)
def Sub(L L':List kM):Prop:=∀W w,Mem W w L'->Mem W w L
def oq(W:World)(L:List kM)(p:World->Prop):Prop:=∀w,Mem W w L->p w
theorem Mem.tail{W w:World}{e:kM}{L:List kM}(h:Mem W w (e::L)):Mem W w L:=⟨h.os,h.tape,h.output,h.size,h.drawn,λx a=>h.ok x (aI _ a),(bJ.1 h.yA).2⟩
theorem Mem.ny{W w:World}{L L':List kM}(h:Mem W w L)(hp:L.Perm L'):Mem W w L':=⟨h.os,h.tape,h.output,h.size,h.drawn,λx a=>h.ok x (hp.mem_iff.2 a),(hp.pairwise_iff (λ{_ _} b k c a=>b k a c)).1 h.yA⟩
theorem Mem.sublist{W w:World}{L L':List kM}(h:Mem W w L)(a:L'.Sublist L):Mem W w L':=⟨h.os,h.tape,h.output,h.size,h.drawn,λx b=>h.ok x (a.subset b),h.yA.sublist a⟩
theorem Sub.refl{L:List kM}:Sub L L:=λ_ _ h=>h
theorem Sub.trans{L L' a:List kM}(h:Sub L L')(b:Sub L' a):Sub L a:=λ_ _ c=>h _ _ (b _ _ c)
theorem Sub.of{L L':List kM}(h:L.Sublist L'):Sub L L':=λ_ _ a=>a.sublist h
theorem Sub.cons{L:List kM}(e:kM):Sub L (e::L):=λ_ _ h=>h.tail
theorem Sub.nil{L:List kM}:Sub [] L:=.of (bu _)
theorem Mem.drew{W w:World}{L:List kM}(h:Mem W w L)(m:Nat)(b:w.drawn<=m:=by first|exact aA _|exact gC _):Mem W {w with drawn:=m} L:=⟨h.os,h.tape,h.output,h.size,cR h.drawn b,λx a=>⟨(h.ok x a).lt,x.loc w _ (λ_ _=>rfl) (h.ok x a).holds⟩,h.yA⟩
theorem Mem.change{W w w':World}{e:kM}{es L:List kM}(h:Mem W w (e::L))(o:w'.os=w.os) (p:w'.tape=w.tape) (q:w'.output=w.output) (i:w.heap.size<=w'.heap.size)(d:∀k,k<w.heap.size->¬e.S k->w'.heap[k]? =w.heap[k]?)(r:∀x∈es,x.ok w') (s:∀x∈es,∀k,x.S k->e.S k\/w.heap.size<=k)(t:es.Pairwise (λa b=>∀k,a.S k->¬b.S k)) (oC:w.drawn<=w'.drawn:=by first|exact aA _|exact gC _):Mem W w' (es++L):=by
 have f:=bJ.1 h.yA;refine⟨o.trans h.os,p.trans h.tape,q.trans h.output,cR h.size i,cR h.drawn oC,λx c=>?_,?_⟩
 ·rcases aQ.1 c with c|c;·exact r x c
  ·have g:=h.ok x (aI _ c);refine⟨λk d=>ki (g.lt k d) i,x.loc w w' (λk j=>d k (g.lt k j) (λu=>f.1 x c k u j)) g.holds⟩
 ·refine ek.2 ⟨t,f.2,λa v b l k y m=>?_⟩;rcases s a v k y with n|n
  ·exact f.1 b l k n m
  ·have:=(h.ok b (aI _ l)).lt k m;omega
theorem Mem.grow{W w w':World}{es L:List kM}(h:Mem W w L)(g:w'.os=w.os) (i:w'.tape=w.tape) (j:w'.output=w.output) (f:w.heap.size<=w'.heap.size)(d:∀k,k<w.heap.size->w'.heap[k]? =w.heap[k]?)(l:∀x∈es,x.ok w') (m:∀x∈es,∀k,x.S k->w.heap.size<=k)(n:es.Pairwise (λa b=>∀k,a.S k->¬b.S k)) (oC:w.drawn<=w'.drawn:=by first|exact aA _|exact gC _):Mem W w' (es++L):=by
 refine⟨g.trans h.os,i.trans h.tape,j.trans h.output,cR h.size f,cR h.drawn oC,λx c=>?_,?_⟩
 ·rcases aQ.1 c with c|c;·exact l x c
  ·have e:=h.ok x c;exact⟨λk d=>ki (e.lt k d) f,x.loc w w' (λk o=>d k (e.lt k o)) e.holds⟩
 ·refine ek.2 ⟨n,h.yA,λa p b q k r s=>?_⟩;have:=m a p k r;have:=(h.ok b q).lt k s;omega
theorem rT(pre post:List kM)(e:kM):(pre++e::post).Perm (e::(pre++post)):=dN
def k4(g:Nat)(t:TypeId)(cs:List Value):kM:=⟨(·=g),λw=>w.heap[g]? =some (.cells cs.toArray t (0,0)),λ_ _ h hp=>(h g rfl).trans hp⟩
def pu(W:World):kM:=⟨(·<W.heap.size),λw=>∀k,k<W.heap.size->w.heap[k]? =W.heap[k]?,λ_ _ h hp k a=>(h k a).trans (hp k a)⟩
theorem oq.cons{W:World}{L:List kM}{p:World->Prop}(e:kM)(h:oq W L p):oq W (e::L) p:=λw a=>h w a.tail
theorem oq.mono{W:World}{L:List kM}{p q:World->Prop}(h:oq W L p)(a:∀w,p w->q w):oq W L q:=λw b=>a w (h w b)
def l6(σ:St)(d:Option Nat)(v:Value):St:=match d with|some d=>tD σ d v|none=>σ
def l8(n:Nat)(d:Option Nat):Bool:=match d with|some d=>Nat.blt d n|none=>true
def FO(Z:Array Oper)(σ:St)(j:Nat):Option Bool:=
 match(Z[j]?).bind (·.dst) with
 |some d=>(match σ d with|.bool b=>some b|_=>none)
 |none=>none
def lP(Z:Array Oper)(σ:St)(o:Oper):Bool:=
 match o.guard with
 |none=>true
 |some (j,a)=>match FO Z σ j with
  |some b=>(match b,a with|true,true=>true|false,false=>true|_,_=>false)
  |none=>false
theorem n9.sW{n:Sz}{σ:St}{a:Act}(h:n9 n σ a){d:Option Nat}(b:l8 n d=true)(v:Value):n9 n (l6 σ d v) (a.put d v):=by
 cases d with
 |none=>exact h
 |some d=>exact h.put (by simpa[l8,Nat.blt_eq] using b) v
theorem n9.wanted{n:Sz}{σ:St}{a:Act}(h:n9 n σ a)(Z:Array Oper)(o:Oper):Region.wanted o (yielded Z a.tmps)=lP Z σ o:=by
 unfold Region.wanted lP;cases o.guard with
 |none=>rfl
 |some g=>
  obtain⟨j,f⟩:=g;have i:yielded Z a.tmps j=FO Z σ j:=by
   unfold yielded FO;cases(Z[j]?).bind (·.dst) with
   |none=>rfl
   |some d=>
    (have c:=h.get d;simp only[eB];have k:a.tmps.getD d undef=(a.tmps[d]?).getD undef:=by simp);rw[k] at c;cases e:a.tmps[d]? with
    |none=>rw[e] at c;simp at c;rw[<-c];rfl
    |some v=>rw[e] at c;simp at c;rw[<-c];cases v<;>rfl
  simp only[i];cases FO Z σ j with
  |none=>rfl
  |some b=>cases b<;>cases f<;>rfl
section
variable(P:Program)(n:Sz)(W:World)
def nQ(Q:Exit->St->List kM->Prop):Exit->Act->World->Prop:=λe a w=>∃σ L,n9 n σ a/\Mem W w L/\Q e σ L
def SC(c:Code)(Q:Exit->St->List kM->Prop)(σ:St)(L:List kM):Prop:=∀a w,n9 n σ a->Mem W w L->c.wp P (nQ n W Q) a w
def zV(P:Program)(W:World)(L:List kM)(σ:St)(o:Oper)(v:Value):Prop:=∀w,Mem W w L->(execOp (ev σ) o).run P w=.ok (.value v) w
def AR(Ls:List kM)(Z:Array Oper)(Q:Exit->St->List kM->Prop):List Oper->St->List kM->Prop
 |[],σ,L=>Q .normal σ L
 |o::r,σ,L=>
  (o7 o.op<=1->∃v,l8 n o.dst=true/\((lP Z σ o=true/\(if o7 o.op=0 then∀w,(execOp (ev σ) o).run P w=.ok (.value v) w else zV P W L σ o v))\/(lP Z σ o=false/\v=undef))/\
   AR Ls Z Q r (l6 σ o.dst v) L)/\
  (2<=o7 o.op->∀a w,n9 n σ a->Mem W w L->
   (lP Z σ o=true->o.wp P a w (λc w'=>∃b L',n9 n b c/\Mem W w' L'/\(o7 o.op=2->Sub L L')/\(Sub Ls L->Sub Ls L')/\AR Ls Z Q r b L') (nQ n W Q))/\
   (lP Z σ o=false->∃b,n9 n b (a.put o.dst undef)/\AR Ls Z Q r b L))
inductive Md where
 |plain
 |quiet
 |sched (Ls:List kM)
def Md.pb:Md->Bool
 |.quiet=>false
 |_=>true
def Md.nP:Md->List kM->Prop
 |.sched Ls,L=>Sub Ls L
 |_,_=>True
def SL(q:Md)(Z:Array Oper)(Q:Exit->St->List kM->Prop)(l:List Oper)(σ:St)(L:List kM):Prop:=
 match q with
 |.plain=>∀a w,n9 n σ a->Mem W w L->wpList P Z (nQ n W Q) l a w
 |.quiet=>∀a,n9 n σ a->wpQuiet P Z (λw=>Mem W w L) (λc=>∃b,n9 n b c/\Q .normal b L) l a
 |.sched Ls=>AR P n W Ls Z Q l σ L
def m3(f:FuncId)(args:Array Value)(L:List kM)(R:Value->List kM->Prop):Prop:=
 (∀args w,(callFunc f args).run P w=.ok (.enter f args) w)/\
 ∀w,Mem W w L->Calls P f args w (λe w'=>∃v L',e=.returned v/\Mem W w' L'/\R v L')
end
section rules
variable{P:Program}{n:Sz}{W:World}{Q:Exit->St->List kM->Prop}{σ:St}{L:List kM}
def CN(K:St->List kM->Prop)(Q:Exit->St->List kM->Prop):Exit->St->List kM->Prop
 |.normal,σ,L=>K σ L
 |e,σ,L=>Q e σ L
def BH(id:Nat)(Q:Exit->St->List kM->Prop):Exit->St->List kM->Prop
 |.exit a,σ,L=>bif Nat.beq a id then Q .normal σ L else Q (.exit a) σ L
 |e,σ,L=>Q e σ L
theorem SC.mono{c:Code}{b:Exit->St->List kM->Prop}(h:SC P n W c Q σ L)(d:∀e σ L,Q e σ L->b e σ L):SC P n W c b σ L:=λa w f g=>eP (h a w f g) λ_ _ _ ⟨i,L',j,k,l⟩=>⟨i,L',j,k,d _ _ _ l⟩
theorem SC.pure{c:Code}{φ:Prop}(d:∀w,Mem W w L->φ)(h:φ->SC P n W c Q σ L):SC P n W c Q σ L:=λa w e b=>h (d w b) a w e b
theorem SL.pure{Z:Array Oper}{l:List Oper}{φ:Prop}(c:∀w,Mem W w L->φ)(h:φ->SL P n W .plain Z Q l σ L):SL P n W .plain Z Q l σ L:=λa w d b=>h (c w b) a w d b
theorem SC.mL{c:Code}{L':List kM}(b:∀w,Mem W w L->Mem W w L')(h:SC P n W c Q σ L'):SC P n W c Q σ L:=λa w d e=>h a w d (b w e)
theorem SL.mL{Z:Array Oper}{l:List Oper}{L':List kM}(b:∀w,Mem W w L->Mem W w L')(h:SL P n W .plain Z Q l σ L'):SL P n W .plain Z Q l σ L:=λa w c d=>h a w c (b w d)
theorem CO(h:Q .normal σ L):SC P n W .skip Q σ L:=λ_ _ a b=>wp_skip ⟨σ,L,a,b,h⟩
theorem kS(h:Q .ret σ L):SC P n W .ret Q σ L:=λ_ _ a b=>wp_ret ⟨σ,L,a,b,h⟩
theorem Lu{id:Nat}(h:Q (.exit id) σ L):SC P n W (.exit id) Q σ L:=λ_ _ a b=>wp_exit ⟨σ,L,a,b,h⟩
theorem RM{l:Nat}(h:Q (.goto l) σ L):SC P n W (.goto l) Q σ L:=λ_ _ a b=>wp_goto ⟨σ,L,a,b,h⟩
theorem Lv{l:Nat}(h:Q .normal σ L):SC P n W (.label l) Q σ L:=λ_ _ a b=>wp_label ⟨σ,L,a,b,h⟩
theorem sX{x y:Code}(h:SC P n W x (CN (SC P n W y Q) Q) σ L):SC P n W (x.seq y) Q σ L:=λa w f g=>
 wp_seq (eP (h a w f g) λe i w' ⟨j,L',b,c,d⟩=>by
  cases e;case normal=>exact d i w' b c
  all_goals exact⟨j,L',b,c,d⟩)
theorem mE{c:Operand}{x y:Code}{b:Bool}(f:ev σ c=.bool b)(g:b=true->SC P n W x Q σ L)(hf:b=false->SC P n W y Q σ L):SC P n W (.cond c x y) Q σ L:=λa w d e=>wp_cond_split (t:=b) (by rw[d.eval];exact f) (λh=>g h a w d e) (λh=>hf h a w d e)
theorem Es{id:Nat}{c:Code}(h:SC P n W c (BH id Q) σ L):SC P n W (.block id c) Q σ L:=λa w k l=>
 wp_block (eP (h a w k l) λe m w' ⟨d,L',f,g,b⟩=>by
  match e,b with
  |.exit j,b=>
   simp only[Exit.inBlock];simp only[BH] at b;by_cases i:j=id;·rw[aj i];rw[show Nat.beq j id=true from by rw[jf];exact i] at b;exact⟨d,L',f,g,b⟩
   ·rw[ai i];rw[show Nat.beq j id=false from by rw[<-dD,jf];exact i] at b;exact⟨d,L',f,g,b⟩
  |.normal,b=>exact⟨d,L',f,g,b⟩
  |.goto _,b=>exact⟨d,L',f,g,b⟩
  |.ret,b=>exact⟨d,L',f,g,b⟩
  |.panic _,b=>exact⟨d,L',f,g,b⟩
  |.outgrown,b=>exact⟨d,L',f,g,b⟩)
theorem Ik{id:Nat}{Z:Array Oper}(h:SL P n W .plain Z Q Z.toList σ L):SC P n W (.region id Z false) Q σ L:=λa w b c=>wp_region_list (h a w b c)
theorem Et{id:Nat}{Z:Array Oper}(f:P.follows .mixedOrders=true)(g:Region.lexB .any Z=true)(h:SL P n W .quiet Z Q Z.toList σ L):SC P n W (.region id Z true) Q σ L:=λa w i j=>by
 refine wp_region_quiet (C:=λw=>Mem W w L) f g (j.drew _) ?_;have k:=h a i;have mono:∀(l:List Oper) (a:Act),wpQuiet P Z (λw=>Mem W w L) (λc=>∃b,n9 n b c/\Q .normal b L) l a->
  wpQuiet P Z (λw=>Mem W w L) (λc=>∀w',Mem W w' L->nQ n W Q .normal c w') l a:=by
  intro l;induction l with
  |nil=>rintro a ⟨b,m,p⟩ w' q;exact⟨b,L,m,q,p⟩
  |cons o r e=>
   intro a h;unfold wpQuiet at h⊢;split;·rename_i d;rw[aj d] at h;exact Oper.quiet_mono e h
   ·rename_i d;rw[ai d] at h;exact e _ h
 exact mono _ _ k
theorem q8{q:Md}{Z:Array Oper}(h:Q .normal σ L):SL P n W q Z Q [] σ L:=by
 cases q;·exact λ_ _ a b=>⟨σ,L,a,b,h⟩
 ·exact λ_ a=>⟨σ,a,h⟩
 ·exact h
def uB(P:Program)(n:Sz)(W:World)(Ls:List kM)(Z:Array Oper)(Q:Exit->St->List kM->Prop):lC->St->List kM->Prop
 |.mZ,σ,L=>Q .normal σ L
 |.op i r,σ,L=>∃o,Z[i]? =some o/\
  (o7 o.op<=1->∃v,l8 n o.dst=true/\((lP Z σ o=true/\(if o7 o.op=0 then∀w,(execOp (ev σ) o).run P w=.ok (.value v) w else zV P W L σ o v))\/(lP Z σ o=false/\v=undef))/\
   uB P n W Ls Z Q r (l6 σ o.dst v) L)/\
  (2<=o7 o.op->∀a w,n9 n σ a->Mem W w L->
   (lP Z σ o=true->o.wp P a w (λc w'=>∃b L',n9 n b c/\Mem W w' L'/\(o7 o.op=2->Sub L L')/\(Sub Ls L->Sub Ls L')/\uB P n W Ls Z Q r b L') (nQ n W Q))/\
   (lP Z σ o=false->∃b,n9 n b (a.put o.dst undef)/\uB P n W Ls Z Q r b L))
 |.yz i r,σ,L=>∃o,Z[i]? =some o/\∃v,l8 n o.dst=true/\((lP Z σ o=true/\zV P W Ls σ o v)\/(lP Z σ o=false/\v=undef))/\
  uB P n W Ls Z Q r (l6 σ o.dst v) L
 |.o8 p q,σ,L=>uB P n W Ls Z Q p σ L/\uB P n W Ls Z Q q σ L
theorem BI{Z:Array Oper}{Ls:List kM}(C:Region.noSelect Z=true)(D:∀c σ L,¬Q (.panic c) σ L):∀(H:lC) (listed:Array Bool) (σ:St) (L:List kM) (a:Act) (w:World),uB P n W Ls Z Q H σ L->n9 n σ a->Mem W w L->Sub Ls L->(sK Z false H listed=true->uU P Z (λw=>Mem W w Ls) (λw=>Mem W w L) (nQ n W Q) H.len listed a w)/\ (sK Z true H listed=true->∀i∈H.rF,wpOp P Z (nQ n W Q) i (λt w'=>Mem W w' Ls/\(still Z (listed.setIfInBounds i true)=true->Mem W w' L)/\uU P Z (λw=>Mem W w Ls) (λw=>Mem W w L) (nQ n W Q) (H.len-1) (listed.setIfInBounds i true) t w') a w)
 |.mZ,listed,σ,L,a,w,z,l,b,u=>⟨λhp=>⟨by simpa[sK] using hp,σ,L,l,b,z⟩,λ_ i m=>by simp[lC.rF] at m⟩
 |.o8 p q,listed,σ,L,a,w,z,l,b,u=>by
  have hh:sK Z true (.o8 p q) listed=true->∀i∈(lC.o8 p q).rF,wpOp P Z (nQ n W Q) i (λt w'=>Mem W w' Ls/\(still Z (listed.setIfInBounds i true)=true->Mem W w' L)/\uU P Z (λw=>Mem W w Ls) (λw=>Mem W w L) (nQ n W Q) ((lC.o8 p q).len-1) (listed.setIfInBounds i true) t w') a w:=by
   intro hp i m;simp only[sK,fT,cE,aF,ck] at hp;obtain⟨⟨hl,d⟩,y⟩:=hp;rcases aQ.1 m with m|m
   ·exact(BI C D p listed σ L a w z.1 l b u).2 d i m
   ·have:=(BI C D q listed σ L a w z.2 l b u).2 y i m;rw[<-hl] at this;exact this
  refine⟨λhp=>?_,hh⟩;simp only[sK,eW,aF,ck] at hp;obtain⟨⟨⟨⟨kH,mz⟩,hl⟩,d⟩,y⟩:=hp;have kI:sK Z true (.o8 p q) listed=true:=by simp[sK,hl,d,y]
  have kJ:Region.ready .any Z listed≠[]:=by intro h;rw[h] at kH;cases kH
  cases lL:(lC.o8 p q).len with
  |zero=>
   exfalso;obtain⟨i,m⟩:=jg _ kJ;rw[aK] at mz;have k7:=mz i m;have key:∀r:lC,i∈r.rF->sK Z true r listed=true->0<r.len:=by
    intro r;induction r with
    |mZ=>intro h;simp[lC.rF] at h
    |op j r _=>intro _ _;simp[lC.len]
    |yz j r _=>intro h;simp[lC.rF] at h
    |o8 p q k8 k9=>
     intro h s;simp only[sK,fT,cE,aF,ck] at s;rcases aQ.1 h with h|h
     ·exact k8 h s.1.2
     ·have:=k9 h s.2;simp only[lC.len];omega
   have:=key (.o8 p q) (by simpa[lC.rF] using k7) kI;omega
  |succ f=>refine⟨λh=>absurd h kJ,λi m=>?_⟩;rw[aK] at mz;have:=hh kI i (by simpa[lC.rF] using mz i m);rw[lL] at this;exact this
 |.yz i r,listed,σ,L,a,w,z,l,b,u=>by
  have X:∀c a w,¬nQ n W Q (.panic c) a w:=λc a w ⟨σ,L,_,_,h⟩=>D c σ L h;obtain⟨o,B,v,Y,hv,kF⟩:=z;refine⟨λhp=>?_,λ_ i m=>by simp[lC.rF] at m⟩;simp only[sK,gT,cE,aF] at hp;obtain⟨⟨⟨s,hr⟩,hf⟩,y⟩:=hp;have I:=l.wanted Z o;have O:uA P Z (λw=>Mem W w Ls) o v a:=by
   rcases hv with⟨e,g⟩|⟨e,g⟩;·exact .inl ⟨by rw[I];exact e,λw b=>by rw[l.eval];exact g w b⟩
   ·exact .inr ⟨by rw[I];exact e,g⟩
  have S:vC Z i≠3:=by intro h;rw[h] at s;cases s
  exact Ii B (eZ C) X S (λ_=>True) (λ_ _ _ _ _ _=>⟨trivial,λ_ h _=>h⟩) r.len listed a w trivial (u _ _ b) (u _ _ b) (λ_=>b) (gr B hf) (by simpa using hr) O
   ((BI C D r _ _ L _ w kF (l.sW Y v) b u).1 y)
 |.op i r,listed,σ,L,a,w,z,l,b,u=>by
  have X:∀c a w,¬nQ n W Q (.panic c) a w:=λc a w ⟨σ,L,_,_,h⟩=>D c σ L h;obtain⟨o,B,z⟩:=z;have T:vC Z i=o7 o.op:=by simp[vC,B]
  have I:=l.wanted Z o;have state:2<=o7 o.op->sK Z false r (listed.setIfInBounds i true)=true->
   wpOp P Z (nQ n W Q) i (λt w'=>Mem W w' Ls/\(still Z (listed.setIfInBounds i true)=true->Mem W w' L)/\uU P Z (λw=>Mem W w Ls) (λw=>Mem W w L) (nQ n W Q) r.len (listed.setIfInBounds i true) t w') a w:=by
   intro F y;unfold wpOp;rw[B];simp only;obtain⟨O,hn⟩:=z.2 F a w l b;have step:∀G L' t w',n9 n G t->Mem W w' L'->(o7 o.op=2->Sub L L')->(Sub Ls L->Sub Ls L')->uB P n W Ls Z Q r G L'->
    Mem W w' Ls/\(still Z (listed.setIfInBounds i true)=true->Mem W w' L)/\uU P Z (λw=>Mem W w Ls) (λw=>Mem W w L) (nQ n W Q) r.len (listed.setIfInBounds i true) t w':=by
    intro G L' t w' e g J K R;have ih:=(BI C D r (listed.setIfInBounds i true) _ L' t w' R e g (K u)).1 y;refine⟨K u _ _ g,?_⟩;by_cases S:o7 o.op=2;·exact⟨λ_=>J S _ _ g,Lj (λw b=>J S _ _ b) _ _ _ _ ih⟩
    ·have lc:∀x:Op,o7 x<=3:=by intro x;unfold o7;split<;>omega
     have lg:vC Z i=3:=by rw[T];have:=lc o.op;omega
     (have kL:still Z (listed.setIfInBounds i true)=false:=by rw[<-dD];intro M;unfold still at M;rw[aK] at M;have:=M i (d8.2 (aO.1 B).1);rw[lg] at this;simp at this);exact⟨λM=>(by rw[kL] at M;cases M),Lk _ _ _ _ kL ih⟩
   rw[I];by_cases V:lP Z σ o=true;·rw[aj V];exact .inl (gM (λt w' ⟨G,L',e,g,J,K,R⟩=>step G L' t w' e g J K R) (O V))
   ·rw[ai V];obtain⟨G,e,g⟩:=hn (by simpa using V);exact step G L _ w e b (λ_=>Sub.refl) id g
  constructor
  ·intro hp;simp only[sK,gT,cE,eW,aF] at hp;obtain⟨d,y⟩:=hp;rw[T] at d;have value:∀(E:World->Prop) (Inv:Array Bool->Prop),o7 o.op<=1->i∈Region.ready .any Z listed->Region.free .any Z listed i=true->E w->Inv listed->
    (∀listed j,Inv listed->i∈Region.ready .any Z listed->j∈Region.ready .any Z listed->j≠i->Inv (listed.setIfInBounds j true)/\
     ∀w',Mem W w' Ls->(still Z (listed.setIfInBounds j true)=true->Mem W w' L)->E w')->
    (∀v,(if o7 o.op=0 then∀w,(execOp (ev σ) o).run P w=.ok (.value v) w else zV P W L σ o v)->∀w,E w->(execOp (ev σ) o).run P w=.ok (.value v) w)->
    uU P Z (λw=>Mem W w Ls) (λw=>Mem W w L) (nQ n W Q) (r.len+1) listed a w:=by
    intro E Inv s hr hf hE hI lh lm;obtain⟨v,Y,hv,kF⟩:=z.1 s;have O:uA P Z E o v a:=by(rcases hv with⟨e,g⟩|⟨e,g⟩;·exact .inl ⟨by rw[I];exact e,λw b=>by rw[l.eval];exact lm v g w b⟩);·exact .inr ⟨by rw[I];exact e,g⟩
    exact Ii B (eZ C) X (by rw[T];omega) Inv lh r.len listed a w hI hE (u _ _ b) (λ_=>b) (gr B hf) hr O
     ((BI C D r _ _ L _ w kF (l.sW Y v) b u).1 y)
   show uU P Z (λw=>Mem W w Ls) (λw=>Mem W w L) (nQ n W Q) (r.len+1) listed a w;by_cases kG:o7 o.op=0
   ·rw[kG] at d;simp only[aF] at d;exact value (λ_=>True) (λ_=>True) Zo (by simpa using d.1) d.2 trivial trivial (λ_ _ _ _ _ _=>⟨trivial,λ_ _ _=>trivial⟩)
     (λv h w _=>by rw[aj kG] at h;exact h w)
   ·by_cases lq:o7 o.op=1
    ·rw[lq] at d;simp only[aF] at d;obtain⟨⟨⟨⟨e,g⟩,J⟩,R⟩,K⟩:=d;refine value (λw=>Mem W w L) (λlisted=>still Z listed=true/\waited Z listed i=true/\zb Z listed=true) Zo (by simpa using e) g b ⟨J,R,K⟩ ?_
      (λv h w b=>by rw[ai kG] at h;exact h w b)
     rintro listed j ⟨lu,N,kO⟩ lx kQ kT;have ly:vC Z j≠3:=by
      intro s;obtain⟨lz,oj,kX,mz⟩:=gj.1 kQ;unfold waited at N;rw[aK] at N;have:=N j (d8.2 (aO.1 kX).1);rw[s,lz] at this;simp only[i9,eW] at this;have e:=Ih kO 8 j oj kX mz this;have h0:=(gj.1 lx).1;rcases eM i listed.size with h'|h'
      ·simp[h'] at h0 e;rw[h0] at e;cases e
      ·simp[dX h'] at e
     have kY:=Ln ly lu;refine⟨⟨kY,?_,Lp kO kQ⟩,λw' _ h=>h kY⟩;unfold waited at N⊢;rw[aK] at N⊢;intro k s;have:=N k s;by_cases kZ:j=k;·subst kZ;simp
     ·rw[ff true kZ];exact this
    ·have F:2<=o7 o.op:=by omega
     have k5:Region.ready .any Z listed=[i]:=by
      revert d;generalize o7 o.op=kk at F;match kk,F with
      |kk+2,_=>
       intro d;simp only at d;split at d
       ·rename_i j A;have kT:j=i:=by simpa using d
        subst kT;exact A
       ·cases d
     (refine⟨λh=>(by rw[k5] at h;cases h),λj A=>?_⟩;rw[k5] at A;have A:j=i:=by simpa using A);subst A;exact state F y
  ·intro hp j A;have A:j=i:=by simpa[lC.rF] using A
   subst A;simp only[sK,eV,eC,fT,aF] at hp;obtain⟨d,y⟩:=hp;rw[T] at d;have F:2<=o7 o.op:=by
    match s:o7 o.op,d with
    |kk+2,_=>omega
   exact state F y
theorem qN{id:Nat}{Z:Array Oper}(Ls:List kM)(b:lC)(d:P.follows .mixedOrders=true)(e:Region.noSelect Z=true)(hp:sK Z false b (Array.replicate Z.size false)=true)(lL:b.len=Z.size) (f:∀c σ L,¬Q (.panic c) σ L) (g:Sub Ls L) (h:uB P n W Ls Z Q b σ L):SC P n W (.region id Z true) Q σ L:=λa w i j=>by refine jZ d (FN (D:=λw=>Mem W w Ls) (C:=λw=>Mem W w L) _ _ _ _ ?_);have:=(BI e f b _ σ L a _ h i (j.drew (w.drawn+1)) g).1 hp;rw[lL] at this;exact this
def FP(P:Program)(n:Sz)(W:World)(Ls:List kM)(Z:Array Oper)(Q:Exit->St->List kM->Prop)(p:lC):Exit->St->List kM->Prop
 |.normal,σ,L=>uB P n W Ls Z Q p σ L
 |e,σ,L=>Q e σ L
theorem ta{Z:Array Oper}{Ls:List kM}{p q:lC}(a:uB P n W Ls Z Q p σ L)(b:uB P n W Ls Z Q q σ L):uB P n W Ls Z Q (.o8 p q) σ L:=⟨a,b⟩
theorem RN{Z:Array Oper}{Ls:List kM}{p:lC}{e:Exit}(b:e≠ .normal){a:Act}{w:World}(h:nQ n W (FP P n W Ls Z Q p) e a w):nQ n W Q e a w:=by obtain⟨σ,L,c,d,f⟩:=h;cases e<;>first|exact(b rfl).elim|exact⟨σ,L,c,d,f⟩
theorem FQ{o:Oper}{a:Act}{K:Act->World->Prop}{Q f:Exit->Act->World->Prop}(b:∀e,e≠ .normal->∀a w,Q e a w->f e a w){w:World}(h:o.wp P a w K Q):o.wp P a w K f:=by
 unfold Oper.wp at*;generalize(execOp a.eval o).run P w=r at*;cases r with
 |ok n w'=>
  cases n<;>simp only[Oper.upon] at h⊢<;>try exact h
  exact fF h λe g d=>by
   cases e with
   |returned v=>exact d
   |panicked c=>exact b _ Zs _ _ d
   |outgrown=>exact d.elim λa ⟨w,h⟩=>⟨a,w,b _ Zs _ _ h⟩
 |halt x w'=>cases x<;>simp only[Oper.upon] at h⊢;exact b _ Zs _ _ h
theorem mM{Z:Array Oper}{Ls:List kM}:∀(l:List Nat) (p:lC) (σ:St) (L:List kM),(l.all λi=>(Z[i]?).isSome)=true->SL P n W (.sched Ls) Z (FP P n W Ls Z Q p) (l.filterMap (Z[·]?)) σ L->uB P n W Ls Z Q (lC.Z l p) σ L
 |[],_,_,_,_,h=>h
 |i::r,p,σ,L,d,h=>by
  rw[aK] at d;obtain⟨o,q⟩:=fm.1 (d i (ay ..));have s:(i::r).filterMap (Z[·]?)=o::r.filterMap (Z[·]?):=by simp[q]
  rw[s] at h;have f:(r.all λi=>(Z[i]?).isSome)=true:=by rw[aK];exact λj t=>d j (aI _ t)
  obtain⟨b,c⟩:=h;refine⟨o,q,λg=>?_,λg a w u x=>?_⟩;·obtain⟨v,y,z,A⟩:=b g;exact⟨v,y,z,mM r p _ _ f A⟩
  ·obtain⟨B,C⟩:=c g a w u x;refine⟨λk=>FQ (λe D a w h=>RN D h) (gM (λH w' ⟨m,L',b,c,E,F,G⟩=>⟨m,L',b,c,E,F,mM r p _ _ f G⟩) (B k)),λk=>?_⟩;obtain⟨m,b,c⟩:=C k;exact⟨m,b,mM r p _ _ f c⟩
def RO(P:Program)(n:Sz)(W:World)(Ls:List kM)(Z:Array Oper)(Q:Exit->St->List kM->Prop)(p:lC)(L:List kM):Exit->St->List kM->Prop
 |.normal,σ,_=>uB P n W Ls Z Q p σ L
 |_,_,_=>False
theorem qu{Z:Array Oper}{Ls:List kM}:∀(l:List Nat) (p:lC) (σ:St),(l.all λi=>((Z[i]?).map λo=>decide (o7 o.op<=1)).getD false)=true->SL P n W (.sched []) Z (RO P n W Ls Z Q p L) (l.filterMap (Z[·]?)) σ Ls->uB P n W Ls Z Q (lC.p8 l p) σ L
 |[],_,_,_,h=>h
 |i::r,p,σ,c,h=>by
  rw[aK] at c;have a:=c i (ay ..);cases b:Z[i]? with
  |none=>rw[b] at a;cases a
  |some o=>
   rw[b] at a;have f:o7 o.op<=1:=by simpa using a
   have g:(i::r).filterMap (Z[·]?)=o::r.filterMap (Z[·]?):=by simp[b]
   rw[g] at h;obtain⟨v,k,m,q⟩:=h.1 f;refine⟨o,b,v,k,?_,qu r p _ (by rw[aK];exact λj s=>c j (aI _ s)) q⟩;rcases m with⟨d,e⟩|d
   ·left;refine⟨d,?_⟩;split at e;·exact λw _=>e w
    ·exact e
   ·exact .inr d
theorem nq{id:Nat}{Z:Array Oper}(a:List Nat)(b:P.follows .mixedOrders=true)(d:Region.noSelect Z=true)(hp:sK Z false (lC.Z a .mZ) (Array.replicate Z.size false)=true)(lL:(lC.Z a .mZ).len=Z.size) (e:(a.all λi=>(Z[i]?).isSome)=true) (f:∀c σ L,¬Q (.panic c) σ L) (h:SL P n W (.sched []) Z (FP P n W [] Z Q .mZ) (a.filterMap (Z[·]?)) σ L):SC P n W (.region id Z true) Q σ L:=qN [] _ b d hp lL f Sub.nil (mM _ _ _ _ e h)
def Eu(R:St->List kM->Prop):Exit->St->List kM->Prop
 |.normal,σ,L=>R σ L
 |_,_,_=>False
theorem wM{c:Code}(R:St->List kM->Prop)(a:SC P n W c (Eu R) σ L)(b:∀σ L,R σ L->Q .normal σ L):SC P n W c Q σ L:=
 a.mono λe σ L h=>by
  cases e with
  |normal=>exact b σ L h
  |_=>exact h.elim
theorem mP{c:Code}(I:Nat->St->List kM->Prop)(m:Nat)(b:List kM)(A:b.Sublist L)(B:I m σ b)(round:∀m σ L,I m σ L->SC P n W c (CN (λg L'=>∃d b,d<m/\b.Sublist L'/\I d g b) Q) σ L):SC P n W (.loop c) Q σ L:=by
 intro a w o q;have i:∀p:Nat->Prop,(∃m,p m)->∃m,p m/\∀k,p k->m<=k:=by
  intro p ⟨m,f⟩;induction m using Nat.strongRecOn with
  |_ m C=>
   by_cases s:∃k,k<m/\p k;·obtain⟨k,D,hp⟩:=s;exact C k D hp
   ·exact⟨m,f,λk hp=>Nat.le_of_not_lt λr=>s ⟨k,r,hp⟩⟩
 let J:Act->World->Nat->Prop:=λa w m=>∃σ L,n9 n σ a/\Mem W w L/\I m σ L;let j:Act->World->Nat:=λa w=>open Classical in if h:∃m,J a w m then Classical.choose (i _ h) else 0;have t:∀a w m,J a w m->J a w (j a w)/\j a w<=m:=by intro a w m f;have l:∃m,J a w m:=⟨m,f⟩;have e:j a w=Classical.choose (i _ l):=dif_pos l;rw[e];exact⟨(fU (i _ l)).1,(fU (i _ l)).2 m f⟩
 refine wp_loop (λa w=>∃m,J a w m) j ⟨m,σ,b,o,q.sublist A,B⟩ ?_;rintro a w ⟨m,f⟩;obtain⟨σ,L,o,q,E⟩:=(t a w m f).1;refine eP (round _ σ L E a w o q) ?_;rintro e u w' ⟨g,L',v,x,y⟩;cases e;case normal=>obtain⟨d,b,r,F,G⟩:=y;have z:J u w' d:=⟨g,b,v,x.sublist F,G⟩;exact⟨⟨d,z⟩,iP (t u w' d z).2 r⟩
 all_goals exact⟨g,L',v,x,y⟩
theorem RP{c rest:Code}(l:Nat)(hf:findLabel c l=some rest)(I:Nat->St->List kM->Prop)(first:SC P n W c (λe b L'=>match e with|.goto l'=>l'=l/\∃m d,d.Sublist L'/\I m b d|e=>Q e b L') σ L)(tE:∀m σ L,I m σ L->SC P n W rest (λe b L'=>match e with|.goto l'=>l'=l/\∃f d,f<m/\d.Sublist L'/\I f b d|e=>Q e b L') σ L):SC P n W (.scope c) Q σ L:=by
 intro a w t u;have q:∀p:Nat->Prop,(∃m,p m)->∃m,p m/\∀k,p k->m<=k:=by
  intro p ⟨m,g⟩;induction m using Nat.strongRecOn with
  |_ m D=>
   by_cases A:∃k,k<m/\p k;·obtain⟨k,E,hp⟩:=A;exact D k E hp
   ·exact⟨m,g,λk hp=>Nat.le_of_not_lt λv=>A ⟨k,v,hp⟩⟩
 let J:Act->World->Nat->Prop:=λa w m=>∃σ L,n9 n σ a/\Mem W w L/\I m σ L;let r:Act->World->Nat:=λa w=>open Classical in if h:∃m,J a w m then Classical.choose (q _ h) else 0;have B:∀a w m,J a w m->J a w (r a w)/\r a w<=m:=by intro a w m g;have s:∃m,J a w m:=⟨m,g⟩;have e:r a w=Classical.choose (q _ s):=dif_pos s;rw[e];exact⟨(fU (q _ s)).1,(fU (q _ s)).2 m g⟩
 refine wp_scope_jumps l (λa w=>∃m,J a w m) r hf ?_ ?_
 ·refine eP (first a w t u) ?_;rintro e x w' ⟨b,L',i,j,o⟩;cases e;case goto l'=>obtain⟨rfl,m,d,y,z⟩:=o;exact⟨rfl,m,b,d,i,j.sublist y,z⟩
  all_goals exact⟨b,L',i,j,o⟩
 ·rintro a w ⟨m,g⟩;obtain⟨σ,L,t,u,z⟩:=(B a w m g).1;refine eP (tE _ σ L z a w t u) ?_;rintro e x w' ⟨b,L',i,j,o⟩;cases e;case goto l'=>obtain⟨rfl,f,d,v,y,F⟩:=o;have C:J x w' f:=⟨b,d,i,j.sublist y,F⟩;exact⟨rfl,⟨f,C⟩,iP (B x w' f C).2 v⟩
  all_goals exact⟨b,L',i,j,o⟩
theorem SC.drop{c:Code}(a:List kM)(b:a.Sublist L)(h:SC P n W c Q σ a):SC P n W c Q σ L:=h.mL λ_ d=>d.sublist b
def BJ(args:Array Value):St:=λi=>args.toList.getD i undef
def tZ(P:Program)(W:World)(fn:Func)(R:Value->List kM->Prop):Exit->St->List kM->Prop
 |.normal,σ,L|.ret,σ,L=>∀a w,n9 ⟨fn.ntmps,[]⟩ σ a->Mem W w L->∃v,(results fn a.tmps).run P w=.ok v w/\∃L',Mem W w L'/\R v L'
 |_,_,_=>False
theorem RQ{f:FuncId}{fn:Func}{c:Code}{args:Array Value}{R:Value->List kM->Prop}(hf:P.funcs[f]? =some fn)(m:fn.body=some c)(t:args.size<=fn.ntmps) (h:SC P ⟨fn.ntmps,[]⟩ W c (tZ P W fn R) (BJ args) L) (q:(fn.name== "runtime.NumGoroutine")=false:=by kernel_rfl):m3 P W f args L R:=by
 refine⟨λargs w=>by
  have a:¬fn.name= "runtime.NumGoroutine":=by simpa using q
  simp[callFunc,hf,m,a],?_⟩
 intro w r;refine calls_of_wp hf m ?_;have s:n9 ⟨fn.ntmps,[]⟩ (BJ args) {tmps:=args++Array.replicate (fn.ntmps-args.size) undef,defers:=[]}:=by
  refine⟨rfl,by simp;omega,λi=>?_⟩;obtain⟨l⟩:=args;simp only[BJ,gk,cF,eQ,jj];simp only[cf,cY];by_cases n:i<l.length;·simp[n]
  ·rw[ai n,dL Zo];split<;>rfl
 refine eP (h _ w s r) ?_;rintro e o w' ⟨u,L',a,p,b⟩;cases e<;>simp only[tZ] at b;case normal=>obtain⟨v,d,g,j,k⟩:=b o w' a p;exact⟨a.defers,v,d,v,g,rfl,j,k⟩
 case ret=>obtain⟨v,d,g,j,k⟩:=b o w' a p;exact⟨a.defers,v,d,v,g,rfl,j,k⟩
theorem m3.mono{f:FuncId}{args:Array Value}{R a:Value->List kM->Prop}(h:m3 P W f args L R)(b:∀v L',R v L'->a v L'):m3 P W f args L a:=⟨h.1,λw c=>(h.2 w c).mono λ_ _ ⟨v,L',d,e,g⟩=>⟨v,L',d,e,b v L' g⟩⟩
theorem m3.mL{f:FuncId}{args:Array Value}{R:Value->List kM->Prop}{L':List kM}(a:∀w,Mem W w L->Mem W w L')(h:m3 P W f args L' R):m3 P W f args L R:=⟨h.1,λw b=>h.2 w (a w b)⟩
theorem xK{fn:Func}{R:Value->List kM->Prop}(b:fn.results=#[])(h:R (.tuple #[]) L):tZ P W fn R .normal σ L:=by intro a w _ c;exact⟨_,jk b _ _ _,L,c,h⟩
theorem AS{fn:Func}{R:Value->List kM->Prop}(b:fn.results=#[])(h:R (.tuple #[]) L):tZ P W fn R .ret σ L:=by intro a w _ c;exact⟨_,jk b _ _ _,L,c,h⟩
end rules
class nV(P:Program)(t:Nat)(e size bytes:outParam Nat):Prop where
 ul:P.underlying t=some (.slice e)
 sj:∃i z,P.info? e=some i/\i.zero=some z/\i.size=size/\i.bytes=bytes/\z.cells.size=size
 pos:0<size
class mu(P:Program)(t f:Nat)(off:outParam Nat):Prop where
 q9:∃b a i,P.underlying t=some (.struct b)/\b[f]? =some a/\a.offset=off/\P.info? a.type=some i/\i.size≠0
class pv(P:Program)(t:Nat):Prop where
 q9:∃d,P.underlying t=some d/\(match d with|.struct _|.array _ _=>false|_=>true)=true
 size:∃i,P.info? t=some i/\i.size=1
class oD(P:Program)(t:Nat)(size:outParam Nat):Prop where
 q9:∃d,P.underlying t=some d/\(match d with|.struct _|.array _ _=>true|_=>false)=true
 sj:∃i,P.info? t=some i/\i.size=size
class nE(P:Program)(t:Nat)(z:outParam (List Value)):Prop where
 q9:∃i v,P.info? t=some i/\i.zero=some v/\v.cells=z.toArray
section
variable{P:Program}{n:Sz}{W:World}{q:Md}{Q:Exit->St->List kM->Prop}{σ:St}{L:List kM}{Z:Array Oper}{rest:List Oper}{o:Oper}
theorem tc(m:q.pb=true)(r:2<=o7 o.op)(j:lP Z σ o=true)(k:l8 n o.dst=true)(h:∀w,Mem W w L->∃v w' L',(execOp (ev σ) o).run P w=.ok (.value v) w'/\Mem W w' L'/\(o7 o.op=2->Sub L L')/\(o7 o.op=2\/(q.nP L->q.nP L'))/\SL P n W q Z Q rest (l6 σ o.dst v) L'):SL P n W q Z Q (o::rest) σ L:=by
 cases q;·intro a w b c;unfold wpList;rw[b.wanted,j,aj rfl];obtain⟨v,w',L',d,e,_,_,f⟩:=h w c;refine .inl ?_;unfold Oper.wp;rw[b.eval,d];exact f _ _ (b.sW k v) e
 ·cases m
 ·refine⟨λg=>by omega,λ_ a w b c=>⟨λ_=>?_,λg=>by rw[j] at g;cases g⟩⟩;obtain⟨v,w',L',d,e,l,p,f⟩:=h w c;unfold Oper.wp;rw[b.eval,d];exact⟨_,L',b.sW k v,e,l,λh=>p.elim (λi=>h.trans (l i)) (λi=>i h),f⟩
theorem zW(k:q.pb=true)(p:o7 o.op=3)(i:lP Z σ o=true)(j:o.dst=none)(h:∀w,Mem W w L->∃w' L',(execOp (ev σ) o).run P w=.ok .skip w'/\Mem W w' L'/\(q.nP L->q.nP L')/\SL P n W q Z Q rest σ L'):SL P n W q Z Q (o::rest) σ L:=by
 cases q;·intro a w b c;unfold wpList;rw[b.wanted,i,aj rfl];obtain⟨w',L',d,e,_,f⟩:=h w c;refine .inl ?_;unfold Oper.wp;rw[b.eval,d];have:=f _ _ b e;simpa[Oper.upon,Act.put,j] using this
 ·cases k
 ·refine⟨λg=>by omega,λ_ a w b c=>⟨λ_=>?_,λg=>by rw[i] at g;cases g⟩⟩;obtain⟨w',L',d,e,l,f⟩:=h w c;unfold Oper.wp;rw[b.eval,d];have m:Act.put a o.dst undef=a:=by rw[j];rfl
  exact⟨σ,L',by rw[m];exact b,e,λr=>by omega,l,f⟩
theorem AT(r:q.pb=true)(s:o7 o.op=2)(j:lP Z σ o=true)(k:l8 n o.dst=true){f:FuncId}{args:Array Value}{R:Value->List kM->Prop}(l:∀w,(execOp (ev σ) o).run P w=.ok (.enter f args) w) (m:m3 P W f args L R)(h:∀v L',R v L'->(q=.plain\/Sub L L')/\SL P n W q Z Q rest (l6 σ o.dst v) L'):SL P n W q Z Q (o::rest) σ L:=by
 cases q;·intro a w b d;unfold wpList;rw[b.wanted,j,aj rfl];refine .inl ?_;unfold Oper.wp;rw[b.eval,l];refine(m.2 w d).mono ?_;rintro e w' ⟨v,L',rfl,g,c⟩;exact(h v L' c).2 _ _ (b.sW k v) g
 ·cases r
 ·refine⟨λi=>by omega,λ_ a w b d=>⟨λ_=>?_,λi=>by rw[j] at i;cases i⟩⟩;unfold Oper.wp;rw[b.eval,l];refine(m.2 w d).mono ?_;rintro e w' ⟨v,L',rfl,g,c⟩;have p:Sub L L':=(h v L' c).1.resolve_left (by intro h;cases h);exact⟨_,L',b.sW k v,g,λ_=>p,λh=>h.trans p,(h v L' c).2⟩
theorem uC(c:lP Z σ o=true)(d:l8 n o.dst=true)(h:∀w,Mem W w L->∃v w' L',(execOp (ev σ) o).run P w=.ok (.value v) w'/\Mem W w' L'/\SL P n W .plain Z Q rest (l6 σ o.dst v) L'):SL P n W .plain Z Q (o::rest) σ L:=by intro a w b e;unfold wpList;rw[b.wanted,c,aj rfl];refine .inl ?_;obtain⟨v,w',L',f,g,i⟩:=h w e;unfold Oper.wp;rw[b.eval,f];exact i _ _ (b.sW d v) g
theorem RR(c:lP Z σ o=false)(d:l8 n o.dst=true)(h:SL P n W q Z Q rest (l6 σ o.dst undef) L):SL P n W q Z Q (o::rest) σ L:=by
 cases q;·intro a w b e;unfold wpList;rw[b.wanted,c];exact h _ _ (b.sW d _) e
 ·intro a b;unfold wpQuiet;rw[b.wanted,c];exact h _ (b.sW d _)
 ·exact⟨λ_=>⟨undef,d,.inr ⟨c,rfl⟩,h⟩,λ_ a w b e=>⟨λf=>(by rw[c] at f;cases f),λ_=>⟨_,b.sW d _,h⟩⟩⟩
theorem oF(v:Value)(g:o7 o.op<=1)(d:lP Z σ o=true)(e:l8 n o.dst=true)(c:∀w,(execOp (ev σ) o).run P w=.ok (.value v) w)(h:SL P n W q Z Q rest (l6 σ o.dst v) L):SL P n W q Z Q (o::rest) σ L:=by
 cases q;·intro a w b f;unfold wpList;rw[b.wanted,d,aj rfl];refine .inl ?_;unfold Oper.wp;rw[b.eval,c];exact h _ _ (b.sW e v) f
 ·intro a b;unfold wpQuiet;rw[b.wanted,d,aj rfl];refine⟨v,λw f=>?_,h _ (b.sW e v)⟩;unfold Oper.quietAt;rw[b.eval,c w];exact⟨rfl,rfl⟩
 ·refine⟨λ_=>⟨v,e,.inl ⟨d,?_⟩,h⟩,λi=>by omega⟩;split;·exact c
  ·exact λw _=>c w
theorem uD(v:Value)(g:o7 o.op=1)(d:lP Z σ o=true)(e:l8 n o.dst=true)(f:zV P W L σ o v)(h:SL P n W q Z Q rest (l6 σ o.dst v) L):SL P n W q Z Q (o::rest) σ L:=by
 cases q;·intro a w b c;unfold wpList;rw[b.wanted,d,aj rfl];refine .inl ?_;unfold Oper.wp;rw[b.eval,f w c];exact h _ _ (b.sW e v) c
 ·intro a b;unfold wpQuiet;rw[b.wanted,d,aj rfl];refine⟨v,λw c=>?_,h _ (b.sW e v)⟩;unfold Oper.quietAt;rw[b.eval,f w c];exact⟨rfl,rfl⟩
 ·exact⟨λ_=>⟨v,e,.inl ⟨d,by rw[ai Zo];exact f⟩,h⟩,λi=>by omega⟩
theorem RS(j:o7 o.op=2)(b:lP Z σ o=true)(c:l8 n o.dst=true){f:FuncId}{args:Array Value}(v:Value)(d:∀w,(execOp (ev σ) o).run P w=.ok (.enter f args) w) (g:m3 P W f args L (λv' L'=>v'=v/\L'=L))(h:SL P n W q Z Q rest (l6 σ o.dst v) L):SL P n W q Z Q (o::rest) σ L:=by
 cases q;·exact AT rfl j b c d g (by rintro v' L' ⟨rfl,rfl⟩;exact⟨.inl rfl,h⟩)
 ·intro a i;unfold wpQuiet;rw[i.wanted,b,aj rfl];refine⟨v,λw k=>?_,h _ (i.sW c v)⟩;unfold Oper.quietAt;rw[i.eval,d];refine⟨rfl,(g.2 w k).mono ?_⟩;rintro e w' ⟨v',L',rfl,l,rfl,rfl⟩;exact⟨rfl,l⟩
 ·exact AT rfl j b c d g (by rintro v' L' ⟨rfl,rfl⟩;exact⟨.inr Sub.refl,h⟩)
end
def CP(op:BinOp)(x y:Value):Option Value:=
 match op,x,y with
 |.add,.int .i64 a,.int .i64 b=>some (.int .i64 (IntKind.i64.wrap (a+b)))
 |.sub,.int .i64 a,.int .i64 b=>some (.int .i64 (IntKind.i64.wrap (a-b)))
 |.mul,.int .i64 a,.int .i64 b=>some (.int .i64 (IntKind.i64.wrap (a*b)))
 |.eql,.int .i64 a,.int .i64 b=>some (.bool (a==b))
 |.neq,.int .i64 a,.int .i64 b=>some (.bool (a != b))
 |.lss,.int .i64 a,.int .i64 b=>some (.bool (decide (a<b)))
 |.leq,.int .i64 a,.int .i64 b=>some (.bool (decide (a<=b)))
 |.gtr,.int .i64 a,.int .i64 b=>some (.bool (decide (b<a)))
 |.geq,.int .i64 a,.int .i64 b=>some (.bool (decide (b<=a)))
 |_,_,_=>none
def BK(v:Value):Option Value:=
 match v with
 |.bool b=>some (.bool b)
 |.int k n=>some (.int k n)
 |.float k b=>some (.float k b)
 |.complex k a b=>some (.complex k a b)
 |.string s=>some (.string s)
 |.pointer a=>some (.pointer a)
 |.slice a n c=>some (.slice a n c)
 |.map r=>some (.map r)
 |.chan r=>some (.chan r)
 |.func f a c=>some (.func f a c)
 |.nilFunc=>some .nilFunc
 |.iface t v=>some (.iface t v)
 |.nilIface=>some .nilIface
 |.agg cs=>some (.agg cs)
 |.tuple vs=>some (.tuple vs)
theorem CQ(v:Value):BK v=some v:=by cases v<;>rfl
def yB(ρ:Operand->Value)(o:Op):Option Value:=
 match o with
 |.move x=>BK (ρ x)
 |.assign x=>BK (ρ x)
 |.pick c x y=>match ρ c with
  |.bool true=>BK (ρ x)
  |.bool false=>BK (ρ y)
  |_=>none
 |.binOp op _ x y _=>CP op (ρ x) (ρ y)
 |.unOp .not _ x=>match ρ x with
  |.bool b=>some (.bool (!b))
  |_=>none
 |.extract x i=>match ρ x with
  |.tuple vs=>(vs.toList[i]?).bind BK
  |_=>none
 |.call {callee:=.builtin .max,args:=⟨[x,y]⟩,argTypes:=_}=>match ρ x,ρ y with
  |.int .i64 a,.int .i64 b=>some (.int .i64 (if a<b then b else a))
  |_,_=>none
 |.call {callee:=.builtin .min,args:=⟨[x,y]⟩,argTypes:=_}=>match ρ x,ρ y with
  |.int .i64 a,.int .i64 b=>some (.int .i64 (if b<a then b else a))
  |_,_=>none
 |_=>none
theorem RT{op:BinOp}{x y v:Value}(h:CP op x y=some v)(P:Program)(t:TypeId)(X Y:Operand)(w:World):
 (do eqGuard op t X Y x y;binOp op t x y:Sem Value).run P w=.ok v w:=by
 unfold CP at h;split at h<;>(first|(cases h;simp[go_sem])|cases h)
theorem FR{P:Program}{σ:St}{o:Oper}{v:Value}(h:yB (ev σ) o.op=some v)(w:World):(execOp (ev σ) o).run P w=.ok (.value v) w:=by
 obtain⟨dst,op,type,pos,after,guard⟩:=o;simp only at h;unfold yB at h;split at h;·rw[CQ] at h;cases h;rfl
 ·rw[CQ] at h;cases h;rfl
 ·rename_i c x y;split at h<;>rename_i a;·rw[CQ] at h;cases h;simp[execOp,a,asBool]
  ·rw[CQ] at h;cases h;simp[execOp,a,asBool]
  ·cases h
 ·have:=RT h P;simp only[execOp];rw[aB,this];simp
 ·rename_i x;split at h<;>rename_i a;·cases h;simp[execOp,a,Op.unary]
  ·cases h
 ·rename_i x i;split at h<;>rename_i a
  ·rename_i vs;have:vs[i]? =some v:=by
    cases b:vs.toList[i]? with
    |none=>rw[b] at h;cases h
    |some u=>rw[b] at h;simp only[eB,CQ] at h;cases h;simpa using b
   simp[execOp,a,Instr.extract,this]
  ·cases h
 ·split at h<;>rename_i d e;·cases h;simp[execOp,resolve,invoke,builtin,d,e,Builtin.max_,Builtin.max2]
  ·cases h
 ·split at h<;>rename_i d e;·cases h;simp[execOp,resolve,invoke,builtin,d,e,Builtin.min_,Builtin.min2]
  ·cases h
 ·cases h
theorem RU{ρ:Operand->Value}{op:Op}{v:Value}(h:yB ρ op=some v):o7 op<=1:=by unfold yB at h;split at h<;>first|(exact dv rfl)|cases h
section
variable{P:Program}{n:Sz}{W:World}{q:Md}{Q:Exit->St->List kM->Prop}{σ:St}{L:List kM}{Z:Array Oper}{rest:List Oper}
 {dst:Option Nat} {ty:TypeId} {pos:String} {lf:Array Edge} {gd:Option (Nat×Bool)}
theorem zX{op:Op}{v:Value}(a:yB (ev σ) op=some v)(b:lP Z σ ⟨dst,op,ty,pos,lf,gd⟩=true) (c:l8 n dst=true)(h:SL P n W q Z Q rest (l6 σ dst v) L):SL P n W q Z Q (⟨dst,op,ty,pos,lf,gd⟩::rest) σ L:=oF v (RU a) b c (FR a) h
theorem RV{x y:Operand}{t t2:TypeId}{a b:Int}(c:ev σ x=.int .i64 a)(d:ev σ y=.int .i64 b)(g:-9223372036854775808<=a+b/\a+b<=9223372036854775807)(e:lP Z σ ⟨dst,.binOp .add t x y t2,ty,pos,lf,gd⟩=true) (f:l8 n dst=true)(h:SL P n W q Z Q rest (l6 σ dst (.int .i64 (a+b))) L):SL P n W q Z Q (⟨dst,.binOp .add t x y t2,ty,pos,lf,gd⟩::rest) σ L:=by refine oF _ Zb e f (λw=>FR ?_ w) h;simp only[yB,c,d,CP];rw[dT _ Zo]
theorem RW{x y:Operand}{t t2:TypeId}{a b:Int}(c:ev σ x=.int .i64 a)(d:ev σ y=.int .i64 b)(g:-9223372036854775808<=a-b/\a-b<=9223372036854775807)(e:lP Z σ ⟨dst,.binOp .sub t x y t2,ty,pos,lf,gd⟩=true) (f:l8 n dst=true)(h:SL P n W q Z Q rest (l6 σ dst (.int .i64 (a-b))) L):SL P n W q Z Q (⟨dst,.binOp .sub t x y t2,ty,pos,lf,gd⟩::rest) σ L:=by refine oF _ Zb e f (λw=>FR ?_ w) h;simp only[yB,c,d,CP];rw[dT _ Zo]
theorem RX{x:Operand}{src b:TypeId}{ds:TypeDesc}{k:IntKind}{a:Int}(e:ev σ x=.int k a)(f:P.underlying src=some ds)(c:P.underlying b=some (.int .i64))(j:-9223372036854775808<=a/\a<=9223372036854775807)(g:lP Z σ ⟨dst,.convert src b x,ty,pos,lf,gd⟩=true) (i:l8 n dst=true)(h:SL P n W q Z Q rest (l6 σ dst (.int .i64 a)) L):SL P n W q Z Q (⟨dst,.convert src b x,ty,pos,lf,gd⟩::rest) σ L:=by
 refine oF _ Zb g i (λw=>?_) h;have d:P.intKind b=.i64:=by simp[Program.intKind,c]
 have:=run_convert_int (P:=P) w src b k a (by rw[f];rfl) (by rw[d];exact c);simp only[execOp,e,aB,this,d,au,dT _ (show -9223372036854775808<=a/\a<=9223372036854775807 by omega),aH]
theorem RY{x:Operand}{t:TypeId}{A:Option Addr}{l c:Nat}{e s b:Nat}[a:nV P t e s b](d:ev σ x=.slice A l c)(f:lP Z σ ⟨dst,.call {callee:=.builtin .len,args:=#[x],argTypes:=#[t]},ty,pos,lf,gd⟩=true) (g:l8 n dst=true)
 (h:SL P n W q Z Q rest (l6 σ dst (.int .i64 (l:Int))) L):
 SL P n W q Z Q (⟨dst,.call {callee:=.builtin .len,args:=#[x],argTypes:=#[t]},ty,pos,lf,gd⟩::rest) σ L:=by
 refine oF _ Zb f g (λw=>?_) h;simp[execOp,resolve,invoke,builtin,d,Builtin.len_,aL a.ul,goInt]
class Lw(P:Program)(t:Nat):Prop where
 ul:P.underlying t=some .bool
theorem RZ{x y:Operand}{t t2:TypeId}{a b:Bool}[c:Lw P t](d:ev σ x=.bool a)(e:ev σ y=.bool b)(f:lP Z σ ⟨dst,.binOp .eql t x y t2,ty,pos,lf,gd⟩=true) (g:l8 n dst=true)(h:SL P n W q Z Q rest (l6 σ dst (.bool (a==b))) L):SL P n W q Z Q (⟨dst,.binOp .eql t x y t2,ty,pos,lf,gd⟩::rest) σ L:=by refine oF _ Zb f g (λw=>?_) h;simp[execOp,d,e,binOp,Op.equal,Op.maxDepth,run_equalIn_bool' w _ t a b c.ul,go_sem]
class xj(P:Program)(t:Nat):Prop where
 ul:P.underlying t=some .string
theorem Ly{x:Operand}{t:TypeId}{s:ByteArray}[a:xj P t](b:ev σ x=.string s)(c:lP Z σ ⟨dst,.call {callee:=.builtin .len,args:=#[x],argTypes:=#[t]},ty,pos,lf,gd⟩=true) (d:l8 n dst=true)
 (h:SL P n W q Z Q rest (l6 σ dst (.int .i64 (s.size:Int))) L):
 SL P n W q Z Q (⟨dst,.call {callee:=.builtin .len,args:=#[x],argTypes:=#[t]},ty,pos,lf,gd⟩::rest) σ L:=by
 refine oF _ Zb c d (λw=>?_) h;simp[execOp,resolve,invoke,builtin,b,Builtin.len_,aL a.ul,goInt]
def pM(A:Option Addr)(size i j:Nat):Addr:=⟨(A.getD default).block,(A.getD default).off+(i*size+j),none⟩
def Rd{α:Type}(A:Option Addr)(size:Nat)(enc:α->List Value)(l:List α)(w:World):Prop:=l≠[]->∃b off,A=some ⟨b,off,none⟩/\∀i j x u,l[i]? =some x->(enc x)[j]? =some u->w.cell? ⟨b,off+(i*size+j),none⟩=some u
theorem Il{α:Type}{A:Option Addr}{size:Nat}{enc:α->List Value}{w:World}:Rd A size enc [] w:=λh=>(h rfl).elim
theorem Rd.cell{α:Type}{A:Option Addr}{size:Nat}{enc:α->List Value}{l:List α}{w:World}(h:Rd A size enc l w){i j:Nat}{x:α}{u:Value}(a:l[i]? =some x) (c:(enc x)[j]? =some u):w.cell? (pM A size i j)=some u:=by obtain⟨b,off,rfl,d⟩:=h (by rintro rfl;simp at a);exact d i j x u a c
theorem qO{x a:Operand}{t:TypeId}{A:Option Addr}{l c i:Nat}{e s b:Nat}[d:nV P t e s b]{α:Type}{enc:α->List Value}{xs:List α}(f:ev σ x=.slice A l c) (g:ev σ a=.int .i64 (i:Int)) (u:i<l) (hl:xs.length=l) (j:oq W L (Rd A s enc xs))(k:lP Z σ ⟨dst,.indexAddr t x a,ty,pos,lf,gd⟩=true) (m:l8 n dst=true)(h:SL P n W q Z Q rest (l6 σ dst (.pointer (some (pM A s i 0)))) L):SL P n W q Z Q (⟨dst,.indexAddr t x a,ty,pos,lf,gd⟩::rest) σ L:=by refine uD _ rfl k m (λw o=>?_) h;obtain⟨b,off,rfl,-⟩:=j w o (by rintro rfl;simp at hl;omega);obtain⟨v,z,p,-,r,-,-⟩:=d.sj;simp[execOp,f,g,Instr.indexAt,aL d.ul,asIntOf,sizeOf,typeInfo,p,r,pM,go_sem];omega
theorem Ev{x:Operand}{t f off:Nat}{b k:Nat}[a:mu P t f off](c:ev σ x=.pointer (some ⟨b,k,none⟩))(d:lP Z σ ⟨dst,.fieldAddr t x f,ty,pos,lf,gd⟩=true) (e:l8 n dst=true)(h:SL P n W q Z Q rest (l6 σ dst (.pointer (some ⟨b,k+off,none⟩))) L):SL P n W q Z Q (⟨dst,.fieldAddr t x f,ty,pos,lf,gd⟩::rest) σ L:=by refine oF _ Zb d e (λw=>?_) h;obtain⟨p,r,i,g,j,l,m,o⟩:=a.q9;simp[execOp,c,Instr.fieldAt,aL g,j,Instr.sureAddr,fieldPlace,sizeOf,typeInfo,m,o,l,go_sem]
theorem R0{x:Operand}{t f off:Nat}{A:Option Addr}{s i j:Nat}[a:mu P t f off](b:ev σ x=.pointer (some (pM A s i j)))(c:lP Z σ ⟨dst,.fieldAddr t x f,ty,pos,lf,gd⟩=true) (d:l8 n dst=true)(h:SL P n W q Z Q rest (l6 σ dst (.pointer (some (pM A s i (j+off))))) L):SL P n W q Z Q (⟨dst,.fieldAddr t x f,ty,pos,lf,gd⟩::rest) σ L:=by refine oF _ Zb c d (λw=>?_) h;obtain⟨o,p,r,e,g,k,l,m⟩:=a.q9;simp[execOp,b,Instr.fieldAt,aL e,g,Instr.sureAddr,fieldPlace,sizeOf,typeInfo,l,m,k,go_sem,pM,eX]
theorem Aj{w:World}{t:Nat}[b:pv P t]{a:Addr}{v:Value}(c:w.cell? a=some v):(loadVar t a).run P w=.ok v w:=by
 obtain⟨d,e,g⟩:=b.q9;have f:(isAgg t).run P w=.ok false w:=by simp only[isAgg,aB,aL e,au];cases d<;>simp_all
 simp[loadVar,aB,f,c]
theorem CR{w:World}{t s:Nat}[b:oD P t s]{a:Addr}{cs:List Value}(hl:cs.length=s)(c:∀j v,cs[j]? =some v->w.cell? (a.add j)=some v):(loadVar t a).run P w=.ok (.agg cs.toArray) w:=by
 obtain⟨d,e,m⟩:=b.q9;obtain⟨i,f,g⟩:=b.sj;have h:(isAgg t).run P w=.ok true w:=by simp only[isAgg,aB,aL e,au];cases d<;>simp_all
 have k:=run_loadCells_list (P:=P) (w:=w) a cs c;have l:(sizeOf t).run P w=.ok cs.length w:=by simp[sizeOf,typeInfo,f,g,hl]
 simp[loadVar,aB,h,l,k]
theorem FT{x:Operand}{t:Nat}[pv P t]{A:Option Addr}{s i j:Nat}{α:Type}{enc:α->List Value}{xs:List α}{e:α}{v:Value}(a:ev σ x=.pointer (some (pM A s i j))) (b:oq W L (Rd A s enc xs)) (c:xs[i]? =some e) (d:(enc e)[j]? =some v)(f:lP Z σ ⟨dst,.load t x,ty,pos,lf,gd⟩=true) (g:l8 n dst=true)(h:SL P n W q Z Q rest (l6 σ dst v) L):SL P n W q Z Q (⟨dst,.load t x,ty,pos,lf,gd⟩::rest) σ L:=by refine uD _ rfl f g (λw k=>?_) h;simp[execOp,a,Instr.loadAt,Instr.sureAddr,Aj ((b w k).cell c d)]
theorem uV{x:Operand}{t:Nat}{A:Option Addr}{s i:Nat}[oD P t s]{α:Type}{enc:α->List Value}{xs:List α}{e:α}(b:ev σ x=.pointer (some (pM A s i 0))) (c:oq W L (Rd A s enc xs)) (d:xs[i]? =some e) (hl:(enc e).length=s)(f:lP Z σ ⟨dst,.load t x,ty,pos,lf,gd⟩=true) (g:l8 n dst=true)(h:SL P n W q Z Q rest (l6 σ dst (.agg (enc e).toArray)) L):SL P n W q Z Q (⟨dst,.load t x,ty,pos,lf,gd⟩::rest) σ L:=by
 refine uD _ rfl f g (λw k=>?_) h;have:=CR (P:=P) (w:=w) (t:=t) (a:=pM A s i 0) (cs:=enc e) hl (λj v l=>by
  have m:=(c w k).cell d l;have o:(pM A s i 0).add j=pM A s i j:=by simp[pM,cz,eX]
  rw[o];exact m)
 simp[execOp,b,Instr.loadAt,Instr.sureAddr,this]
theorem R1{x:Operand}{t:Nat}[pv P t]{g k:Nat}{t':TypeId}{cs:List Value}{v:Value}(a:ev σ x=.pointer (some ⟨g,k,none⟩)) (b:k4 g t' cs∈L) (c:cs[k]? =some v)(d:lP Z σ ⟨dst,.load t x,ty,pos,lf,gd⟩=true) (e:l8 n dst=true)(h:SL P n W q Z Q rest (l6 σ dst v) L):SL P n W q Z Q (⟨dst,.load t x,ty,pos,lf,gd⟩::rest) σ L:=by
 refine uD _ rfl d e (λw f=>?_) h;have i:w.heap[g]? =some (.cells cs.toArray t' (0,0)):=(f.ok _ b).holds;have j:w.cell? ⟨g,k,none⟩=some v:=by rw[dS w g k cs.toArray t' (0,0) i];simpa using c
 simp[execOp,a,Instr.loadAt,Instr.sureAddr,Aj j]
theorem zY{x:Operand}{t s:Nat}[oD P t s]{g:Nat}{t':TypeId}{cs:List Value}(b:ev σ x=.pointer (some ⟨g,0,none⟩)) (c:k4 g t' cs∈L) (d:cs.length=s)(e:lP Z σ ⟨dst,.load t x,ty,pos,lf,gd⟩=true) (f:l8 n dst=true)(h:SL P n W q Z Q rest (l6 σ dst (.agg cs.toArray)) L):SL P n W q Z Q (⟨dst,.load t x,ty,pos,lf,gd⟩::rest) σ L:=by refine uD _ rfl e f (λw i=>?_) h;have k:w.heap[g]? =some (.cells cs.toArray t' (0,0)):=(i.ok _ c).holds;have:=CR (P:=P) (w:=w) (t:=t) (a:=⟨g,0,none⟩) (cs:=cs) d (λj v l=>by rw[cz,dS w g _ cs.toArray t' (0,0) k];simpa using l);simp[execOp,b,Instr.loadAt,Instr.sureAddr,this]
end
section
variable{P:Program}{n:Sz}{W:World}{q:Md}{Q:Exit->St->List kM->Prop}{σ:St}{L:List kM}{Z:Array Oper}{rest:List Oper}
 {dst:Option Nat} {ty:TypeId} {pos:String} {lf:Array Edge} {gd:Option (Nat×Bool)}
theorem BL{f:Operand}{l:List Operand}{a:Array TypeId}{k:Nat}{fst cap:List Value}(hf:ev σ f=.func (.func k) fst.toArray cap.toArray)(sk:∀args w,(callFunc k args).run P w=.ok (.enter k args) w) (w:World):(execOp (ev σ) ⟨dst,.call {callee:=.value f,args:=l.toArray,argTypes:=a},ty,pos,lf,gd⟩).run P w=.ok (.enter k (fst++l.map (ev σ)++cap).toArray) w:=by simp[execOp,resolve,hf,Deferred.ofValue,invoke,sk]
theorem R2{f:Operand}{l:List Operand}{a:Array TypeId}{k:Nat}{fst cap:List Value}{R:Value->List kM->Prop}(hf:ev σ f=.func (.func k) fst.toArray cap.toArray)(b:m3 P W k (fst++l.map (ev σ)++cap).toArray L R)(c:lP Z σ ⟨dst,.call {callee:=.value f,args:=l.toArray,argTypes:=a},ty,pos,lf,gd⟩=true) (d:l8 n dst=true)
 (h:∀v L',R v L'->SL P n W .plain Z Q rest (l6 σ dst v) L'):
 SL P n W .plain Z Q (⟨dst,.call {callee:=.value f,args:=l.toArray,argTypes:=a},ty,pos,lf,gd⟩::rest) σ L:=
 AT rfl rfl c d (BL hf b.1) b λv L' e=>⟨.inl rfl,h v L' e⟩
theorem R3{f:Operand}{l:List Operand}{a:Array TypeId}{k:Nat}{fst cap:List Value}(v:Value)(hf:ev σ f=.func (.func k) fst.toArray cap.toArray)(b:m3 P W k (fst++l.map (ev σ)++cap).toArray L (λv' L'=>v'=v/\L'=L))(c:lP Z σ ⟨dst,.call {callee:=.value f,args:=l.toArray,argTypes:=a},ty,pos,lf,gd⟩=true) (d:l8 n dst=true)
 (h:SL P n W q Z Q rest (l6 σ dst v) L):
 SL P n W q Z Q (⟨dst,.call {callee:=.value f,args:=l.toArray,argTypes:=a},ty,pos,lf,gd⟩::rest) σ L:=
 RS rfl c d v (BL hf b.1) b h
theorem R4{k:Nat}{a b:List Operand}(c:lP Z σ ⟨dst,.makeFunc (.func k) a.toArray b.toArray,ty,pos,lf,gd⟩=true) (d:l8 n dst=true)(h:SL P n W q Z Q rest (l6 σ dst (.func (.func k) (a.map (ev σ)).toArray (b.map (ev σ)).toArray)) L):SL P n W q Z Q (⟨dst,.makeFunc (.func k) a.toArray b.toArray,ty,pos,lf,gd⟩::rest) σ L:=oF _ Zb c d (λw=>by simp[execOp,Instr.makeFunc]) h
def oe(L:List kM)(e e':kM)(L':List kM):Prop:=∃pre post,L=pre++e::post/\L'=pre++e'::post
theorem oe.oL{e e':kM}{L:List kM}:oe (e::L) e e' (e'::L):=⟨[],L,rfl,rfl⟩
theorem oe.R5{x e e':kM}{L L':List kM}(h:oe L e e' L'):oe (x::L) e e' (x::L'):=by obtain⟨pre,post,rfl,rfl⟩:=h;exact⟨x::pre,post,rfl,rfl⟩
theorem oe.mem{e e':kM}{L L':List kM}(h:oe L e e' L'):e∈L:=by obtain⟨pre,post,rfl,rfl⟩:=h;simp
theorem Mem.put{w w':World}{e e':kM}{L L':List kM}(h:Mem W w L)(hp:oe L e e' L')(a:w'.os=w.os) (b:w'.tape=w.tape) (c:w'.output=w.output) (d:w.heap.size<=w'.heap.size)(f:∀k,k<w.heap.size->¬e.S k->w'.heap[k]? =w.heap[k]?) (g:e'.ok w') (i:∀k,e'.S k->e.S k\/w.heap.size<=k) (oC:w.drawn<=w'.drawn:=by first|exact aA _|exact gC _):Mem W w' L':=by obtain⟨pre,post,rfl,rfl⟩:=hp;have j:=(h.ny dN).change (es:=[e']) a b c d f (by simpa using g) (by simpa using i) Zs oC;exact j.ny (show(e'::(pre++post)).Perm _ from(dN).symm)
theorem Mem.alloc{w:World}(h:Mem W w L)(t:TypeId)(cs:List Value):Mem W (w.alloc (.cells cs.toArray t)) (k4 w.heap.size t cs::L):=by
 refine h.grow (es:=[k4 w.heap.size t cs]) rfl rfl rfl Zs (λk a=>dx w _ a) ?_ ?_ Zs
 ·intro x b;have b:x=k4 w.heap.size t cs:=by simpa using b
  subst b;exact⟨λk a=>by have a:k=w.heap.size:=a;subst a;simp,dU w _⟩
 ·intro x b k a;have b:x=k4 w.heap.size t cs:=by simpa using b
  subst b;have a:k=w.heap.size:=a;omega
theorem R6{x:Operand}{t:Nat}{cs:List Value}(a:(ev σ x).cells=cs.toArray)(b:q.pb=true) (c:lP Z σ ⟨dst,.box t x,ty,pos,lf,gd⟩=true) (d:l8 n dst=true)(h:∀g:Nat,SL P n W q Z Q rest (l6 σ dst (.pointer (some ⟨g,0,none⟩))) (k4 g t cs::L)):SL P n W q Z Q (⟨dst,.box t x,ty,pos,lf,gd⟩::rest) σ L:=by refine tc b Zb c d λw e=>⟨_,_,_,?_,e.alloc t cs,λ_=>Sub.cons _,.inl rfl,h _⟩;simp[execOp,Instr.box,newVar,newRow,a]
theorem R7{t:Nat}{cs:List Value}[a:nE P t cs](b:q.pb=true) (c:lP Z σ ⟨dst,.alloc t,ty,pos,lf,gd⟩=true) (d:l8 n dst=true)(h:∀g:Nat,SL P n W q Z Q rest (l6 σ dst (.pointer (some ⟨g,0,none⟩))) (k4 g t cs::L)):SL P n W q Z Q (⟨dst,.alloc t,ty,pos,lf,gd⟩::rest) σ L:=by refine tc b Zb c d λw e=>⟨_,_,_,?_,e.alloc t cs,λ_=>Sub.cons _,.inl rfl,h _⟩;obtain⟨i,v,f,j,k⟩:=a.q9;simp[execOp,Instr.alloc,zeroValue,typeInfo,f,j,newVar,newRow,k]
theorem AU{w:World}{g:Nat}{t:TypeId}{cs:List Value}(a:Mem W w L)(b:k4 g t cs∈L):w.heap[g]? =some (.cells cs.toArray t (0,0)):=(a.ok _ b).holds
theorem Mem.setRow{w:World}{g:Nat}{t:TypeId}{cs b:List Value}{L L':List kM}(h:Mem W w L)(hp:oe L (k4 g t cs) (k4 g t b) L'):Mem W (w.setRow g b.toArray) L':=by
 have c:=AU h hp.mem;have d:g<w.heap.size:=(aO.1 c).1;refine h.put hp rfl rfl rfl (by simp[World.setRow]) (λk _ a=>ep w g k _ (λe=>a e)) ⟨λk a=>?_,?_⟩ (λk a=>.inl a);·have a:k=g:=a;subst a;simpa[World.setRow] using d
 ·exact eJ w g cs.toArray b.toArray t (0,0) c
theorem Lz{a x:Operand}{t:Nat}[e:pv P t]{g k:Nat}{t':TypeId}{cs:List Value}{v:Value}{L':List kM}(f:ev σ a=.pointer (some ⟨g,k,none⟩)) (j:ev σ x=v) (b:v.oneCell'=true) (hp:oe L (k4 g t' cs) (k4 g t' (cs.set k v)) L') (l:k<cs.length)(m:q.pb=true) (o:q.nP L->q.nP L') (p:lP Z σ ⟨none,.store t a x,ty,pos,lf,gd⟩=true)(h:SL P n W q Z Q rest σ L'):SL P n W q Z Q (⟨none,.store t a x,ty,pos,lf,gd⟩::rest) σ L:=by
 refine zW m rfl p rfl λw c=>⟨_,L',?_,c.setRow hp,o,h⟩;obtain⟨i,r,s⟩:=e.size;have u:=AU c hp.mem;have d:=db P g k t' [v] 0 cs.toArray w u (by simp;omega) (by simpa using b);have y:v.cells=#[v]:=by cases v<;>first|rfl|cases b
 have z:(cs.toArray.toList.take (k+0)++[v]++cs.toArray.toList.drop (k+0+[v].length)).toArray=(cs.set k v).toArray:=by simp[fi,l]
 rw[z] at d;simp[execOp,f,j,Instr.storeAt,Instr.sureAddr,storeVar,sizeOf,typeInfo,r,s,y,d]
theorem xL{a x:Operand}{t s:Nat}[d:oD P t s]{g:Nat}{t':TypeId}{cs vs:List Value}{L':List kM}(e:ev σ a=.pointer (some ⟨g,0,none⟩)) (f:ev σ x=.agg vs.toArray) (j:(vs.all Value.oneCell')=true) (hl:vs.length=s) (hp:oe L (k4 g t' cs) (k4 g t' vs) L') (v:cs.length=s)(k:q.pb=true) (l:q.nP L->q.nP L') (m:lP Z σ ⟨none,.store t a x,ty,pos,lf,gd⟩=true)(h:SL P n W q Z Q rest σ L'):SL P n W q Z Q (⟨none,.store t a x,ty,pos,lf,gd⟩::rest) σ L:=by
 refine zW k rfl m rfl λw b=>⟨_,L',?_,b.setRow hp,l,h⟩;obtain⟨i,o,p⟩:=d.sj;have r:=AU b hp.mem;have c:=db P g 0 t' vs 0 cs.toArray w r (by simp;omega) (by simpa using j);have u:(cs.toArray.toList.take (0+0)++vs++cs.toArray.toList.drop (0+0+vs.length)).toArray=vs.toArray:=by have:cs.drop vs.length=[]:=aX Zo;simp[this]
 rw[u] at c;simp[execOp,e,f,Instr.storeAt,Instr.sureAddr,storeVar,sizeOf,typeInfo,o,p,Value.cells,hl,c]
end
def qC(cells:List Value)(off:Nat)(vs:List Value):List Value:=cells.take off++vs++cells.drop (off+vs.length)
def CS(xk:Nat->Option (Nat×Nat))(cells:List Value):List (Nat×Value)->Option (List Value)
 |[]=>some cells
 |(i,v)::r=>match xk i with
  |none=>none
  |some (off,size)=>if v.cells.toList.length≠size||off+v.cells.toList.length>cells.length then none else CS xk (qC cells off v.cells.toList) r
theorem R8(vs:List Value):∀(k off:Nat) (cs:Array Value),off+k+vs.length<=cs.size->((vs.zipIdx k).foldl (λcs (x:Value×Nat)=>cs.setIfInBounds (off+x.2) x.1) cs).toList=qC cs.toList (off+k) vs:=by
 induction vs with
 |nil=>intro k off cs h;simp[qC]
 |cons v r b=>
  intro k off cs h;simp only[List.zipIdx_cons,bU];rw[show k+1=(k+1) from rfl,b (k+1) off _ (by simp at h⊢;omega)];unfold qC;simp only[aG] at h;simp only[dE,aG];rw[fi,aj (by simp;omega)];rw[show off+(k+1)=off+k+1 from by omega];have a:(cs.toList.take (off+k)).length=off+k:=by simp;omega
  rw[dO,eD,a];have c:off+k+1-(off+k)=1:=by omega
  have d:off+k+1+r.length-(off+k)=r.length+1:=by omega
  rw[c,d];have e:(cs.toList.take (off+k)).take (off+k+1)=cs.toList.take (off+k):=aY (by rw[a];omega);have f:(cs.toList.take (off+k)).drop (off+k+1+r.length)=[]:=aX (by rw[a];omega);rw[e,f];simp[cI,kl,Nat.add_left_comm,eX]
theorem Im(xk:Nat->Option (Nat×Nat)):∀(a:List (Nat×Value)) (cells:Array Value),Instr.fill xk cells a=(CS xk cells.toList a).map List.toArray
 |[],cells=>by simp[Instr.fill,CS]
 |(i,v)::r,cells=>by
  unfold Instr.fill CS;cases xk i with
  |none=>rfl
  |some p=>
   obtain⟨off,size⟩:=p;simp only[fy];split;·rfl
   ·rename_i h;rw[Im xk r];congr 1;have b:off+v.cells.size<=cells.size:=by simp at h;omega
    have:=R8 v.cells.toList 0 off cells (by simpa using b);simp only[eu] at this;rw[<-this];congr 2;rw[<-ko,Array.toList_zipIdx]
def CT:List Value->Option (List Value)
 |[]=>some []
 |v::r=>match BK v with
  |some v'=>match CT r with
   |some r'=>some (v'::r')
   |none=>none
  |none=>none
theorem LA:∀l:List Value,CT l=some l
 |[]=>rfl
 |v::r=>by simp only[CT,CQ,LA r]
theorem LB{o:Option (List Value)}{cs:List Value}(h:o.bind CT=some cs):o=some cs:=by
 cases o with
 |none=>cases h
 |some l=>simpa[LA] using h
class pH(P:Program)(t:Nat)(b:outParam (List (Nat×Nat)))(zero:outParam (List Value)):Prop where
 q9:∃a,P.underlying t=some (.struct a)/\∀w,((a.mapM λf=>Functor.map (Prod.mk f.offset) (sizeOf f.type):Sem (Array (Nat×Nat)))).run P w=.ok b.toArray w
 zero:nE P t zero
section
variable{P:Program}{n:Sz}{W:World}{q:Md}{Q:Exit->St->List kM->Prop}{σ:St}{L:List kM}{Z:Array Oper}{rest:List Oper}
 {dst:Option Nat} {ty:TypeId} {pos:String} {lf:Array Edge} {gd:Option (Nat×Bool)}
theorem R9{t:Nat}{b:List (Nat×Nat)}{zero:List Value}[c:pH P t b zero]{a:List (Nat×Operand)}{cs:List Value}(e:(CS (b[·]?) zero (a.map λp=>(p.1,ev σ p.2))).bind CT=some cs)(f:lP Z σ ⟨dst,.build t a.toArray,ty,pos,lf,gd⟩=true) (g:l8 n dst=true)(h:SL P n W q Z Q rest (l6 σ dst (.agg cs.toArray)) L):SL P n W q Z Q (⟨dst,.build t a.toArray,ty,pos,lf,gd⟩::rest) σ L:=by
 refine oF _ Zb f g (λw=>?_) h;have hf:=LB e;obtain⟨s,j,k⟩:=c.q9;obtain⟨i,v,l,m,o⟩:=c.zero.q9;have d:Instr.fill (b.toArray[·]?) zero.toArray (a.map λp=>(p.1,ev σ p.2))=some cs.toArray:=by rw[Im];simp only[cY];rw[hf];rfl
 simp only[cY] at d;have r:(zeroValue t).run P w=.ok v w:=by simp[zeroValue,typeInfo,l,m]
 simp[execOp,Instr.build,r,aL j,k,o,d]
end
class m6{α:Type}(enc:α->List Value)(size:outParam Nat):Prop where
 len:∀x,(enc x).length=size
 one:∀x,∀v∈enc x,v.oneCell'=true
theorem tF{α:Type}{enc:α->List Value}{size:Nat}(h:∀x,(enc x).length=size)(l:List α):(l.flatMap enc).length=l.length*size:=by
 induction l with
 |nil=>simp
 |cons x r a=>simp only[bj,ak,a,h,aG,bW];omega
theorem BM{α:Type}{enc:α->List Value}{size:Nat}(h:∀x,(enc x).length=size):∀(l:List α) (i j:Nat) (x:α) (u:Value),l[i]? =some x->(enc x)[j]? =some u->(l.flatMap enc)[i*size+j]? =some u
 |[],_,_,_,_,a,_=>by simp at a
 |y::r,0,j,x,u,a,b=>by simp at a;subst a;have:j<(enc y).length:=(ax.1 b).1;rw[bj,cG Zo];simpa using b
 |y::r,i+1,j,x,u,a,b=>by
  simp at a;rw[bj,bZ (by rw[h y,bW];omega)];have:(i+1)*size+j-(enc y).length=i*size+j:=by rw[h y,bW];omega
  rw[this];exact BM h r i j x u a b
theorem FU{α:Type}{enc:α->List Value}{size:Nat}(h:∀x,(enc x).length=size)(b:0<size){l:List α}{k:Nat}{u:Value}(a:(l.flatMap enc)[k]? =some u):∃x,l[k/size]? =some x/\(enc x)[k%size]? =some u:=by
 have e:k<l.length*size:=by rw[<-tF h];exact(ax.1 a).1
 have f:k/size<l.length:=(ij b).2 e;have g:k%size<size:=io _ b;obtain⟨x,c⟩:∃x,l[k/size]? =some x:=⟨_,ad f⟩;obtain⟨v,d⟩:∃v,(enc x)[k%size]? =some v:=⟨_,ad (by rw[h x];exact g)⟩;have:=BM h l _ _ x v c d;rw[show k/size*size+k%size=k from by rw[fp];exact ip k size] at this;rw[this] at a;cases a;exact⟨x,c,d⟩
def Own{α:Type}(e size:Nat)(enc:α->List Value)(A:Option Addr)(c:Nat)(l:List α)(w:World):Prop:=(c=0/\l=[])\/∃g cur,0<c/\A=some ⟨g,0,none⟩/\w.heap[g]? =some (.cells cur e (0,0))/\l.length<=c/\c<=maxLen/\cur.size=c*size/\cur.toList.take (l.length*size)=l.flatMap enc
def li{α:Type}(e size:Nat)(enc:α->List Value)(A:Option Addr)(c:Nat)(l:List α):kM:=
 ⟨λk=>0<c/\∃a,A=some a/\a.block=k,Own e size enc A c l,λw w' h hp=>by
  rcases hp with hp|⟨g,cur,b,rfl,d,r⟩;·exact .inl hp
  ·exact .inr ⟨g,cur,b,rfl,(h g ⟨b,_,rfl,rfl⟩).trans d,r⟩⟩
section
variable{W:World}{L:List kM}{α:Type}{enc:α->List Value}{size:Nat}
theorem FV{w:World}{g:Nat}{l:List α}(h:∀x,(enc x).length=size)(a:∀j u,(l.flatMap enc)[j]? =some u->w.cell? ⟨g,j,none⟩=some u):Rd (some ⟨g,0,none⟩) size enc l w:=λ_=>⟨g,0,rfl,λi j x u b c=>by rw[cV];exact a _ u (BM h l i j x u b c)⟩
theorem uE{w:World}{e:Nat}{A:Option Addr}{c:Nat}{l:List α}(h:(li e size enc A c l).p w):Own e size enc A c l w:=h
theorem Own.cap{w:World}{e:Nat}{A:Option Addr}{c:Nat}{l:List α}(h:Own e size enc A c l w):l.length<=c/\c<=maxLen:=by
 rcases h with⟨rfl,rfl⟩|⟨g,cur,_,_,_,a,b,_⟩;·exact⟨aA _,by decide⟩
 ·exact⟨a,b⟩
theorem Own.rd[d:m6 enc size]{w:World}{e:Nat}{A:Option Addr}{c:Nat}{l:List α}(h:Own e size enc A c l w):Rd A size enc l w:=by
 intro b;rcases h with⟨_,h⟩|⟨g,cur,_,rfl,f,_,_,_,i⟩
 ·exact absurd h b
 ·refine FV d.len (λj u a=>?_) b;rw[dS w g j cur e (0,0) f,<-dM];rw[<-i,dP] at a;split at a;·exact a
  ·cases a
theorem p9[d:m6 enc size]{e:Nat}{A:Option Addr}{c:Nat}{l:List α}(a:li e size enc A c l∈L):oq W L (Rd A size enc l):=λ_ b=>(uE (b.ok _ a).holds).rd
theorem yC{e:Nat}{A:Option Addr}{c:Nat}{l:List α}(a:li e size enc A c l∈L){w:World}(b:Mem W w L):l.length<=c/\c<=maxLen:=(uE (b.ok _ a).holds).cap
theorem oG[a:m6 enc size]{g t:Nat}{cs:List Value}{l:List α}(b:k4 g t cs∈L)(rU:cs=l.flatMap enc):oq W L (Rd (some ⟨g,0,none⟩) size enc l):=by intro w c;have d:w.heap[g]? =some (.cells cs.toArray t (0,0)):=(c.ok _ b).holds;refine FV a.len λj u e=>?_;rw[dS w g j cs.toArray t (0,0) d,rU];simpa using e
theorem Mem.In{w:World}[h:m6 enc size]{g t:Nat}{cs:List Value}{l:List α}{L':List kM}(d:Mem W w L)(rU:cs=l.flatMap enc)(i:l.length<=maxLen)(hp:oe L (k4 g t cs) (li t size enc (some ⟨g,0,none⟩) l.length l) L'):Mem W w L':=by
 have e:w.heap[g]? =some (.cells cs.toArray t (0,0)):=(d.ok _ hp.mem).holds;have j:g<w.heap.size:=(aO.1 e).1;have f:∀k,(li t size enc (some ⟨g,0,none⟩) l.length l).S k->k=g:=by rintro k ⟨_,a,m,b⟩;cases m;exact b.symm
 refine d.put hp rfl rfl rfl (aA _) (λ_ _ _=>rfl) ⟨λk b=>by rw[f k b];exact j,?_⟩ (λk b=>.inl (f k b));show Own t size enc (some ⟨g,0,none⟩) l.length l w;have lL:=tF h.len l;rcases cM l.length with c|c
 ·exact .inl ⟨c,bN c⟩
 ·refine .inr ⟨g,cs.toArray,c,rfl,e,aA _,i,by rw[rU];simpa using lL,?_⟩;show cs.take _=_;rw[rU,<-lL,bf]
theorem Mem.oA{w:World}(d:Mem W w L)(e size:Nat)(enc:α->List Value)(A:Option Addr):Mem W w (li e size enc A 0 []::L):=by
 have c:∀k,¬(li e size enc A 0 ([]:List α)).S k:=λk b=>absurd b.1 Zo;refine d.grow (es:=[li e size enc A 0 []]) rfl rfl rfl (aA _) (λ_ _=>rfl) ?_ ?_ Zs
 ·intro x a;have a:x=li e size enc A 0 []:=by simpa using a
  subst a;exact⟨λk b=>absurd b (c k),.inl ⟨rfl,rfl⟩⟩
 ·intro x a k b;have a:x=li e size enc A 0 []:=by simpa using a
  subst a;exact absurd b (c k)
end
section
variable{P:Program}{n:Sz}{W:World}{q:Md}{Q:Exit->St->List kM->Prop}{σ:St}{L:List kM}{Z:Array Oper}{rest:List Oper}
 {dst:Option Nat} {ty:TypeId} {pos:String} {lf:Array Edge} {gd:Option (Nat×Bool)} {α:Type} {enc:α->List Value}
theorem yD{t e s b:Nat}[a:nV P t e s b](w:World):(sizeOf e).run P w=.ok s w:=by obtain⟨f,z,c,-,d,-,-⟩:=a.sj;simp[sizeOf,typeInfo,c,d]
theorem Sa{len cap:Nat}{h:Nat}(a:h<=cap)(w:World):(Instr.sliceBounds true len cap none (some (.int .i64 (h:Int))) none).run P w=.ok (0,h,cap) w:=by simp[Instr.sliceBounds,Instr.sliceBound,asIntOf,a]
theorem LC{len cap:Nat}{l:Nat}(a:l<=len)(w:World):(Instr.sliceBounds true len cap (some (.int .i64 (l:Int))) none none).run P w=.ok (l,len,cap) w:=by simp[Instr.sliceBounds,Instr.sliceBound,asIntOf,a]
theorem Sb{len cap:Nat}{l h:Nat}(a:l<=h)(b:h<=cap)(w:World):(Instr.sliceBounds true len cap (some (.int .i64 (l:Int))) (some (.int .i64 (h:Int))) none).run P w=.ok (l,h,cap) w:=by simp[Instr.sliceBounds,Instr.sliceBound,asIntOf,b,a]
theorem Sc{len cap:Nat}{h m:Nat}(a:h<=m)(b:m<=cap)(w:World):(Instr.sliceBounds true len cap none (some (.int .i64 (h:Int))) (some (.int .i64 (m:Int)))).run P w=.ok (0,h,m) w:=by simp[Instr.sliceBounds,Instr.sliceBound,asIntOf,b,a]
theorem LD{len cap:Nat}{l h m:Nat}(a:l<=h)(b:h<=m)(c:m<=cap)(w:World):(Instr.sliceBounds true len cap (some (.int .i64 (l:Int))) (some (.int .i64 (h:Int))) (some (.int .i64 (m:Int)))).run P w=.ok (l,h,m) w:=by simp[Instr.sliceBounds,Instr.sliceBound,asIntOf,c,b,a]
theorem Sd{t len:Nat}{e s b:Nat}[d:nV P t e s b]{zero:List Value}[u:nE P e zero]{c:List (Nat×Operand)}{cs:List Value}(O:len*s<=16777216) (x:(CS (λi=>some (i*s,s)) ((List.replicate len zero).flatten) (c.map λp=>(p.1,ev σ p.2))).bind CT=some cs) (y:zero.length=s)(z:q.pb=true) (A:lP Z σ ⟨dst,.buildSlice t len c.toArray,ty,pos,lf,gd⟩=true) (B:l8 n dst=true)(h:∀g:Nat,SL P n W q Z Q rest (l6 σ dst (.slice (some ⟨g,0,none⟩) len len)) (k4 g e cs::L)):SL P n W q Z Q (⟨dst,.buildSlice t len c.toArray,ty,pos,lf,gd⟩::rest) σ L:=by
 have hf:=LB x;refine tc z Zb A B λw C=>⟨_,_,_,?_,C.alloc e cs,λ_=>Sub.cons _,.inl rfl,h _⟩;obtain⟨i,v,D,E,F⟩:=u.q9;have o:=yD (P:=P) (t:=t) w;have G:(zeroValue e).run P w=.ok v w:=by simp[zeroValue,typeInfo,D,E]
 have R:=d.pos;have H:((Array.range (len*s)).map (zero.toArray[·%zero.toArray.size]!)).toList=(List.replicate len zero).flatten:=by
  apply cK;intro k;have I:∀(m k:Nat),(List.replicate m zero).flatten[k]? =if k<m*s then some (zero.toArray[k%zero.length]!) else none:=by
   intro m;induction m with
   |zero=>intro k;simp
   |succ m J=>
    intro k;rw[dr,gW];by_cases a:k<s;·rw[cG Zo,aj (by rw[bW];omega),ad Zo];simp[y,dZ a,a]
    ·(rw[bZ Zo,J];have K:(k-zero.length<m*s)↔(k<(m+1)*s):=by rw[bW];omega);have M:(k-zero.length)%zero.length=k%zero.length:=by
      conv=>rhs;rw[show k=(k-zero.length)+zero.length from by omega]
      simp
     simp only[K,M]
  rw[I];simp only[jl,iQ,bP,cf];split<;>rename_i a;·simp[a]
  ·simp[a]
 have j:Instr.fill (λi=>some (i*s,s)) ((Array.range (len*s)).map (zero.toArray[·%zero.toArray.size]!)) (c.map λp=>(p.1,ev σ p.2))=some cs.toArray:=by rw[Im,H,hf];rfl
 by_cases l:len*s=0
 ·have r:∀f:Nat->Value,(Array.range (len*s)).map f=#[]:=by intro f;apply fG;simp[l]
  rw[r] at j;simp only[bY,execOp,Instr.buildSlice,aB,aL d.ul,au,o];rw[ai Zo,aj l];simp only[aB,aH,au,r,j];simp[newRow]
 ·have N:¬(len*s>2^ 24):=by omega
  simp only[bY,execOp,Instr.buildSlice,aB,aL d.ul,au,o];rw[ai N,ai l];simp only[aB,aH,au,G,F];simp only[j];simp[newRow]
end
section
variable{P:Program}{n:Sz}{W:World}{q:Md}{Q:Exit->St->List kM->Prop}{σ:St}{L:List kM}{Z:Array Oper}{rest:List Oper}
 {dst:Option Nat} {ty:TypeId} {pos:String} {lf:Array Edge} {gd:Option (Nat×Bool)} {α:Type} {enc:α->List Value}
theorem LF{t:Nat}{e s b:Nat}[d:nV P t e s b]{zero:List Value}[p:nE P e zero]{x y:Operand}{N:Nat}(r:ev σ x=.int .i64 (N:Int)) (u:ev σ y=.int .i64 (N:Int)) (V:N*b<=140737488355328) (A:N<=maxLen) (B:zero.length=s)(C:q.pb=true) (D:lP Z σ ⟨dst,.makeSlice t x y,ty,pos,lf,gd⟩=true) (E:l8 n dst=true)(h:∀g:Nat,SL P n W q Z Q rest (l6 σ dst (.slice (some ⟨g,0,none⟩) N N)) (k4 g e ((List.replicate N zero).flatten)::L)):SL P n W q Z Q (⟨dst,.makeSlice t x y,ty,pos,lf,gd⟩::rest) σ L:=by
 refine tc C Zb D E λw F=>⟨_,_,_,?_,F.alloc e _,λ_=>Sub.cons _,.inl rfl,h _⟩;obtain⟨c,z,f,i,G,H,X⟩:=d.sj;obtain⟨Y,v,j,l,I⟩:=p.q9;rw[f] at j;cases j;rw[i] at l;cases l;have J:(c.bytes:Int)*(N:Int)<=281474976710656:=by
  have:((c.bytes*N:Nat):Int)<=281474976710656:=by rw[H,fp];omega
  rwa [iq] at this
 have K:(N:Int)<=9223372036854775807:=by unfold maxLen at A;omega
 have o:=run_make (P:=P) w t e c z d.ul f i .i64 .i64 N N Zo (fJ _) J K;have kF:=d.pos;have M:madeCells z.cells ((N:Int).toNat*c.size)=((List.replicate N zero).flatten).toArray:=by
  apply Array.ext';apply cK;intro k;have O:∀(m k:Nat),(List.replicate m zero).flatten[k]? =if k<m*s then some (zero.toArray[k%zero.length]!) else none:=by
   intro m;induction m with
   |zero=>intro k;simp
   |succ m R=>
    intro k;rw[dr,gW];by_cases a:k<s;·rw[cG Zo,aj (by rw[bW];omega),ad Zo];simp[B,dZ a,a]
    ·(rw[bZ Zo,R];have S:(k-zero.length<m*s)↔(k<(m+1)*s):=by rw[bW];omega);have T:(k-zero.length)%zero.length=k%zero.length:=by
      conv=>rhs;rw[show k=(k-zero.length)+zero.length from by omega]
      simp
     simp only[S,T]
  rw[O,I,G];simp only[madeCells,bC,jl,iQ,bP,cf];split<;>rename_i a;·simp[a]
  ·simp[a]
 rw[M] at o;simp only[execOp,r,u,aB,o,au,bC,aH]
theorem Se(w:World)(mR:Nat)(t ty e:TypeId)(i:TypeInfo)(size:Nat)(a:P.underlying t=some (.slice e))(b:P.info? e=some i)(v:Value) (m:Nat) (xs:List Value) (d:w.ownsRow mR e size v m xs) (c:Nat):(Builtin.append_ #[t,t] ty #[v,.slice none 0 c]).run P w=.ok v w:=by
 rcases d.2 with⟨rfl,rfl⟩|⟨g,cap,cur,rfl,_,_,f,_⟩;·simp[Builtin.append_,aL a,sizeOf,typeInfo,b,Builtin.lenOf,Builtin.firstCells]
 ·simp[Builtin.append_,aL a,sizeOf,typeInfo,b,Builtin.lenOf,Builtin.firstCells,f,storeCells]
theorem Sf{w:World}{t ty e:TypeId}{i:TypeInfo}{z:Value}(c:P.underlying t=some (.slice e))(f:P.info? e=some i)(g:i.zero=some z)(b:Addr) (B:Option Addr) (m d:Nat) (news:List Value) (hl:news.length=m*i.size) (l:B=none->m=0) (h:∀a,B=some a->∀j u,news[j]? =some u->w.cell? (a.add j)=some u)(k:(m:Int)<=9223372036854775807) (n:m*i.bytes<=140737488355328) (o:0<m):(Builtin.append_ #[t,t] ty #[.slice (some b) 0 0,.slice B m d]).run P w=(Builtin.append_ #[t,t] ty #[.slice none 0 0,.slice B m d]).run P w:=by
 cases B with
 |none=>have:=l rfl;omega
 |some a=>have p:=run_append_nil (P:=P) w t ty e i z c f g a m d news hl (h a rfl) o k Zo;have q:=jC (P:=P) w t ty e i z c f g b 0 0 [] Zs Zs a m d news hl (h a rfl) Zo (by simpa using k) (iJ Zo (by simpa using n));rw[p,q];simp
theorem td{t:Nat}{e s b:Nat}[D:nV P t e s b][J:m6 enc s]{x y:Operand}{A B:Option Addr}{c d:Nat}{l news:List α}{L':Option Addr->Nat->List kM}(K:ev σ x=.slice A l.length c) (hy:ev σ y=.slice B news.length d) (f:oq W L (Rd B s enc news))(hp:∀i m,oe L (li e s enc A c l) (li e s enc i m (l++news)) (L' i m))(hb:(l.length+news.length)*b<=140737488355328) (kH:l.length+news.length<=maxLen)(hq:q.pb=true) (kI:∀i m,q.nP L->q.nP (L' i m)) (hg:lP Z σ ⟨dst,.call {callee:=.builtin .append,args:=#[x,y],argTypes:=#[t,t]},ty,pos,lf,gd⟩=true) (hd:l8 n dst=true)
 (h:∀i m,SL P n W q Z Q rest (l6 σ dst (.slice i (l++news).length m)) (L' i m)):
 SL P n W q Z Q (⟨dst,.call {callee:=.builtin .append,args:=#[x,y],argTypes:=#[t,t]},ty,pos,lf,gd⟩::rest) σ L:=by
 refine tc hq Zb hg hd λw M=>?_;obtain⟨kJ,z,G,E,h3,h4,h5⟩:=D.sj;have hm:=(hp A c).mem;have k7:=uE (M.ok _ hm).holds;have lL:=tF J.len news;have kL:=f w M;have kO:∀a,B=some a->∀j u,(news.flatMap enc)[j]? =some u->w.cell? (a.add j)=some u:=by intro a ha j u R;obtain⟨x,kQ,k8⟩:=FU J.len D.pos R;obtain⟨b0,off,N,hc⟩:=kL (by rintro rfl;simp at kQ);rw[N] at ha;cases ha;have:=hc _ _ x u kQ k8;rw[show j/s*s+j%s=j from by rw[fp];exact ip j s] at this;rw[cz];exact this
 have k9:∀u∈news.flatMap enc,u.oneCell'=true:=λu R=>by obtain⟨x,_,K⟩:=cW.1 R;exact J.one x u K
 have kT:B=none->news=[]:=λh=>by
  rcases ir (news=[]) with T|T;·exact T
  ·obtain⟨_,_,N,_⟩:=kL T;rw[h] at N;cases N
 have key:∀(v0:Value),w.ownsRow 0 e s v0 l.length (l.flatMap enc)->∃v' w',(Builtin.append_ #[t,t] ty #[v0,.slice B news.length d]).run P w=.ok v' w'/\
  w'.ownsRow 0 e s v' (l.length+news.length) (l.flatMap enc++news.flatMap enc)/\w.grownBy w' v0.ownBlock/\(v'.ownBlock=v0.ownBlock\/v'.ownBlock=some w.heap.size):=by
  intro v0 r;cases B with
  |none=>have H:=kT rfl;subst H;exact⟨_,w,by simpa using Se w 0 t ty e kJ s D.ul G _ _ _ r d,by simpa using r,World.grownBy.refl w _,.inl rfl⟩
  |some a=>obtain⟨v',w',C,V,o,-,p⟩:=run_append_own_at (P:=P) w 0 t ty e kJ z s b D.ul G E h3 h4 h5 D.pos _ _ _ r a news.length d (news.flatMap enc) lL (kO a rfl) k9 kH hb (aR _);exact⟨v',w',C,V,o,p⟩
 have mZ:∀(v0 v':Value) (w':World),(Builtin.append_ #[t,t] ty #[.slice A l.length c,.slice B news.length d]).run P w=.ok v' w'->w'.ownsRow 0 e s v' (l.length+news.length) (l.flatMap enc++news.flatMap enc)->
  w.grownBy w' v0.ownBlock->(v'.ownBlock=v0.ownBlock\/v'.ownBlock=some w.heap.size)->(∀k,v0.ownBlock=some k->(li e s enc A c l).S k)->
  ∃v w' O,(execOp (ev σ) ⟨dst,.call {callee:=.builtin .append,args:=#[x,y],argTypes:=#[t,t]},ty,pos,lf,gd⟩).run P w=.ok (.value v) w'/\Mem W w' O/\
   (o7 (Oper.op ⟨dst,.call {callee:=.builtin .append,args:=#[x,y],argTypes:=#[t,t]},ty,pos,lf,gd⟩)=2->Sub L O)/\(o7 (Oper.op ⟨dst,.call {callee:=.builtin .append,args:=#[x,y],argTypes:=#[t,t]},ty,pos,lf,gd⟩)=2\/(q.nP L->q.nP O))/\SL P n W q Z Q rest (l6 σ (Oper.dst ⟨dst,.call {callee:=.builtin .append,args:=#[x,y],argTypes:=#[t,t]},ty,pos,lf,gd⟩) v) O:=by
  intro v0 v' w' C r o p kX;obtain⟨i,m,lc,hO⟩:∃i m,v'=.slice i (l++news).length m/\Own e s enc i m (l++news) w':=by
   rcases r.2 with⟨rfl,F⟩|⟨g,cap,cur,rfl,_,X,Y,h7,h8,h9⟩;·exact⟨none,0,by rw[ak,F],.inl ⟨rfl,bN (by rw[ak,F])⟩⟩
   ·(refine⟨some ⟨g,0,none⟩,cap,by rw[ak],?_⟩;rcases cM cap with F|F);·exact .inl ⟨F,bN (by rw[ak];omega)⟩
    ·exact .inr ⟨g,cur,F,rfl,X,by rw[ak];exact Y,h7,h8,by rw[ak,bD];exact h9⟩
  subst lc;refine⟨_,w',_,?_,?_,λE=>(by cases E),.inr (kI i m),h i m⟩;·simp only[execOp,resolve,bY,bk,cu,K,hy,aB,aH,au,invoke,builtin,C]
  ·have kY:∀k,(li e s enc i m (l++news)).S k->(Value.slice i (l++news).length m).ownBlock=some k:=by rintro k ⟨_,a,rfl,rfl⟩;rfl
   have hS:∀k,(li e s enc i m (l++news)).S k->(li e s enc A c l).S k\/w.heap.size<=k:=by
    intro k f;have kF:=kY k f;rcases p with p|p
    ·left;exact kX k (by rw[<-p];exact kF)
    ·right;rw[p] at kF;cases kF;omega
   refine M.put (hp i m) o.os o.tape o.output o.size (λk f lg=>o.block k f (λe=>lg (kX k e.symm))) ⟨λk f=>?_,hO⟩ hS (Lq _ _ _ _ C);exact(r.lt k (kY k f)).2
 rcases k7 with⟨kG,lh⟩|⟨g,cur,kG,hA,X,Y,h7,h8,h9⟩
 ·subst kG;subst lh;have kZ:w.ownsRow 0 e s (.slice none 0 0) ([]:List α).length (([]:List α).flatMap enc):=ja w 0 e s;cases A with
  |none=>obtain⟨v',w',C,r,o,p⟩:=key _ kZ;exact mZ (.slice none 0 0) v' w' C r o p (λk f=>by cases f)
  |some a0=>
   rcases cM news.length with I|I
   ·have H:news=[]:=bN I;have C:(Builtin.append_ #[t,t] ty #[.slice (some a0) 0 0,.slice B news.length d]).run P w=.ok (.slice (some a0) 0 0) w:=by
     rw[H];cases B with
     |none=>simp[Builtin.append_,aL D.ul,sizeOf,typeInfo,G,Builtin.lenOf,Builtin.firstCells,storeCells]
     |some b0=>simp[Builtin.append_,aL D.ul,sizeOf,typeInfo,G,Builtin.lenOf,Builtin.firstCells,storeCells,loadCells,loadCellsFrom]
    (have hl:(([]:List α)++news).length=0:=by rw[H];rfl);refine⟨.slice (some a0) (([]:List α)++news).length 0,w,_,?_,?_,λE=>(by cases E),.inr (kI (some a0) 0),h (some a0) 0⟩;·rw[hl];simp only[execOp,resolve,bY,bk,cu,K,hy,aB,aH,au,invoke,builtin,bm,C]
    ·refine M.put (hp (some a0) 0) rfl rfl rfl (aA _) (λ_ _ _=>rfl) ⟨λk f=>absurd f.1 Zo,.inl ⟨rfl,by rw[H];rfl⟩⟩ (λk f=>absurd f.1 Zo)
   ·obtain⟨v',w',C,r,o,p⟩:=key _ kZ;have hz:=Sf (P:=P) (w:=w) (ty:=ty) D.ul G E a0 B news.length d (news.flatMap enc) (by rw[h3];exact lL) (λh=>by rw[kT h] at I;simp at I) kO (by unfold maxLen at kH;omega)
     (by rw[h4];have k5:=hb;simp only[bm,cV] at k5;exact k5) I
    exact mZ (.slice none 0 0) v' w' (hz.trans C) r o p (λk f=>by cases f)
 ·subst hA;have r:w.ownsRow 0 e s (.slice (some ⟨g,0,none⟩) l.length c) l.length (l.flatMap enc):=⟨tF J.len l,.inr ⟨g,c,cur,rfl,aR _,X,Y,h7,h8,h9⟩⟩;obtain⟨v',w',C,V,o,p⟩:=key _ r;exact mZ _ v' w' C V o p (λk f=>⟨kG,_,rfl,by simpa[Value.ownBlock] using f⟩)
end
section
variable{P:Program}{n:Sz}{W:World}{q:Md}{Q:Exit->St->List kM->Prop}{σ:St}{L:List kM}{Z:Array Oper}{rest:List Oper}
 {dst:Option Nat} {ty:TypeId} {pos:String} {lf:Array Edge} {gd:Option (Nat×Bool)} {α:Type}
theorem SC.oA{c:Code}(e s:Nat)(enc:α->List Value)(A:Option Addr)(h:SC P n W c Q σ (li e s enc A 0 ([]:List α)::L)):SC P n W c Q σ L:=h.mL λ_ a=>a.oA e s enc A
theorem SL.oA{l:List Oper}(e s:Nat)(enc:α->List Value)(A:Option Addr)(h:SL P n W .plain Z Q l σ (li e s enc A 0 ([]:List α)::L)):SL P n W .plain Z Q l σ L:=h.mL λ_ a=>a.oA e s enc A
def BN:kM:=⟨λ_=>False,λ_=>True,λ_ _ _ h=>h⟩
theorem Mem.BN{w:World}(b:Mem W w L):Mem W w (BN::L):=by
 refine b.grow (es:=[Go.Proofs.YtkbifmngmocjnaaGreatDoor.BN]) rfl rfl rfl (aA _) (λ_ _=>rfl) ?_ ?_ Zs
 ·intro x a;have a:x=Go.Proofs.YtkbifmngmocjnaaGreatDoor.BN:=by simpa using a
  subst a;exact⟨λ_ h=>h.elim,trivial⟩
 ·intro x a k c;have a:x=Go.Proofs.YtkbifmngmocjnaaGreatDoor.BN:=by simpa using a
  subst a;exact c.elim
end
section
variable{P:Program}{n:Sz}{W:World}{q:Md}{Q:Exit->St->List kM->Prop}{σ:St}{L:List kM}{Z:Array Oper}{rest:List Oper}
 {dst:Option Nat} {ty:TypeId} {pos:String} {lf:Array Edge} {gd:Option (Nat×Bool)} {α:Type} {enc:α->List Value}
theorem Io{x lo:Operand}{t:TypeId}{g N l:Nat}{e s b:Nat}[a:nV P t e s b](c:ev σ x=.slice (some ⟨g,0,none⟩) N N) (d:ev σ lo=.int .i64 (l:Int)) (hl:l<=N)(f:lP Z σ ⟨dst,.slice t x (some lo) none none,ty,pos,lf,gd⟩=true) (i:l8 n dst=true)(H:∀o,(l<N->o=l*s)->(l=N->o=0)->SL P n W q Z Q rest (l6 σ dst (.slice (some ⟨g,o,none⟩) (N-l) (N-l))) L):SL P n W q Z Q (⟨dst,.slice t x (some lo) none none,ty,pos,lf,gd⟩::rest) σ L:=by
 refine uD _ rfl f i (λw k=>?_) (H (if N=l then 0 else l*s) (λh=>by rw[ai Zo]) (λh=>by rw[aj h.symm]));have j:=yD (P:=P) (t:=t) w;simp only[execOp,c,d,aW,cO,Instr.sliceAt,Instr.slice,aB,aL a.ul,au,LC hl,j,aH];split;·rfl
 ·simp[cz]
theorem Ip{t t':Nat}{e s b:Nat}[p:nV P t e s b][f:m6 enc s]{x y:Operand}{g o dl dc:Nat}{B:Option Addr}{d te:Nat}{news:List α}{cs:List Value}{L':List kM}(i:ev σ x=.slice (some ⟨g,o,none⟩) dl dc) (A:ev σ y=.slice B news.length d) (r:oq W L (Rd B s enc news)) (C:news.length<=dl) (D:o+news.length*s<=cs.length)(hp:oe L (k4 g te cs) (k4 g te (qC cs o (news.flatMap enc))) L')(E:q.pb=true) (F:q.nP L->q.nP L') (G:lP Z σ ⟨dst,.call {callee:=.builtin .copy,args:=#[x,y],argTypes:=#[t,t']},ty,pos,lf,gd⟩=true) (H:l8 n dst=true)
 (h:SL P n W q Z Q rest (l6 σ dst (.int .i64 (news.length:Int))) L'):
 SL P n W q Z Q (⟨dst,.call {callee:=.builtin .copy,args:=#[x,y],argTypes:=#[t,t']},ty,pos,lf,gd⟩::rest) σ L:=by
 refine tc E Zb G H λw c=>⟨_,_,L',?_,c.setRow hp,λI=>(by cases I),.inr F,h⟩;have lL:=tF f.len news;have J:=yD (P:=P) (t:=t) w;have K:=AU c hp.mem;have M:Nat.min news.length dl=news.length:=ci C;have N:∀u∈news.flatMap enc,u.oneCell'=true:=λu k=>by obtain⟨x,_,i⟩:=cW.1 k;exact f.one x u i
 have v:=db P g o te (news.flatMap enc) 0 cs.toArray w K (by rw[lL];simpa using D) N;have O:(Builtin.firstCells s news.length (.slice B news.length d)).run P w=.ok (news.flatMap enc).toArray w:=by
  cases B with
  |none=>
   have R:news=[]:=by(rcases ir (news=[]) with l|l;·exact l);·obtain⟨_,_,m,_⟩:=r w c l;cases m
   subst R;simp[Builtin.firstCells]
  |some a=>refine run_firstCells_some (P:=P) w s news.length a news.length d (news.flatMap enc) lL λj u k=>?_;obtain⟨x,z,S⟩:=FU f.len p.pos k;obtain⟨b0,off,m,T⟩:=r w c (by rintro rfl;simp at z);cases m;have:=T _ _ x u z S;rw[show j/s*s+j%s=j from by rw[fp];exact ip j s] at this;rw[cz];exact this
 have V:(cs.toArray.toList.take (o+0)++news.flatMap enc++cs.toArray.toList.drop (o+0+(news.flatMap enc).length)).toArray=(qC cs o (news.flatMap enc)).toArray:=by simp[qC]
 rw[V] at v;simp only[execOp,resolve,bY,bk,cu,i,A,aB,aH,au,invoke,builtin,Builtin.copy_,cY,dW,fC,aL p.ul,Builtin.lenOf,M,J,O,v,goInt]
end
class Ew(P:Program)(t:Nat){α:Type}[DecidableEq α](enc:α->List Value):Prop where
 guard:∀op X Y x y w,(eqGuard op t X Y (.agg (enc x).toArray) (.agg (enc y).toArray)).run P w=.ok () w
 eql:∀x y w,(binOp .eql t (.agg (enc x).toArray) (.agg (enc y).toArray)).run P w=.ok (.bool (decide (x=y))) w
 neq:∀x y w,(binOp .neq t (.agg (enc x).toArray) (.agg (enc y).toArray)).run P w=.ok (.bool (!decide (x=y))) w
section
variable{P:Program}{n:Sz}{W:World}{q:Md}{Q:Exit->St->List kM->Prop}{σ:St}{L:List kM}{Z:Array Oper}{rest:List Oper}
 {dst:Option Nat} {ty:TypeId} {pos:String} {lf:Array Edge} {gd:Option (Nat×Bool)} {α:Type} [DecidableEq α] {enc:α->List Value}
theorem Ex{x y:Operand}{t t2:Nat}[c:Ew P t enc](a b:α)(d:ev σ x=.agg (enc a).toArray)(e:ev σ y=.agg (enc b).toArray)(f:lP Z σ ⟨dst,.binOp .eql t x y t2,ty,pos,lf,gd⟩=true) (g:l8 n dst=true)(h:SL P n W q Z Q rest (l6 σ dst (.bool (decide (a=b)))) L):SL P n W q Z Q (⟨dst,.binOp .eql t x y t2,ty,pos,lf,gd⟩::rest) σ L:=by refine oF _ Zb f g (λw=>?_) h;simp only[execOp,d,e,aB,c.guard,au,c.eql,aH]
theorem Sg{x y:Operand}{t t2:Nat}[c:Ew P t enc](a b:α)(d:ev σ x=.agg (enc a).toArray)(e:ev σ y=.agg (enc b).toArray)(f:lP Z σ ⟨dst,.binOp .neq t x y t2,ty,pos,lf,gd⟩=true) (g:l8 n dst=true)(h:SL P n W q Z Q rest (l6 σ dst (.bool (!decide (a=b)))) L):SL P n W q Z Q (⟨dst,.binOp .neq t x y t2,ty,pos,lf,gd⟩::rest) σ L:=by refine oF _ Zb f g (λw=>?_) h;simp only[execOp,d,e,aB,c.guard,au,c.neq,aH]
end
section
variable{P:Program}{W:World}{σ:St}{L:List kM}
theorem Sh{n:Sz}{a:Act}{w:World}(c:n9 n σ a)(d:Mem W w L){s:Nat}{g t' t k:Nat}{cs:List Value}[oD P t k](e:σ s=.pointer (some ⟨g,0,none⟩))(f:k4 g t' cs∈L)(h:cs.length=k):a.tmps[s]?.getD undef=.pointer (some ⟨g,0,none⟩)/\(loadVar t ⟨g,0,none⟩).run P w=.ok (.agg cs.toArray) w:=by have i:w.heap[g]? =some (.cells cs.toArray t' (0,0)):=(d.ok _ f).holds;have l:=CR (P:=P) (w:=w) (t:=t) (a:=⟨g,0,none⟩) (cs:=cs) h (λj v m=>by rw[cz,dS w g _ cs.toArray t' (0,0) i];simpa using m);have b:=c.get s;simp only[gk] at b;exact⟨b.trans e,l⟩
end
section
variable{P:Program}{n:Sz}{W:World}{q:Md}{Q:Exit->St->List kM->Prop}{σ:St}{L:List kM}{Z:Array Oper}{rest:List Oper}{c:Code}
 {dst:Option Nat} {ty:TypeId} {pos:String} {lf:Array Edge} {gd:Option (Nat×Bool)} {t t2:TypeId} {x y:Operand} {ol:List Oper}
theorem Si(h:SL P n W q Z Q ol σ L):SL P n W q Z Q ol σ L:=h
theorem LG(h:SC P n W c Q σ L):SC P n W c Q σ L:=h
theorem Sj{op:BinOp}(h:SL P n W q Z Q (⟨dst,.binOp op t x y t2,ty,pos,lf,gd⟩::rest) σ L):SL P n W q Z Q (⟨dst,.binOp op t x y t2,ty,pos,lf,gd⟩::rest) σ L:=h
theorem Sk(h:SL P n W q Z Q (⟨dst,.load t x,ty,pos,lf,gd⟩::rest) σ L):SL P n W q Z Q (⟨dst,.load t x,ty,pos,lf,gd⟩::rest) σ L:=h
theorem Sm(h:SL P n W q Z Q (⟨dst,.store t x y,ty,pos,lf,gd⟩::rest) σ L):SL P n W q Z Q (⟨dst,.store t x y,ty,pos,lf,gd⟩::rest) σ L:=h
theorem Sn{f:Nat}(h:SL P n W q Z Q (⟨dst,.fieldAddr t x f,ty,pos,lf,gd⟩::rest) σ L):SL P n W q Z Q (⟨dst,.fieldAddr t x f,ty,pos,lf,gd⟩::rest) σ L:=h
theorem So(h:SL P n W q Z Q (⟨dst,.call {callee:=.builtin .len,args:=#[x],argTypes:=#[t]},ty,pos,lf,gd⟩::rest) σ L):SL P n W q Z Q (⟨dst,.call {callee:=.builtin .len,args:=#[x],argTypes:=#[t]},ty,pos,lf,gd⟩::rest) σ L:=h
theorem Sq(h:SL P n W q Z Q (⟨dst,.box t x,ty,pos,lf,gd⟩::rest) σ L):SL P n W q Z Q (⟨dst,.box t x,ty,pos,lf,gd⟩::rest) σ L:=h
theorem Sr(h:SL P n W q Z Q (⟨dst,.alloc t,ty,pos,lf,gd⟩::rest) σ L):SL P n W q Z Q (⟨dst,.alloc t,ty,pos,lf,gd⟩::rest) σ L:=h
end
theorem m3.out{P:Program}{W:World}{f:FuncId}{args:Array Value}{L:List kM}{R:Value->List kM->Prop}(h:m3 P W f args L R):∀w,Mem W w L->Calls P f args w (λe w'=>∃v L',e=.returned v/\Mem W w' L'/\R v L'):=h.2
theorem m3.BO{P:Program}{W:World}{f:FuncId}{args:Array Value}{L:List kM}{R:Value->List kM->Prop}(h:m3 P W f args L R):∀args w,(callFunc f args).run P w=.ok (.enter f args) w:=h.1
theorem m3.of{P:Program}{W:World}{f:FuncId}{args:Array Value}{L:List kM}{R:Value->List kM->Prop}(a:∀args w,(callFunc f args).run P w=.ok (.enter f args) w)(h:∀w,Mem W w L->Calls P f args w (λe w'=>∃v L',e=.returned v/\Mem W w' L'/\R v L')):m3 P W f args L R:=⟨a,h⟩
attribute [irreducible] pM k4 pu li SC SL m3
def ml(σ:St):List (Nat×Value)->Prop
 |[]=>True
 |(d,v)::r=>σ d=v/\ml σ r
def CU(σ:St):List (Nat×Value)->St
 |[]=>σ
 |(d,v)::r=>tD (CU σ r) d v
theorem LH{σ:St}:∀{l:List (Nat×Value)},ml σ l->σ=CU σ l
 |[],_=>rfl
 |(d,v)::r,h=>by
  have a:=LH h.2;funext i;simp only[CU,tD];cases b:Nat.beq i d with
  |true=>have:i=d:=ik b;subst this;exact h.1
  |false=>exact congrFun a i
theorem ml.open{σ:St}{l:List (Nat×Value)}(h:ml σ l):∃a,σ=CU a l:=⟨σ,LH h⟩
section
variable{α:Type}{a:α}{b0 b1 b2 b3 b4 b5 b6 b7:α}{l:List α}
theorem m0:a∈a::l:=ay ..
theorem m1(h:a∈l):a∈b0::l:=aI _ h
theorem Zn{p:Prop}(h:p:=by(repeat first|exact m0|refine m1 ?_)):p:=h
theorem s0(l:List α):[].Sublist l:=bu l
theorem s1(l:List α):l.Sublist l:=List.Sublist.refl l
theorem s2{l':List α}(a:α)(h:l.Sublist l'):(a::l).Sublist (a::l'):=h.cons_cons a
theorem s3{l':List α}(a:α)(h:l.Sublist l'):l.Sublist (a::l'):=h.cons a
theorem Zu{p:Prop}(h:p:=by(repeat first|exact s0 _|exact s1 _|refine s2 _ ?_|refine s3 _ ?_)):p:=h
end
theorem p0{e e':kM}{L:List kM}:oe (e::L) e e' (e'::L):=oe.oL
theorem p1{x e e':kM}{L L':List kM}(h:oe L e e' L'):oe (x::L) e e' (x::L'):=oe.R5 h
theorem n0{a b:Nat}(h:Nat.ble a b=true):a<=b:=dv h
end
end Go.Proofs.YtkbifmngmocjnaaGreatDoor
