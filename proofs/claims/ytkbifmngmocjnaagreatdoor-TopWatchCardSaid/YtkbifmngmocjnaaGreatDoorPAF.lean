/- Proved here, packed: what the parts Iface Bld Give Full Rnds prove (rules of the walk, contracts of functions, plain laws). Conditions: in each statement. -/
import Derived.Test.YtkbifmngmocjnaaGreatDoorPAD
namespace Go.Proofs.YtkbifmngmocjnaaGreatDoor
set_option maxRecDepth 100000
set_option maxHeartbeats 8000000
set_option linter.all false
section
open Go.RowKit
class x5(P:Program)(t:Nat)(name:String)(f:outParam Nat):Prop where
 q9:∃i m d,P.info? t=some i/\i.methods.find? (·.name==name)=some m/\m.path=#[]/\m.func=some (f,false)/\P.underlying t=some d/\(match d with|.pointer _=>false|_=>true)=true
theorem Te{P:Program}{t:Nat}{name:String}{f:Nat}[a:x5 P t name f](k:Nat)(v:Value)(w:World):(method (k+1) t v name).run P w=.ok (f,v) w:=by
 obtain⟨i,m,d,b,c,e,g,h,j⟩:=a.q9;unfold method;have l:(typeInfo t).run P w=.ok i w:=by simp[typeInfo,b]
 simp only[aB,l,au,c,e,g,follow,aH];unfold receiverAt;simp only[aB,aL h,au];cases d<;>first|(cases j;done)|simp[Place.get]
section
variable{P:Program}{n:Sz}{W:World}{q:Md}{Q:Exit->St->List kM->Prop}{σ:St}{L:List kM}{Z:Array Oper}{rest:List Oper}
 {dst:Option Nat} {ty:TypeId} {pos:String} {lf:Array Edge} {gd:Option (Nat×Bool)}
theorem Tf{recv:Operand}{name:String}{l:List Operand}{a:Array TypeId}{t f:Nat}[d:x5 P t name f]{v:Value}(b:ev σ recv=.iface t v)(sk:∀args w,(callFunc f args).run P w=.ok (.enter f args) w) (w:World):(execOp (ev σ) ⟨dst,.call {callee:=.invoke recv name,args:=l.toArray,argTypes:=a},ty,pos,lf,gd⟩).run P w=.ok (.enter f (v::l.map (ev σ)).toArray) w:=by have c:=Te (P:=P) (t:=t) (name:=name) (f:=f) (P.types.size+99) v w;simp only[execOp,resolve,b,aB,aH,au,invoke];simp[callMethod,Made.depth];rw[show P.types.size+100=P.types.size+99+1 from rfl,c];simp only[au,sk];rw[aY Zs]
theorem Tg{recv:Operand}{name:String}{l:List Operand}{c:Array TypeId}{t f:Nat}[q:x5 P t name f]{v:Value}{R:Value->List kM->Prop}(d:m3 P W f (v::l.map (ev σ)).toArray L R)(h:∀v' L',R v' L'->SL P n W .plain Z Q rest (l6 σ dst v') L')(i:ev σ recv=.iface t v:=by rfl) (j:lP Z σ ⟨dst,.call {callee:=.invoke recv name,args:=l.toArray,argTypes:=c},ty,pos,lf,gd⟩=true:=by rfl) (k:l8 n dst=true:=by rfl):SL P n W .plain Z Q (⟨dst,.call {callee:=.invoke recv name,args:=l.toArray,argTypes:=c},ty,pos,lf,gd⟩::rest) σ L:=
by unfold SL;intro a w b m;unfold wpList;rw[b.wanted,j,aj rfl];refine .inl ?_;unfold Oper.wp;rw[b.eval,Tf i d.BO];refine(d.out w m).mono ?_;rintro e w' ⟨v,L',rfl,o,p⟩;have g:=h v L' p;unfold SL at g;exact g _ _ (b.sW k v) o
theorem EM{recv:Operand}{name:String}{l:List Operand}{a:Array TypeId}{t f:Nat}[j:x5 P t name f]{v r:Value}(b:m3 P W f (v::l.map (ev σ)).toArray L (λv' L'=>v'=r/\L'=L))(h:SL P n W .plain Z Q rest (l6 σ dst r) L)(c:ev σ recv=.iface t v:=by rfl) (d:lP Z σ ⟨dst,.call {callee:=.invoke recv name,args:=l.toArray,argTypes:=a},ty,pos,lf,gd⟩=true:=by rfl) (e:l8 n dst=true:=by rfl):
 SL P n W .plain Z Q (⟨dst,.call {callee:=.invoke recv name,args:=l.toArray,argTypes:=a},ty,pos,lf,gd⟩::rest) σ L:=
 Tg b (λv' L' ⟨g,i⟩=>by subst g;subst i;exact h) c d e
theorem II{x:Operand}{a t s:Nat}[b:oD P t s]{v:Value}(c:ev σ x=.iface t v)(e:lP Z σ ⟨dst,.typeAssert x a t true,ty,pos,lf,gd⟩=true) (f:l8 n dst=true)(h:SL P n W q Z Q rest (l6 σ dst (.tuple #[v,.bool true])) L):SL P n W q Z Q (⟨dst,.typeAssert x a t true,ty,pos,lf,gd⟩::rest) σ L:=by refine oF _ Zb e f (λw=>?_) h;obtain⟨d,g,i⟩:=b.q9;simp only[execOp,c,Instr.typeAssert,aB,aL g,au];cases d<;>first|(cases i;done)|simp
theorem EN{x:Operand}{a t t2 s:Nat}[b:oD P t s]{z:Value}{v:Value}(c:ev σ x=.iface t2 v)(e:t2≠t)(f:∀w,(zeroValue t).run P w=.ok z w)(g:lP Z σ ⟨dst,.typeAssert x a t true,ty,pos,lf,gd⟩=true) (i:l8 n dst=true)(h:SL P n W q Z Q rest (l6 σ dst (.tuple #[z,.bool false])) L):SL P n W q Z Q (⟨dst,.typeAssert x a t true,ty,pos,lf,gd⟩::rest) σ L:=by obtain⟨d,j,k⟩:=b.q9;refine oF (.tuple #[z,.bool false]) Zb g i (λw=>?_) h;simp only[execOp,c,Instr.typeAssert,aB,aL j,au];cases d<;>first|(cases k;done)|simp[e,f]
theorem Th{x:Operand}{a t s:Nat}[b:oD P t s]{z:Value}(c:ev σ x=.nilIface)(e:∀w,(zeroValue t).run P w=.ok z w)(f:lP Z σ ⟨dst,.typeAssert x a t true,ty,pos,lf,gd⟩=true) (g:l8 n dst=true)(h:SL P n W q Z Q rest (l6 σ dst (.tuple #[z,.bool false])) L):SL P n W q Z Q (⟨dst,.typeAssert x a t true,ty,pos,lf,gd⟩::rest) σ L:=by obtain⟨d,i,j⟩:=b.q9;refine oF (.tuple #[z,.bool false]) Zb f g (λw=>?_) h;simp only[execOp,c,Instr.typeAssert,aB,aL i,au];cases d<;>first|(cases j;done)|simp[e]
theorem sD{x:Operand}{t s:Nat}[a:oD P t s]{v:Value}(b:ev σ x=v)(c:lP Z σ ⟨dst,.makeInterface t x,ty,pos,lf,gd⟩=true) (e:l8 n dst=true)(h:SL P n W q Z Q rest (l6 σ dst (.iface t v)) L):SL P n W q Z Q (⟨dst,.makeInterface t x,ty,pos,lf,gd⟩::rest) σ L:=by refine oF (.iface t v) Zb c e (λw=>?_) h;obtain⟨d,f,g⟩:=a.q9;simp only[execOp,b,Instr.makeInterface,aB,aL f,au];cases d<;>first|(cases g;done)|simp
class IJ(P:Program)(t:Nat):Prop where
 q9:∃a,P.underlying t=some (.interface a)
theorem Gd{x:Operand}{a t2 t:Nat}[b:IJ P a]{v:Value}(c:ev σ x=.iface t v)(d:lP Z σ ⟨dst,.binOp .neq a x (.const .nilIface) t2,ty,pos,lf,gd⟩=true) (e:l8 n dst=true)(h:SL P n W q Z Q rest (l6 σ dst (.bool true)) L):SL P n W q Z Q (⟨dst,.binOp .neq a x (.const .nilIface) t2,ty,pos,lf,gd⟩::rest) σ L:=by
 refine oF _ Zb d e (λw=>?_) h;obtain⟨k,f⟩:=b.q9;have g:eqGuard .neq a x (.const .nilIface) (.iface t v) .nilIface=pure ():=rfl;have i:binOp .neq a (.iface t v) .nilIface=(do pure (.bool (!(<-Op.equal a (.iface t v) .nilIface))):Sem Value):=rfl;have j:(Op.equal a (.iface t v) .nilIface).run P w=.ok false w:=by unfold Op.equal;rw[show Op.maxDepth=(Op.maxDepth-1)+1 from rfl,Op.equalIn];simp only[aB,aL f,au,aH]
 simp only[execOp,c,show ev σ (.const .nilIface)=Value.nilIface from rfl,g,i,aB,aH,au,j];rfl
theorem Ti{x:Operand}{a t2:Nat}[b:IJ P a](c:ev σ x=.nilIface)(d:lP Z σ ⟨dst,.binOp .neq a x (.const .nilIface) t2,ty,pos,lf,gd⟩=true) (e:l8 n dst=true)(h:SL P n W q Z Q rest (l6 σ dst (.bool false)) L):SL P n W q Z Q (⟨dst,.binOp .neq a x (.const .nilIface) t2,ty,pos,lf,gd⟩::rest) σ L:=by
 refine oF _ Zb d e (λw=>?_) h;obtain⟨k,f⟩:=b.q9;have g:eqGuard .neq a x (.const .nilIface) .nilIface .nilIface=pure ():=by cases x<;>rfl
 have i:binOp .neq a .nilIface .nilIface=(do pure (.bool (!(<-Op.equal a .nilIface .nilIface))):Sem Value):=rfl;have j:(Op.equal a .nilIface .nilIface).run P w=.ok true w:=by unfold Op.equal;rw[show Op.maxDepth=(Op.maxDepth-1)+1 from rfl,Op.equalIn];simp only[aB,aL f,au,aH]
 simp only[execOp,c,show ev σ (.const .nilIface)=Value.nilIface from rfl,g,i,aB,aH,au,j];rfl
end
section
variable{P:Program}{n:Sz}{W:World}{q:Md}{Q:Exit->St->List kM->Prop}{σ:St}{L:List kM}{Z:Array Oper}{rest:List Oper}
 {dst:Option Nat} {ty:TypeId} {pos:String} {lf:Array Edge} {gd:Option (Nat×Bool)}
class Ge(P:Program)(e:Nat):Prop where
 sj:∃i,P.info? e=some i/\i.zero=some (.int .u8 0)/\i.size=1/\i.bytes=1
 cells:P.cellsOf e=1
theorem yK{α:Type}{e s c k:Nat}{enc:α->List Value}{A:Option Addr}{l:List α}:(li e s enc A c l).S k↔0<c/\∃a,A=some a/\a.block=k:=by unfold li;exact gU
theorem IK{α:Type}{e s c:Nat}{enc:α->List Value}{A:Option Addr}{l:List α}{w:World}(h:Own e s enc A c l w):(li e s enc A c l).p w:=by unfold li;exact h
theorem Mm{t u:Nat}{e s b:Nat}[G:nV P t e s b][H:xj P u][hB:Ge P e]{x y:Operand}{A:Option Addr}{c:Nat}{l news:kV}{L':Option Addr->Nat->List kM}(hx:ev σ x=.slice A l.length c) (hy:ev σ y=sv news) (q:(A=none/\c=0)\/0<c)(hp:∀f d,oe L (li e 1 mI A c l) (li e 1 mI f d (l++news)) (L' f d))(hb:l.length+news.length<=140737488355328)(hg:lP Z σ ⟨dst,.call {callee:=.builtin .append,args:=#[x,y],argTypes:=#[t,u]},ty,pos,lf,gd⟩=true) (hd:l8 n dst=true)
 (h:∀f d,((f=none/\d=0)\/0<d)->SL P n W .plain Z Q rest (l6 σ dst (.slice f (l++news).length d)) (L' f d)):
 SL P n W .plain Z Q (⟨dst,.call {callee:=.builtin .append,args:=#[x,y],argTypes:=#[t,u]},ty,pos,lf,gd⟩::rest) σ L:=by
 refine uC hg hd λw R=>?_;obtain⟨I,J,T,K,V⟩:=hB.sj;have M:=uE (R.ok _ (hp A c).mem).holds;have D:w.ownsRow 0 e 1 (.slice A l.length c) l.length (l.flatMap mI):=by
  rcases M with⟨X,N⟩|⟨g,cur,X,rfl,C,r,v,B,E⟩
  ·rcases q with⟨rfl,_⟩|q;·subst X;subst N;exact ja w 0 e 1
   ·omega
  ·exact⟨tF (enc:=mI) (λ_=>rfl) l,.inr ⟨g,c,cur,rfl,aR _,C,r,v,B,E⟩⟩
 have F:(ByteArray.mk news.toArray).size=news.length:=by simp[ByteArray.size]
 have kG:∀l:kV,Lib.strCells ⟨l.toArray⟩=l.flatMap mI:=by
  intro l;simp only[Lib.strCells];induction l with
  |nil=>rfl
  |cons a l ih=>simp only[bk,bj,ih];rfl
 have Y:l.length+(ByteArray.mk news.toArray).size<=maxLen:=by rw[F];unfold maxLen;omega
 have key:∃v' w',(Builtin.append_ #[t,u] ty #[.slice A l.length c,.string ⟨news.toArray⟩]).run P w=.ok v' w'/\w'.ownsRow 0 e 1 v' (l.length+news.length) (l.flatMap mI++news.flatMap mI)/\w.grownBy w' (Value.slice A l.length c).ownBlock/\
  (∀k,v'.ownBlock=some k->(li e 1 mI A c l).S k\/w.heap.size<=k)/\(∀f n' d,v'=.slice f n' d->(f=none/\d=0)\/0<d):=by
  have own:∀mR,mR<=w.heap.size->w.ownsRow mR e 1 (.slice A l.length c) l.length (l.flatMap mI)->∃v' w',(Builtin.append_ #[t,u] ty #[.slice A l.length c,.string ⟨news.toArray⟩]).run P w=.ok v' w'/\w'.ownsRow mR e 1 v' (l.length+news.length) (l.flatMap mI++news.flatMap mI)/\w.grownBy w' (Value.slice A l.length c).ownBlock/\(v'=.slice none 0 0↔Value.slice A l.length c=.slice none 0 0/\(ByteArray.mk news.toArray).size=0):=by intro mR kH D;obtain⟨v',w',j,m,o,z⟩:=Lib.run_append_own_string (P:=P) w mR t u ty e I G.ul H.ul J T K V _ _ _ D ⟨news.toArray⟩ Y (by rw[F];exact hb) kH;rw[F,kG] at m;exact⟨v',w',j,m,o,z⟩
  rcases q with⟨rfl,rfl⟩|q
  ·have N:l=[]:=by(rcases M with⟨_,p⟩|⟨g,cur,p,_⟩;·exact p);·omega
   subst N;obtain⟨v',w',j,m,o,kI⟩:=own w.heap.size (aA _) (ja w _ e 1);refine⟨v',w',j,⟨m.1,?_⟩,o,?_,?_⟩;·(rcases m.2 with h|⟨g,cap,cur,z,r,v⟩;·exact .inl h);·exact .inr ⟨g,cap,cur,z,aR _,v⟩
   ·intro k i;rcases m.2 with⟨h,_⟩|⟨g,cap,cur,z,r,v⟩
    ·subst h;cases i
    ·subst z;cases i;exact .inr r
   ·rintro f n' d rfl;rcases m.2 with⟨h,_⟩|⟨g,cap,cur,z,r,_,B,_⟩;·cases h;exact .inl ⟨rfl,rfl⟩
    ·cases z;refine .inr (Nat.pos_of_ne_zero λp=>?_);have:news.length=0:=by simp at B;omega
     have:=kI.2 ⟨rfl,by rw[F];exact this⟩;cases this
  ·rcases M with⟨p,_⟩|⟨g,cur,_,rfl,C,r,v,B,E⟩;·omega
   obtain⟨v',w',j,m,o,-⟩:=own 0 (aR _) D;refine⟨v',w',j,m,o,?_⟩;by_cases kJ:l.length+(ByteArray.mk news.toArray).size<=c;·have O:=Lib.run_append_room_string (P:=P) w t u ty e I G.ul H.ul J K g l.length c cur C ⟨news.toArray⟩ kJ Zo;rw[O] at j;cases j;exact⟨λk i=>by cases i;exact .inl (yK.2 ⟨q,_,rfl,rfl⟩),λ_ _ _ h=>by cases h;exact .inr q⟩
   ·have O:=Lib.run_append_grow_string (P:=P) w t u ty e I (.int .u8 0) G.ul H.ul J T ⟨g,0,none⟩ l.length c (l.flatMap mI) (by rw[K];exact tF (enc:=mI) (λ_=>rfl) l) (D.cells (g:=g) rfl) ⟨news.toArray⟩ Zo (by unfold maxLen at Y;omega)
     (by rw[V];exact iJ Zo Zo)
    rw[O] at j;cases j;exact⟨λk i=>by cases i;exact .inr (aA _),λ_ _ _ h=>by cases h;have:=iN w (l.length+(ByteArray.mk news.toArray).size) c e;exact .inr Zo⟩
 obtain⟨v',w',j,m,o,kL,kO⟩:=key;obtain⟨f,d,kQ,hO,kT⟩:∃f d,v'=.slice f (l++news).length d/\Own e 1 mI f d (l++news) w'/\((f=none/\d=0)\/0<d):=by
  rcases m.2 with⟨rfl,p⟩|⟨g,cap,cur,rfl,_,C,r,v,B,E⟩;·exact⟨none,0,by rw[ak,p],.inl ⟨rfl,bN (by rw[ak,p])⟩,.inl ⟨rfl,rfl⟩⟩
  ·rcases cM cap with p|p;·(rcases kO _ _ _ rfl with⟨h,_⟩|h;·cases h);·omega
   ·exact⟨some ⟨g,0,none⟩,cap,by rw[ak],.inr ⟨g,cur,p,rfl,C,by rw[ak];exact r,v,B,by rw[ak,bD];exact E⟩,.inr p⟩
 subst kQ;refine⟨_,w',L' f d,?_,?_,h f d kT⟩;·simp only[execOp,resolve,bY,bk,cu,hx,hy,sv,aB,aH,au,invoke,builtin,j]
 ·have kF:∀k,(li e 1 mI f d (l++news)).S k->(Value.slice f (l++news).length d).ownBlock=some k:=by intro k i;obtain⟨_,a,rfl,rfl⟩:=yK.1 i;rfl
  refine R.put (hp f d) o.os o.tape o.output o.size (λk i kX=>o.block k i (λe=>kX ?_)) ⟨λk i=>(m.lt k (kF k i)).2,IK hO⟩ (λk i=>kL k (kF k i)) (Lq _ _ _ _ j);rcases q with⟨rfl,rfl⟩|q
  ·cases e
  ·cases A with
   |none=>cases e
   |some a=>cases e;exact yK.2 ⟨q,_,rfl,rfl⟩
theorem Mn{x:Operand}{a t2 e:Nat}{p:Option Addr}(b:P.underlying a=some (.pointer e))(c:ev σ x=.pointer p)(d:lP Z σ ⟨dst,.binOp .eql a x (.const (.pointer none)) t2,ty,pos,lf,gd⟩=true) (f:l8 n dst=true)(h:SL P n W q Z Q rest (l6 σ dst (.bool p.isNone)) L):SL P n W q Z Q (⟨dst,.binOp .eql a x (.const (.pointer none)) t2,ty,pos,lf,gd⟩::rest) σ L:=by
 refine oF _ Zb d f (λw=>?_) h;have g:eqGuard .eql a x (.const (.pointer none)) (.pointer p) (.pointer none)=pure ():=rfl;have i:binOp .eql a (.pointer p) (.pointer none)=(do pure (.bool (<-Op.equal a (.pointer p) (.pointer none))):Sem Value):=rfl;have j:(Op.equal a (.pointer p) (.pointer none)).run P w=.ok p.isNone w:=by unfold Op.equal;rw[show Op.maxDepth=(Op.maxDepth-1)+1 from rfl,Op.equalIn];simp only[aB,aL b,au];cases p<;>rfl
 simp only[execOp,c,show ev σ (.const (.pointer none))=Value.pointer none from rfl,g,i,aB,aH,au,j]
theorem Tj{x y:Operand}{a t2 e:Nat}{p:Addr}{j:TypeInfo}(b:P.underlying a=some (.pointer e))(c:P.info? e=some j)(d:ev σ x=.pointer (some p))(f:ev σ y=.pointer (some p))(g:lP Z σ ⟨dst,.binOp .neq a x y t2,ty,pos,lf,gd⟩=true) (i:l8 n dst=true)(h:SL P n W q Z Q rest (l6 σ dst (.bool false)) L):SL P n W q Z Q (⟨dst,.binOp .neq a x y t2,ty,pos,lf,gd⟩::rest) σ L:=by refine oF _ Zb g i (λw=>?_) h;have k:eqGuard .neq a x y (.pointer (some p)) (.pointer (some p))=pure ():=rfl;simp only[execOp,d,f,k,aB,aH,au,Lib.run_neq_ptr_same (P:=P) w p b c]
theorem Mo{w:World}{g t:Nat}{cs:List Value}(a:Mem W w L)(b:k4 g t cs∈L):w.shape? g=some (t,cs.length):=by have:=AU a b;simp[World.shape?,this]
theorem Tk{x:Operand}{src a t e:Nat}{g:Nat}{cs:List Value}{j:TypeInfo}(c:P.underlying src=some (.pointer t))(d:P.underlying a=some .unsafePointer)(f:P.info? t=some j)(i:j.size≠0)(k:ev σ x=.pointer (some ⟨g,0,none⟩)) (l:k4 g e cs∈L) (m:0<cs.length)(o:lP Z σ ⟨dst,.convert src a x,ty,pos,lf,gd⟩=true) (p:l8 n dst=true)(h:SL P n W .plain Z Q rest (l6 σ dst (.pointer (some ⟨g,0,none⟩))) L):SL P n W .plain Z Q (⟨dst,.convert src a x,ty,pos,lf,gd⟩::rest) σ L:=by refine uC o p λw b=>⟨_,w,L,?_,b,h⟩;have:=Lib.run_to_unsafe (P:=P) w (src:=src) (dst:=a) ⟨g,0,none⟩ c d f i (Mo b l) m;simp only[execOp,k,aB,this,au,aH]
theorem Tl{x:Operand}{src a u e:Nat}{g:Nat}{cs:List Value}{j:TypeInfo}(c:P.underlying src=some .unsafePointer)(d:P.underlying a=some (.pointer u))(f:P.info? u=some j)(i:ev σ x=.pointer (some ⟨g,0,none⟩)) (k:k4 g e cs∈L) (hl:liesAt P P.depth e (cs.length/P.cellsOf e) 0 u 1=true)(l:lP Z σ ⟨dst,.convert src a x,ty,pos,lf,gd⟩=true) (m:l8 n dst=true)(h:SL P n W .plain Z Q rest (l6 σ dst (.pointer (some ⟨g,0,none⟩))) L):SL P n W .plain Z Q (⟨dst,.convert src a x,ty,pos,lf,gd⟩::rest) σ L:=by refine uC l m λw b=>⟨_,w,L,?_,b,h⟩;have:=Lib.run_from_unsafe (P:=P) w (src:=src) (dst:=a) (u:=u) ⟨g,0,none⟩ c d f (Mo b k) hl;simp only[execOp,i,aB,this,au,aH]
theorem Mp{x:Operand}{b:Array TypeId}{A:Option Addr}{k c:Nat}(e:ev σ x=.slice A k c)(d:(A=none/\c=0)\/0<c)(f:q.pb=true) (g:lP Z σ ⟨dst,.call {callee:=.builtin .unsafeSliceData,args:=#[x],argTypes:=b},ty,pos,lf,gd⟩=true) (i:l8 n dst=true)
 (h:SL P n W q Z Q rest (l6 σ dst (.pointer A)) L):SL P n W q Z Q (⟨dst,.call {callee:=.builtin .unsafeSliceData,args:=#[x],argTypes:=b},ty,pos,lf,gd⟩::rest) σ L:=by
 refine tc f Zb g i λw j=>⟨.pointer A,w,L,?_,j,λ_=>Sub.refl,.inr id,h⟩;have:(Builtin.unsafeSliceData_ b ty #[.slice A k c]).run P w=.ok (.pointer A) w:=by
  rcases d with⟨rfl,rfl⟩|d;·rfl
  ·cases A with
   |none=>rfl
   |some a=>exact Lib.run_unsafeSliceData_row _ _ _ _ _ _ Zo
 simp only[execOp,resolve,bY,bk,cu,e,aB,aH,au,invoke,builtin,this]
theorem Tm{x y:Operand}{a d e c:Nat}[s:Ge P e]{A:Option Addr}{l:kV}{L0:List kM}(t:P.underlying a=some (.pointer e))(f:ev σ x=.pointer A)(u:ev σ y=.int .i64 (l.length:Int))(v:ti L (li e 1 mI A c l) L0) (z:q.pb=true) (B:q.nP L->q.nP L0)(C:lP Z σ ⟨dst,.call {callee:=.builtin .unsafeString,args:=#[x,y],argTypes:=#[a,d]},ty,pos,lf,gd⟩=true) (D:l8 n dst=true)
 (h:SL P n W q Z Q rest (l6 σ dst (sv l)) L0):SL P n W q Z Q (⟨dst,.call {callee:=.builtin .unsafeString,args:=#[x,y],argTypes:=#[a,d]},ty,pos,lf,gd⟩::rest) σ L:=by
 have key:∀w,Mem W w L->∃w',(Builtin.unsafeString_ #[a,d] ty #[.pointer A,.int .i64 (l.length:Int)]).run P w=.ok (sv l) w'/\Mem W w' L0:=by
  intro w i;have m:=i.ny v.ny;have E:=uE (m.ok _ (ay ..)).holds;by_cases hl:l=[];·subst hl;refine⟨w,?_,m.tail⟩;have:=jh (P:=P) w a d ty A;exact this
  ·rcases E with⟨_,F⟩|⟨g,cur,G,rfl,p,S,H,I,J⟩;·exact absurd F hl
   ·refine⟨w.freeze ⟨g,0,none⟩ l.length,?_,?_⟩;·(refine jp (P:=P) w a d ty e t s.cells g cur.size (by simp[World.shape?,p]) l hl (by rw[I];omega) (by unfold maxLen at H;omega) ?_;intro j b r;rw[cz,cV,dS w g j cur e (0,0) p];have o:(l.flatMap mI)[j]? =some (.int .u8 (b.toNat:Int)):=by have:=BM (enc:=mI) (size:=1) (λ_=>rfl) l j 0 b (.int .u8 (b.toNat:Int)) r rfl;simpa using this);rw[<-J] at o;have T:j<l.length:=(ax.1 r).1;rw[cx Zo] at o;simpa using o
    ·have:=m.change (w':=w.freeze ⟨g,0,none⟩ l.length) (oC:=by unfold World.freeze;split<;>exact aA _) (es:=[]) (by unfold World.freeze;split<;>rfl) (by unfold World.freeze;split<;>rfl) (by unfold World.freeze;split<;>rfl) (by unfold World.freeze;split<;>simp)
      (λk V K=>by
       have M:g≠k:=λe=>K (yK.2 ⟨G,_,rfl,e⟩);unfold World.freeze;split;·rfl
       ·simp only[eR,ai M]) (λx f=>by simp at f) (λx f=>by simp at f) Zs
     simpa using this
 refine tc z Zb C D λw i=>?_;obtain⟨w',N,O⟩:=key w i;refine⟨sv l,w',L0,?_,O,λR=>(by cases R),.inr B,h⟩;simp only[execOp,resolve,bY,bk,cu,f,u,aB,aH,au,invoke,builtin,N]
end
theorem Mem.Tn{W w:World}{L L0:List kM}{L':kM->List kM}{e H:kM}(a:ti L e L0)(hf:vD L0 H L')(h:Mem W w (L' (YtkbifmngmocjnaaGreatDoor.tf [e,H]))):Mem W w L:=by obtain⟨pre,post,rfl,b⟩:=hf;rw[b,tG] at h;have c:=(h.ny (rT pre post _)).F5 [e,H];refine Mem.ny ?_ (a.ny.trans ((rT pre post (YtkbifmngmocjnaaGreatDoor.fz H)).cons e)).symm;rw[tG];exact c
section
variable{P:Program}{n:Sz}{W:World}{q:Md}{Q:Exit->St->List kM->Prop}{σ:St}{L:List kM}{Z:Array Oper}{rest:List Oper}
 {dst:Option Nat} {ty:TypeId} {pos:String} {lf:Array Edge} {gd:Option (Nat×Bool)}
theorem Dd{f:Operand}{l:List Operand}{o:Array TypeId}{k:Nat}{fst cap:List Value}{H e:kM}{R:kM->Value->Prop}{L0:List kM}{L':kM->List kM}(r:ti L e L0)(hf:vD L0 H L')(t:∀j,H.le j->j.kn e.p->Fn P k (fst++l.map (ev σ)++cap).toArray j R) (h:∀c v,H.le c->c.kn e.p->R c v->SL P n W q Z Q rest (l6 σ dst v) (L' c))(u:q.pb=true:=by rfl)
 (x:ev σ f=.func (.func k) fst.toArray cap.toArray:=by rfl) (y:lP Z σ ⟨dst,.call {callee:=.value f,args:=l.toArray,argTypes:=o},ty,pos,lf,gd⟩=true:=by rfl) (z:l8 n dst=true:=by rfl):
 SL P n W q Z Q (⟨dst,.call {callee:=.value f,args:=l.toArray,argTypes:=o},ty,pos,lf,gd⟩::rest) σ L:=by
 have A:=t _ BR BS;obtain⟨pre,post,rfl,i⟩:=id hf;have s:m3 P W k (fst++l.map (ev σ)++cap).toArray L (λv m=>∃c,(YtkbifmngmocjnaaGreatDoor.tf [e,H]).le c/\m=L' c/\R c v):=
  ((
   (A W (pre++post)).at pre post (i _)).mL λw d=>d.C4 r hf).conv λv m ⟨c,g,B,C⟩=>by
   refine⟨L' c,λw d=>?_,c,g,rfl,C⟩;subst B;rw[i];exact d.ny (rT pre post (fz c)).symm
 refine AT u rfl y z (BL x s.BO) s ?_;rintro v m ⟨c,g,rfl,D⟩;exact⟨.inr λE w d=>(d.fz g (hf.put c|>λhp=>by obtain⟨a,b,F,G⟩:=hp;exact⟨pre,post,i _,i _⟩)).Tn r hf,h c v (le_trans BR g) (BS.up g) D⟩
theorem Mq{α:Type}{A:Option Addr}{s:Nat}{enc:α->List Value}{l:List α}{w:World}(h:Rd A s enc l w)(k:Nat):Rd A s enc (l.take k) w:=by
 intro c;obtain⟨b,off,d,e⟩:=h (by rintro rfl;simp at c);refine⟨b,off,d,λi j x u a f=>e i j x u ?_ f⟩;rw[dP] at a;split at a;·exact a
 ·cases a
theorem Mr{α:Type}{A:Option Addr}{c s:Nat}{enc:α->List Value}{l:List α}{w:World}(h:Rd A s enc l w)(k:Nat)(m:l.length<=c):Rd (qd A c k s) s enc (l.drop k) w:=by
 intro d;have n:k<l.length:=by
  rcases eM k l.length with a|a;·exact a
  ·rw[aX a] at d;exact absurd rfl d
 obtain⟨b,off,a,f⟩:=h (by rintro rfl;simp at d);subst a;rw[show qd (some ⟨b,off,none⟩) c k s=some ⟨b,off+k*s,none⟩ from by unfold qd;rw[ai Zo,aW,cz]];refine⟨b,off+k*s,rfl,λi j x u e g=>?_⟩;rw[dQ] at e;have:=f (k+i) j x u e g;rw[show off+k*s+(i*s+j)=off+((k+i)*s+j) from by rw[bW];omega];exact this
theorem Sl.take{α:Type}{s:Nat}{enc:α->List Value}{H:kM}{A:Option Addr}{l:List α}(h:H.kn (Rd A s enc l))(k:Nat):H.kn (Rd A s enc (l.take k)):=λw a=>Mq (h w a) k
theorem Sl.drop{α:Type}{s:Nat}{enc:α->List Value}{H:kM}{A:Option Addr}{c:Nat}{l:List α}(h:H.kn (Rd A s enc l))(a:l.length<=c)(k:Nat):H.kn (Rd (qd A c k s) s enc (l.drop k)):=λw b=>Mr (h w b) k a
theorem To{α:Type}{enc:α->List Value}{z:α}{cs:List Value}(h:cs=enc z)(N:Nat):(List.replicate N cs).flatten=(List.replicate N z).flatMap enc:=by subst h;simp[List.flatMap,kq]
theorem Ms{α:Type}{enc:α->List Value}{s:Nat}(hl:∀l:List α,(l.flatMap enc).length=l.length*s)(z:α)(pre news:List α)(m o:Nat)(g:news.length<=m)(b:0<m->o=pre.length*s)(c:m=0->o=0):qC ((pre++List.replicate m z).flatMap enc) o (news.flatMap enc)=(pre++news++List.replicate (m-news.length) z).flatMap enc:=by
 rcases cM m with a|a;·subst a;have d:news=[]:=bN Zo;subst d;rw[c rfl];simp[qC]
 ·rw[b a];unfold qC;have e:List.replicate m z=List.replicate news.length z++List.replicate (m-news.length) z:=by rw[List.replicate_append_replicate];congr 1;omega
  rw[e];simp only[bD];have h:=hl pre;have i:=hl news;have f:=hl (List.replicate news.length z);rw[bS] at f;rw[cS Zo,aY Zo,aV,aV];congr 1;rw[eD,aX Zo,aS,eD,aX Zo,aS];congr 1;rw[show pre.length*s+(news.flatMap enc).length-(pre.flatMap enc).length-((List.replicate news.length z).flatMap enc).length=0 from by omega];rfl
theorem IL{α:Type}{enc:α->List Value}{t t':Nat}{e s b:Nat}[C:nV P t e s b][j:m6 enc s]{x y:Operand}{g o m k te d:Nat}{B:Option Addr}{pre news:List α}(z:α){L':List kM}(l:ev σ x=.slice (some ⟨g,o,none⟩) m k) (f:0<m->o=pre.length*s) (i:m=0->o=0) (p:ev σ y=.slice B news.length d) (r:oq W L (Rd B s enc news)) (a:news.length<=m)(hp:oe L (k4 g te ((pre++List.replicate m z).flatMap enc)) (k4 g te ((pre++news++List.replicate (m-news.length) z).flatMap enc)) L')(u:q.pb=true) (v:q.nP L->q.nP L') (w:lP Z σ ⟨dst,.call {callee:=.builtin .copy,args:=#[x,y],argTypes:=#[t,t']},ty,pos,lf,gd⟩=true) (A:l8 n dst=true)
 (h:SL P n W q Z Q rest (l6 σ dst (.int .i64 (news.length:Int))) L'):
 SL P n W q Z Q (⟨dst,.call {callee:=.builtin .copy,args:=#[x,y],argTypes:=#[t,t']},ty,pos,lf,gd⟩::rest) σ L:=by
 have hl:=tF j.len;refine Ip (cs:=(pre++List.replicate m z).flatMap enc) l p r a ?_ (by rw[Ms hl z pre news m o a f i];exact hp) u v w A h;have:=hl (pre++List.replicate m z);rw[this,ak,bS,bW];have D:news.length*s<=m*s:=bL s a;rcases cM m with c|c
 ·rw[i c];omega
 ·rw[f c];omega
theorem rM{a x:Operand}{t s:Nat}[d:oD P t s]{g k:Nat}{t':TypeId}{cs vs:List Value}{L':List kM}(e:ev σ a=.pointer (some ⟨g,k,none⟩)) (f:ev σ x=.agg vs.toArray) (j:(vs.all Value.oneCell')=true) (hl:vs.length=s) (l:Nat.ble (k+s) cs.length=true)(hp:oe L (k4 g t' cs) (k4 g t' (qC cs k vs)) L')(m:q.pb=true) (o:q.nP L->q.nP L') (p:lP Z σ ⟨none,.store t a x,ty,pos,lf,gd⟩=true)(h:SL P n W q Z Q rest σ L'):SL P n W q Z Q (⟨none,.store t a x,ty,pos,lf,gd⟩::rest) σ L:=by
 refine zW m rfl p rfl λw b=>⟨_,L',?_,b.setRow hp,o,h⟩;obtain⟨i,r,u⟩:=d.sj;have v:=AU b hp.mem;have z:=dv l;have c:=db P g k t' vs 0 cs.toArray w v (by simp;omega) (by simpa using j);have y:(cs.toArray.toList.take (k+0)++vs++cs.toArray.toList.drop (k+0+vs.length)).toArray=(qC cs k vs).toArray:=by simp[qC]
 rw[y] at c;simp[execOp,e,f,Instr.storeAt,Instr.sureAddr,storeVar,sizeOf,typeInfo,r,u,Value.cells,hl,c]
theorem De{α:Type}(enc:α->List Value)(z:α){t:Nat}{e s b:Nat}[o:nV P t e s b]{zero:List Value}[p:nE P e zero]{x y:Operand}(N:Nat)(a:ev σ x=.int .i64 (N:Int)) (c:ev σ y=.int .i64 (N:Int)) (d:N*b<=140737488355328) (f:N<=9223372036854775807) (i:zero.length=s) (j:zero=enc z)(k:q.pb=true) (l:lP Z σ ⟨dst,.makeSlice t x y,ty,pos,lf,gd⟩=true) (m:l8 n dst=true)(h:∀g:Nat,SL P n W q Z Q rest (l6 σ dst (.slice (some ⟨g,0,none⟩) N N)) (k4 g e ((List.replicate N z).flatMap enc)::L)):SL P n W q Z Q (⟨dst,.makeSlice t x y,ty,pos,lf,gd⟩::rest) σ L:=LF a c d (by unfold maxLen;exact f) i k l m λg=>by rw[To j];exact h g
theorem Sub.fz{L L':List kM}{H a:kM}(hl:H.le a)(hp:oe L (YtkbifmngmocjnaaGreatDoor.fz H) (YtkbifmngmocjnaaGreatDoor.fz a) L'):Sub L L':=λ_ _ b=>b.fz hl hp
theorem ti.sub{L L0:List kM}{e:kM}(h:ti L e L0):Sub L0 L:=λ_ _ a=>(a.ny h.ny).tail
theorem Ap{id:Nat}{e:kM}{L0:List kM}(a:ti L e L0)(p:lC)(b:P.follows .mixedOrders=true)(d:Region.noSelect Z=true)(hp:sK Z false p (Array.replicate Z.size false)=true)(lL:p.len=Z.size) (f:∀c σ L,¬Q (.panic c) σ L) (h:uB P n W L0 Z Q p σ L):SC P n W (.region id Z true) Q σ L:=qN L0 p b d hp lL f a.sub h
end
section
variable{P:Program}{n:Sz}{W:World}{q:Md}{Q:Exit->St->List kM->Prop}{σ:St}{L:List kM}{Z:Array Oper}{rest:List Oper}
 {dst:Option Nat} {ty:TypeId} {pos:String} {lf:Array Edge} {gd:Option (Nat×Bool)}
theorem Mt{α:Type}{enc:α->List Value}{t:Nat}{e s b:Nat}[m:nV P t e s b][g:m6 enc s]{x y:Operand}{a i:Addr}{d:Nat}{l news:List α}(f:ev σ x=.slice (some a) l.length l.length) (G:oq W L (Rd (some a) s enc l)) (H:ev σ y=.slice (some i) news.length d) (c:oq W L (Rd (some i) s enc news)) (kI:0<news.length)(I:(l.length+news.length)*b<=140737488355328) (kJ:l.length+news.length<=9223372036854775807)(J:lP Z σ ⟨dst,.call {callee:=.builtin .append,args:=#[x,y],argTypes:=#[t,t]},ty,pos,lf,gd⟩=true) (K:l8 n dst=true)
 (h:∀r v,SL P n W .plain Z Q rest (l6 σ dst (.slice r (l++news).length v)) (li e s enc r v (l++news)::L)):
 SL P n W .plain Z Q (⟨dst,.call {callee:=.builtin .append,args:=#[x,y],argTypes:=#[t,t]},ty,pos,lf,gd⟩::rest) σ L:=by
 refine uC J K λw o=>?_;obtain⟨M,z,N,O,A,R,S⟩:=m.sj;have B:∀(a:Addr) (l:List α),Rd (some a) s enc l w->∀j u,(l.flatMap enc)[j]? =some u->w.cell? (a.add j)=some u:=by intro a l p j u T;obtain⟨x,D,V⟩:=FU g.len m.pos T;obtain⟨b0,off,X,Y⟩:=p (by rintro rfl;simp at D);cases X;have:=Y _ _ x u D V;rw[show j/s*s+j%s=j from by rw[fp];exact ip j s] at this;rw[cz];exact this
 have E:=tF g.len l;have F:=tF g.len news;have kF:=tF g.len (l++news);have p:=jC (P:=P) w t ty e M z m.ul N O a l.length l.length (l.flatMap enc) (by rw[A];exact E) (B a l (G w o)) i news.length d (news.flatMap enc) (by rw[A];exact F) (B i news (c w o))
  Zo Zo (by rw[R];exact iJ Zo I)
 have kG:=iN w (l.length+news.length) l.length e;have kH:=gO w (l.length+news.length) l.length e (by unfold maxLen;omega);generalize grownCap w (l.length+news.length) l.length e=C at*;refine⟨_,w.drew.alloc (.cells ((l.flatMap enc).toArray++(news.flatMap enc).toArray++Builtin.zeroCells z.cells (C-(l.length+news.length))) e),_,?_,?_,h (some ⟨w.heap.size,0,none⟩) C⟩;·rw[ak];simp only[execOp,resolve,bY,bk,cu,f,H,aB,aH,au,invoke,builtin,p]
 ·refine o.grow (es:=[li e s enc (some ⟨w.heap.size,0,none⟩) C (l++news)]) rfl rfl rfl Zs (λk c=>dx w.drew _ c) ?_ ?_ Zs
  ·intro x f;simp only[aE] at f;subst f;refine⟨λk c=>?_,IK (.inr ⟨w.heap.size,_,by omega,rfl,dU w.drew _,by rw[ak];omega,kH,?_,?_⟩)⟩;·obtain⟨_,a,q,c⟩:=yK.1 c;cases q;subst c;simp
   ·simp only[fP,cf,size_zeroCells,E,F,S,Nat.sub_mul];have:(l.length+news.length)*s<=C*s:=bL s kG;rw[bW] at this⊢;omega
   ·simp only[iH,aV];rw[<-aV,<-bD,<-kF];exact iL
  ·intro x f k c;simp only[aE] at f;subst f;obtain⟨_,a,q,c⟩:=yK.1 c;cases q;subst c;exact aA _
theorem Mu(a:Addr):a.add 0=a:=by simp[Addr.add]
theorem EO{x d f:Operand}{t:TypeId}{A:Option Addr}{m c h:Nat}{e s b:Nat}[g:nV P t e s b](i:ev σ x=.slice A m c) (j:ev σ d=.int .i64 (h:Int)) (k:ev σ f=.int .i64 (h:Int)) (l:h<=c)(o:lP Z σ ⟨dst,.slice t x none (some d) (some f),ty,pos,lf,gd⟩=true) (p:l8 n dst=true)(H:SL P n W q Z Q rest (l6 σ dst (.slice A h h)) L):SL P n W q Z Q (⟨dst,.slice t x none (some d) (some f),ty,pos,lf,gd⟩::rest) σ L:=by
 refine uD _ rfl o p (λw v=>?_) H;have r:=yD (P:=P) (t:=t) w;have u:=Sc (P:=P) (len:=m) (cap:=c) (h:=h) (m:=h) (aA _) l w;simp only[execOp,i,j,k,aW,cO,Instr.sliceAt,Instr.slice,aB,aL g.ul,au,u,r,aH];cases A with
 |none=>simp
 |some a=>simp[Mu]
end
def Fr(ro:Option Nat):Fence:={Fence.wide with round:=ro}
theorem EP(ro:Option Nat)(f:FuncId):(Fr ro).fn f:=trivial
theorem IM(ro:Option Nat):¬(Fr ro).depth.isSome=true:=by cases ro<;>(intro h;cases h)
theorem Tp{ro:Option Nat}{n:Nat}{P:Program}{f:FuncId}{args:Array Value}{w:World}{R:Ending->World->Prop}(h:Calls P f args w R):CallsIn (Fr ro) n P f args w R:=by
 cases ro with
 |none=>exact jq.2 h
 |some l=>exact CallsIn.inRound l (jq.2 h)
theorem Tq{ro:Option Nat}{n:Nat}{P:Program}{row:String}{args:Array Value}{w:World}{R:Value->World->Prop}(h:Rows P row args w R):RowsIn (Fr ro) n P row args w R:=by
 intro c cs _;obtain⟨v,w',r,s⟩:=h c cs;refine⟨v,w',r,?_⟩;cases ro with
 |none=>exact stepsIn_wide.2 s
 |some l=>exact(fenced_inRound P Fence.wide l)▸stepsIn_wide.2 s
def x6(o:Oper):Bool:=match o.op with
 |.defer _=>false
 |_=>true
theorem Mv{o:Oper}(h:x6 o=true):∀c,o.op≠ .defer c:=by intro c a;unfold x6 at h;rw[a] at h;cases h
theorem Mw{ro:Option Nat}{n:Nat}{P:Program}{o:Oper}{a:Act}{next k:Act->World->Prop}{Q i:Exit->Act->World->Prop}(b:∀a w,next a w->k a w)(hp:∀c a w,Q (.panic c) a w->i (.panic c) a w) (hl:LetsOut Q->LetsOut i):∀{r:Result Next},o.upon P a next Q r->o.uponIn (Fr ro) n P a k i r
 |.ok (.value v) w',h=>b _ _ h
 |.ok .skip w',h=>b _ _ h
 |.ok (.defer d) w',h=>b _ _ h
 |.ok (.enter f args) w',h=>⟨λj=>absurd j (IM ro),Tp (h.mono λe l g=>by
  cases e with
  |returned v=>exact b _ _ g
  |panicked c=>exact hp _ _ _ g
  |outgrown=>exact hl g)⟩
 |.ok (.row row args) w',h=>⟨λj=>absurd j (IM ro),Tq (h.mono λv l g=>b _ _ g)⟩
 |.halt (.panic v) w',h=>hp _ _ _ h
section
variable{P:Program}{n:Sz}{W:World}{Q:Exit->St->List kM->Prop}{σ:St}{L:List kM}{Z:Array Oper}
theorem SC.run{c:Code}(h:SC P n W c Q σ L):∀a w,n9 n σ a->Mem W w L->c.wp P (nQ n W Q) a w:=by unfold SC at h;exact h
theorem SC.mk{c:Code}(h:∀a w,n9 n σ a->Mem W w L->c.wp P (nQ n W Q) a w):SC P n W c Q σ L:=by unfold SC;exact h
theorem SL.run{l:List Oper}(h:SL P n W .plain Z Q l σ L):∀a w,n9 n σ a->Mem W w L->wpList P Z (nQ n W Q) l a w:=by unfold SL at h;exact h
theorem Gf{ro:Option Nat}{rest:List Oper}{Q:Exit->Act->World->Prop}{K:Act->World->Prop}(b:∀a w,K a w->wpListIn (Fr ro) 0 P Z Q rest a w)(c:¬LetsOut Q):∀(pre:List Oper) (a:Act) (w:World),pre.all x6=true->wpList P Z (Exit.then K Q) pre a w->wpListIn (Fr ro) 0 P Z Q (pre++rest) a w
 |[],a,w,_,h=>b a w h
 |o::pre,a,w,hp,h=>by
  rw[i7,aF] at hp;have e:¬LetsOut (Exit.then K Q):=λ⟨a,w,h⟩=>c ⟨a,w,h⟩;unfold wpList at h;show wpListIn (Fr ro) 0 P Z Q (o::(pre++rest)) a w;unfold wpListIn;split
  ·rename_i d;rw[aj d] at h;rcases h with h|h
   ·refine⟨λf _=>EP ro f,?_⟩;rw[j4 _ _ _ (Mv hp.1)];exact Mw (λa w h=>Gf b c pre a w hp.2 h) (λ_ _ _ h=>h) (λh=>absurd h e) h
   ·exact absurd h.2 e
  ·rename_i d;rw[ai d] at h;exact⟨λf _=>EP ro f,Gf b c pre _ w hp.2 h⟩
theorem Tr{Q:Exit->Act->World->Prop}:Exit.then (Q .normal) Q=Q:=by funext e;cases e<;>rfl
theorem IN{ro:Option Nat}{Q:Exit->Act->World->Prop}(b:¬LetsOut Q){l:List Oper}{a:Act}{w:World}(hp:l.all x6=true)(h:wpList P Z Q l a w):wpListIn (Fr ro) 0 P Z Q l a w:=by have:=Gf (ro:=ro) (rest:=[]) (K:=Q .normal) (λa w h=>h) b l a w hp (by rw[Tr];exact h);rwa [aP] at this
theorem EQ{n:Sz}{W:World}{Q:Exit->St->List kM->Prop}(h:∀σ L,¬Q .outgrown σ L):¬LetsOut (nQ n W Q):=λ⟨_,_,σ,L,_,_,a⟩=>h σ L a
def ub(P:Program)(n:Sz)(W:World)(l:Nat)(c:Code)(Q:Exit->St->List kM->Prop)(σ:St)(L:List kM):Prop:=∀a w,n9 n σ a->Mem W w L->c.wpIn (Fr (some l)) 0 P (nQ n W Q) a w
variable{l:Nat}
theorem Ts{c:Code}(h:ub P n W l c Q σ L):ub P n W l c Q σ L:=h
theorem Tt(h:Q .normal σ L):ub P n W l .skip Q σ L:=λ_ _ a b=>wpIn_skip ⟨σ,L,a,b,h⟩
theorem Tu{id:Nat}(h:Q (.exit id) σ L):ub P n W l (.exit id) Q σ L:=λ_ _ a b=>wpIn_exit ⟨σ,L,a,b,h⟩
theorem Tv{x y:Code}(h:ub P n W l x (CN (ub P n W l y Q) Q) σ L):ub P n W l (x.seq y) Q σ L:=λa w f g=>
 wpIn_seq (ku (h a w f g) λe i w' ⟨j,L',b,c,d⟩=>by
  cases e;case normal=>exact d i w' b c
  all_goals exact⟨j,L',b,c,d⟩)
theorem Mx{c:Operand}{x y:Code}{b:Bool}(f:ev σ c=.bool b)(g:b=true->ub P n W l x Q σ L)(hf:b=false->ub P n W l y Q σ L):ub P n W l (.cond c x y) Q σ L:=λa w d e=>wpIn_cond_split (t:=b) (by rw[d.eval];exact f) (λh=>g h a w d e) (λh=>hf h a w d e)
theorem An{id:Nat}:∀(e:Exit) (g:Act) (w':World),nQ n W (BH id Q) e g w'->Exit.inBlock id (nQ n W Q) e g w':=λe g w' ⟨b,L',c,d,a⟩=>by
 match e,a with
 |.exit h,a=>
  simp only[Exit.inBlock];simp only[BH] at a;by_cases f:h=id;·rw[aj f];rw[show Nat.beq h id=true from by rw[jf];exact f] at a;exact⟨b,L',c,d,a⟩
  ·rw[ai f];rw[show Nat.beq h id=false from by rw[<-dD,jf];exact f] at a;exact⟨b,L',c,d,a⟩
 |.normal,a=>exact⟨b,L',c,d,a⟩
 |.goto _,a=>exact⟨b,L',c,d,a⟩
 |.ret,a=>exact⟨b,L',c,d,a⟩
 |.panic _,a=>exact⟨b,L',c,d,a⟩
 |.outgrown,a=>exact⟨b,L',c,d,a⟩
theorem Tw{id:Nat}{c:Code}(h:ub P n W l c (BH id Q) σ L):ub P n W l (.block id c) Q σ L:=λa w b d=>wpIn_block (ku (h a w b d) An)
theorem Tx{id:Nat}(h:SL P n W .plain Z Q Z.toList σ L)(hp:Z.toList.all x6=true:=by rfl)(b:∀σ L,¬Q .outgrown σ L:=by exact λ_ _ h=>h):ub P n W l (.region id Z false) Q σ L:=λa w c d=>wpIn_region_list (IN (EQ b) hp (h.run a w c d))
theorem pA{A B:Prop}(c:B)(h:L6 B->A:=by
 intro k;(repeat first
  |(refine Ts ?_;first|refine Tv ?_|refine Tx ?_|refine Tw ?_|refine Tt ?_|refine Tu ?_|refine d ?_|refine Mx (b:=true) rfl (λ_=>?_) (λa=>by cases a)|refine Mx (b:=false) rfl (λa=>by cases a) (λ_=>?_)))
 exact k.h):A:=h ⟨c⟩
def My(P:Program)(W:World)(l:Nat)(args:List Value)(L:List kM)(R:Bool->List kM->Prop):Prop:=
 ∀w,Mem W w L->∃fn tmps assign body,(Instr.yield l args.toArray).run P w=.ok (.round l fn tmps assign body) w/\
  RoundIn Fence.wide 0 P l fn tmps assign body w (λe w'=>∃b L',e=.returned (.bool b)/\Mem W w' L'/\R b L')
def yL(P:Program)(n:Sz)(W:World)(Z:Array Oper)(Q:Exit->St->List kM->Prop)(l:List Oper)(σ:St)(L:List kM):Prop:=∀a w,n9 n σ a->Mem W w L->wpListIn (Fr none) 0 P Z (nQ n W Q) l a w
theorem ER{f:Operand}{d:List Operand}{g:Array TypeId}{i:Nat}{rest:List Oper}{dst:Option Nat}{ty:TypeId}{pos:String}{lf:Array Edge}{gd:Option (Nat×Bool)}{R:Bool->List kM->Prop}(hf:ev σ f=.func (.yield i) #[] #[]) (l:My P W i (d.map (ev σ)) L R)(m:lP Z σ ⟨dst,.call {callee:=.value f,args:=d.toArray,argTypes:=g},ty,pos,lf,gd⟩=true) (j:l8 n dst=true) (hp:rest.all x6=true) (o:∀σ L,¬Q .outgrown σ L)
 (h:∀b L',R b L'->SL P n W .plain Z Q rest (l6 σ dst (.bool b)) L'):
 yL P n W Z Q (⟨dst,.call {callee:=.value f,args:=d.toArray,argTypes:=g},ty,pos,lf,gd⟩::rest) σ L:=by
 intro a w k p;unfold wpListIn;rw[k.wanted,m,aj rfl];refine⟨λf _=>EP none f,?_⟩;rw[j4 _ _ _ (by intro c q;cases q),k.eval];obtain⟨fn,tmps,assign,body,r,s⟩:=l w p;have t:(execOp (ev σ) ⟨dst,.call {callee:=.value f,args:=d.toArray,argTypes:=g},ty,pos,lf,gd⟩).run P w=.ok (.round i fn tmps assign body) w:=by simp only[execOp,resolve,hf,Deferred.ofValue,invoke,aB,aH,au];simp[r]
 rw[t];refine⟨λj=>absurd j (IM none),s.mono ?_⟩;rintro e w' ⟨b,L',rfl,u,v⟩;exact IN (ro:=none) (EQ o) hp ((h b L' v).run _ _ (k.sW j (.bool b)) u)
def zx{α:Type}(P:Program)(W:World)(g:Nat)(h:List Value)(p:World->Prop)(enc:α->List Value)(d S:List α->Prop):Prop:=
 ∀(l:Nat) (K e:List α->List kM->Prop) (f:List kM),
  (∀pre X c,K pre X->oq W (X++c) p)->
  (∀pre x X c,d (pre++[x])->K pre X->My P W l (enc x) (X++c) (λb L'=>∃a,L'=a++c/\((b=true/\K (pre++[x]) a)\/(b=false/\e (pre++[x]) a))))->
  ∀X,K [] X->m3 P W g (Value.func (.yield l) #[] #[]::h).toArray (X++f) (λ_ L'=>∃a,L'=a++f/\((∃xs,S xs/\K xs a)\/∃pre,d pre/\e pre a))
@[irreducible] def vf(l:Nat)(r:Loop):kM:=⟨(·=l),λw=>w.heap[l]? =some (.loop r),λ_ _ h hp=>(h l rfl).trans hp⟩
theorem Cd(l:Nat)(r:Loop):vf l r=⟨(·=l),λw=>w.heap[l]? =some (.loop r),λ_ _ h hp=>(h l rfl).trans hp⟩:=by unfold vf;rfl
@[irreducible] def qj(D:Nat):kM:=⟨(·=D),λw=>w.heap[D]? =some (.deferred (some [])),λ_ _ h hp=>(h D rfl).trans hp⟩
theorem Gg(D:Nat):qj D=⟨(·=D),λw=>w.heap[D]? =some (.deferred (some [])),λ_ _ h hp=>(h D rfl).trans hp⟩:=by unfold qj;rfl
theorem Df{w:World}{r:Loop}(a:Mem W w L)(b:vf l r∈L):w.heap[l]? =some (.loop r):=by have:=(a.ok _ b).holds;rw[Cd] at this;exact this
theorem Gh{w:World}{r r':Loop}(b:Mem W w (vf l r::L)):Mem W (w.putObj l (.loop r')) (vf l r'::L):=by
 have d:=Df b (ay ..);have c:l<w.heap.size:=(aO.1 d).1;refine b.put (e:=vf l r) (e':=vf l r') oe.oL rfl rfl rfl Zs (λk _ a=>?_) ⟨λk a=>?_,?_⟩ (λk a=>.inl (by rw[Cd] at a⊢;exact a));·exact dC (λe=>a (by rw[Cd];exact e))
 ·rw[Cd] at a;cases a;simpa using c
 ·rw[Cd];exact dH c
end
section
variable{P:Program}{n:Nat}{W:World}{σ:St}{L:List kM}
def mark(D:Nat):Deferred:={target:=.collected D,args:=#[]}
def Mz{α:Type}(J:List α->List kM->Prop)(c:Code->List α->List kM->Prop)(p:List α)(b:List kM):Exit->St->List kM->Prop
 |.normal,_,L'=>∃a,Sub (a++b) L'/\J p a
 |.ret,_,L'=>∃a,Sub (a++b) L'/\c .ret p a
 |.exit id,_,L'=>∃a,Sub (a++b) L'/\c (.exit id) p a
 |.goto t,_,L'=>∃a,Sub (a++b) L'/\c (.goto t) p a
 |_,_,_=>False
def Gi(σ:St)(l:List (Nat×Value)):St:=l.foldl (λσ p=>tD σ p.1 p.2) σ
theorem MA{ds:List Deferred}{a:Act}:∀(l:List (Nat×Value)) (σ:St) (b:Array Value),(∀p∈l,p.1<n)->n9 ⟨n,ds⟩ σ {tmps:=b,defers:=ds}->
 n9 ⟨n,ds⟩ (Gi σ l) {tmps:=l.foldl (λt p=>t.setIfInBounds p.1 p.2) b,defers:=ds}
 |[],_,_,_,h=>h
 |p::l,σ,b,hp,h=>MA (a:=a) l (tD σ p.1 p.2) _ (λq c=>hp q (aI _ c)) (h.put (hp p (ay ..)) p.2)
theorem Gj{a b:kM}{X L:List kM}:(a::b::(X++L)).Perm (X++a::b::L):=((dN (l₁:=X) (l₂:=b::L) (a:=a)).trans ((dN (l₁:=X) (l₂:=L) (a:=b)).cons a)).symm
theorem Ty{α:Type}{g:Operand}{y:Array Tmp}{assign body:Code}{G:Nat}{N:List Value}{p:World->Prop}{enc:α->List Value}{M S:List α->Prop}(kL:zx P W G N p enc M S) (hg:ev σ g=.func (.func G) #[] N.toArray) (sk:∀args w,(callFunc G args).run P w=.ok (.enter G args) w)(kO:∀x,(enc x).length=y.size) (kQ:∀t∈y,t<n)(J:List α->List kM->Prop) (O:Code->List α->List kM->Prop) {H:List kM} (h0:J [] H) (d:∀pre X j,J pre X->oq W (X++j) p)(A:List α->α->St->List kM->Prop)(kT:∀l pre x X j,M (pre++[x])->J pre X->ub P ⟨n,[]⟩ W l assign (Eu (λQ L'=>∃r,Sub (r++j) L'/\A pre x Q r)) (Gi σ (y.toList.zip (enc x))) (X++j))(kX:∀l pre x Q X j,M (pre++[x])->A pre x Q X->ub P ⟨n,[]⟩ W l body (Mz J O (pre++[x]) j) Q (X++j)){Y:Exit->Act->World->Prop}(kY:∀D xs X,S xs->J xs X->∀a w,n9 ⟨n,[mark D]⟩ σ a->Mem W w (qj D::(X++L))->Y .normal a w)(kZ:∀D c pre X,M pre->O c pre X->∀a w,n9 ⟨n,[mark D]⟩ σ a->Mem W w (qj D::(X++L))->c.wp P Y a w):∀a w,n9 ⟨n,[]⟩ σ a->Mem W w (H++L)->(Code.rangeFunc g y assign body).wp P Y a w:=by
 intro a w I hw;refine(jE (n:=0)).1 (wpIn_rangeFunc (F:=Fence.wide) (n:=0) λfn _=>?_);obtain⟨D,hD⟩:∃D,w.heap.size=D:=⟨_,rfl⟩;obtain⟨rec,s⟩:∃rec:LoopState->Option Code->Loop,rec=λst pe=>{state:=st,pending:=pe,fn,tmps:=a.tmps,params:=y,assign,body,defers:=D}:=⟨_,rfl⟩;have kF:Mem W ((w.alloc (.deferred (some []))).alloc (.loop (rec .ready none))) (vf (D+1) (rec .ready none)::qj D::(H++L)):=by
  have m:Mem W (w.alloc (.deferred (some []))) (qj D::(H++L)):=by
   refine hw.grow (es:=[qj D]) rfl rfl rfl Zs (λk d=>dx w _ d) ?_ ?_ Zs;·intro x o;simp only[aE] at o;subst o;rw[Gg];exact⟨λk d=>by cases d;simp;omega,by rw[<-hD];exact dU w _⟩
   ·intro x o k d;simp only[aE] at o;subst o;rw[Gg] at d;cases d;omega
  refine m.grow (es:=[vf (D+1) (rec .ready none)]) rfl rfl rfl Zs (λk d=>dx _ _ d) ?_ ?_ Zs;·intro x o;simp only[aE] at o;subst o;rw[Cd];refine⟨λk d=>by cases d;simp;omega,?_⟩;have:=dU (w.alloc (.deferred (some []))) (.loop (rec .ready none));rw[World.size_alloc,hD] at this;exact this
  ·intro x o k d;simp only[aE] at o;subst o;rw[Cd] at d;cases d;simp;omega
 generalize k5:(w.alloc (.deferred (some []))).alloc (.loop (rec .ready none))=T at kF;have k7:∀x,n9 ⟨n,[]⟩ (Gi σ (y.toList.zip (enc x))) {tmps:=(y.zip (enc x).toArray).foldl (λt (p,v)=>t.setIfInBounds p v) a.tmps,defers:=[]}:=by intro x;have m:=MA (n:=n) (ds:=[]) (a:=a) (y.toList.zip (enc x)) σ a.tmps (λq f=>kQ q.1 (by simpa using(List.of_mem_zip f).1)) ⟨rfl,I.size,I.get⟩;rw[<-ko,Array.toList_zip];exact m
 have kG:n9 ⟨n,[mark D]⟩ σ {a with defers:=[{target:=.collected D,args:=#[]}]++a.defers}:=by refine⟨?_,I.size,I.get⟩;show _++a.defers=_;rw[I.defers];rfl
 have hc:=kL (D+1) (λpre X=>∃b,J pre b/\X=vf (D+1) (rec .ready none)::qj D::b)
  (λpre X=>∃c b,O c pre b/\X=vf (D+1) (rec .done (some c))::qj D::b) L
  (by rintro pre _ j ⟨b,z,rfl⟩;exact((d pre b j z).cons _).cons _)
  (by
   rintro pre x _ j V ⟨b,z,rfl⟩ w2 kH;have hl:=Df kH (ay ..);have hy:=run_yield (P:=P) (args:=(enc x).toArray) hl (by rw[s];simp[kO]);rw[s] at hy;refine⟨fn,_,assign,body,hy,roundIn_of_wpIn trivial ?_⟩;refine ku (kT (D+1) pre x b (vf (D+1) (rec .ready none)::qj D::j) V z _ _ (k7 x) (kH.ny Gj)) ?_;rintro e a1 w3 ⟨k8,L1,k9,K,f⟩;cases e with
   |normal=>
    obtain⟨r,lc,hA⟩:=f;have kI:=(lc _ _ K).ny Gj.symm;refine⟨_,run_beginRound (Df kI (ay ..)) (by rw[s]),?_⟩;have lg:=(Gh (r':={rec .ready none with state:=.busy}) kI).ny Gj;refine ku (kX (D+1) pre x k8 r _ V hA _ _ k9 lg) ?_;rintro e a3 w6 ⟨lq,L3,lu,lh,f⟩;have mZ:∀(jump:Option Code) (i:List kM),Sub (i++vf (D+1) {rec .ready none with state:=.busy}::qj D::j) L3->
     ∃v w',(Instr.endRound (D+1) jump).run P w6=.ok v w'/\v=.bool jump.isNone/\Mem W w' (vf (D+1) (rec (if jump.isNone then .ready else .done) jump)::qj D::(i++j)):=λjump i u=>by
     have kJ:=(u _ _ lh).ny Gj.symm;refine⟨_,_,run_endRound jump (Df kJ (ay ..)),rfl,?_⟩;have:=Gh (r':=rec (if jump.isNone then .ready else .done) jump) kJ;rw[s] at this⊢;exact this
    cases e with
    |normal=>obtain⟨i,u,B⟩:=f;obtain⟨v,w',m,C,E⟩:=mZ none i u;exact⟨v,w',m,true,_,by rw[C];rfl,E,_,rfl,.inl ⟨rfl,i,B,rfl⟩⟩
    |ret=>obtain⟨i,u,B⟩:=f;obtain⟨v,w',m,C,E⟩:=mZ (some .ret) i u;exact⟨v,w',m,false,_,by rw[C];rfl,E,_,rfl,.inr ⟨rfl,_,i,B,rfl⟩⟩
    |exit id=>obtain⟨i,u,B⟩:=f;obtain⟨v,w',m,C,E⟩:=mZ (some (.exit id)) i u;exact⟨v,w',m,false,_,by rw[C];rfl,E,_,rfl,.inr ⟨rfl,_,i,B,rfl⟩⟩
    |goto t=>obtain⟨i,u,B⟩:=f;obtain⟨v,w',m,C,E⟩:=mZ (some (.goto t)) i u;exact⟨v,w',m,false,_,by rw[C];rfl,E,_,rfl,.inr ⟨rfl,_,i,B,rfl⟩⟩
    |panic c=>exact f.elim
    |outgrown=>exact f.elim
   |exit id=>exact f.elim
   |goto t=>exact f.elim
   |ret=>exact f.elim
   |panic c=>exact f.elim
   |outgrown=>exact f.elim)
  (vf (D+1) (rec .ready none)::qj D::H) ⟨H,h0,rfl⟩
 refine⟨D+1,[{target:=.collected D,args:=#[]}],T,{target:=.fn (.func G) N.toArray,args:=#[.func (.yield (D+1)) #[] #[]]},T,G,#[.func (.yield (D+1)) #[] #[]]++N.toArray,T,?_,?_,λ_ _=>trivial,?_,(λh=>by cases h),?_⟩;·rw[<-k5,s,<-hD];exact run_enterLoop_outer _ _ _ _ _
 ·simp only[resolve,I.eval,hg];simp[go_sem];rfl
 ·simp[invoke,go_sem,sk]
 ·refine jq.2 (fF (R:=λe w'=>∃v L',e=.returned v/\Mem W w' L'/\∃r,L'=r++L/\
   ((∃xs,S xs/\∃b,J xs b/\r=vf (D+1) (rec .ready none)::qj D::b)\/∃pre,M pre/\∃c b,O c pre b/\r=vf (D+1) (rec .done (some c))::qj D::b)) (by simpa using hc.out T kF) ?_)
  rintro e w3 ⟨v,L',rfl,K,r,rfl,lm⟩;rcases lm with⟨xs,hS,b,z,rfl⟩|⟨pre,V,c,b,z,rfl⟩;·have he:=run_endLoop (P:=P) (Df K (ay ..)) (by rw[s];simp);exact⟨none,_,by rw[he,s],kY D xs b hS z _ _ kG (Gh K).tail⟩
  ·have he:=run_endLoop (P:=P) (Df K (ay ..)) (by rw[s];simp);exact⟨some c,_,by rw[he,s],jE.2 (kZ D c pre b V z _ _ kG (Gh K).tail)⟩
def uO(P:Program)(n:Nat)(W:World)(c:Code)(Q:Exit->St->List kM->Prop)(QM:Nat->Exit->St->List kM->Prop)(σ:St)(L:List kM):Prop:=∀a w,n9 ⟨n,[]⟩ σ a->Mem W w L->c.wp P (λe a w=>nQ ⟨n,[]⟩ W Q e a w\/∃D,nQ ⟨n,[mark D]⟩ W (QM D) e a w) a w
variable{Q:Exit->St->List kM->Prop}{QM:Nat->Exit->St->List kM->Prop}
theorem sR{c:Code}(h:SC P ⟨n,[]⟩ W c Q σ L):uO P n W c Q QM σ L:=λa w b d=>eP (h.run a w b d) λ_ _ _ h=>.inl h
theorem rj{x y:Code}(h:uO P n W x (CN (uO P n W y Q QM) Q) (λD=>CN (SC P ⟨n,[mark D]⟩ W y (QM D)) (QM D)) σ L):uO P n W (x.seq y) Q QM σ L:=λa w i j=>
 wp_seq (eP (h a w i j) λe g w' k=>by
  rcases k with⟨f,L',b,c,d⟩|⟨D,f,L',b,c,d⟩
  ·cases e;case normal=>exact d g w' b c
   all_goals exact .inl ⟨f,L',b,c,d⟩
  ·cases e;case normal=>exact eP (SC.run d g w' b c) λ_ _ _ h=>.inr ⟨D,h⟩
   all_goals exact .inr ⟨D,f,L',b,c,d⟩)
theorem MB{id:Nat}{Q c:Exit->Act->World->Prop}(b:∀e a w,Q e a w->c e a w){e:Exit}{a:Act}{w:World}(h:Exit.inBlock id Q e a w):Exit.inBlock id c e a w:=by
 cases e;case exit f=>
  simp only[Exit.inBlock] at h⊢;by_cases d:f=id;·rw[aj d] at h⊢;exact b _ _ _ h
  ·rw[ai d] at h⊢;exact b _ _ _ h
 all_goals exact b _ _ _ h
theorem ES{id:Nat}{c:Code}(h:uO P n W c (BH id Q) (λD=>BH id (QM D)) σ L):uO P n W (.block id c) Q QM σ L:=λa w d f=>
 wp_block (eP (h a w d f) λe g w' b=>by
  rcases b with b|⟨D,b⟩;·exact MB (λ_ _ _ h=>.inl h) (An _ _ _ b)
  ·exact MB (λ_ _ _ h=>.inr ⟨D,h⟩) (An _ _ _ b))
theorem uO.mL{c:Code}{L':List kM}(b:∀w,Mem W w L->Mem W w L')(h:uO P n W c Q QM σ L'):uO P n W c Q QM σ L:=λa w d e=>h a w d (b w e)
theorem ET{α:Type}{g:Operand}{d:Array Tmp}{assign body:Code}{e:Nat}{q:List Value}{p:World->Prop}{enc:α->List Value}{f S:List α->Prop}(u:zx P W e q p enc f S) (J:List α->List kM->Prop) (j:Code->List α->List kM->Prop) (A:List α->α->St->List kM->Prop) (r:List kM)(v:J [] r) (y:∀pre X b,J pre X->oq W (X++b) p)(z:∀l pre x X b,f (pre++[x])->J pre X->ub P ⟨n,[]⟩ W l assign (Eu (λi L'=>∃s,Sub (s++b) L'/\A pre x i s)) (Gi σ (d.toList.zip (enc x))) (X++b))(B:∀l pre x i X b,f (pre++[x])->A pre x i X->ub P ⟨n,[]⟩ W l body (Mz J j (pre++[x]) b) i (X++b))(C:∀D xs X,S xs->J xs X->QM D .normal σ (qj D::(X++L)))(E:∀D c pre X,f pre->j c pre X->SC P ⟨n,[mark D]⟩ W c (QM D) σ (qj D::(X++L)))(F:ev σ g=.func (.func e) #[] q.toArray:=by rfl) (sk:∀args w,(callFunc e args).run P w=.ok (.enter e args) w)
 (G:∀x,(enc x).length=d.size:=by exact λ_=>rfl) (H:∀t∈d,t<n:=by decide):
 uO P n W (.rangeFunc g d assign body) Q QM σ (r++L):=λa w I K=>
 Ty u F sk G H J j v y A z B (λD xs X M k a w m o=>.inr ⟨D,σ,_,m,o,C D xs X M k⟩)
  (λD c pre X N k a w m o=>eP ((E D c pre X N k).run a w m o) λ_ _ _ h=>.inr ⟨D,h⟩) a w I K
def Tz(P:Program)(W:World)(fn:Func)(R:Value->List kM->Prop)(D:Nat):Exit->St->List kM->Prop
 |.normal,σ,L|.ret,σ,L=>∃L0,ti L (qj D) L0/\tZ P W fn R .ret σ L0
 |_,_,_=>False
theorem EU{f:FuncId}{fn:Func}{c:Code}{args:Array Value}{R:Value->List kM->Prop}(hf:P.funcs[f]? =some fn)(h:uO P fn.ntmps W c (tZ P W fn R) (Tz P W fn R) (BJ args) L)(r:fn.body=some c:=by rfl)(G:args.size<=fn.ntmps:=by exact dv rfl)
 (y:(fn.name== "runtime.NumGoroutine")=false:=by kernel_rfl):m3 P W f args L R:=by
 refine .of (λargs w=>by
  have b:¬fn.name= "runtime.NumGoroutine":=by simpa using y
  simp[callFunc,hf,r,b]) ?_
 intro w z;refine(jq (n:=0)).1 (callsIn_of_wp_marks (F:=Fence.wide) hf r trivial (jE.2 ?_));have A:n9 ⟨fn.ntmps,[]⟩ (BJ args) {tmps:=args++Array.replicate (fn.ntmps-args.size) undef,defers:=[]}:=by
  refine⟨rfl,by simp;omega,λi=>?_⟩;obtain⟨l⟩:=args;simp only[BJ,gk,cF,eQ,jj];simp only[cf,cY];by_cases s:i<l.length;·simp[s]
  ·rw[ai s,dL Zo];split<;>rfl
 have plain:∀d w' g L',n9 ⟨fn.ntmps,[]⟩ g d->Mem W w' L'->tZ P W fn R .ret g L'->LeavesInM Fence.wide 0 P fn d.tmps (λe w'=>∃v L',e=.returned v/\Mem W w' L'/\R v L') d.defers .returning w':=by intro d w' g L' b j a;obtain⟨v,m,o,p,q⟩:=a d w' b j;rw[b.defers];exact⟨v,m,v,o,rfl,p,q⟩
 have n7:∀D d w' g L',n9 ⟨fn.ntmps,[mark D]⟩ g d->Mem W w' L'->(∃L0,ti L' (qj D) L0/\tZ P W fn R .ret g L0)->LeavesInM Fence.wide 0 P fn d.tmps (λe w'=>∃v L',e=.returned v/\Mem W w' L'/\R v L') d.defers .returning w':=by
  rintro D d w' g L' b j ⟨L0,B,a⟩;have u:=j.ny B.ny;have x:w'.heap[D]? =some (.deferred (some [])):=by have:=(u.ok _ (ay ..)).holds;rw[Gg] at this;exact this
  have H:D<w'.heap.size:=(aO.1 x).1;have C:Mem W (w'.putObj D (.deferred none)) ([]++L0):=u.change (es:=[]) rfl rfl rfl Zs (λk _ E=>dC (λe=>E (by rw[Gg];exact e))) Zs Zs Zs;rw[b.defers];refine⟨by simp,.inl ⟨D,_,rfl,run_takeDeferred x,?_⟩⟩;obtain⟨v,m,o,p,q⟩:=a {d with defers:=[]} _ ⟨rfl,b.size,b.get⟩ C;exact⟨v,m,v,o,rfl,p,q⟩
 refine eP (h _ w A z) ?_;rintro e d w' (⟨g,L',b,j,a⟩|⟨D,g,L',b,j,a⟩)
 ·cases e with
  |normal=>exact plain _ _ _ _ b j a
  |ret=>exact plain _ _ _ _ b j a
  |exit id=>exact a.elim
  |goto t=>exact a.elim
  |panic c=>exact a.elim
  |outgrown=>exact a.elim
 ·cases e with
  |normal=>exact n7 _ _ _ _ _ b j a
  |ret=>exact n7 _ _ _ _ _ b j a
  |exit id=>exact a.elim
  |goto t=>exact a.elim
  |panic c=>exact a.elim
  |outgrown=>exact a.elim
end
end
end Go.Proofs.YtkbifmngmocjnaaGreatDoor
