/- Proved here, packed: what the parts More Types Cut Bits Ints prove (rules of the walk, contracts of functions, plain laws). Conditions: in each statement. -/
import Derived.Test.YtkbifmngmocjnaaGreatDoorPAB
import Derived.Test.YtkbifmngmocjnaaGreatDoorRows
namespace Go.Proofs.YtkbifmngmocjnaaGreatDoor
set_option maxRecDepth 100000
set_option maxHeartbeats 8000000
set_option linter.all false
section
open Go.RowKit
class AV(P:Program)(t:Nat)(len e size:outParam Nat):Prop where
 ul:P.underlying t=some (.array len e)
 sj:∃i,P.info? e=some i/\i.size=size
section
variable{P:Program}{n:Sz}{W:World}{q:Md}{Q:Exit->St->List kM->Prop}{σ:St}{L:List kM}{Z:Array Oper}{rest:List Oper}
 {dst:Option Nat} {ty:TypeId} {pos:String} {lf:Array Edge} {gd:Option (Nat×Bool)} {α:Type}
theorem Sx{x y:Operand}{t t2:TypeId}{a b:Int}(c:ev σ x=.int .i64 a)(d:ev σ y=.int .i64 b)(e:lP Z σ ⟨dst,.call {callee:=.builtin .max,args:=#[x,y],argTypes:=#[t,t2]},ty,pos,lf,gd⟩=true) (f:l8 n dst=true)
 (h:SL P n W q Z Q rest (l6 σ dst (.int .i64 (max a b))) L):
 SL P n W q Z Q (⟨dst,.call {callee:=.builtin .max,args:=#[x,y],argTypes:=#[t,t2]},ty,pos,lf,gd⟩::rest) σ L:=by
 refine oF _ Zb e f (λw=>?_) h;simp[execOp,resolve,invoke,builtin,c,d,Lib.run_max_ints]
theorem Sy{x y:Operand}{t t2:TypeId}{a b:Int}(c:ev σ x=.int .i64 a)(d:ev σ y=.int .i64 b)(e:lP Z σ ⟨dst,.call {callee:=.builtin .min,args:=#[x,y],argTypes:=#[t,t2]},ty,pos,lf,gd⟩=true) (f:l8 n dst=true)
 (h:SL P n W q Z Q rest (l6 σ dst (.int .i64 (min a b))) L):
 SL P n W q Z Q (⟨dst,.call {callee:=.builtin .min,args:=#[x,y],argTypes:=#[t,t2]},ty,pos,lf,gd⟩::rest) σ L:=by
 refine oF _ Zb e f (λw=>?_) h;simp[execOp,resolve,invoke,builtin,c,d,Lib.run_min_ints]
theorem SA{t:TypeId}{A:Option Addr}{l c:Nat}{e s b:Nat}[a:nV P t e s b](w:World):(Op.equal t (.slice A l c) (.slice none 0 0)).run P w=.ok A.isNone w:=by rw[Op.equal,show Op.maxDepth=(Op.maxDepth-1)+1 from rfl,Op.equalIn];simp only[aB,aL a.ul,au];cases A<;>rfl
theorem yE{x y:Operand}{t t2:TypeId}{A:Option Addr}{l c:Nat}{e s b:Nat}[k:nV P t e s b](a:ev σ x=.slice A l c)(d:ev σ y=.slice none 0 0)(f:lP Z σ ⟨dst,.binOp .eql t x y t2,ty,pos,lf,gd⟩=true) (g:l8 n dst=true)(h:SL P n W q Z Q rest (l6 σ dst (.bool A.isNone)) L):SL P n W q Z Q (⟨dst,.binOp .eql t x y t2,ty,pos,lf,gd⟩::rest) σ L:=by
 refine oF _ Zb f g (λw=>?_) h;have i:(eqGuard .eql t x y (.slice A l c) (.slice none 0 0)).run P w=.ok () w:=rfl;have j:(binOp .eql t (.slice A l c) (.slice none 0 0)).run P w=.ok (.bool A.isNone) w:=by simp only[binOp,aB,SA,au,aH]
 simp only[execOp,a,d,aB,i,j,au,aH]
theorem zc{x a:Operand}{t len e s:Nat}[b:AV P t len e s]{g k i:Nat}(c:ev σ x=.pointer (some ⟨g,k,none⟩))(d:ev σ a=.int .i64 (i:Int))(o:i<len)(f:lP Z σ ⟨dst,.indexAddr t x a,ty,pos,lf,gd⟩=true) (j:l8 n dst=true)(h:SL P n W q Z Q rest (l6 σ dst (.pointer (some ⟨g,k+i*s,none⟩))) L):SL P n W q Z Q (⟨dst,.indexAddr t x a,ty,pos,lf,gd⟩::rest) σ L:=by refine oF _ Zb f j (λw=>?_) h;obtain⟨p,l,m⟩:=b.sj;simp[execOp,c,d,Instr.indexAt,aL b.ul,asIntOf,sizeOf,typeInfo,l,m,go_sem];omega
theorem FW{enc:α->List Value}{s:Nat}(lL:∀x,(enc x).length=s):∀(l:List α) (i j:Nat) (y y':α) (v:Value),l[i]? =some y->enc y'=(enc y).set j v->j<s->(l.set i y').flatMap enc=(l.flatMap enc).set (i*s+j) v
 |[],i,j,y,y',v,a,_,_=>by simp at a
 |x::r,0,j,y,y',v,a,b,c=>by
  have d:x=y:=by simpa using a
  subst d;rw[eN,bj,bj,b,jm,cV,iu,aj (by rw[lL];exact c)]
 |x::r,i+1,j,y,y',v,a,b,c=>by have e:=FW lL r i j y y' v (by simpa using a) b c;rw[gN,bj,bj,e,iu,ai (by rw[lL,bW];omega),lL];congr 2;rw[bW];omega
theorem wN{a x:Operand}{t:Nat}[C:pv P t]{A:Option Addr}{c s e i j:Nat}{enc:α->List Value}[D:m6 enc s]{l:List α}{y y':α}{v:Value}{L':List kM}(d:ev σ a=.pointer (some (pM A s i j))) (E:ev σ x=v) (m:v.oneCell'=true) (o:l[i]? =some y) (F:enc y'=(enc y).set j v) (G:j<s)(hp:oe L (li e s enc A c l) (li e s enc A c (l.set i y')) L')(H:q.pb=true) (I:q.nP L->q.nP L') (J:lP Z σ ⟨none,.store t a x,ty,pos,lf,gd⟩=true)(h:SL P n W q Z Q rest σ L'):SL P n W q Z Q (⟨none,.store t a x,ty,pos,lf,gd⟩::rest) σ L:=by
 have p:i<l.length:=(ax.1 o).1;refine zW H rfl J rfl λw r=>?_;have K:=uE (r.ok _ hp.mem).holds;rcases K with⟨_,M⟩|⟨g,cur,u,N,f,z,O,R,S⟩
 ·subst M;simp at p
 ·subst N;obtain⟨kI,T,V⟩:=C.size;have X:v.cells=#[v]:=by cases v<;>first|rfl|cases m
  have b:i*s+j<l.length*s:=by have:(i+1)*s<=l.length*s:=bL s p;rw[bW] at this;omega
  have Y:i*s+j<cur.size:=by have:l.length*s<=c*s:=bL s z;omega
  have B:=db P g (i*s+j) e [v] 0 cur w f (by simp;omega) (by simpa using m);have kF:(cur.toList.take (i*s+j+0)++[v]++cur.toList.drop (i*s+j+0+[v].length)).toArray=cur.setIfInBounds (i*s+j) v:=by apply Array.toList_inj.1;simp[fi,Y]
  rw[kF] at B;have kG:g<w.heap.size:=(aO.1 f).1;refine⟨w.setRow g (cur.setIfInBounds (i*s+j) v),L',?_,?_,I,h⟩
  ·have kH:pM (some ⟨g,0,none⟩) s i j=⟨g,i*s+j,none⟩:=by simp[pM]
   rw[kH] at d;simp[execOp,d,E,Instr.storeAt,Instr.sureAddr,storeVar,sizeOf,typeInfo,T,V,X,B]
  ·refine r.put hp rfl rfl rfl (by simp[World.setRow]) (λk _ b=>ep w g k _ (λe=>b ?_)) ⟨λk b=>?_,?_⟩ (λk b=>.inl ?_);·subst e;simp only[li];exact⟨u,_,rfl,rfl⟩
   ·simp only[li] at b;obtain⟨_,a,d,rfl⟩:=b;cases d;simpa[World.setRow] using kG
   ·simp only[li];refine .inr ⟨g,cur.setIfInBounds (i*s+j) v,u,rfl,eJ w g cur _ e (0,0) f,by rw[bB];exact z,O,by simpa using R,?_⟩;rw[FW D.len l i j y y' v o F G,bB,dE,j0,S]
   ·simp only[li] at b⊢;exact b
theorem LI(zero:List Value)(N:Nat)(f:0<zero.length):(Builtin.zeroCells zero.toArray N).toList=(List.replicate N zero).flatten:=by
 apply cK;intro k;have b:∀(m k:Nat),(List.replicate m zero).flatten[k]? =if k<m*zero.length then some (zero.toArray[k%zero.length]!) else none:=by
  intro m;induction m with
  |zero=>intro k;simp
  |succ m c=>
   intro k;rw[dr,gW];by_cases a:k<zero.length;·rw[cG Zo,aj (by rw[bW];omega),ad Zo];simp[dZ a,a]
   ·(rw[bZ Zo,c];have d:(k-zero.length<m*zero.length)↔(k<(m+1)*zero.length):=by rw[bW];omega);have e:(k-zero.length)%zero.length=k%zero.length:=by
     conv=>rhs;rw[show k=(k-zero.length)+zero.length from by omega]
     simp
    simp only[d,e]
 rw[b];simp only[Builtin.zeroCells,jl,iQ,bP,cf];split<;>rename_i a;·simp[a]
 ·simp[a]
theorem EA{enc:α->List Value}(z:α)(N:Nat):(List.replicate N z).flatMap enc=(List.replicate N (enc z)).flatten:=by
 induction N with
 |zero=>rfl
 |succ n a=>rw[dr,dr,bj,gW,a]
theorem SB{x:Operand}{t e s b:Nat}[o:nV P t e s b]{zero:List Value}[R:nE P e zero]{enc:α->List Value}[p:m6 enc s]{A:Option Addr}{c:Nat}{l:List α}{z:α}{L':List kM}(i:ev σ x=.slice A l.length c) (j:enc z=zero) (hp:oe L (li e s enc A c l) (li e s enc A c (List.replicate l.length z)) L')(S:q.pb=true) (H:q.nP L->q.nP L') (T:lP Z σ ⟨none,.call {callee:=.builtin .clear,args:=#[x],argTypes:=#[t]},ty,pos,lf,gd⟩=true)
 (h:SL P n W q Z Q rest σ L'):SL P n W q Z Q (⟨none,.call {callee:=.builtin .clear,args:=#[x],argTypes:=#[t]},ty,pos,lf,gd⟩::rest) σ L:=by
 have V:l8 n none=true:=rfl;refine tc S Zb T V λw B=>?_;have C:=B.ok _ hp.mem;cases l with
 |nil=>
  refine⟨.tuple #[],w,L',?_,B.put hp rfl rfl rfl (aA _) (λ_ _ _=>rfl) ⟨C.lt,C.holds⟩ (λk d=>.inl d),λD=>(by cases D),.inr H,h⟩;have f:=aL o.ul w;have E:(Builtin.clear_ #[t] ty #[.slice A 0 c]).run P w=.ok (.tuple #[]) w:=by cases A<;>simp[Builtin.clear_,f]
  simp only[execOp,resolve,bY,bk,cu,i,bm,aB,aH,au,invoke,builtin,E]
 |cons y r=>
  generalize hl:y::r=l at*;have I:0<l.length:=by rw[<-hl];simp
  rcases uE C.holds with⟨_,X⟩|⟨g,cur,J,Y,F,K,h7,h8,h9⟩;·rw[X] at I;simp at I
  ·subst Y;obtain⟨i',v,g3,g4,g5⟩:=R.q9;have kF:(zeroValue e).run P w=.ok v w:=by simp[zeroValue,typeInfo,g3,g4]
   have kG:zero.length=s:=by rw[<-j,p.len]
   have M:=LI zero l.length (by rw[kG];exact o.pos);have lL:((List.replicate l.length zero).flatten).length=l.length*s:=by rw[<-j,<-EA,tF p.len,bS]
   have kH:l.length*s<=cur.size:=by rw[h8];exact bL s K
   have kI:∀u∈(List.replicate l.length zero).flatten,u.oneCell'=true:=λu f=>by rw[<-j,<-EA] at f;obtain⟨x,_,i⟩:=cW.1 f;exact p.one x u i
   have G:=db P g 0 e ((List.replicate l.length zero).flatten) 0 cur w F (by rw[lL];simpa using kH) kI;generalize O:(cur.toList.take (0+0)++(List.replicate l.length zero).flatten++cur.toList.drop (0+0+((List.replicate l.length zero).flatten).length)).toArray=m at G;have kJ:g<w.heap.size:=(aO.1 F).1;refine⟨.tuple #[],w.setRow g m,L',?_,?_,λD=>(by cases D),.inr H,h⟩;·(have f:=aL o.ul w;have E:(Builtin.clear_ #[t] ty #[.slice (some ⟨g,0,none⟩) l.length c]).run P w=.ok (.tuple #[]) (w.setRow g m):=by(obtain⟨N,hN⟩:∃N,l.length=N+1:=⟨l.length-1,by omega⟩;rw[hN] at M G⊢;have kL:(storeCells ⟨g,0,none⟩ (List.replicate (N+1) zero).flatten).run P w=.ok () (w.setRow g m):=by simpa using G);simp[Builtin.clear_,f,kF,g5,M,kL]);simp only[execOp,resolve,bY,bk,cu,i,aB,aH,au,invoke,builtin,E]
   ·(refine B.put hp rfl rfl rfl (by simp[World.setRow]) (λk _ d=>ep w g k _ (λe=>d ?_)) ⟨λk d=>?_,?_⟩ (λk d=>.inl ?_);·subst e;simp only[li];exact⟨J,_,rfl,rfl⟩);·simp only[li] at d;obtain⟨_,a,ha,rfl⟩:=d;cases ha;simpa[World.setRow] using kJ
    ·(simp only[li];refine .inr ⟨g,m,J,rfl,eJ w g cur _ e (0,0) F,by rw[bS];exact K,h7,?_,?_⟩;·rw[<-O];simp[lL];omega);·rw[<-O,bS,EA,j];simp only[jK,aS,eu,cV];rw[cS (by rw[lL];exact aA _),aY (by rw[lL];exact aA _)]
    ·simp only[li] at d⊢;exact d
theorem qD{fn:Func}{L':List kM}{R:Value->List kM->Prop}(b:fn.results=#[])(c:∀w,Mem W w L->Mem W w L')(h:R (.tuple #[]) L'):tZ P W fn R .normal σ L:=by intro a w _ d;exact⟨_,jk b _ _ _,L',c w d,h⟩
variable{x y:Operand}{t t2:TypeId}{ol:List Oper}
theorem SD(h:SL P n W q Z Q (⟨dst,.call {callee:=.builtin .max,args:=#[x,y],argTypes:=#[t,t2]},ty,pos,lf,gd⟩::rest) σ L):SL P n W q Z Q (⟨dst,.call {callee:=.builtin .max,args:=#[x,y],argTypes:=#[t,t2]},ty,pos,lf,gd⟩::rest) σ L:=h
theorem SE(h:SL P n W q Z Q (⟨dst,.call {callee:=.builtin .min,args:=#[x,y],argTypes:=#[t,t2]},ty,pos,lf,gd⟩::rest) σ L):SL P n W q Z Q (⟨dst,.call {callee:=.builtin .min,args:=#[x,y],argTypes:=#[t,t2]},ty,pos,lf,gd⟩::rest) σ L:=h
theorem SG(h:SL P n W q Z Q (⟨dst,.convert t t2 x,ty,pos,lf,gd⟩::rest) σ L):SL P n W q Z Q (⟨dst,.convert t t2 x,ty,pos,lf,gd⟩::rest) σ L:=h
end
end
section
open Proofs.Tryz
theorem qE{P:Program}{t:Nat}(h:∃d,P.underlying t=some d/\(match d with|.struct _|.array _ _=>false|_=>true)=true:=by exact⟨_,rfl,rfl⟩)(a:∃i,P.info? t=some i/\i.size=1:=by exact⟨_,rfl,rfl⟩):pv P t:=⟨h,a⟩
theorem qb{P:Program}{t size:Nat}(h:∃d,P.underlying t=some d/\(match d with|.struct _|.array _ _=>true|_=>false)=true:=by exact⟨_,rfl,rfl⟩)(a:∃i,P.info? t=some i/\i.size=size:=by exact⟨_,rfl,rfl⟩):oD P t size:=⟨h,a⟩
theorem mA{P:Program}{t f off:Nat}(h:∃b a i,P.underlying t=some (.struct b)/\b[f]? =some a/\a.offset=off/\P.info? a.type=some i/\i.size≠0:=by exact⟨_,_,_,rfl,rfl,rfl,rfl,by decide⟩):mu P t f off:=⟨h⟩
theorem oa{P:Program}{t:Nat}{z:List Value}(h:∃i v,P.info? t=some i/\i.zero=some v/\v.cells=z.toArray:=by exact⟨_,_,rfl,rfl,rfl⟩):nE P t z:=⟨h⟩
theorem rV{P:Program}{t e size bytes:Nat}(h:P.underlying t=some (.slice e):=by rfl)(a:∃i z,P.info? e=some i/\i.zero=some z/\i.size=size/\i.bytes=bytes/\z.cells.size=size:=by exact⟨_,_,rfl,rfl,rfl,rfl,rfl⟩)(b:0<size:=by decide):nV P t e size bytes:=⟨h,a,b⟩
def FX(P:Program):List Field->List (Nat×Nat)->Bool
 |[],[]=>true
 |f::r,o::q=>f.offset.beq o.1&&(match P.info? f.type with|some i=>i.size.beq o.2|none=>false)&&FX P r q
 |_,_=>false
theorem LJ{P:Program}:∀{l:List Field} {o:List (Nat×Nat)},FX P l o=true->∀w,((l.mapM λf=>Functor.map (Prod.mk f.offset) (sizeOf f.type):Sem (List (Nat×Nat)))).run P w=.ok o w
 |[],[],_,w=>rfl
 |f::r,o::q,h,w=>by
  simp only[FX,aF] at h;obtain⟨⟨c,a⟩,d⟩:=h;have e:=LJ d;cases b:P.info? f.type with
  |none=>rw[b] at a;cases a
  |some i=>
   rw[b] at a;have g:=ik c;have j:i.size=o.2:=ik a;have k:∀w,(sizeOf f.type).run P w=.ok i.size w:=λw=>by simp[sizeOf,b,run_typeInfo]
   simp[List.mapM_cons,k,e,g,j]
theorem pX{P:Program}{t:Nat}{c:List (Nat×Nat)}{zero:List Value}[e:nE P t zero](h:(match P.underlying t with|some (.struct a)=>FX P a.toList c|_=>false)=true:=by kernel_rfl):pH P t c zero:=by
 cases b:P.underlying t with
 |none=>rw[b] at h;cases h
 |some d=>
  rw[b] at h;cases d<;>first|(cases h;done)|skip
  rename_i a;refine⟨⟨a,b,λw=>?_⟩,e⟩;have:=LJ h w;obtain⟨l⟩:=a;simp only[List.mapM_toArray] at this⊢;simp[this]
instance:pv prog 3:=qE
instance:nE prog 3 [.int .i64 0]:=oa
instance:Lw prog 4:=⟨rfl⟩
instance:pv prog 4:=qE
instance:pv prog 5:=qE
instance:nE prog 5 [.int .u8 0]:=oa
instance:xj prog 9:=⟨rfl⟩
instance:pv prog 9:=qE
instance:nE prog 9 [.string ByteArray.empty]:=oa
instance:pv prog 21:=qE
instance:nE prog 21 [.int .i32 0]:=oa
instance:nV prog 22 56 8 88:=rV
instance:nV prog 24 212 17 160:=rV
instance:pv prog 24:=qE
instance:nE prog 24 [.slice none 0 0]:=oa
instance:nV prog 25 166 8 80:=rV
instance:pv prog 25:=qE
instance:nE prog 25 [.slice none 0 0]:=oa
instance:oD prog 27 2:=qb
instance:mu prog 27 0 0:=mA
instance:mu prog 27 1 1:=mA
instance:nE prog 27 [.slice none 0 0,.slice none 0 0]:=oa
instance:pH prog 27 [(0,1),(1,1)] [.slice none 0 0,.slice none 0 0]:=pX
instance:nV prog 28 215 2 32:=rV
instance:pv prog 28:=qE
instance:nV prog 29 187 4 48:=rV
instance:pv prog 29:=qE
instance:oD prog 31 7:=qb
instance:mu prog 31 0 0:=mA
instance:mu prog 31 1 2:=mA
instance:mu prog 31 2 3:=mA
instance:mu prog 31 3 4:=mA
instance:mu prog 31 4 5:=mA
instance:mu prog 31 5 6:=mA
instance:nE prog 31 [.slice none 0 0,.slice none 0 0,.int .i64 0,.int .i64 0,.slice none 0 0,.slice none 0 0,.int .i64 0]:=oa
instance:pH prog 31 [(0,2),(2,1),(3,1),(4,1),(5,1),(6,1)] [.slice none 0 0,.slice none 0 0,.int .i64 0,.int .i64 0,.slice none 0 0,.slice none 0 0,.int .i64 0]:=pX
instance:nV prog 32 206 2 16:=rV
instance:pv prog 32:=qE
instance:oD prog 34 2:=qb
instance:mu prog 34 0 0:=mA
instance:mu prog 34 1 1:=mA
instance:nE prog 34 [.slice none 0 0,.slice none 0 0]:=oa
instance:pH prog 34 [(0,1),(1,1)] [.slice none 0 0,.slice none 0 0]:=pX
instance:nV prog 35 170 2 16:=rV
instance:pv prog 35:=qE
instance:oD prog 37 2:=qb
instance:mu prog 37 0 0:=mA
instance:mu prog 37 1 1:=mA
instance:nE prog 37 [.int .i64 0,.slice none 0 0]:=oa
instance:nV prog 38 64 18 216:=rV
instance:pv prog 38:=qE
instance:nV prog 39 201 7 72:=rV
instance:pv prog 39:=qE
instance:nE prog 39 [.slice none 0 0]:=oa
instance:oD prog 41 14:=qb
instance:mu prog 41 0 0:=mA
instance:mu prog 41 1 7:=mA
instance:mu prog 41 2 9:=mA
instance:mu prog 41 3 11:=mA
instance:mu prog 41 4 12:=mA
instance:mu prog 41 5 13:=mA
instance:nE prog 41 [.slice none 0 0,.slice none 0 0,.int .i64 0,.int .i64 0,.slice none 0 0,.slice none 0 0,.int .i64 0,.slice none 0 0,.slice none 0 0,.int .i64 0,.slice none 0 0,.slice none 0 0,.int .i64 0,.slice none 0 0]:=oa
instance:pH prog 41 [(0,7),(7,2),(9,2),(11,1),(12,1),(13,1)] [.slice none 0 0,.slice none 0 0,.int .i64 0,.int .i64 0,.slice none 0 0,.slice none 0 0,.int .i64 0,.slice none 0 0,.slice none 0 0,.int .i64 0,.slice none 0 0,.slice none 0 0,.int .i64 0,.slice none 0 0]:=pX
instance:pv prog 42:=qE
instance:oD prog 48 5:=qb
instance:mu prog 48 0 0:=mA
instance:mu prog 48 1 1:=mA
instance:mu prog 48 2 2:=mA
instance:mu prog 48 3 3:=mA
instance:mu prog 48 4 4:=mA
instance:nE prog 48 [.int .i64 0,.string ByteArray.empty,.string ByteArray.empty,.string ByteArray.empty,.int .i64 0]:=oa
instance:pH prog 48 [(0,1),(1,1),(2,1),(3,1),(4,1)] [.int .i64 0,.string ByteArray.empty,.string ByteArray.empty,.string ByteArray.empty,.int .i64 0]:=pX
instance:nV prog 50 3 1 8:=rV
instance:pv prog 50:=qE
instance:nE prog 50 [.slice none 0 0]:=oa
instance:nV prog 51 68 2 24:=rV
instance:pv prog 51:=qE
instance:nE prog 51 [.slice none 0 0]:=oa
instance:oD prog 53 2:=qb
instance:mu prog 53 0 0:=mA
instance:mu prog 53 1 1:=mA
instance:nE prog 53 [.slice none 0 0,.bool false]:=oa
instance:pH prog 53 [(0,1),(1,1)] [.slice none 0 0,.bool false]:=pX
instance:mu prog 56 0 0:=mA
instance:mu prog 56 1 1:=mA
instance:mu prog 56 2 6:=mA
instance:mu prog 56 3 7:=mA
instance:nV prog 57 48 5 64:=rV
instance:nV prog 60 9 1 16:=rV
instance:pv prog 60:=qE
instance:oD prog 62 5:=qb
instance:mu prog 62 0 0:=mA
instance:mu prog 62 1 1:=mA
instance:mu prog 62 2 2:=mA
instance:mu prog 62 3 3:=mA
instance:mu prog 62 4 4:=mA
instance:nE prog 62 [.int .i64 0,.string ByteArray.empty,.slice none 0 0,.int .i64 0,.slice none 0 0]:=oa
instance:pH prog 62 [(0,1),(1,1),(2,1),(3,1),(4,1)] [.int .i64 0,.string ByteArray.empty,.slice none 0 0,.int .i64 0,.slice none 0 0]:=pX
instance:oD prog 64 18:=qb
instance:mu prog 64 0 0:=mA
instance:mu prog 64 1 5:=mA
instance:mu prog 64 2 6:=mA
instance:mu prog 64 3 7:=mA
instance:mu prog 64 4 8:=mA
instance:mu prog 64 5 9:=mA
instance:mu prog 64 6 10:=mA
instance:mu prog 64 7 11:=mA
instance:mu prog 64 8 12:=mA
instance:mu prog 64 9 13:=mA
instance:nE prog 64 [.int .i64 0,.string ByteArray.empty,.string ByteArray.empty,.string ByteArray.empty,.int .i64 0,.slice none 0 0,.int .i64 0,.bool false,.bool false,.int .i64 0,.int .i64 0,.int .i64 0,.int .i64 0,.int .i64 0,.string ByteArray.empty,.slice none 0 0,.int .i64 0,.slice none 0 0]:=oa
instance:pH prog 64 [(0,5),(5,1),(6,1),(7,1),(8,1),(9,1),(10,1),(11,1),(12,1),(13,5)] [.int .i64 0,.string ByteArray.empty,.string ByteArray.empty,.string ByteArray.empty,.int .i64 0,.slice none 0 0,.int .i64 0,.bool false,.bool false,.int .i64 0,.int .i64 0,.int .i64 0,.int .i64 0,.int .i64 0,.string ByteArray.empty,.slice none 0 0,.int .i64 0,.slice none 0 0]:=pX
instance:oD prog 68 2:=qb
instance:mu prog 68 0 0:=mA
instance:nE prog 68 [.int .i64 0,.string ByteArray.empty]:=oa
instance:pH prog 68 [(0,1),(1,1)] [.int .i64 0,.string ByteArray.empty]:=pX
instance:nV prog 71 84 8 96:=rV
instance:nV prog 72 318 2 24:=rV
instance:pv prog 72:=qE
instance:oD prog 74 3:=qb
instance:mu prog 74 0 0:=mA
instance:mu prog 74 1 1:=mA
instance:mu prog 74 2 2:=mA
instance:nE prog 74 [.int .i64 0,.string ByteArray.empty,.slice none 0 0]:=oa
instance:pH prog 74 [(0,1),(1,1),(2,1)] [.int .i64 0,.string ByteArray.empty,.slice none 0 0]:=pX
instance:oD prog 76 14:=qb
instance:mu prog 76 0 0:=mA
instance:mu prog 76 1 3:=mA
instance:mu prog 76 2 4:=mA
instance:mu prog 76 3 5:=mA
instance:mu prog 76 4 6:=mA
instance:mu prog 76 5 7:=mA
instance:mu prog 76 6 8:=mA
instance:mu prog 76 7 9:=mA
instance:mu prog 76 8 10:=mA
instance:mu prog 76 9 11:=mA
instance:mu prog 76 10 12:=mA
instance:mu prog 76 11 13:=mA
instance:nE prog 76 [.int .i64 0,.string ByteArray.empty,.slice none 0 0,.int .i64 0,.int .i64 0,.int .i64 0,.int .i64 0,.int .i64 0,.int .i64 0,.slice none 0 0,.bool false,.int .i64 0,.int .i64 0,.int .i64 0]:=oa
instance:pH prog 76 [(0,3),(3,1),(4,1),(5,1),(6,1),(7,1),(8,1),(9,1),(10,1),(11,1),(12,1),(13,1)] [.int .i64 0,.string ByteArray.empty,.slice none 0 0,.int .i64 0,.int .i64 0,.int .i64 0,.int .i64 0,.int .i64 0,.int .i64 0,.slice none 0 0,.bool false,.int .i64 0,.int .i64 0,.int .i64 0]:=pX
instance:oD prog 78 29:=qb
instance:mu prog 78 0 0:=mA
instance:mu prog 78 1 14:=mA
instance:mu prog 78 2 28:=mA
instance:nE prog 78 [.slice none 0 0,.slice none 0 0,.int .i64 0,.int .i64 0,.slice none 0 0,.slice none 0 0,.int .i64 0,.slice none 0 0,.slice none 0 0,.int .i64 0,.slice none 0 0,.slice none 0 0,.int .i64 0,.slice none 0 0,.int .i64 0,.string ByteArray.empty,.slice none 0 0,.int .i64 0,.int .i64 0,.int .i64 0,.int .i64 0,.int .i64 0,.int .i64 0,.slice none 0 0,.bool false,.int .i64 0,.int .i64 0,.int .i64 0,.int .i64 0]:=oa
instance:pH prog 78 [(0,14),(14,14),(28,1)] [.slice none 0 0,.slice none 0 0,.int .i64 0,.int .i64 0,.slice none 0 0,.slice none 0 0,.int .i64 0,.slice none 0 0,.slice none 0 0,.int .i64 0,.slice none 0 0,.slice none 0 0,.int .i64 0,.slice none 0 0,.int .i64 0,.string ByteArray.empty,.slice none 0 0,.int .i64 0,.int .i64 0,.int .i64 0,.int .i64 0,.int .i64 0,.int .i64 0,.slice none 0 0,.bool false,.int .i64 0,.int .i64 0,.int .i64 0,.int .i64 0]:=pX
instance:oD prog 84 8:=qb
instance:mu prog 84 0 0:=mA
instance:mu prog 84 1 1:=mA
instance:mu prog 84 2 6:=mA
instance:mu prog 84 3 7:=mA
instance:nE prog 84 [.int .i64 0,.int .i64 0,.string ByteArray.empty,.string ByteArray.empty,.string ByteArray.empty,.int .i64 0,.int .i64 0,.string ByteArray.empty]:=oa
instance:nV prog 95 100 14 176:=rV
instance:nV prog 97 102 3 40:=rV
instance:pv prog 97:=qE
instance:nE prog 97 [.slice none 0 0]:=oa
instance:oD prog 100 14:=qb
instance:mu prog 100 0 0:=mA
instance:mu prog 100 2 2:=mA
instance:mu prog 100 5 9:=mA
instance:nE prog 100 [.int .i64 0,.int .i64 0,.int .i64 0,.int .i64 0,.int .i64 0,.string ByteArray.empty,.string ByteArray.empty,.string ByteArray.empty,.int .i64 0,.int .i64 0,.string ByteArray.empty,.slice none 0 0,.int .i64 0,.slice none 0 0]:=oa
instance:pH prog 100 [(0,1),(1,1),(2,1),(3,1),(4,5),(9,5)] [.int .i64 0,.int .i64 0,.int .i64 0,.int .i64 0,.int .i64 0,.string ByteArray.empty,.string ByteArray.empty,.string ByteArray.empty,.int .i64 0,.int .i64 0,.string ByteArray.empty,.slice none 0 0,.int .i64 0,.slice none 0 0]:=pX
instance:oD prog 102 3:=qb
instance:mu prog 102 0 0:=mA
instance:mu prog 102 1 1:=mA
instance:mu prog 102 2 2:=mA
instance:nE prog 102 [.string ByteArray.empty,.int .i64 0,.string ByteArray.empty]:=oa
instance:pH prog 102 [(0,1),(1,1),(2,1)] [.string ByteArray.empty,.int .i64 0,.string ByteArray.empty]:=pX
instance:pv prog 108:=qE
instance:oD prog 110 2:=qb
instance:mu prog 110 0 0:=mA
instance:mu prog 110 1 1:=mA
instance:nE prog 110 [.int .i64 0,.int .i64 0]:=oa
instance:pH prog 110 [(0,1),(1,1)] [.int .i64 0,.int .i64 0]:=pX
instance:mu prog 112 0 0:=mA
instance:mu prog 112 1 14:=mA
instance:mu prog 112 2 15:=mA
instance:nE prog 112 [.slice none 0 0,.slice none 0 0,.int .i64 0,.int .i64 0,.slice none 0 0,.slice none 0 0,.int .i64 0,.slice none 0 0,.slice none 0 0,.int .i64 0,.slice none 0 0,.slice none 0 0,.int .i64 0,.slice none 0 0,.int .i64 0,.int .i64 0,.int .i64 0]:=oa
instance:pH prog 112 [(0,14),(14,1),(15,2)] [.slice none 0 0,.slice none 0 0,.int .i64 0,.int .i64 0,.slice none 0 0,.slice none 0 0,.int .i64 0,.slice none 0 0,.slice none 0 0,.int .i64 0,.slice none 0 0,.slice none 0 0,.int .i64 0,.slice none 0 0,.int .i64 0,.int .i64 0,.int .i64 0]:=pX
instance:pv prog 119:=qE
instance:pv prog 120:=qE
instance:nE prog 120 [.map none]:=oa
instance:pv prog 126:=qE
instance:mu prog 128 0 0:=mA
instance:mu prog 128 1 7:=mA
instance:mu prog 128 2 12:=mA
instance:mu prog 128 3 17:=mA
instance:nE prog 128 [.slice none 0 0,.slice none 0 0,.int .i64 0,.int .i64 0,.slice none 0 0,.slice none 0 0,.int .i64 0,.int .i64 0,.string ByteArray.empty,.slice none 0 0,.int .i64 0,.slice none 0 0,.int .i64 0,.string ByteArray.empty,.string ByteArray.empty,.string ByteArray.empty,.int .i64 0,.slice none 0 0]:=oa
instance:pH prog 128 [(0,7),(7,5),(12,5),(17,1)] [.slice none 0 0,.slice none 0 0,.int .i64 0,.int .i64 0,.slice none 0 0,.slice none 0 0,.int .i64 0,.int .i64 0,.string ByteArray.empty,.slice none 0 0,.int .i64 0,.slice none 0 0,.int .i64 0,.string ByteArray.empty,.string ByteArray.empty,.string ByteArray.empty,.int .i64 0,.slice none 0 0]:=pX
instance:mu prog 151 0 0:=mA
instance:nE prog 151 [.int .i64 0,.string ByteArray.empty,.slice none 0 0,.int .i64 0,.int .i64 0,.int .i64 0,.int .i64 0,.int .i64 0,.int .i64 0,.slice none 0 0,.bool false,.int .i64 0,.int .i64 0,.int .i64 0]:=oa
instance:pH prog 151 [(0,14)] [.int .i64 0,.string ByteArray.empty,.slice none 0 0,.int .i64 0,.int .i64 0,.int .i64 0,.int .i64 0,.int .i64 0,.int .i64 0,.slice none 0 0,.bool false,.int .i64 0,.int .i64 0,.int .i64 0]:=pX
instance:pv prog 159:=qE
instance:nE prog 159 [.map none]:=oa
instance:pv prog 161:=qE
instance:nE prog 161 [.map none]:=oa
instance:oD prog 164 2:=qb
instance:mu prog 164 0 0:=mA
instance:mu prog 164 1 1:=mA
instance:nE prog 164 [.int .i64 0,.int .i64 0]:=oa
instance:pH prog 164 [(0,1),(1,1)] [.int .i64 0,.int .i64 0]:=pX
instance:oD prog 166 8:=qb
instance:mu prog 166 0 0:=mA
instance:mu prog 166 1 1:=mA
instance:mu prog 166 2 2:=mA
instance:mu prog 166 3 3:=mA
instance:mu prog 166 4 5:=mA
instance:mu prog 166 5 6:=mA
instance:nE prog 166 [.int .i64 0,.int .i64 0,.string ByteArray.empty,.int .i64 0,.int .i64 0,.string ByteArray.empty,.int .i64 0,.int .i64 0]:=oa
instance:pH prog 166 [(0,1),(1,1),(2,1),(3,2),(5,1),(6,2)] [.int .i64 0,.int .i64 0,.string ByteArray.empty,.int .i64 0,.int .i64 0,.string ByteArray.empty,.int .i64 0,.int .i64 0]:=pX
instance:oD prog 170 2:=qb
instance:mu prog 170 0 0:=mA
instance:mu prog 170 1 1:=mA
instance:nE prog 170 [.int .i64 0,.int .i64 0]:=oa
instance:pH prog 170 [(0,1),(1,1)] [.int .i64 0,.int .i64 0]:=pX
instance:oD prog 187 4:=qb
instance:mu prog 187 0 0:=mA
instance:mu prog 187 1 1:=mA
instance:mu prog 187 2 2:=mA
instance:nE prog 187 [.int .i64 0,.int .i64 0,.slice none 0 0,.bool false]:=oa
instance:pH prog 187 [(0,1),(1,1),(2,2)] [.int .i64 0,.int .i64 0,.slice none 0 0,.bool false]:=pX
instance:pv prog 194:=qE
instance:nE prog 194 [.pointer none]:=oa
instance:pv prog 196:=qE
instance:mu prog 198 0 0:=mA
instance:mu prog 198 1 14:=mA
instance:nE prog 198 [.int .i64 0,.string ByteArray.empty,.slice none 0 0,.int .i64 0,.int .i64 0,.int .i64 0,.int .i64 0,.int .i64 0,.int .i64 0,.slice none 0 0,.bool false,.int .i64 0,.int .i64 0,.int .i64 0,.nilFunc]:=oa
instance:pH prog 198 [(0,14),(14,1)] [.int .i64 0,.string ByteArray.empty,.slice none 0 0,.int .i64 0,.int .i64 0,.int .i64 0,.int .i64 0,.int .i64 0,.int .i64 0,.slice none 0 0,.bool false,.int .i64 0,.int .i64 0,.int .i64 0,.nilFunc]:=pX
instance:oD prog 201 7:=qb
instance:mu prog 201 0 0:=mA
instance:mu prog 201 1 2:=mA
instance:mu prog 201 2 3:=mA
instance:mu prog 201 3 4:=mA
instance:mu prog 201 4 5:=mA
instance:mu prog 201 5 6:=mA
instance:nE prog 201 [.int .i64 0,.int .i64 0,.int .i64 0,.int .i64 0,.int .i64 0,.string ByteArray.empty,.string ByteArray.empty]:=oa
instance:pH prog 201 [(0,2),(2,1),(3,1),(4,1),(5,1),(6,1)] [.int .i64 0,.int .i64 0,.int .i64 0,.int .i64 0,.int .i64 0,.string ByteArray.empty,.string ByteArray.empty]:=pX
instance:oD prog 206 2:=qb
instance:mu prog 206 0 0:=mA
instance:mu prog 206 1 1:=mA
instance:nE prog 206 [.int .i64 0,.int .i64 0]:=oa
instance:pH prog 206 [(0,1),(1,1)] [.int .i64 0,.int .i64 0]:=pX
instance:oD prog 210 10:=qb
instance:mu prog 210 0 0:=mA
instance:mu prog 210 1 1:=mA
instance:mu prog 210 2 2:=mA
instance:nE prog 210 [.bool false,.bool false,.int .i64 0,.int .i64 0,.string ByteArray.empty,.int .i64 0,.int .i64 0,.string ByteArray.empty,.int .i64 0,.int .i64 0]:=oa
instance:pH prog 210 [(0,1),(1,1),(2,8)] [.bool false,.bool false,.int .i64 0,.int .i64 0,.string ByteArray.empty,.int .i64 0,.int .i64 0,.string ByteArray.empty,.int .i64 0,.int .i64 0]:=pX
instance:oD prog 212 17:=qb
instance:mu prog 212 0 0:=mA
instance:mu prog 212 1 7:=mA
instance:nE prog 212 [.int .i64 0,.int .i64 0,.int .i64 0,.int .i64 0,.int .i64 0,.string ByteArray.empty,.string ByteArray.empty,.bool false,.bool false,.int .i64 0,.int .i64 0,.string ByteArray.empty,.int .i64 0,.int .i64 0,.string ByteArray.empty,.int .i64 0,.int .i64 0]:=oa
instance:pH prog 212 [(0,7),(7,10)] [.int .i64 0,.int .i64 0,.int .i64 0,.int .i64 0,.int .i64 0,.string ByteArray.empty,.string ByteArray.empty,.bool false,.bool false,.int .i64 0,.int .i64 0,.string ByteArray.empty,.int .i64 0,.int .i64 0,.string ByteArray.empty,.int .i64 0,.int .i64 0]:=pX
instance:oD prog 215 2:=qb
instance:mu prog 215 0 0:=mA
instance:mu prog 215 1 1:=mA
instance:nE prog 215 [.int .i64 0,.slice none 0 0]:=oa
instance:pH prog 215 [(0,1),(1,1)] [.int .i64 0,.slice none 0 0]:=pX
instance:AV prog 242 2 35 1:=⟨rfl,⟨_,rfl,rfl⟩⟩
instance:nE prog 242 [.slice none 0 0,.slice none 0 0]:=oa
instance:oD prog 245 0:=qb
instance:nE prog 245 []:=oa
instance:oD prog 249 1:=qb
instance:mu prog 249 0 0:=mA
instance:nE prog 249 [.slice none 0 0]:=oa
instance:pH prog 249 [(0,1)] [.slice none 0 0]:=pX
instance:oD prog 251 5:=qb
instance:mu prog 251 0 0:=mA
instance:nE prog 251 [.int .i64 0,.string ByteArray.empty,.string ByteArray.empty,.string ByteArray.empty,.int .i64 0]:=oa
instance:pH prog 251 [(0,5)] [.int .i64 0,.string ByteArray.empty,.string ByteArray.empty,.string ByteArray.empty,.int .i64 0]:=pX
instance:nV prog 291 5 1 1:=rV
instance:pv prog 291:=qE
instance:nE prog 291 [.slice none 0 0]:=oa
instance:AV prog 298 16 5 1:=⟨rfl,⟨_,rfl,rfl⟩⟩
instance:nE prog 298 [.int .u8 0,.int .u8 0,.int .u8 0,.int .u8 0,.int .u8 0,.int .u8 0,.int .u8 0,.int .u8 0,.int .u8 0,.int .u8 0,.int .u8 0,.int .u8 0,.int .u8 0,.int .u8 0,.int .u8 0,.int .u8 0]:=oa
instance:oD prog 318 2:=qb
instance:mu prog 318 0 0:=mA
instance:mu prog 318 1 1:=mA
instance:nE prog 318 [.int .i64 0,.string ByteArray.empty]:=oa
instance:pH prog 318 [(0,1),(1,1)] [.int .i64 0,.string ByteArray.empty]:=pX
instance:pv prog 322:=qE
instance:nE prog 322 [.pointer none]:=oa
instance:oD prog 325 7:=qb
instance:mu prog 325 0 0:=mA
instance:nE prog 325 [.int .i64 0,.int .i64 0,.int .i64 0,.int .i64 0,.int .i64 0,.string ByteArray.empty,.string ByteArray.empty]:=oa
instance:pH prog 325 [(0,7)] [.int .i64 0,.int .i64 0,.int .i64 0,.int .i64 0,.int .i64 0,.string ByteArray.empty,.string ByteArray.empty]:=pX
instance:nV prog 342 21 1 4:=rV
instance:mu prog 350 0 0:=mA
instance:nE prog 350 [.slice none 0 0,.slice none 0 0]:=oa
instance:pH prog 350 [(0,2)] [.slice none 0 0,.slice none 0 0]:=pX
instance:nV prog 354 39 1 24:=rV
instance:nV prog 365 164 2 16:=rV
instance:nV prog 371 51 1 24:=rV
instance:pv prog 373:=qE
instance:nV prog 377 379 16 16:=rV
instance:AV prog 379 16 5 1:=⟨rfl,⟨_,rfl,rfl⟩⟩
instance:oD prog 379 16:=qb
instance:nE prog 379 [.int .u8 0,.int .u8 0,.int .u8 0,.int .u8 0,.int .u8 0,.int .u8 0,.int .u8 0,.int .u8 0,.int .u8 0,.int .u8 0,.int .u8 0,.int .u8 0,.int .u8 0,.int .u8 0,.int .u8 0,.int .u8 0]:=oa
instance:pv prog 381:=qE
instance:mu prog 383 0 0:=mA
instance:mu prog 383 1 1:=mA
instance:nE prog 383 [.pointer none,.slice none 0 0]:=oa
instance:nV prog 393 322 1 8:=rV
instance:oD prog 395 7:=qb
instance:mu prog 395 0 0:=mA
instance:nE prog 395 [.int .i64 0,.int .i64 0,.int .i64 0,.int .i64 0,.int .i64 0,.string ByteArray.empty,.string ByteArray.empty]:=oa
instance:pH prog 395 [(0,7)] [.int .i64 0,.int .i64 0,.int .i64 0,.int .i64 0,.int .i64 0,.string ByteArray.empty,.string ByteArray.empty]:=pX
instance:AV prog 440 2 373 1:=⟨rfl,⟨_,rfl,rfl⟩⟩
instance:nV prog 478 50 1 24:=rV
end
section
open Go.RowKit
def qd(A:Option Addr)(c lo s:Nat):Option Addr:=if c=lo then A else A.map (·.add (lo*s))
theorem EB{g c lo s:Nat}(h:lo<c):qd (some ⟨g,0,none⟩) c lo s=some ⟨g,lo*s,none⟩:=by unfold qd;rw[ai Zo,aW,cz,cV]
section
variable{α:Type}{enc:α->List Value}{s:Nat}
theorem Is(h:∀x,(enc x).length=s):∀(l:List α) (i:Nat),(l.take i).flatMap enc=(l.flatMap enc).take (i*s)
 |[],i=>by simp
 |x::r,0=>by simp
 |x::r,i+1=>by rw[iF,bj,bj,Is h r i,dO,h,bW];rw[aY (l:=enc x) (by rw[h];omega)];rw[show i*s+1*s-s=i*s from by omega]
theorem LK(h:∀x,(enc x).length=s):∀(l:List α) (i:Nat),(l.drop i).flatMap enc=(l.flatMap enc).drop (i*s)
 |[],i=>by simp
 |x::r,0=>by simp
 |x::r,i+1=>by rw[iG,bj,LK h r i,eD,h,bW];rw[aX (show(enc x).length<=_ from by rw[h];omega),aS];rw[show i*s+1*s-s=i*s from by omega]
end
section
variable{P:Program}{n:Sz}{W:World}{q:Md}{Q:Exit->St->List kM->Prop}{σ:St}{L:List kM}{Z:Array Oper}{rest:List Oper}
 {dst:Option Nat} {ty:TypeId} {pos:String} {lf:Array Edge} {gd:Option (Nat×Bool)} {α:Type} {enc:α->List Value}
theorem SH{x:Operand}{a:Addr}(b:ev σ x=.pointer (some a))(c:lP Z σ ⟨dst,.nilCheck x,ty,pos,lf,gd⟩=true) (d:l8 n dst=true)(h:SL P n W q Z Q rest (l6 σ dst (.pointer (some a))) L):SL P n W q Z Q (⟨dst,.nilCheck x,ty,pos,lf,gd⟩::rest) σ L:=by refine oF _ Zb c d (λw=>?_) h;simp[execOp,b]
theorem z6{x y:Operand}{t t2:TypeId}{k:IntKind}{a b:Int}(c:ev σ x=.int k a)(d:ev σ y=.int k b)(e:b≠0)(f:lP Z σ ⟨dst,.binOp .rem t x y t2,ty,pos,lf,gd⟩=true) (g:l8 n dst=true)(h:SL P n W q Z Q rest (l6 σ dst (.int k (a.tmod b))) L):SL P n W q Z Q (⟨dst,.binOp .rem t x y t2,ty,pos,lf,gd⟩::rest) σ L:=by refine oF _ Zb f g (λw=>?_) h;simp[execOp,c,d,go_sem,e]
theorem rW{x d:Operand}{t:TypeId}{A:Option Addr}{m c h:Nat}{e s b:Nat}[f:nV P t e s b](g:ev σ x=.slice A m c) (i:ev σ d=.int .i64 (h:Int)) (j:h<=c)(k:lP Z σ ⟨dst,.slice t x none (some d) none,ty,pos,lf,gd⟩=true) (l:l8 n dst=true)(H:SL P n W q Z Q rest (l6 σ dst (.slice A h c)) L):SL P n W q Z Q (⟨dst,.slice t x none (some d) none,ty,pos,lf,gd⟩::rest) σ L:=by
 refine uD _ rfl k l (λw p=>?_) H;have o:=yD (P:=P) (t:=t) w;simp only[execOp,g,i,aW,cO,Instr.sliceAt,Instr.slice,aB,aL f.ul,au,Sa j,o,aH];have:(if c=0 then A else A.map (·.add (0*s)))=A:=by
  split;·rfl
  ·cases A with
   |none=>rfl
   |some a=>simp[Addr.add]
 rw[this];rfl
theorem vX{x lo:Operand}{t:TypeId}{A:Option Addr}{m c l:Nat}{e s b:Nat}[a:nV P t e s b](d:ev σ x=.slice A m c) (f:ev σ lo=.int .i64 (l:Int)) (hl:l<=m)(g:lP Z σ ⟨dst,.slice t x (some lo) none none,ty,pos,lf,gd⟩=true) (h:l8 n dst=true)(H:SL P n W q Z Q rest (l6 σ dst (.slice (qd A c l s) (m-l) (c-l))) L):SL P n W q Z Q (⟨dst,.slice t x (some lo) none none,ty,pos,lf,gd⟩::rest) σ L:=by refine uD _ rfl g h (λw j=>?_) H;have i:=yD (P:=P) (t:=t) w;simp only[execOp,d,f,aW,cO,Instr.sliceAt,Instr.slice,aB,aL a.ul,au,LC hl,i,aH];rfl
theorem SI{x lo a:Operand}{t:TypeId}{A:Option Addr}{m c l h:Nat}{e s b:Nat}[d:nV P t e s b](f:ev σ x=.slice A m c) (g:ev σ lo=.int .i64 (l:Int)) (i:ev σ a=.int .i64 (h:Int)) (hl:l<=h) (j:h<=c)(k:lP Z σ ⟨dst,.slice t x (some lo) (some a) none,ty,pos,lf,gd⟩=true) (o:l8 n dst=true)(H:SL P n W q Z Q rest (l6 σ dst (.slice (qd A c l s) (h-l) (c-l))) L):SL P n W q Z Q (⟨dst,.slice t x (some lo) (some a) none,ty,pos,lf,gd⟩::rest) σ L:=by refine uD _ rfl k o (λw r=>?_) H;have p:=yD (P:=P) (t:=t) w;simp only[execOp,f,g,i,aW,cO,Instr.sliceAt,Instr.slice,aB,aL d.ul,au,Sb hl j,p,aH];rfl
theorem SJ{x:Operand}{lo a d:Option Operand}{t:TypeId}{A:Option Addr}{k c l h m:Nat}{e s b:Nat}[f:nV P t e s b](g:ev σ x=.slice A k c) (i:∀w,(Instr.sliceBounds true k c (lo.map (ev σ)) (a.map (ev σ)) (d.map (ev σ))).run P w=.ok (l,h,m) w)(j:lP Z σ ⟨dst,.slice t x lo a d,ty,pos,lf,gd⟩=true) (o:l8 n dst=true)(H:∀v,SL P n W q Z Q rest (l6 σ dst v) L):SL P n W q Z Q (⟨dst,.slice t x lo a d,ty,pos,lf,gd⟩::rest) σ L:=by refine uD (.slice (if m=l then A else A.map (·.add (l*s))) (h-l) (m-l)) rfl j o (λw r=>?_) (H _);have p:=yD (P:=P) (t:=t) w;simp only[execOp,g,Instr.sliceAt,Instr.slice,aB,aL f.ul,au,i,p,aH]
theorem Own.take{s:Nat}[a:m6 enc s]{e:Nat}{A:Option Addr}{c:Nat}{l:List α}{w:World}(h:Own e s enc A c l w)(i:Nat):Own e s enc A c (l.take i) w:=by
 rcases h with⟨b,rfl⟩|⟨g,cur,d,rfl,f,n,j,k,m⟩;·exact .inl ⟨b,by simp⟩
 ·refine .inr ⟨g,cur,d,rfl,f,by rw[aC];omega,j,k,?_⟩;rw[Is a.len,<-m,dG,aC];congr 1;rcases Nat.le_total i l.length with h|h
  ·rw[ci h,ci (bL s h)]
  ·rw[jn h,jn (bL s h)]
theorem Mem.EC{s:Nat}[f:m6 enc s]{e:Nat}{A:Option Addr}{c:Nat}{l:List α}{w:World}{L':List kM}(b:Mem W w L)(i:Nat)(hp:oe L (li e s enc A c l) (li e s enc A c (l.take i)) L'):Mem W w L':=by
 have d:=b.ok _ hp.mem;refine b.put hp rfl rfl rfl (aA _) (λ_ _ _=>rfl) ⟨λk a=>d.lt k ?_,?_⟩ (λk a=>.inl ?_);·simp only[li] at a⊢;exact a
 ·simp only[li];exact(uE d.holds).take i
 ·simp only[li] at a⊢;exact a
theorem SK{t:Nat}{e s b:Nat}[D:nV P t e s b][m:m6 enc s]{x y:Operand}{A:Option Addr}{c i j:Nat}{l:List α}{L':List kM}(r:ev σ x=.slice A i c) (J:ev σ y=.slice (qd A c j s) (l.length-j) (c-j)) (K:i<=j) (M:j<=l.length) (N:0<l.length)(hp:oe L (li e s enc A c l) (li e s enc A c (l.take i++l.drop j)) L')(O:q.pb=true) (R:q.nP L->q.nP L') (S:lP Z σ ⟨dst,.call {callee:=.builtin .append,args:=#[x,y],argTypes:=#[t,t]},ty,pos,lf,gd⟩=true) (T:l8 n dst=true)
 (h:SL P n W q Z Q rest (l6 σ dst (.slice A (i+(l.length-j)) c)) L'):
 SL P n W q Z Q (⟨dst,.call {callee:=.builtin .append,args:=#[x,y],argTypes:=#[t,t]},ty,pos,lf,gd⟩::rest) σ L:=by
 refine tc O Zb S T λw E=>?_;have V:=E.ok _ hp.mem;rcases uE V.holds with⟨_,X⟩|⟨g,cur,F,rfl,p,Y,h7,h8,G⟩
 ·subst X;simp at N
 obtain⟨kF,z,h1,H,v,h4,h5⟩:=D.sj;have kT:=tF m.len l;have o:=tF m.len (l.drop j);have kG:=tF m.len (l.take i);rw[bi] at o;rw[aC,ci Zo] at kG;have kX:j*s<=l.length*s:=bL s M;have kY:i*s<=j*s:=bL s K;have rU:l.length*s<=c*s:=bL s Y;have kH:(l.length-j)*s=l.length*s-j*s:=Nat.sub_mul ..;obtain⟨a,B,kI⟩:∃a,qd (some ⟨g,0,none⟩) c j s=some a/\∀k u,((l.drop j).flatMap enc)[k]? =some u->w.cell? (a.add k)=some u:=by
  by_cases kJ:c=j;·refine⟨⟨g,0,none⟩,by unfold qd;rw[aj kJ],λk u d=>?_⟩;rw[aX Zo] at d;simp at d
  ·refine⟨⟨g,j*s,none⟩,EB Zo,λk u d=>?_⟩;rw[LK m.len,dQ,<-G,dP] at d;split at d;·rw[cz,dS w g _ cur e (0,0) p,<-dM];exact d
   ·cases d
 have kL:∀u∈(l.drop j).flatMap enc,u.oneCell'=true:=λu d=>by obtain⟨x,_,r⟩:=cW.1 d;exact m.one x u r
 have I:=run_append_room (P:=P) w t ty e kF D.ul h1 g i c cur p a (l.length-j) (c-j) ((l.drop j).flatMap enc) (by rw[v];exact o) kI kL Zo (by rw[v];omega);rw[v] at I;have kO:g<w.heap.size:=(aO.1 p).1;refine⟨_,w.setRow g (cur.toList.take (i*s)++(l.drop j).flatMap enc++cur.toList.drop (i*s+((l.drop j).flatMap enc).length)).toArray,L',?_,?_,λH=>(by cases H),.inr R,h⟩;·simp only[execOp,resolve,bY,bk,cu,r,J,B,aB,aH,au,invoke,builtin,I]
 ·refine E.put hp rfl rfl rfl (by simp[World.setRow]) (λk _ f=>ep w g k _ (λe=>f ?_)) ⟨λk f=>?_,?_⟩ (λk f=>.inl ?_);·subst e;simp only[li];exact⟨F,_,rfl,rfl⟩
  ·simp only[li] at f;obtain⟨_,a,B,rfl⟩:=f;cases B;simpa[World.setRow] using kO
  ·simp only[li];have C:cur.toList.length=c*s:=by simpa using h8
   refine .inr ⟨g,_,F,rfl,eJ w g cur _ e (0,0) p,by simp only[ak,aC,bi];omega,h7,?_,?_⟩;·simp only[cf,ak,aC,bi,o,C];omega
   ·(have kQ:(l.take i++l.drop j).length*s=i*s+(l.length*s-j*s):=by rw[ak,aC,bi,ci Zo,bW,kH]);rw[kQ,bD];simp only;rw[cS (by simp only[ak,aC,o,C];omega),aY (by simp only[ak,aC,o,C];omega)];congr 1;rw[Is m.len,<-G,dG,ci Zo]
  ·simp only[li] at f⊢;exact f
theorem CV{x:Operand}{t e s b:Nat}[E:nV P t e s b]{zero:List Value}[M:nE P e zero][o:m6 enc s]{A:Option Addr}{c lo k d:Nat}{l:List α}(i:ev σ x=.slice (qd A c lo s) k d) (z:α) (p:enc z=zero) (F:li e s enc A c l∈L) (O:l.length<=lo) (f:lo+k<=c)(R:q.pb=true) (S:lP Z σ ⟨none,.call {callee:=.builtin .clear,args:=#[x],argTypes:=#[t]},ty,pos,lf,gd⟩=true)
 (h:SL P n W q Z Q rest σ L):SL P n W q Z Q (⟨none,.call {callee:=.builtin .clear,args:=#[x],argTypes:=#[t]},ty,pos,lf,gd⟩::rest) σ L:=by
 have T:l8 n none=true:=rfl;refine tc R Zb S T λw r=>?_;have V:=r.ok _ F;have j:=aL E.ul w;cases k with
 |zero=>
  refine⟨.tuple #[],w,L,?_,r,λy=>(by cases y),.inr id,h⟩;have B:(Builtin.clear_ #[t] ty #[.slice (qd A c lo s) 0 d]).run P w=.ok (.tuple #[]) w:=by cases qd A c lo s<;>simp[Builtin.clear_,j]
  simp only[execOp,resolve,bY,bk,cu,i,aB,aH,au,invoke,builtin,B]
 |succ N=>
  rcases uE V.holds with⟨C,_⟩|⟨g,cur,C,X,D,Y,h7,G,h9⟩;·omega
  ·subst X;rw[EB Zo] at i;obtain⟨i',v,g3,g4,g5⟩:=M.q9;have kF:(zeroValue e).run P w=.ok v w:=by simp[zeroValue,typeInfo,g3,g4]
   have kG:zero.length=s:=by rw[<-p,o.len]
   have kH:=LI zero (N+1) (by rw[kG];exact E.pos);have lL:((List.replicate (N+1) zero).flatten).length=(N+1)*s:=by rw[<-p,<-EA,tF o.len,bS]
   have kI:lo*s+(N+1)*s<=cur.size:=by rw[G,<-bW];exact bL s f
   have kJ:l.length*s<=lo*s:=bL s O;have kL:∀u∈(List.replicate (N+1) zero).flatten,u.oneCell'=true:=λu j=>by rw[<-p,<-EA] at j;obtain⟨x,_,i⟩:=cW.1 j;exact o.one x u i
   have H:=db P g (lo*s) e ((List.replicate (N+1) zero).flatten) 0 cur w D (by rw[lL];simpa using kI) kL;generalize I:(cur.toList.take (lo*s+0)++(List.replicate (N+1) zero).flatten++cur.toList.drop (lo*s+0+((List.replicate (N+1) zero).flatten).length)).toArray=m at H;have kO:g<w.heap.size:=(aO.1 D).1;obtain⟨pre,post,J⟩:=d9 F;have kQ:oe L (li e s enc (some ⟨g,0,none⟩) c l) (li e s enc (some ⟨g,0,none⟩) c l) L:=⟨pre,post,J,J⟩;refine⟨.tuple #[],w.setRow g m,L,?_,?_,λy=>(by cases y),.inr id,h⟩;·(have B:(Builtin.clear_ #[t] ty #[.slice (some ⟨g,lo*s,none⟩) (N+1) d]).run P w=.ok (.tuple #[]) (w.setRow g m):=by(have kT:(storeCells ⟨g,lo*s,none⟩ (List.replicate (N+1) zero).flatten).run P w=.ok () (w.setRow g m):=by simpa using H);simp[Builtin.clear_,j,kF,g5,kH,kT]);simp only[execOp,resolve,bY,bk,cu,i,aB,aH,au,invoke,builtin,B]
   ·(refine r.put kQ rfl rfl rfl (by simp[World.setRow]) (λk _ f=>ep w g k _ (λe=>f ?_)) ⟨λk f=>?_,?_⟩ (λk f=>.inl f);·subst e;simp only[li];exact⟨C,_,rfl,rfl⟩);·simp only[li] at f;obtain⟨_,a,ha,rfl⟩:=f;cases ha;simpa[World.setRow] using kO
    ·(simp only[li];have K:cur.toList.length=cur.size:=by simp);refine .inr ⟨g,m,C,rfl,eJ w g cur _ e (0,0) D,Y,h7,?_,?_⟩;·rw[<-I,<-G];simp only[eu,lL,cf,ak,aC,bi,K];omega
     ·rw[<-I];simp only[eu];rw[aV,cS (by rw[aC,K];omega),dG,ci kJ];exact h9
theorem LL{s:Nat}(lL:∀x,(enc x).length=s):∀(l:List α) (i:Nat) (y':α),i<l.length->(l.set i y').flatMap enc=(l.flatMap enc).take (i*s)++enc y'++(l.flatMap enc).drop (i*s+s)
 |[],i,y',h=>by simp at h
 |x::r,0,y',_=>by rw[eN,bj,bj,jm,jK,aS,cV];congr 1;rw[eD,lL,aX (by rw[lL];omega),dF,iK,aS]
 |x::r,i+1,y',h=>by have a:=LL lL r i y' (by simpa using h);rw[gN,bj,bj,a,bW,kB];rw[dO,lL,aY (l:=enc x) (by rw[lL];omega),eD,lL,aX (show(enc x).length<=_ from by rw[lL];omega),aS];rw[show i*s+s-s=i*s from by omega,show i*s+s+s-s=i*s+s from by omega];simp only[aV]
theorem z7{a x:Operand}{t:Nat}{A:Option Addr}{c s e i:Nat}[z:oD P t s]{enc:α->List Value}[j:m6 enc s]{l:List α}{y':α}{L':List kM}(f:ev σ a=.pointer (some (pM A s i 0))) (B:ev σ x=.agg (enc y').toArray) (m:i<l.length)(hp:oe L (li e s enc A c l) (li e s enc A c (l.set i y')) L')(C:q.pb=true) (D:q.nP L->q.nP L') (E:lP Z σ ⟨none,.store t a x,ty,pos,lf,gd⟩=true)(h:SL P n W q Z Q rest σ L'):SL P n W q Z Q (⟨none,.store t a x,ty,pos,lf,gd⟩::rest) σ L:=by
 refine zW C rfl E rfl λw r=>?_;have F:=uE (r.ok _ hp.mem).holds;rcases F with⟨_,G⟩|⟨g,cur,u,H,o,v,I,J,K⟩
 ·subst G;simp at m
 ·subst H;obtain⟨T,M,N⟩:=z.sj;have b:i*s+s<=l.length*s:=by have:(i+1)*s<=l.length*s:=bL s m;rw[bW] at this;omega
  have V:l.length*s<=c*s:=bL s v;have d:=j.len y';have y:=db P g (i*s) e (enc y') 0 cur w o (by rw[d];simp;omega) (j.one y');simp only[eu,d] at y;have O:g<w.heap.size:=(aO.1 o).1;refine⟨w.setRow g (cur.toList.take (i*s)++enc y'++cur.toList.drop (i*s+s)).toArray,L',?_,?_,D,h⟩
  ·have R:pM (some ⟨g,0,none⟩) s i 0=⟨g,i*s,none⟩:=by simp[pM]
   rw[R] at f;have S:(sizeOf t).run P w=.ok s w:=by simp[sizeOf,typeInfo,M,N]
   simp[execOp,f,B,Instr.storeAt,Instr.sureAddr,storeVar,S,Value.cells,d,y]
  ·have p:cur.toList.length=c*s:=by simpa using J
   refine r.put hp rfl rfl rfl (by simp[World.setRow]) (λk _ b=>ep w g k _ (λe=>b ?_)) ⟨λk b=>?_,?_⟩ (λk b=>.inl ?_);·subst e;simp only[li];exact⟨u,_,rfl,rfl⟩
   ·simp only[li] at b;obtain⟨_,a,f,rfl⟩:=b;cases f;simpa[World.setRow] using O
   ·(simp only[li];refine .inr ⟨g,_,u,rfl,eJ w g cur _ e (0,0) o,by rw[bB];exact v,I,?_,?_⟩;·simp only[cf,ak,aC,bi,d,p];omega);·rw[bB,LL j.len l i y' m,<-K];simp only[aV];rw[dO,aC,p,ci Zo,dO,d];rw[aY (l:=enc y') (by rw[d];omega),aY (l:=cur.toList.take (i*s)) (by rw[aC,p];omega)];rw[dG,ci Zo,eE];congr 3;omega
   ·simp only[li] at b⊢;exact b
theorem Mem.pick{w:World}(n:Nat)(ED:List Nat)(r:ED.Pairwise (λa b=>a≠b))(h:Mem W w L):Mem W w (ED.filterMap (λi=>(L.take n)[i]?)++L.drop n):=by
 have o:=fb.1 h.yA;have key:∀(i j:Nat) (a b:kM),i≠j->L[i]? =some a->L[j]? =some b->∀k,a.S k->¬b.S k:=by
  intro i j a b l c e k p q;obtain⟨d,rfl⟩:=ax.1 c;obtain⟨m,rfl⟩:=ax.1 e;rcases Nat.lt_or_gt_of_ne l with h|h
  ·exact o i j d m h k p q
  ·exact o j i m d h k q p
 have g:∀(i:Nat) (a:kM),(L.take n)[i]? =some a->L[i]? =some a/\i<n:=by
  intro i a c;rw[dP] at c;split at c;·exact⟨c,by assumption⟩
  ·cases c
 refine⟨h.os,h.tape,h.output,h.size,h.drawn,λx f=>?_,ek.2 ⟨?_,h.yA.sublist (List.drop_sublist _ _),λa c b e=>?_⟩⟩
 ·rcases aQ.1 f with f|f;·obtain⟨i,_,d⟩:=iR.1 f;exact h.ok x (ar (g i x d).1)
  ·exact h.ok x (dV f)
 ·rw[jy];exact r.imp λ{i j} l a c b e=>key i j a b l (g i a c).1 (g j b e).1
 ·obtain⟨i,_,d⟩:=iR.1 c;obtain⟨j,m,rfl⟩:=cr e;have d:=g i a d;rw[jb];exact key i (n+j) a _ Zo d.1 (ad _)
end
section
variable{P:Program}{n:Sz}{W:World}{q:Md}{Q:Exit->St->List kM->Prop}{σ:St}{L:List kM}{Z:Array Oper}{rest:List Oper}
 {dst:Option Nat} {ty:TypeId} {pos:String} {lf:Array Edge} {gd:Option (Nat×Bool)}
theorem SM{x y:Operand}{t t2:TypeId}{a b:Int}(c:ev σ x=.int .i64 a)(d:ev σ y=.int .i64 b)(g:-9223372036854775808<=a*b/\a*b<=9223372036854775807)(e:lP Z σ ⟨dst,.binOp .mul t x y t2,ty,pos,lf,gd⟩=true) (f:l8 n dst=true)(h:SL P n W q Z Q rest (l6 σ dst (.int .i64 (a*b))) L):SL P n W q Z Q (⟨dst,.binOp .mul t x y t2,ty,pos,lf,gd⟩::rest) σ L:=by refine oF _ Zb e f (λw=>FR ?_ w) h;simp only[yB,c,d,CP];rw[dT _ Zo]
theorem CW{c:Code}(h:SC P n W c (λe b L'=>match e with|.goto _=>False|e=>Q e b L') σ L):SC P n W (.scope c) Q σ L:=by
 unfold SC at h⊢;intro a w f g;refine wp_scope_straight (eP (h a w f g) ?_);rintro e k w' ⟨b,L',i,j,d⟩;cases e;case goto=>exact d.elim
 all_goals exact⟨b,L',i,j,d⟩
end
section
variable{P:Program}{n:Sz}{W:World}{q:Md}{Q:Exit->St->List kM->Prop}{σ:St}{L:List kM}{Z:Array Oper}{rest:List Oper}
 {dst:Option Nat} {ty:TypeId} {pos:String} {lf:Array Edge} {gd:Option (Nat×Bool)}
def LM(op:BinOp)(a b:Int):Option Bool:=match op with
 |.eql=>some (a==b)
 |.neq=>some (a != b)
 |.lss=>some (decide (a<b))
 |.leq=>some (decide (a<=b))
 |.gtr=>some (decide (b<a))
 |.geq=>some (decide (b<=a))
 |_=>none
theorem SN{op:BinOp}{x y:Operand}{t t2:TypeId}{k:IntKind}{a b:Int}{r:Bool}(d:ev σ x=.int k a)(e:ev σ y=.int k b)(c:LM op a b=some r)(f:lP Z σ ⟨dst,.binOp op t x y t2,ty,pos,lf,gd⟩=true) (g:l8 n dst=true)(h:SL P n W q Z Q rest (l6 σ dst (.bool r)) L):SL P n W q Z Q (⟨dst,.binOp op t x y t2,ty,pos,lf,gd⟩::rest) σ L:=by refine oF _ Zb f g (λw=>?_) h;unfold LM at c;split at c<;>cases c<;>simp[execOp,d,e,go_sem]
theorem AW{x y:Operand}{t t2:TypeId}{a b:Int}(c:ev σ x=.int .i64 a)(d:ev σ y=.int .i64 b)(e:b≠0)(i:-9223372036854775808<=a.tdiv b/\a.tdiv b<=9223372036854775807)(f:lP Z σ ⟨dst,.binOp .quo t x y t2,ty,pos,lf,gd⟩=true) (g:l8 n dst=true)(h:SL P n W q Z Q rest (l6 σ dst (.int .i64 (a.tdiv b))) L):SL P n W q Z Q (⟨dst,.binOp .quo t x y t2,ty,pos,lf,gd⟩::rest) σ L:=by refine oF _ Zb f g (λw=>?_) h;simp[execOp,c,d,go_sem,e];exact dT _ Zo
theorem It{x y:Operand}{t t2:TypeId}{k:IntKind}{a b:Int}(c:ev σ x=.int k a)(d:ev σ y=.int k b)(e:lP Z σ ⟨dst,.binOp .add t x y t2,ty,pos,lf,gd⟩=true) (f:l8 n dst=true)(h:SL P n W q Z Q rest (l6 σ dst (.int k (k.wrap (a+b)))) L):SL P n W q Z Q (⟨dst,.binOp .add t x y t2,ty,pos,lf,gd⟩::rest) σ L:=by refine oF _ Zb e f (λw=>?_) h;simp[execOp,c,d,go_sem]
theorem FY{x y:Operand}{t t2:TypeId}{a b:Nat}(e:ev σ x=.int .i64 (a:Int))(f:ev σ y=.int .i64 (b:Int))(g:a<=9223372036854775807)(i:b<=9223372036854775807)(j:lP Z σ ⟨dst,.binOp .and t x y t2,ty,pos,lf,gd⟩=true) (k:l8 n dst=true)(h:SL P n W q Z Q rest (l6 σ dst (.int .i64 ((a&&& b:Nat):Int))) L):SL P n W q Z Q (⟨dst,.binOp .and t x y t2,ty,pos,lf,gd⟩::rest) σ L:=by
 refine oF _ Zb j k (λw=>?_) h;have l:(eqGuard .and t x y (.int .i64 (a:Int)) (.int .i64 (b:Int)))=pure ():=rfl;have d:∀c:Nat,c<=9223372036854775807->(BitVec.ofInt 64 (c:Int)).toNat=c:=by intro c o;rw[iS,<-jo,bC];exact dZ Zo
 have m:(binOp .and t (.int .i64 (a:Int)) (.int .i64 (b:Int)):Sem Value)=pure (.int .i64 (IntKind.i64.wrap ((a&&& b:Nat):Int))):=by have:(Op.intBits .and .i64 (a:Int) (b:Int):Sem Value)=pure (.int .i64 (IntKind.i64.wrap ((BitVec.ofInt 64 (a:Int)&&& BitVec.ofInt 64 (b:Int)).toNat:Int))):=rfl;rw[BitVec.toNat_and,d a g,d b i] at this;rw[<-this];simp[binOp]
 have p:a&&& b<=a:=Nat.and_le_left;simp only[execOp,e,f,l,m,aB,aH,au];rw[dT _ Zo]
theorem EE{x y:Operand}{t t2:TypeId}{a b:Nat}(g:ev σ x=.int .i64 (a:Int))(i:ev σ y=.int .i64 (b:Int))(d:a<2^ 63)(e:b<2^ 63)(j:lP Z σ ⟨dst,.binOp .or t x y t2,ty,pos,lf,gd⟩=true) (k:l8 n dst=true)(h:SL P n W q Z Q rest (l6 σ dst (.int .i64 ((a|||b:Nat):Int))) L):SL P n W q Z Q (⟨dst,.binOp .or t x y t2,ty,pos,lf,gd⟩::rest) σ L:=by
 refine oF _ Zb j k (λw=>?_) h;have l:(eqGuard .or t x y (.int .i64 (a:Int)) (.int .i64 (b:Int)))=pure ():=rfl;have f:∀c:Nat,c<2^ 63->(BitVec.ofInt 64 (c:Int)).toNat=c:=by intro c o;rw[iS,<-jo,bC];exact dZ Zo
 have m:(binOp .or t (.int .i64 (a:Int)) (.int .i64 (b:Int)):Sem Value)=pure (.int .i64 (IntKind.i64.wrap ((a|||b:Nat):Int))):=by have:(Op.intBits .or .i64 (a:Int) (b:Int):Sem Value)=pure (.int .i64 (IntKind.i64.wrap ((BitVec.ofInt 64 (a:Int)|||BitVec.ofInt 64 (b:Int)).toNat:Int))):=rfl;rw[BitVec.toNat_or,f a d,f b e] at this;rw[<-this];simp[binOp]
 have p:a|||b<2^ 63:=Nat.or_lt_two_pow d e
 simp only[execOp,g,i,l,m,aB,aH,au];rw[dT _ Zo]
theorem LN{x y:Operand}{t t2:TypeId}{k:IntKind}{a s:Nat}(b:ev σ x=.int .i64 (a:Int))(c:ev σ y=.int k (s:Int))(i:s<=64)(d:lP Z σ ⟨dst,.binOp .shr t x y t2,ty,pos,lf,gd⟩=true) (e:l8 n dst=true)(h:SL P n W q Z Q rest (l6 σ dst (.int .i64 ((a/2^ s:Nat):Int))) L):SL P n W q Z Q (⟨dst,.binOp .shr t x y t2,ty,pos,lf,gd⟩::rest) σ L:=by refine oF _ Zb d e (λw=>?_) h;have f:=shift_shr_i64 (x:=(a:Int)) (y:=(s:Int)) (yk:=k) Zo Zo;have g:(eqGuard .shr t x y (.int .i64 (a:Int)) (.int k (s:Int)))=pure ():=rfl;simp only[execOp,b,c,g,binOp_shr,f,aB,aH,au,bC];congr 3
theorem FZ{x y:Operand}{t t2:TypeId}{k:IntKind}{a s:Nat}(b:ev σ x=.int .i64 (a:Int))(c:ev σ y=.int k (s:Int))(j:s<=64)(l:a*2^ s<=9223372036854775807)(d:lP Z σ ⟨dst,.binOp .shl t x y t2,ty,pos,lf,gd⟩=true) (e:l8 n dst=true)(h:SL P n W q Z Q rest (l6 σ dst (.int .i64 ((a*2^ s:Nat):Int))) L):SL P n W q Z Q (⟨dst,.binOp .shl t x y t2,ty,pos,lf,gd⟩::rest) σ L:=by
 refine oF _ Zb d e (λw=>?_) h;have f:=shift_shl_i64 (x:=(a:Int)) (y:=(s:Int)) (yk:=k) Zo Zo;have g:(eqGuard .shl t x y (.int .i64 (a:Int)) (.int k (s:Int)))=pure ():=rfl;have i:(a:Int)*2^ ((s:Int).toNat)=((a*2^ s:Nat):Int):=by rw[bC,iq,Int.natCast_pow];rfl
 simp only[execOp,b,c,g,binOp_shl,f,aB,aH,au];rw[i,dT _ Zo]
theorem Iu(a:Nat):IntKind.u32.wrap (a:Int)=((a%4294967296:Nat):Int):=by unfold IntKind.wrap;simp[IntKind.bits,IntKind.signed]
theorem LO{x y:Operand}{t t2:TypeId}{k:IntKind}{a s:Nat}(b:ev σ x=.int .u32 (a:Int))(c:ev σ y=.int k (s:Int))(j:s<=32)(d:lP Z σ ⟨dst,.binOp .shl t x y t2,ty,pos,lf,gd⟩=true) (e:l8 n dst=true)(h:SL P n W q Z Q rest (l6 σ dst (.int .u32 ((a*2^ s%4294967296:Nat):Int))) L):SL P n W q Z Q (⟨dst,.binOp .shl t x y t2,ty,pos,lf,gd⟩::rest) σ L:=by
 refine oF _ Zb d e (λw=>?_) h;have f:=shift_shl_u32 (x:=(a:Int)) (y:=(s:Int)) (yk:=k) Zo Zo;have g:(eqGuard .shl t x y (.int .u32 (a:Int)) (.int k (s:Int)))=pure ():=rfl;have i:(a:Int)*2^ ((s:Int).toNat)=((a*2^ s:Nat):Int):=by rw[bC,iq,Int.natCast_pow];rfl
 simp only[execOp,b,c,g,binOp_shl,f,aB,aH,au];rw[i,Iu]
theorem F0{x y:Operand}{t t2:TypeId}{k:IntKind}{a s:Nat}(b:ev σ x=.int .u32 (a:Int))(c:ev σ y=.int k (s:Int))(i:s<=32)(d:lP Z σ ⟨dst,.binOp .shr t x y t2,ty,pos,lf,gd⟩=true) (e:l8 n dst=true)(h:SL P n W q Z Q rest (l6 σ dst (.int .u32 ((a/2^ s:Nat):Int))) L):SL P n W q Z Q (⟨dst,.binOp .shr t x y t2,ty,pos,lf,gd⟩::rest) σ L:=by refine oF _ Zb d e (λw=>?_) h;have f:=shift_shr_u32 (x:=(a:Int)) (y:=(s:Int)) (yk:=k) Zo Zo;have g:(eqGuard .shr t x y (.int .u32 (a:Int)) (.int k (s:Int)))=pure ():=rfl;simp only[execOp,b,c,g,binOp_shr,f,aB,aH,au,bC];congr 3
theorem SO{x y:Operand}{t t2:TypeId}{k:IntKind}{a s:Nat}(b:ev σ x=.int .u64 (a:Int))(c:ev σ y=.int k (s:Int))(i:s<=64)(d:lP Z σ ⟨dst,.binOp .shr t x y t2,ty,pos,lf,gd⟩=true) (e:l8 n dst=true)(h:SL P n W q Z Q rest (l6 σ dst (.int .u64 ((a/2^ s:Nat):Int))) L):SL P n W q Z Q (⟨dst,.binOp .shr t x y t2,ty,pos,lf,gd⟩::rest) σ L:=by refine oF _ Zb d e (λw=>?_) h;have f:=shift_shr_u64 (x:=(a:Int)) (y:=(s:Int)) (yk:=k) Zo Zo;have g:(eqGuard .shr t x y (.int .u64 (a:Int)) (.int k (s:Int)))=pure ():=rfl;simp only[execOp,b,c,g,binOp_shr,f,aB,aH,au,bC];congr 3
theorem SP(a:Nat)(h:a<18446744073709551616):IntKind.u64.wrap (a:Int)=(a:Int):=by unfold IntKind.wrap;simp[IntKind.bits,IntKind.signed];omega
theorem LP(a:Nat)(h:a<9223372036854775808):IntKind.i64.wrap (a:Int)=(a:Int):=dT _ Zo
theorem LQ{x y:Operand}{t t2:TypeId}{a b:Nat}(g:ev σ x=.int .u32 (a:Int))(i:ev σ y=.int .u32 (b:Int))(d:a<2^ 32)(e:b<2^ 32)(j:lP Z σ ⟨dst,.binOp .xor t x y t2,ty,pos,lf,gd⟩=true) (k:l8 n dst=true)(h:SL P n W q Z Q rest (l6 σ dst (.int .u32 ((a^^^b:Nat):Int))) L):SL P n W q Z Q (⟨dst,.binOp .xor t x y t2,ty,pos,lf,gd⟩::rest) σ L:=by
 refine oF _ Zb j k (λw=>?_) h;have l:(eqGuard .xor t x y (.int .u32 (a:Int)) (.int .u32 (b:Int)))=pure ():=rfl;have f:∀c:Nat,c<2^ 32->(BitVec.ofInt 32 (c:Int)).toNat=c:=by intro c m;rw[iS,<-jo,bC];exact dZ m
 have o:a^^^b<2^ 32:=iT d e;have p:(binOp .xor t (.int .u32 (a:Int)) (.int .u32 (b:Int)):Sem Value)=pure (.int .u32 (IntKind.u32.wrap ((a^^^b:Nat):Int))):=by have:(Op.intBits .xor .u32 (a:Int) (b:Int):Sem Value)=pure (.int .u32 (IntKind.u32.wrap ((BitVec.ofInt 32 (a:Int)^^^BitVec.ofInt 32 (b:Int)).toNat:Int))):=rfl;rw[BitVec.toNat_xor,f a d,f b e] at this;rw[<-this];simp[binOp]
 simp only[execOp,g,i,l,p,aB,aH,au];rw[Iu,dZ o]
theorem SQ{x a:Operand}{t len e s:Nat}{k2:IntKind}[b:AV P t len e s]{g k i:Nat}(c:ev σ x=.pointer (some ⟨g,k,none⟩))(d:ev σ a=.int k2 (i:Int))(o:i<len)(f:lP Z σ ⟨dst,.indexAddr t x a,ty,pos,lf,gd⟩=true) (j:l8 n dst=true)(h:SL P n W q Z Q rest (l6 σ dst (.pointer (some ⟨g,k+i*s,none⟩))) L):SL P n W q Z Q (⟨dst,.indexAddr t x a,ty,pos,lf,gd⟩::rest) σ L:=by refine oF _ Zb f j (λw=>?_) h;obtain⟨p,l,m⟩:=b.sj;simp[execOp,c,d,Instr.indexAt,aL b.ul,asIntOf,sizeOf,typeInfo,l,m,go_sem];omega
theorem LR{x:Operand}{t:Nat}[i:pv P t]{g k:Nat}{v:Value}(a:ev σ x=.pointer (some ⟨g,k,none⟩))(b:oq W L (λw=>w.cell? ⟨g,k,none⟩=some v))(c:lP Z σ ⟨dst,.load t x,ty,pos,lf,gd⟩=true) (d:l8 n dst=true)(h:SL P n W q Z Q rest (l6 σ dst v) L):SL P n W q Z Q (⟨dst,.load t x,ty,pos,lf,gd⟩::rest) σ L:=by refine uD v rfl c d (λw e=>?_) h;have f:=Aj (P:=P) (t:=t) (b w e);simp[execOp,a,Instr.loadAt,Instr.sureAddr,f]
theorem SR{x y rest:Code}(l:Nat)(I:Nat->St->List kM->Prop)(g:SC P n W x (Eu (λd f=>SC P n W y (Eu (λb L'=>∃m a,a.Sublist L'/\I m b a)) d f)) σ L)(tE:∀m σ L,I m σ L->SC P n W rest (λe b L'=>match e with|.goto l'=>l'=l/\∃c a,c<m/\a.Sublist L'/\I c b a|e=>Q e b L') σ L)(hf:findLabel x l=none:=by rfl) (i:findLabel y l=none:=by rfl):
 SC P n W (.scope (x.seq (y.seq ((Code.label l).seq rest)))) Q σ L:=by
 have j:findLabel (x.seq (y.seq ((Code.label l).seq rest))) l=some (Code.skip.seq rest):=by simp[findLabel,hf,i]
 refine RP l j I ?_ (λm σ L h=>sX (CO (tE m σ L h)));refine sX (g.mono ?_);intro e d f h;cases e with
 |normal=>
  refine sX (SC.mono h ?_);intro e b L' h;cases e with
  |normal=>
   obtain⟨m,a,k,o⟩:=h;refine SC.drop a k (sX (Lv ((tE m b a o).mono ?_)));intro e b L' h;cases e with
   |goto l'=>obtain⟨p,c,a,r,q⟩:=h;exact⟨p,c,a,q⟩
   |normal=>exact h
   |exit _=>exact h
   |ret=>exact h
   |panic _=>exact h
   |outgrown=>exact h
  |_=>exact h.elim
 |_=>exact h.elim
end
end
end Go.Proofs.YtkbifmngmocjnaaGreatDoor
