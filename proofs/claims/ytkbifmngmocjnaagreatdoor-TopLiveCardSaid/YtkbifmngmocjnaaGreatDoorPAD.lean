/- Proved here, packed: what the parts Str Leave Frz Byt Iter Lay Auto prove (rules of the walk, contracts of functions, plain laws). Conditions: in each statement. -/
import Derived.Test.YtkbifmngmocjnaaGreatDoorPAC
namespace Go.Proofs.YtkbifmngmocjnaaGreatDoor
set_option maxRecDepth 100000
set_option maxHeartbeats 8000000
set_option linter.all false
section
open Go.RowKit
abbrev kV:=List UInt8
def sv(l:kV):Value:=.string ⟨l.toArray⟩
theorem t6(l:kV):(sv l).oneCell'=true:=rfl
theorem LS(l:kV):(ByteArray.mk l.toArray).toList=l:=by
 have h:∀(k:Nat) (r:kV),k<=l.length->ByteArray.toList.loop (ByteArray.mk l.toArray) (l.length-k) r=r.reverse++l.drop (l.length-k):=by
  intro k;induction k with
  |zero=>intro r _;rw[ByteArray.toList.loop];simp[ByteArray.size]
  |succ k c=>
   intro r e;rw[ByteArray.toList.loop,aj (by simp[ByteArray.size];omega)];have a:l.length-(k+1)+1=l.length-k:=by omega
   rw[a,c _ Zo];have b:l.length-(k+1)<l.length:=by omega
   rw[br b,a];have d:(ByteArray.mk l.toArray).get! (l.length-(k+1))=l[l.length-(k+1)]:=by show l.toArray[l.length-(k+1)]! =_;rw[iv _ _ (by simpa using b)];simp
   rw[d];simp
 have:=h l.length [] (aA _);rw[dF] at this;unfold ByteArray.toList;rw[this];simp
theorem LU{len l h:Nat}{P:Program}(a:l<=h)(b:h<=len)(w:World):(Instr.sliceBounds false len len (some (.int .i64 (l:Int))) (some (.int .i64 (h:Int))) none).run P w=.ok (l,h,len) w:=by simp[Instr.sliceBounds,Instr.sliceBound,asIntOf,a,b]
theorem SS{len l:Nat}{P:Program}(a:l<=len)(w:World):(Instr.sliceBounds false len len (some (.int .i64 (l:Int))) none none).run P w=.ok (l,len,len) w:=by simp[Instr.sliceBounds,Instr.sliceBound,asIntOf,a]
theorem ST{len h:Nat}{P:Program}(a:h<=len)(w:World):(Instr.sliceBounds false len len none (some (.int .i64 (h:Int))) none).run P w=.ok (0,h,len) w:=by simp[Instr.sliceBounds,Instr.sliceBound,asIntOf,a]
section
variable{P:Program}{n:Sz}{W:World}{q:Md}{Q:Exit->St->List kM->Prop}{σ:St}{L:List kM}{Z:Array Oper}{rest:List Oper}
 {dst:Option Nat} {ty:TypeId} {pos:String} {lf:Array Edge} {gd:Option (Nat×Bool)}
theorem SU{x:Operand}{t:TypeId}{s:kV}[d:xj P t](a:ev σ x=sv s)(b:lP Z σ ⟨dst,.call {callee:=.builtin .len,args:=#[x],argTypes:=#[t]},ty,pos,lf,gd⟩=true) (c:l8 n dst=true)
 (h:SL P n W q Z Q rest (l6 σ dst (.int .i64 (s.length:Int))) L):
 SL P n W q Z Q (⟨dst,.call {callee:=.builtin .len,args:=#[x],argTypes:=#[t]},ty,pos,lf,gd⟩::rest) σ L:=
 Ly (s:=⟨s.toArray⟩) a b c (by simpa[ByteArray.size] using h)
theorem F4{x y:Operand}{t t2:TypeId}{a b:kV}(c:ev σ x=sv a)(d:ev σ y=sv b)(k:a.length+b.length<=9223372036854775807)(e:lP Z σ ⟨dst,.binOp .add t x y t2,ty,pos,lf,gd⟩=true) (f:l8 n dst=true)(h:SL P n W q Z Q rest (l6 σ dst (sv (a++b))) L):SL P n W q Z Q (⟨dst,.binOp .add t x y t2,ty,pos,lf,gd⟩::rest) σ L:=by
 refine oF _ Zb e f (λw=>?_) h;have g:(eqGuard .add t x y (sv a) (sv b))=pure ():=rfl;have i:(⟨a.toArray⟩:ByteArray)++⟨b.toArray⟩=⟨(a++b).toArray⟩:=by rw[fO];simp
 have j:¬(((a.length+b.length:Nat):Int)>IntKind.i64.max):=by show¬((a.length+b.length:Nat):Int)>9223372036854775807;omega
 simp only[execOp,c,d,g,aB,aH,au];unfold sv;simp only[binOp_string_add,Op.stringOp,ByteArray.size,cf,ai j,aH,au,i]
theorem LV{x y:Operand}{t t2:TypeId}{a b:kV}(c:ev σ x=sv a)(d:ev σ y=sv b)(e:lP Z σ ⟨dst,.binOp .eql t x y t2,ty,pos,lf,gd⟩=true) (f:l8 n dst=true)(h:SL P n W q Z Q rest (l6 σ dst (.bool (a==b))) L):SL P n W q Z Q (⟨dst,.binOp .eql t x y t2,ty,pos,lf,gd⟩::rest) σ L:=by refine oF _ Zb e f (λw=>?_) h;have g:(eqGuard .eql t x y (sv a) (sv b)).run P w=.ok () w:=rfl;simp only[execOp,c,d,aB,g,au];unfold sv;simp only[binOp_string_eql,LS,aH,au]
theorem LW{x y:Operand}{t t2:TypeId}{a b:kV}(c:ev σ x=sv a)(d:ev σ y=sv b)(e:lP Z σ ⟨dst,.binOp .neq t x y t2,ty,pos,lf,gd⟩=true) (f:l8 n dst=true)(h:SL P n W q Z Q rest (l6 σ dst (.bool (a != b))) L):SL P n W q Z Q (⟨dst,.binOp .neq t x y t2,ty,pos,lf,gd⟩::rest) σ L:=by refine oF _ Zb e f (λw=>?_) h;have g:(eqGuard .neq t x y (sv a) (sv b)).run P w=.ok () w:=rfl;simp only[execOp,c,d,aB,g,au];unfold sv;simp only[binOp_string_neq,LS,aH,au];rfl
theorem CX{x a:Operand}{t:TypeId}{s:kV}{i:Nat}{b:UInt8}[e:xj P t](f:ev σ x=sv s)(g:ev σ a=.int .i64 (i:Int))(c:s[i]? =some b)(j:lP Z σ ⟨dst,.index t x a,ty,pos,lf,gd⟩=true) (k:l8 n dst=true)(h:SL P n W q Z Q rest (l6 σ dst (.int .u8 (b.toNat:Int))) L):SL P n W q Z Q (⟨dst,.index t x a,ty,pos,lf,gd⟩::rest) σ L:=by
 refine oF _ Zb j k (λw=>?_) h;have d:i<s.length:=(ax.1 c).1;have l:(⟨s.toArray⟩:ByteArray)[i]? =some b:=by rw[getElem?_pos _ _ (by show i<s.toArray.size;simpa using d)];rw[ad d] at c;cases c;rfl
 simp only[execOp,f,g];unfold sv;simp only[Instr.index,asIntOf,aB,aH,au,aL e.ul];rw[aj (show(0:Int)<=(i:Int) by omega),bC,l];simp only[aH,au]
theorem LX{x lo a:Operand}{t:TypeId}{s:kV}{l h:Nat}[b:xj P t](c:ev σ x=sv s)(hl:ev σ lo=.int .i64 (l:Int))(d:ev σ a=.int .i64 (h:Int))(e:l<=h)(f:h<=s.length)(g:lP Z σ ⟨dst,.slice t x (some lo) (some a) none,ty,pos,lf,gd⟩=true) (i:l8 n dst=true)(H:SL P n W q Z Q rest (l6 σ dst (sv ((s.take h).drop l))) L):SL P n W q Z Q (⟨dst,.slice t x (some lo) (some a) none,ty,pos,lf,gd⟩::rest) σ L:=by
 refine oF _ Zb g i (λw=>?_) H;have j:(⟨s.toArray⟩:ByteArray).extract l h=⟨((s.take h).drop l).toArray⟩:=by rw[fO];simp[eK,eE]
 simp only[execOp,c,aW,cO,hl,d];unfold sv;simp only[Instr.sliceAt,Instr.slice,aB,aL b.ul,au,cN,aM,bH,ByteArray.size,cf,LU e f,aH,j]
theorem zd{x lo:Operand}{t:TypeId}{s:kV}{l:Nat}[a:xj P t](b:ev σ x=sv s)(hl:ev σ lo=.int .i64 (l:Int))(c:l<=s.length)(d:lP Z σ ⟨dst,.slice t x (some lo) none none,ty,pos,lf,gd⟩=true) (e:l8 n dst=true)(H:SL P n W q Z Q rest (l6 σ dst (sv (s.drop l))) L):SL P n W q Z Q (⟨dst,.slice t x (some lo) none none,ty,pos,lf,gd⟩::rest) σ L:=by
 refine oF _ Zb d e (λw=>?_) H;have f:(⟨s.toArray⟩:ByteArray).extract l s.length=⟨(s.drop l).toArray⟩:=by rw[fO];simp[eK,aY]
 simp only[execOp,b,aW,cO,hl];unfold sv;simp only[Instr.sliceAt,Instr.slice,aB,aL a.ul,au,cN,aM,bH,ByteArray.size,cf,SS c,aH,f]
theorem CY{x a:Operand}{t:TypeId}{s:kV}{h:Nat}[b:xj P t](c:ev σ x=sv s)(d:ev σ a=.int .i64 (h:Int))(e:h<=s.length)(f:lP Z σ ⟨dst,.slice t x none (some a) none,ty,pos,lf,gd⟩=true) (g:l8 n dst=true)(H:SL P n W q Z Q rest (l6 σ dst (sv (s.take h))) L):SL P n W q Z Q (⟨dst,.slice t x none (some a) none,ty,pos,lf,gd⟩::rest) σ L:=by
 refine oF _ Zb f g (λw=>?_) H;have i:(⟨s.toArray⟩:ByteArray).extract 0 h=⟨(s.take h).toArray⟩:=by rw[fO];simp[eK]
 simp only[execOp,c,aW,cO,d];unfold sv;simp only[Instr.sliceAt,Instr.slice,aB,aL b.ul,au,cN,aM,bH,ByteArray.size,cf,ST e,aH,i]
theorem xN{x:Operand}{src c:TypeId}{ds:TypeDesc}{k k2:IntKind}{a b:Int}(f:ev σ x=.int k a)(g:P.underlying src=some ds)(d:P.underlying c=some (.int k2))(i:k2.wrap a=b)(j:lP Z σ ⟨dst,.convert src c x,ty,pos,lf,gd⟩=true) (l:l8 n dst=true)(h:SL P n W q Z Q rest (l6 σ dst (.int k2 b)) L):SL P n W q Z Q (⟨dst,.convert src c x,ty,pos,lf,gd⟩::rest) σ L:=by
 refine oF _ Zb j l (λw=>?_) h;have e:P.intKind c=k2:=by simp[Program.intKind,d]
 have:=run_convert_int (P:=P) w src c k a (by rw[g];rfl) (by rw[e];exact d);simp only[execOp,f,aB,this,e,au,i,aH]
theorem LY{x:Operand}{s:kV}(a:ev σ x=sv s)(b:lP Z σ ⟨dst,.move x,ty,pos,lf,gd⟩=true) (c:l8 n dst=true)(h:SL P n W q Z Q rest (l6 σ dst (sv s)) L):SL P n W q Z Q (⟨dst,.move x,ty,pos,lf,gd⟩::rest) σ L:=zX (v:=sv s) (by simp only[yB,a];rfl) b c h
theorem Iv{x:Operand}{s:kV}(a:ev σ x=sv s)(b:lP Z σ ⟨dst,.assign x,ty,pos,lf,gd⟩=true) (c:l8 n dst=true)(h:SL P n W q Z Q rest (l6 σ dst (sv s)) L):SL P n W q Z Q (⟨dst,.assign x,ty,pos,lf,gd⟩::rest) σ L:=zX (v:=sv s) (by simp only[yB,a];rfl) b c h
theorem LZ{x:Operand}{i:Nat}{vs:List Value}{s:kV}(a:ev σ x=.tuple vs.toArray)(b:vs[i]? =some (sv s))(c:lP Z σ ⟨dst,.extract x i,ty,pos,lf,gd⟩=true) (d:l8 n dst=true)(h:SL P n W q Z Q rest (l6 σ dst (sv s)) L):SL P n W q Z Q (⟨dst,.extract x i,ty,pos,lf,gd⟩::rest) σ L:=zX (v:=sv s) (by simp[yB,a,b];rfl) c d h
end
def tf(es:List kM):kM:=⟨λk=>∃e∈es,e.S k,λw=>(∀e∈es,e.p w)/\es.Pairwise (λ(a b:kM)=>∀k:Nat,a.S k->¬b.S k),λw w' h hp=>⟨λe c=>e.loc w w' (λk d=>h k ⟨e,c,d⟩) (hp.1 e c),hp.2⟩⟩
theorem Mem.tf{W w:World}{L:List kM}(es:List kM)(h:Mem W w (es++L)):Mem W w (tf es::L):=by
 have c:=ek.1 h.yA;refine⟨h.os,h.tape,h.output,h.size,h.drawn,λe a=>?_,bJ.2 ⟨λb f k ⟨e,a,d⟩=>c.2.2 e a b f k d,c.2.1⟩⟩;rcases aJ.1 a with rfl|a
 ·exact⟨λk ⟨e,a,d⟩=>(h.ok e (cy _ a)).lt k d,λe a=>(h.ok e (cy _ a)).holds,c.1⟩
 ·exact h.ok e (cZ _ a)
theorem Mem.F5{W w:World}{L:List kM}(es:List kM)(h:Mem W w (YtkbifmngmocjnaaGreatDoor.tf es::L)):Mem W w (es++L):=by
 have d:=h.ok _ (ay ..);have f:=bJ.1 h.yA;refine⟨h.os,h.tape,h.output,h.size,h.drawn,λe c=>?_,ek.2 ⟨d.holds.2,f.2,λa g b i k j l=>f.1 b i k ⟨a,g,j⟩ l⟩⟩;rcases aQ.1 c with c|c
 ·exact⟨λk m=>d.lt k ⟨e,c,m⟩,d.holds.1 e c⟩
 ·exact h.ok e (aI _ c)
theorem lv{W:World}{L L':List kM}(h:L'.Sublist L:=by(repeat first|exact s0 _|exact s1 _|refine s2 _ ?_|refine s3 _ ?_)):∀w,Mem W w L->Mem W w L':=λ_ a=>a.sublist h
theorem lW{e:kM}{L:List kM}(h:e∈L:=by(repeat first|exact m0|refine m1 ?_)):e∈L:=h
section
variable{P:Program}{n:Sz}{W:World}{q:Md}{Q:Exit->St->List kM->Prop}{σ:St}{L:List kM}{Z:Array Oper}{rest:List Oper}
 {dst:Option Nat} {ty:TypeId} {pos:String} {lf:Array Edge} {gd:Option (Nat×Bool)}
theorem md{f:Operand}{l:List Operand}{a:Array TypeId}{k:Nat}{fst cap:List Value}{v:Value}(b:m3 P W k (fst++l.map (ev σ)++cap).toArray L (λv' L'=>v'=v/\L'=L))(h:SL P n W q Z Q rest (l6 σ dst v) L)(hf:ev σ f=.func (.func k) fst.toArray cap.toArray:=by rfl) (c:lP Z σ ⟨dst,.call {callee:=.value f,args:=l.toArray,argTypes:=a},ty,pos,lf,gd⟩=true:=by rfl) (d:l8 n dst=true:=by rfl):SL P n W q Z Q (⟨dst,.call {callee:=.value f,args:=l.toArray,argTypes:=a},ty,pos,lf,gd⟩::rest) σ L:=R3 v hf b c d h
theorem nR{f:Operand}{l:List Operand}{a:Array TypeId}{k:Nat}{fst cap:List Value}{R:Value->List kM->Prop}(b:m3 P W k (fst++l.map (ev σ)++cap).toArray L R)(h:∀v L',R v L'->SL P n W .plain Z Q rest (l6 σ dst v) L')(hf:ev σ f=.func (.func k) fst.toArray cap.toArray:=by rfl) (c:lP Z σ ⟨dst,.call {callee:=.value f,args:=l.toArray,argTypes:=a},ty,pos,lf,gd⟩=true:=by rfl) (d:l8 n dst=true:=by rfl):SL P n W .plain Z Q (⟨dst,.call {callee:=.value f,args:=l.toArray,argTypes:=a},ty,pos,lf,gd⟩::rest) σ L:=R2 hf b c d h
theorem enter{f:FuncId}{fn:Func}{c:Code}{args:Array Value}{R:Value->List kM->Prop}(hf:P.funcs[f]? =some fn)(h:SC P ⟨fn.ntmps,[]⟩ W c (tZ P W fn R) (BJ args) L)(a:fn.body=some c:=by rfl)(b:args.size<=fn.ntmps:=by exact dv rfl)
 (d:(fn.name== "runtime.NumGoroutine")=false:=by kernel_rfl):m3 P W f args L R:=RQ hf a b h d
end
section
variable{P:Program}{W:World}{σ:St}{L:List kM}
inductive rX(P:Program)(σ:St)(L:List kM):ResultVar->Value->Prop where
 |tmp {t:Nat} {v:Value} (h:σ t=v):rX P σ L (.tmp t) v
 |agg {s t g t' k:Nat} {cs:List Value} (a:oD P t k) (b:σ s=.pointer (some ⟨g,0,none⟩)) (c:k4 g t' cs∈L) (d:cs.length=k):rX P σ L (.cell s t) (.agg cs.toArray)
 |one {s t g t':Nat} {v:Value} (a:pv P t) (b:σ s=.pointer (some ⟨g,0,none⟩)) (c:k4 g t' [v]∈L):rX P σ L (.cell s t) v
theorem Zt{P:Program}{σ:St}{L:List kM}{t:Nat}:rX P σ L (.tmp t) (σ t):=.tmp rfl
def EF(tmps:Array Value):ResultVar->Sem Value
 |.tmp t=>pure (tmps.getD t undef)
 |.cell a t=>do loadVar t (<-asAddr (tmps.getD a undef))
theorem zf{n:Sz}{a:Act}{w:World}{r:ResultVar}{v:Value}(c:n9 n σ a)(f:Mem W w L)(h:rX P σ L r v):(EF a.tmps r).run P w=.ok v w:=by
 cases h with
 |@tmp t v h=>have b:=c.get t;rw[h] at b;simp only[EF,b,aH]
 |@agg s t g t' k cs j d e l=>obtain⟨o,m⟩:=Sh (P:=P) (t:=t) c f d e l;have b:=c.get s;rw[d] at b;simp only[EF,b];simpa[asAddr] using m
 |@one s t g t' v j d e=>have i:=(f.ok _ e).holds;unfold k4 at i;have b:=c.get s;rw[d] at b;have:=Aj (P:=P) (t:=t) (w:=w) (a:=⟨g,0,none⟩) (v:=v) (by rw[dS w g 0 #[v] t' (0,0) i];rfl);simp only[EF,b];simpa[asAddr] using this
theorem F6(fn:Func)(tmps:Array Value):results fn tmps=(do
 let vs<-fn.results.mapM (EF tmps)
 pure (if h:vs.size=1 then vs[0] else .tuple vs)):=by
 unfold results;congr 1
theorem lj{fn:Func}{c:ResultVar}{b:Value}{L':List kM}{R:Value->List kM->Prop}(e:fn.results=#[c])(f:rX P σ L c b)(g:∀w,Mem W w L->Mem W w L')(h:R b L'):tZ P W fn R .ret σ L:=by intro a w i d;refine⟨b,?_,L',g w d,h⟩;rw[F6,e];simp[zf i d f]
theorem og{fn:Func}{c d:ResultVar}{e f:Value}{L':List kM}{R:Value->List kM->Prop}(i:fn.results=#[c,d])(j:rX P σ L c e)(k:rX P σ L d f)(l:∀w,Mem W w L->Mem W w L')(h:R (.tuple #[e,f]) L'):tZ P W fn R .ret σ L:=by intro a w g b;refine⟨_,?_,L',l w b,h⟩;rw[F6,i];simp[zf g b j,zf g b k]
theorem pd{fn:Func}{d e f:ResultVar}{g i v3:Value}{L':List kM}{R:Value->List kM->Prop}(j:fn.results=#[d,e,f])(k:rX P σ L d g)(l:rX P σ L e i)(m:rX P σ L f v3)(n:∀w,Mem W w L->Mem W w L')(h:R (.tuple #[g,i,v3]) L'):tZ P W fn R .ret σ L:=by intro a w c b;refine⟨_,?_,L',n w b,h⟩;rw[F6,j];simp[zf c b k,zf c b l,zf c b m]
theorem SV{fn:Func}{d e f g:ResultVar}{i j v3 v4:Value}{L':List kM}{R:Value->List kM->Prop}(k:fn.results=#[d,e,f,g])(l:rX P σ L d i)(m:rX P σ L e j)(n:rX P σ L f v3)(o:rX P σ L g v4)(p:∀w,Mem W w L->Mem W w L')(h:R (.tuple #[i,j,v3,v4]) L'):tZ P W fn R .ret σ L:=by intro a w c b;refine⟨_,?_,L',p w b,h⟩;rw[F6,k];simp[zf c b l,zf c b m,zf c b n,zf c b o]
end
def kM.kn(H:kM)(p:World->Prop):Prop:=∀w,H.p w->p w
structure kM.le(H a:kM):Prop where
 p:∀w,a.p w->H.p w
 s:∀k,H.S k->a.S k
theorem le_refl(H:kM):H.le H:=⟨λ_ h=>h,λ_ h=>h⟩
theorem le_trans{H a b:kM}(h:H.le a)(c:a.le b):H.le b:=⟨λw d=>h.p w (c.p w d),λk e=>c.s k (h.s k e)⟩
theorem EG{H a:kM}(h:H.le a:=by(repeat first|exact le_refl _|assumption|refine le_trans ?_ (by assumption))):H.le a:=h
theorem kM.kn.up{H a:kM}{p:World->Prop}(h:H.kn p)(hl:H.le a):a.kn p:=λw b=>h w (hl.p w b)
@[irreducible] def fz(H:kM):kM:=H
theorem tG(H:kM):fz H=H:=by unfold fz;rfl
theorem EH{es:List kM}{H:kM}(h:H∈es):H.le (tf es):=⟨λ_ a=>a.1 _ h,λ_ b=>⟨H,h,b⟩⟩
theorem CZ{es:List kM}{e:kM}(h:e∈es):(tf es).kn e.p:=λ_ a=>a.1 _ h
theorem nS{W:World}{L:List kM}{p:World->Prop}{H a:kM}(b:fz H∈L)(c:a.kn p)(hl:a.le H):oq W L p:=λ_ d=>c _ (hl.p _ (by have:=(d.ok _ b).holds;rw[tG] at this;exact this))
theorem Mem.fz{W w:World}{L L':List kM}{H a:kM}(hl:H.le a)(hp:oe L (fz H) (YtkbifmngmocjnaaGreatDoor.fz a) L')(h:Mem W w L'):Mem W w L:=by
 obtain⟨pre,post,rfl,rfl⟩:=hp;rw[tG] at*;have c:=h.ny (rT pre post a);have g:=bJ.1 c.yA;have i:=c.ok _ (ay ..);refine Mem.ny ?_ (rT pre post H).symm;refine⟨h.os,h.tape,h.output,h.size,h.drawn,λe d=>?_,bJ.2 ⟨λb j k f=>g.1 b j k (hl.s k f),g.2⟩⟩;rcases aJ.1 d with rfl|d;·exact⟨λk f=>i.lt k (hl.s k f),hl.p _ i.holds⟩
 ·exact c.ok e (aI _ d)
def Pf(P:Program)(f:FuncId)(args:Array Value)(v:Value):Prop:=∀W L,m3 P W f args L (λv' L'=>v'=v/\L'=L)
def Rf(P:Program)(f:FuncId)(args:Array Value)(H:kM)(v:Value):Prop:=∀W L,m3 P W f args (fz H::L) (λv' L'=>v'=v/\L'=fz H::L)
def Fn(P:Program)(f:FuncId)(args:Array Value)(H:kM)(R:kM->Value->Prop):Prop:=∀W L,m3 P W f args (fz H::L) (λv L'=>∃a,H.le a/\L'=fz a::L/\R a v)
def Mk(P:Program)(f:FuncId)(args:Array Value)(H:kM)(R:List kM->Value->Prop):Prop:=∀W L,m3 P W f args (fz H::L) (λv L'=>∃es,L'=es++fz H::L/\R es v)
theorem Pf.rf{P:Program}{f:FuncId}{args:Array Value}{H:kM}{v:Value}(h:Pf P f args v):Rf P f args H v:=λW _=>h W _
theorem Pf.eq{P:Program}{f:FuncId}{args:Array Value}{v v':Value}(h:Pf P f args v)(e:v=v'):Pf P f args v':=e▸h
theorem Rf.eq{P:Program}{f:FuncId}{args:Array Value}{H:kM}{v v':Value}(h:Rf P f args H v)(e:v=v'):Rf P f args H v':=e▸h
section
variable{P:Program}{n:Sz}{W:World}{q:Md}{Q:Exit->St->List kM->Prop}{σ:St}{L:List kM}{Z:Array Oper}{rest:List Oper}
 {dst:Option Nat} {ty:TypeId} {pos:String} {lf:Array Edge} {gd:Option (Nat×Bool)}
theorem m3.at{f:FuncId}{args:Array Value}{e:kM}{R:Value->List kM->Prop}(pre post:List kM)(a:L=pre++e::post)(h:m3 P W f args (e::(pre++post)) R):m3 P W f args L R:=by subst a;exact h.mL λw b=>b.ny (rT pre post e)
theorem m3.conv{f:FuncId}{args:Array Value}{R c:Value->List kM->Prop}(h:m3 P W f args L R)(d:∀v a,R v a->∃b,(∀w,Mem W w a->Mem W w b)/\c v b):m3 P W f args L c:=.of h.BO λw e=>(h.out w e).mono λ_ _ ⟨v,a,g,i,j⟩=>by obtain⟨b,k,l⟩:=d v a j;exact⟨v,b,g,k _ i,l⟩
def vD(L:List kM)(H:kM)(L':kM->List kM):Prop:=∃pre post,L=pre++fz H::post/\∀a,L' a=pre++fz a::post
theorem f0{H:kM}{L:List kM}:vD (fz H::L) H (λa=>fz a::L):=⟨[],L,rfl,λ_=>rfl⟩
theorem f1{x:kM}{H:kM}{L:List kM}{L':kM->List kM}(h:vD L H L'):vD (x::L) H (λa=>x::L' a):=by obtain⟨pre,post,rfl,h⟩:=h;exact⟨x::pre,post,rfl,λa=>by simp only[h];rfl⟩
theorem vD.put{H:kM}{L:List kM}{L':kM->List kM}(h:vD L H L')(a:kM):oe L (fz H) (fz a) (L' a):=by obtain⟨pre,post,b,c⟩:=h;exact⟨pre,post,b,c a⟩
theorem l4{f:Operand}{l:List Operand}{e:Array TypeId}{k:Nat}{fst cap:List Value}{H:kM}{R:kM->Value->Prop}{L':kM->List kM}(i:Fn P k (fst++l.map (ev σ)++cap).toArray H R) (h:∀a v,H.le a->R a v->SL P n W q Z Q rest (l6 σ dst v) (L' a))(hp:vD L H L':=by repeat first|exact f0|refine f1 ?_)
 (j:q.pb=true:=by rfl)
 (hf:ev σ f=.func (.func k) fst.toArray cap.toArray:=by rfl) (m:lP Z σ ⟨dst,.call {callee:=.value f,args:=l.toArray,argTypes:=e},ty,pos,lf,gd⟩=true:=by rfl) (o:l8 n dst=true:=by rfl):
 SL P n W q Z Q (⟨dst,.call {callee:=.value f,args:=l.toArray,argTypes:=e},ty,pos,lf,gd⟩::rest) σ L:=by
 obtain⟨pre,post,p,r⟩:=id hp;have g:m3 P W k (fst++l.map (ev σ)++cap).toArray L (λv c=>∃a,H.le a/\c=L' a/\R a v):=
  ((
   i W (pre++post)).at pre post p).conv λv c ⟨a,b,s,t⟩=>by
   refine⟨L' a,λw d=>?_,a,b,rfl,t⟩;subst s;rw[r];exact d.ny (rT pre post (fz a)).symm
 refine AT j rfl m o (BL hf g.BO) g ?_;rintro v c ⟨a,b,rfl,u⟩;exact⟨.inr λx w d=>d.fz b (hp.put a),h a v b u⟩
theorem mi{f:Operand}{l:List Operand}{a:Array TypeId}{k:Nat}{fst cap:List Value}{H:kM}{v:Value}(c:Rf P k (fst++l.map (ev σ)++cap).toArray H v) (h:SL P n W q Z Q rest (l6 σ dst v) L)(d:fz H∈L:=by repeat first|exact m0|refine m1 ?_)
 (hf:ev σ f=.func (.func k) fst.toArray cap.toArray:=by rfl) (e:lP Z σ ⟨dst,.call {callee:=.value f,args:=l.toArray,argTypes:=a},ty,pos,lf,gd⟩=true:=by rfl) (g:l8 n dst=true:=by rfl):
 SL P n W q Z Q (⟨dst,.call {callee:=.value f,args:=l.toArray,argTypes:=a},ty,pos,lf,gd⟩::rest) σ L:=by
 obtain⟨pre,post,b⟩:=d9 d;refine md (v:=v) (((c W (pre++post)).at pre post b).conv ?_) h hf e g;rintro v' o ⟨i,j⟩;exact⟨L,λw m=>by subst j;rw[b];exact m.ny (rT pre post (fz H)).symm,i,rfl⟩
theorem ov{f:Operand}{l:List Operand}{b:Array TypeId}{k:Nat}{fst cap:List Value}{H:kM}{R:List kM->Value->Prop}(e:Mk P k (fst++l.map (ev σ)++cap).toArray H R) (h:∀es v,R es v->SL P n W q Z Q rest (l6 σ dst v) (es++L))(g:fz H∈L:=by repeat first|exact m0|refine m1 ?_) (i:q.pb=true:=by rfl)
 (hf:ev σ f=.func (.func k) fst.toArray cap.toArray:=by rfl) (j:lP Z σ ⟨dst,.call {callee:=.value f,args:=l.toArray,argTypes:=b},ty,pos,lf,gd⟩=true:=by rfl) (m:l8 n dst=true:=by rfl):
 SL P n W q Z Q (⟨dst,.call {callee:=.value f,args:=l.toArray,argTypes:=b},ty,pos,lf,gd⟩::rest) σ L:=by
 obtain⟨pre,post,c⟩:=d9 g;have d:m3 P W k (fst++l.map (ev σ)++cap).toArray L (λv a=>∃es,a=es++L/\R es v):=
  ((
   e W (pre++post)).at pre post c).conv λv a ⟨es,o,p⟩=>by
   refine⟨es++L,λw r=>?_,es,rfl,p⟩;subst o;rw[c];exact r.ny (jL es (rT pre post (fz H)).symm)
 refine AT i rfl j m (BL hf d.BO) d ?_;rintro v a ⟨es,rfl,s⟩;exact⟨.inr (.of (gG es L)),h es v s⟩
def wO(L es a:List kM):Prop:=L=es++a
theorem k0{L:List kM}:wO L [] L:=rfl
theorem k1{x:kM}{L es a:List kM}(h:wO L es a):wO (x::L) (x::es) a:=by unfold wO at*;rw[h];rfl
theorem wO.mem{L es b:List kM}(h:wO L es b):∃a,(∀e∈es,a.kn e.p)/\(∀H,fz H∈es->H.le a)/\∀w,Mem W w L->Mem W w (fz a::b):=by
 refine⟨YtkbifmngmocjnaaGreatDoor.tf es,λe d=>CZ d,λH f=>?_,λw c=>?_⟩;·have:=EH f;rwa [tG] at this
 ·rw[tG];refine Mem.tf _ ?_;unfold wO at h;rw[h] at c;exact c
theorem BP{l:List Oper}{es b:List kM}(c:wO L es b)(h:∀a,(∀e∈es,a.kn e.p)->(∀H,fz H∈es->H.le a)->SL P n W .plain Z Q l σ (fz a::b)):SL P n W .plain Z Q l σ L:=by obtain⟨a,d,f,g⟩:=c.mem (W:=W);exact(h a d f).mL g
theorem sm{f:Operand}{l:List Operand}{d:Array TypeId}{k:Nat}{fst cap:List Value}{v:Value}{es a:List kM}(g:wO L es a)(j:∀b,(∀e∈es,b.kn e.p)->(∀H,fz H∈es->H.le b)->Rf P k (fst++l.map (ev σ)++cap).toArray b v) (h:SL P n W q Z Q rest (l6 σ dst v) L)(hf:ev σ f=.func (.func k) fst.toArray cap.toArray:=by rfl) (m:lP Z σ ⟨dst,.call {callee:=.value f,args:=l.toArray,argTypes:=d},ty,pos,lf,gd⟩=true:=by rfl) (o:l8 n dst=true:=by rfl):
 SL P n W q Z Q (⟨dst,.call {callee:=.value f,args:=l.toArray,argTypes:=d},ty,pos,lf,gd⟩::rest) σ L:=by
 unfold wO at g;subst g;have i:=j (YtkbifmngmocjnaaGreatDoor.tf es) (λe r=>CZ r) (λH s=>by have:=EH s;rwa [tG] at this) W a;rw[tG] at i;refine md (v:=v) ((i.mL λw c=>c.tf es).conv ?_) h hf m o;rintro v' x ⟨t,u⟩;exact⟨es++a,λw c=>by subst u;exact c.F5 es,t,rfl⟩
def wP(L:List kM)(H:kM)(es a:List kM):Prop:=L=es++fz H::a
theorem c0{H:kM}{L:List kM}:wP (fz H::L) H [] L:=rfl
theorem c1{x:kM}{H:kM}{L es a:List kM}(h:wP L H es a):wP (x::L) H (x::es) a:=by unfold wP at*;rw[h];rfl
theorem wP.mem{H:kM}{L es c:List kM}(h:wP L H es c):∃b,H.le b/\(∀e∈es,b.kn e.p)/\∀w,Mem W w L->Mem W w (fz b::c):=by
 refine⟨tf (es++[fz H]),⟨λw a=>?_,λk d=>⟨fz H,by simp,by rw[tG];exact d⟩⟩,λe f=>CZ (cy _ f),λw a=>?_⟩;·have:=a.1 (fz H) Zs;rw[tG] at this;exact this
 ·rw[tG];refine Mem.tf _ ?_;unfold wP at h;rw[h] at a;simpa using a
structure yG(es:List kM)(a:kM):Prop where
 kn:∀e∈es,a.kn e.p
 cap:∀{α:Type} {e s c:Nat} {enc:α->List Value} {A:Option Addr} {l:List α},li e s enc A c l∈es->l.length<=c/\c<=maxLen
theorem wP.mD{w:World}{H a:kM}{es b:List kM}(h:wP L H es b)(c:∀e∈es,a.kn e.p)(d:Mem W w L):yG es a:=⟨c,λf=>yC (L:=L) (by unfold wP at h;rw[h];exact cy _ f) d⟩
theorem lX{fn:Func}{c:ResultVar}{d:Value}{H e:kM}{es f:List kM}{R:kM->Value->Prop}(g:wP L H es f)(k:fn.results=#[c])(l:rX P σ L c d)(h:∀b,H.le b->yG es b->R b d) (hl:e.le H:=by exact EG):
 tZ P W fn (λv L'=>∃b,e.le b/\L'=fz b::f/\R b v) .ret σ L:=by
 intro a w m i;obtain⟨b,j,n,o⟩:=g.mem (W:=W);exact lj k l o ⟨b,le_trans hl j,rfl,h b j (g.mD n i)⟩ a w m i
theorem m7{fn:Func}{c d:ResultVar}{e f:Value}{H g:kM}{es i:List kM}{R:kM->Value->Prop}(j:wP L H es i)(m:fn.results=#[c,d])(n:rX P σ L c e)(o:rX P σ L d f)(h:∀b,H.le b->yG es b->R b (.tuple #[e,f])) (hl:g.le H:=by exact EG):
 tZ P W fn (λv L'=>∃b,g.le b/\L'=fz b::i/\R b v) .ret σ L:=by
 intro a w p k;obtain⟨b,l,q,r⟩:=j.mem (W:=W);exact og m n o r ⟨b,le_trans hl l,rfl,h b l (j.mD q k)⟩ a w p k
theorem tg{fn:Func}{c d e:ResultVar}{f g v3:Value}{H i:kM}{es j:List kM}{R:kM->Value->Prop}(k:wP L H es j)(n:fn.results=#[c,d,e])(o:rX P σ L c f)(p:rX P σ L d g)(q:rX P σ L e v3)(h:∀b,H.le b->yG es b->R b (.tuple #[f,g,v3])) (hl:i.le H:=by exact EG):
 tZ P W fn (λv L'=>∃b,i.le b/\L'=fz b::j/\R b v) .ret σ L:=by
 intro a w r l;obtain⟨b,m,s,t⟩:=k.mem (W:=W);exact pd n o p q t ⟨b,le_trans hl m,rfl,h b m (k.mD s l)⟩ a w r l
theorem Iw{fn:Func}{c d e f:ResultVar}{g i v3 v4:Value}{H j:kM}{es k:List kM}{R:kM->Value->Prop}(l:wP L H es k)(o:fn.results=#[c,d,e,f])(p:rX P σ L c g)(q:rX P σ L d i)(r:rX P σ L e v3)(s:rX P σ L f v4)(h:∀b,H.le b->yG es b->R b (.tuple #[g,i,v3,v4])) (hl:j.le H:=by exact EG):
 tZ P W fn (λv L'=>∃b,j.le b/\L'=fz b::k/\R b v) .ret σ L:=by
 intro a w t m;obtain⟨b,n,u,x⟩:=l.mem (W:=W);exact SV o p q r s x ⟨b,le_trans hl n,rfl,h b n (l.mD u m)⟩ a w t m
end
def Sl{α:Type}(s:Nat)(enc:α->List Value)(H:kM)(v:Value)(l:List α):Prop:=∃A c,v=.slice A l.length c/\(l.length<=c/\c<=9223372036854775807)/\H.kn (Rd A s enc l)
theorem Sl.up{α:Type}{s:Nat}{enc:α->List Value}{H a:kM}{v:Value}{l:List α}(h:Sl s enc H v l)(hl:H.le a):Sl s enc a v l:=by obtain⟨A,c,b,d,e⟩:=h;exact⟨A,c,b,d,e.up hl⟩
theorem yG.sl{α:Type}{e s c:Nat}{enc:α->List Value}[m6 enc s]{A:Option Addr}{l:List α}{es:List kM}{a:kM}(h:yG es a)(b:li e s enc A c l∈es):Sl s enc a (.slice A l.length c) l:=⟨A,c,rfl,h.cap b,λw d=>(uE (h.kn _ b w d)).rd⟩
theorem Sl.nil{α:Type}(s:Nat)(enc:α->List Value)(H:kM):Sl s enc H (.slice none 0 0) ([]:List α):=⟨none,0,rfl,⟨aA _,by decide⟩,λ_ _=>Il⟩
structure mB(s:Nat) where
 val:List Value
 len:val.length=s
 one:∀v∈val,v.oneCell'=true
instance(s:Nat):m6 (mB.val (s:=s)) s:=⟨λr=>r.len,λr=>r.one⟩
def Dl{α:Type}(s:Nat)(b:kM->List Value->α->Prop)(H:kM)(v:Value)(l:List α):Prop:=∃A c,∃a:List (mB s),v=.slice A a.length c/\(a.length<=c/\c<=9223372036854775807)/\H.kn (Rd A s mB.val a)/\a.length=l.length/\∀(i:Nat) (r:mB s) (x:α),a[i]? =some r->l[i]? =some x->b H r.val x
theorem Dl.up{α:Type}{s:Nat}{d:kM->List Value->α->Prop}{H e:kM}{v:Value}{l:List α}(h:Dl s d H v l)(hl:H.le e)(f:∀r x,d H r x->d e r x):Dl s d e v l:=by obtain⟨A,c,g,j,k,m,n,o⟩:=h;exact⟨A,c,g,j,k,m.up hl,n,λi r x a b=>f _ _ (o i r x a b)⟩
theorem ra{α:Type}{s e:Nat}{enc:α->List Value}[m6 enc s]{A:Option Addr}{c:Nat}{l:List α}{H:kM}(h:H.kn (li e s enc A c l).p):H.kn (Rd A s enc l):=λw a=>(uE (h w a)).rd
theorem uF{α:Type}{s g t:Nat}{enc:α->List Value}[m6 enc s]{cs:List Value}{l:List α}{H:kM}(h:H.kn (k4 g t cs).p)(rU:cs=l.flatMap enc):H.kn (Rd (some ⟨g,0,none⟩) s enc l):=λw a=>by
 have b:w.heap[g]? =some (.cells cs.toArray t (0,0)):=by have:=h w a;unfold k4 at this;exact this
 refine FV (enc:=enc) m6.len λj u c=>?_;rw[dS w g j cs.toArray t (0,0) b,rU];simpa using c
theorem z8{α:Type}{s g t c:Nat}{enc:α->List Value}[m6 enc s]{cs:List Value}{l:List α}{H:kM}(h:H.kn (k4 g t cs).p)(rU:cs=l.flatMap enc)(a:l.length<=c/\c<=9223372036854775807):Sl s enc H (.slice (some ⟨g,0,none⟩) l.length c) l:=⟨_,c,rfl,a,uF h rU⟩
def mI(b:UInt8):List Value:=[.int .u8 (b.toNat:Int)]
instance:m6 mI 1:=⟨λ_=>rfl,λx v a=>by simp[mI] at a;subst a;rfl⟩
def vY(e g cap:Nat)(bs:kV)(w:World):Prop:=∃cur a,w.heap[g]? =some (.cells cur e a)/\(a=(0,0)\/cap<=a.1)/\bs.length<=cap/\cap<=maxLen/\cur.size=cap/\cur.toList.take bs.length=bs.flatMap mI
@[irreducible] def so(e g cap:Nat)(bs:kV):kM:=⟨(·=g),vY e g cap bs,λ_ _ h ⟨cur,a,b,c⟩=>⟨cur,a,(h g rfl).trans b,c⟩⟩
theorem BQ(e g cap:Nat)(bs:kV):so e g cap bs=⟨(·=g),vY e g cap bs,λ_ _ h ⟨cur,a,b,c⟩=>⟨cur,a,(h g rfl).trans b,c⟩⟩:=by unfold so;rfl
theorem C0{e g cap:Nat}{bs:kV}{w:World}(h:(so e g cap bs).p w):vY e g cap bs w:=by rw[BQ] at h;exact h
theorem xl{e g cap:Nat}{bs:kV}{k:Nat}:(so e g cap bs).S k↔k=g:=by rw[BQ]
theorem xm(bs:kV):(bs.flatMap mI).length=bs.length:=by simpa using tF (enc:=mI) (size:=1) (λ_=>rfl) bs
theorem Ac(bs:kV):bs.flatMap mI=bs.map (λb=>Value.int .u8 (b.toNat:Int)):=by
 induction bs with
 |nil=>rfl
 |cons a l c=>rw[bj,c];rfl
theorem vY.lt{e g cap:Nat}{bs:kV}{w:World}(h:vY e g cap bs w):g<w.heap.size:=by obtain⟨cur,b,a,_⟩:=h;exact(aO.1 a).1
theorem vY.cells{e g cap:Nat}{bs:kV}{w:World}(h:vY e g cap bs w):∀j u,(bs.flatMap mI)[j]? =some u->w.cell? ⟨g,j,none⟩=some u:=by obtain⟨cur,c,d,i,k,l,m,f⟩:=h;intro j u a;rw[dS w g j cur e c d,<-dM];have b:j<(bs.flatMap mI).length:=(ax.1 a).1;rw[<-f,cx (by rw[xm] at b;exact b)] at a;exact a
theorem vY.rd{e g cap:Nat}{bs:kV}{w:World}(h:vY e g cap bs w):Rd (some ⟨g,0,none⟩) 1 mI bs w:=λ_=>⟨g,0,rfl,λi j x u a b=>by have:=BM (enc:=mI) (size:=1) (λ_=>rfl) bs i j x u a b;simpa using h.cells _ _ this⟩
theorem F7{W:World}{L:List kM}{e g cap:Nat}{bs:kV}(a:so e g cap bs∈L):oq W L (Rd (some ⟨g,0,none⟩) 1 mI bs):=λ_ b=>(C0 (b.ok _ a).holds).rd
section
variable{P:Program}{n:Sz}{W:World}{q:Md}{Q:Exit->St->List kM->Prop}{σ:St}{L:List kM}{Z:Array Oper}{rest:List Oper}
 {dst:Option Nat} {ty:TypeId} {pos:String} {lf:Array Edge} {gd:Option (Nat×Bool)}
theorem F8{x:Operand}{src t e l b:Nat}{s:kV}[m:xj P src][o:nV P t e l b](a:ev σ x=sv s)(p:P.underlying e=some (.int .u8))(hl:s.length<=9223372036854775807)(q:lP Z σ ⟨dst,.convert src t x,ty,pos,lf,gd⟩=true) (r:l8 n dst=true)(h:∀g cap,SL P n W .plain Z Q rest (l6 σ dst (.slice (some ⟨g,0,none⟩) s.length cap)) (so e g cap s::L)):SL P n W .plain Z Q (⟨dst,.convert src t x,ty,pos,lf,gd⟩::rest) σ L:=by
 refine uC q r λw u=>⟨.slice (some ⟨w.heap.size,0,none⟩) s.length (grownCap w s.length 0 e),w.drew.alloc (.cells (bytesRow ⟨s.toArray⟩ (grownCap w s.length 0 e)) e ((bytesRow ⟨s.toArray⟩ (grownCap w s.length 0 e)).size,(bytesRow ⟨s.toArray⟩ (grownCap w s.length 0 e)).size+1)),_,?_,?_,h w.heap.size (grownCap w s.length 0 e)⟩
 ·have f:=run_bytes_of_string (P:=P) w src t e ⟨s.toArray⟩ m.ul o.ul p;have d:(ByteArray.mk s.toArray).size=s.length:=by simp[ByteArray.size]
  rw[d] at f;have v:ev σ x=.string ⟨s.toArray⟩:=by rw[a];unfold sv;rfl
  simp only[execOp,v,aB,f,au,aH]
 ·have y:=iN w s.length 0 e;have z:grownCap w s.length 0 e<=maxLen:=gO w s.length 0 e (by unfold maxLen;omega);have d:(ByteArray.mk s.toArray).size=s.length:=by simp[ByteArray.size]
  have i:(bytesRow ⟨s.toArray⟩ (grownCap w s.length 0 e)).size=grownCap w s.length 0 e:=by simp[bytesRow,d];omega
  refine u.grow (es:=[so e w.heap.size (grownCap w s.length 0 e) s]) rfl rfl rfl Zs (λk c=>dx w.drew _ c) ?_ ?_ ?_
  ·intro x a;simp only[aE] at a;subst a;have j:vY e w.heap.size (grownCap w s.length 0 e) s (w.drew.alloc (.cells (bytesRow ⟨s.toArray⟩ (grownCap w s.length 0 e)) e ((bytesRow ⟨s.toArray⟩ (grownCap w s.length 0 e)).size,(bytesRow ⟨s.toArray⟩ (grownCap w s.length 0 e)).size+1))):=by refine⟨_,_,dU w.drew _,.inr (by rw[i];exact aA _),y,z,i,?_⟩;unfold bytesRow;rw[iH,cS Zs];rw[Ac,aY Zs];simp
   refine⟨λk c=>?_,by rw[BQ];exact j⟩;rw[xl] at c;subst c;exact j.lt
  ·intro x a k c;simp only[aE] at a;subst a;rw[xl] at c;subst c;exact aA _
  ·simp
theorem zi{x:Operand}{src t e p b:Nat}{A:Option Addr}{c:Nat}{s:kV}[i:nV P src e p b][k:xj P t](q:ev σ x=.slice A s.length c)(l:oq W L (Rd A 1 mI s))(m:P.underlying e=some (.int .u8))(r:lP Z σ ⟨dst,.convert src t x,ty,pos,lf,gd⟩=true) (u:l8 n dst=true)(h:SL P n W .plain Z Q rest (l6 σ dst (sv s)) L):SL P n W .plain Z Q (⟨dst,.convert src t x,ty,pos,lf,gd⟩::rest) σ L:=by
 refine uC r u λw d=>⟨sv s,w,L,?_,d,h⟩;have v:(convert src t (.slice A s.length c)).run P w=.ok (sv s) w:=by
  cases A with
  |none=>
   have y:s=[]:=by(rcases ir (s=[]) with f|f;·exact f);·obtain⟨_,_,g,_⟩:=l w d f;cases g
   subst y;have:=Lib.run_convert_nil_bytes (P:=P) w src t e c i.ul m k.ul;unfold sv;exact this
  |some a=>have:=run_convert_bytes_back (P:=P) w src t e a c s i.ul m k.ul (λj o=>by obtain⟨b0,off,g,z⟩:=l w d (by rintro rfl;simp at o);cases g;have:=z j 0 s[j] _ (ad o) rfl;rw[cz];simpa using this);unfold sv;exact this
 simp only[execOp,q,aB,v,au,aH]
theorem Ix(P:Program)(g o:Nat)(t:TypeId)(a:Nat×Nat):∀(vs:List Value) (i:Nat) (cur:Array Value) (w:World),w.heap[g]? =some (.cells cur t a)->(a=(0,0)\/cur.size<=a.1)->o+i+vs.length<=cur.size->(∀v∈vs,v.oneCell'=true)->(storeCells ⟨g,o,none⟩ vs i).run P w=.ok () (w.setRow g (cur.toList.take (o+i)++vs++cur.toList.drop (o+i+vs.length)).toArray)
 |[],i,cur,w,b,_,_,_=>by simp only[storeCells,aP,bm,eu,bT,jV];rw[setRow_self w g cur t a b];rfl
 |v::l,i,cur,w,b,hf,hl,c=>by
  have d:o+i<cur.size:=by simp at hl;omega
  have f:(⟨g,o,none⟩:Addr).add i=⟨g,o+i,none⟩:=cz ..;have h:w.cell? ⟨g,o+i,none⟩=some cur[o+i]:=by simp[World.cell?,b,d]
  have j:w.frozen? ⟨g,o+i,none⟩=false:=by
   obtain⟨lo,p⟩:=a;simp only[World.frozen?,b,Bool.and_eq_false_iff,eA];rcases hf with hf|hf;·cases hf;right;omega
   ·left;simp only at hf;omega
  have k:(store ((⟨g,o,none⟩:Addr).add i) v).run P w=.ok () (w.setRow g (cur.setIfInBounds (o+i) v)):=by rw[f,run_store P w _ v _ (c v Zs),h];simp[j,setCell_eq_setRow w g (o+i) cur t a v b]
  have m:=Ix P g o t a l (i+1) (cur.setIfInBounds (o+i) v) (w.setRow g (cur.setIfInBounds (o+i) v)) (eJ w g cur _ t _ b) (by simpa using hf) (by simp at hl⊢;omega) (λx n=>c x (by simp[n]));simp only[storeCells,aB,k,au,m,setRow_setRow];congr 3;have e:=list_seg_step cur.toList (o+i) v l (by simp at hl⊢;omega);simpa[dE,eX] using e
theorem vY.set{e g cap:Nat}{bs:kV}{w:World}{cur:Array Value}{a:Nat×Nat}(b:w.heap[g]? =some (.cells cur e a))(c:a=(0,0)\/cap<=a.1)(d:cap<=maxLen){xs:List Value}(f:xs.length=cap)(h:bs.length<=cap)(i:xs.take bs.length=bs.flatMap mI):vY e g cap bs (w.setRow g xs.toArray):=⟨_,a,eJ w g cur _ e a b,c,h,d,by simpa using f,by simpa using i⟩
theorem SW{t:Nat}{e b:Nat}[p:nV P t e 1 b]{x y:Operand}{B:Option Addr}{g cap d:Nat}{bs news:kV}{L':Nat->Nat->List kM}(q:ev σ x=.slice (some ⟨g,0,none⟩) bs.length cap) (S:ev σ y=.slice B news.length d) (c:oq W L (Rd B 1 mI news))(hp:∀f i,oe L (so e g cap bs) (so e f i (bs++news)) (L' f i))(T:(bs.length+news.length)*b<=140737488355328) (kJ:bs.length+news.length<=9223372036854775807)(V:lP Z σ ⟨dst,.call {callee:=.builtin .append,args:=#[x,y],argTypes:=#[t,t]},ty,pos,lf,gd⟩=true) (X:l8 n dst=true)
 (h:∀f i,SL P n W .plain Z Q rest (l6 σ dst (.slice (some ⟨f,0,none⟩) (bs++news).length i)) (L' f i)):
 SL P n W .plain Z Q (⟨dst,.call {callee:=.builtin .append,args:=#[x,y],argTypes:=#[t,t]},ty,pos,lf,gd⟩::rest) σ L:=by
 refine uC V X λw l=>?_;obtain⟨Y,z,r,i2,s,i4,i5⟩:=p.sj;have m:=C0 (l.ok _ (hp g cap).mem).holds;obtain⟨cur,fr,F,G,h3,h4,H,h6⟩:=id m;have lL:=xm news;have I:=c w l;have J:∀a,B=some a->∀j u,(news.flatMap mI)[j]? =some u->w.cell? (a.add j)=some u:=by intro a K j u o;obtain⟨x,M,kF⟩:=FU (enc:=mI) (size:=1) (λ_=>rfl) Zd o;obtain⟨b0,off,A,hc⟩:=I (by rintro rfl;simp at M);rw[A] at K;cases K;have:=hc _ _ x u M kF;rw[show j/1*1+j%1=j from by omega] at this;rw[cz];exact this
 have kG:∀u∈news.flatMap mI,u.oneCell'=true:=λu o=>by obtain⟨x,_,q⟩:=cW.1 o;simp[mI] at q;subst q;rfl
 have done:∀(f i:Nat) (w':World),(Builtin.append_ #[t,t] ty #[.slice (some ⟨g,0,none⟩) bs.length cap,.slice B news.length d]).run P w=.ok (.slice (some ⟨f,0,none⟩) (bs.length+news.length) i) w'->Mem W w' (L' f i)->
  ∃v w' O,(execOp (ev σ) ⟨dst,.call {callee:=.builtin .append,args:=#[x,y],argTypes:=#[t,t]},ty,pos,lf,gd⟩).run P w=.ok (.value v) w'/\Mem W w' O/\SL P n W .plain Z Q rest (l6 σ dst v) O:=by
  intro f i w' C hm;refine⟨_,w',_,?_,hm,h f i⟩;rw[ak];simp only[execOp,resolve,bY,bk,cu,q,S,aB,aH,au,invoke,builtin,C]
 cases B with
 |none=>
  have h0:news=[]:=by
   rcases ir (news=[]) with D|D;·exact D
   ·obtain⟨_,_,A,_⟩:=I D;cases A
  subst h0;refine done g cap w ?_ ?_;·simp[Builtin.append_,aL p.ul,sizeOf,typeInfo,r,Builtin.lenOf,Builtin.firstCells,storeCells,h3]
  ·refine l.put (hp g cap) rfl rfl rfl (aA _) (λ_ _ _=>rfl) ⟨λk c=>by rw[xl] at c;subst c;exact m.lt,by rw[aP];rw[BQ];exact m⟩ (λk c=>.inl (by rw[xl] at c⊢;exact c))
 |some a=>
  have hf:=run_firstCells_some (P:=P) w 1 news.length a news.length d (news.flatMap mI) (by rw[eL];exact lL) (J a rfl);by_cases R:bs.length+news.length<=cap
  ·have E:=Ix P g bs.length e fr (news.flatMap mI) 0 cur w F (by rw[H];exact G) (by rw[lL,H];omega) kG;simp only[eu] at E;refine done g cap (w.setRow g (cur.toList.take bs.length++news.flatMap mI++cur.toList.drop (bs.length+(news.flatMap mI).length)).toArray) ?_ ?_;·generalize news.flatMap mI=N at hf E;simp[Builtin.append_,aL p.ul,sizeOf,typeInfo,r,Builtin.lenOf,R,hf,cz,s,E]
   ·(refine l.put (hp g cap) rfl rfl rfl Zs (λk _ c=>ep w g k _ (λe=>c (by rw[xl];exact e.symm▸rfl))) ⟨λk c=>?_,?_⟩ (λk c=>.inl (by rw[xl] at c⊢;exact c));·rw[xl] at c;subst c;simpa using m.lt);·rw[BQ];refine vY.set F G h4 (by simp only[ak,aC,bi,fy,lL];omega) (by simpa using R) ?_;rw[h6,bD,<-bD,<-xm (bs++news),bD];exact iL
  ·have C:=jC (P:=P) w t ty e Y z p.ul r i2 ⟨g,0,none⟩ bs.length cap (bs.flatMap mI) (by rw[s,eL];exact xm bs) (λj u o=>by rw[cz];simpa using m.cells j u o) a news.length d (news.flatMap mI) (by rw[s,eL];exact lL) (J a rfl) Zo Zo (iJ Zo (by rw[i4];exact T));have kH:=iN w (bs.length+news.length) cap e;have kI:grownCap w (bs.length+news.length) cap e<=maxLen:=gO w _ cap e (by unfold maxLen;omega);refine done w.heap.size (grownCap w (bs.length+news.length) cap e) _ C ?_;refine l.put (hp _ _) rfl rfl rfl Zs (λk c _=>dx w.drew _ c) ⟨λk c=>?_,?_⟩ (λk c=>.inr (by rw[xl] at c;subst c;exact aA _));·rw[xl] at c;subst c;simp
   ·(rw[BQ];refine⟨_,(0,0),dU w.drew _,.inl rfl,by simpa using kH,kI,?_,?_⟩;·simp only[fP,cf,size_zeroCells,i5,xm];omega);·simp only[iH,aV];rw[<-aV,<-xm (bs++news),bD];exact iL
theorem ap{α:Type}{enc:α->List Value}{t:Nat}{e s b:Nat}[r:nV P t e s b][u:m6 enc s]{x y:Operand}{A B:Option Addr}{c d:Nat}{l news:List α}{L':Option Addr->Nat->List kM}(g:oq W L (Rd B s enc news)) (i:(l.length+news.length)*b<=140737488355328)(h:∀a f,SL P n W .plain Z Q rest (l6 σ dst (.slice a (l++news).length f)) (L' a f))(hp:∀a f,oe L (li e s enc A c l) (li e s enc a f (l++news)) (L' a f):=by intro _ _;(first|exact p0|exact p1 p0|exact p1 (p1 p0)|exact p1 (p1 (p1 p0))|exact p1 (p1 (p1 (p1 p0)))|exact p1 (p1 (p1 (p1 (p1 p0))))|exact p1 (p1 (p1 (p1 (p1 (p1 p0)))))|exact p1 (p1 (p1 (p1 (p1 (p1 (p1 p0))))))|exact p1 (p1 (p1 (p1 (p1 (p1 (p1 (p1 p0)))))))))
 (j:ev σ x=.slice A l.length c:=by rfl) (k:ev σ y=.slice B news.length d:=by rfl)
 (m:Nat.ble 1 b=true:=by rfl)
 (o:lP Z σ ⟨dst,.call {callee:=.builtin .append,args:=#[x,y],argTypes:=#[t,t]},ty,pos,lf,gd⟩=true:=by rfl) (p:l8 n dst=true:=by rfl):
 SL P n W .plain Z Q (⟨dst,.call {callee:=.builtin .append,args:=#[x,y],argTypes:=#[t,t]},ty,pos,lf,gd⟩::rest) σ L:=by
 have q:1<=b:=dv m;have v:l.length+news.length<=(l.length+news.length)*b:=jz _ q;exact td j k g hp i (by unfold maxLen;omega) rfl (λ_ _=>λ_=>trivial) o p h
theorem L4{t:Nat}{e b:Nat}[q:nV P t e 1 b]{x y:Operand}{B:Option Addr}{g cap d:Nat}{bs news:kV}{L':Nat->Nat->List kM}(f:oq W L (Rd B 1 mI news)) (i:(bs.length+news.length)*b<=140737488355328)(h:∀a c,SL P n W .plain Z Q rest (l6 σ dst (.slice (some ⟨a,0,none⟩) (bs++news).length c)) (L' a c))(hp:∀a c,oe L (so e g cap bs) (so e a c (bs++news)) (L' a c):=by intro _ _;(first|exact p0|exact p1 p0|exact p1 (p1 p0)|exact p1 (p1 (p1 p0))|exact p1 (p1 (p1 (p1 p0)))|exact p1 (p1 (p1 (p1 (p1 p0))))|exact p1 (p1 (p1 (p1 (p1 (p1 p0)))))|exact p1 (p1 (p1 (p1 (p1 (p1 (p1 p0))))))|exact p1 (p1 (p1 (p1 (p1 (p1 (p1 (p1 p0)))))))))
 (j:ev σ x=.slice (some ⟨g,0,none⟩) bs.length cap:=by rfl) (k:ev σ y=.slice B news.length d:=by rfl)
 (l:Nat.ble 1 b=true:=by rfl)
 (m:lP Z σ ⟨dst,.call {callee:=.builtin .append,args:=#[x,y],argTypes:=#[t,t]},ty,pos,lf,gd⟩=true:=by rfl) (o:l8 n dst=true:=by rfl):
 SL P n W .plain Z Q (⟨dst,.call {callee:=.builtin .append,args:=#[x,y],argTypes:=#[t,t]},ty,pos,lf,gd⟩::rest) σ L:=by
 have p:1<=b:=dv l;have r:bs.length+news.length<=(bs.length+news.length)*b:=jz _ p;exact SW j k f hp i Zo m o h
end
@[irreducible] def AX(g:Nat)(s:kV)(pos:Nat):kM:=⟨(·=g),λw=>w.heap[g]? =some (.stringIter ⟨s.toArray⟩ pos),λ_ _ h hp=>(h g rfl).trans hp⟩
theorem AY(g:Nat)(s:kV)(pos:Nat):AX g s pos=⟨(·=g),λw=>w.heap[g]? =some (.stringIter ⟨s.toArray⟩ pos),λ_ _ h hp=>(h g rfl).trans hp⟩:=by unfold AX;rfl
section
variable{P:Program}{n:Sz}{W:World}{Q:Exit->St->List kM->Prop}{σ:St}{L:List kM}{Z:Array Oper}{rest:List Oper}
 {dst:Option Nat} {ty:TypeId} {pos:String} {lf:Array Edge} {gd:Option (Nat×Bool)}
theorem SX{x:Operand}{t:TypeId}{s:kV}[c:xj P t](d:ev σ x=sv s)(f:lP Z σ ⟨dst,.range t x,ty,pos,lf,gd⟩=true) (i:l8 n dst=true)(h:∀g,SL P n W .plain Z Q rest (l6 σ dst (.pointer (some ⟨g,0,none⟩))) (AX g s 0::L)):SL P n W .plain Z Q (⟨dst,.range t x,ty,pos,lf,gd⟩::rest) σ L:=by
 refine uC f i λw j=>⟨_,w.iter ⟨s.toArray⟩ 0,_,?_,?_,h w.heap.size⟩;·have:=run_range_string (P:=P) w t ⟨s.toArray⟩ c.ul;have l:ev σ x=.string ⟨s.toArray⟩:=d;simp only[execOp,l,aB,this,au,aH]
 ·refine j.grow (es:=[AX w.heap.size s 0]) rfl rfl rfl (by simp[World.iter]) (λk a=>?_) ?_ ?_ Zs;·exact dx w _ a
  ·intro e b;simp only[aE] at b;subst b;rw[AY];exact⟨λk a=>by cases a;simp[World.iter],World.iter_heap w _ 0⟩
  ·intro e b k a;simp only[aE] at b;subst b;rw[AY] at a;cases a;exact aA _
theorem SY{x:Operand}{g p:Nat}{s:kV}{L':List kM}(f:ev σ x=.pointer (some ⟨g,0,none⟩))(i:p<s.length)(hp:oe L (AX g s p) (AX g s (p+(Utf8.decode ⟨s.toArray⟩ p).2)) L')(j:lP Z σ ⟨dst,.next x true,ty,pos,lf,gd⟩=true) (l:l8 n dst=true)(h:SL P n W .plain Z Q rest (l6 σ dst (.tuple #[.bool true,.int .i64 (p:Int),.int .i32 ((Utf8.decode ⟨s.toArray⟩ p).1:Int)])) L'):SL P n W .plain Z Q (⟨dst,.next x true,ty,pos,lf,gd⟩::rest) σ L:=by
 refine uC j l λw b=>?_;have c:w.heap[g]? =some (.stringIter ⟨s.toArray⟩ p):=by have:=(b.ok _ hp.mem).holds;rw[AY] at this;exact this
 have d:g<w.heap.size:=(aO.1 c).1;refine⟨_,{w with heap:=w.heap.setIfInBounds g (.stringIter ⟨s.toArray⟩ (p+(Utf8.decode ⟨s.toArray⟩ p).2))},L',?_,?_,h⟩
 ·have m:p<(ByteArray.mk s.toArray).size:=by simpa[ByteArray.size] using i
  simp only[execOp,f,Instr.next,getObj,setObj,aB,Sem.run,c,Result.andThen,m,cc];simp[goInt]
 ·refine b.put hp rfl rfl rfl Zs (λk _ a=>?_) ⟨λk a=>?_,?_⟩ (λk a=>.inl (by rw[AY] at a⊢;exact a));·have o:g≠k:=λe=>a (by rw[AY];exact e.symm);simp[o]
  ·rw[AY] at a;cases a;simpa using d
  ·rw[AY];simp[d]
theorem SZ{x:Operand}{g p:Nat}{s:kV}(b:ev σ x=.pointer (some ⟨g,0,none⟩))(c:¬p<s.length)(d:AX g s p∈L)(e:lP Z σ ⟨dst,.next x true,ty,pos,lf,gd⟩=true) (f:l8 n dst=true)(h:SL P n W .plain Z Q rest (l6 σ dst (.tuple #[.bool false])) L):SL P n W .plain Z Q (⟨dst,.next x true,ty,pos,lf,gd⟩::rest) σ L:=by
 refine uC e f λw a=>⟨_,w,L,?_,a,h⟩;have i:w.heap[g]? =some (.stringIter ⟨s.toArray⟩ p):=by have:=(a.ok _ d).holds;rw[AY] at this;exact this
 have j:¬p<(ByteArray.mk s.toArray).size:=by simpa[ByteArray.size] using c
 simp[execOp,b,Instr.next,getObj,Sem.run,i,j]
theorem Iy{α:Type}(enc:α->List Value){t:Nat}{e g b:Nat}[l:nV P t e g b]{x y:Operand}{N:Nat}(d:ev σ x=.int .i64 0) (m:ev σ y=.int .i64 (N:Int)) (E:N*b<=140737488355328) (F:N<=9223372036854775807)(o:lP Z σ ⟨dst,.makeSlice t x y,ty,pos,lf,gd⟩=true) (p:l8 n dst=true)(h:∀A,SL P n W .plain Z Q rest (l6 σ dst (.slice A ([]:List α).length N)) (li e g enc A N ([]:List α)::L)):SL P n W .plain Z Q (⟨dst,.makeSlice t x y,ty,pos,lf,gd⟩::rest) σ L:=by
 obtain⟨f,z,q,r,s,u,G⟩:=l.sj;have v:(f.bytes:Int)*(N:Int)<=281474976710656:=by
  have:((f.bytes*N:Nat):Int)<=281474976710656:=by rw[u,fp];omega
  rwa [iq] at this
 refine uC o p λw B=>?_;have C:=run_make (P:=P) w t e f z l.ul q r .i64 .i64 0 N Zo Zo v Zo;have D:Own e g enc (some ⟨w.heap.size,0,none⟩) N ([]:List α) (w.alloc (.cells (madeCells z.cells ((N:Int).toNat*f.size)) e)):=by
  rcases cM N with i|i;·exact .inl ⟨i,rfl⟩
  ·refine .inr ⟨w.heap.size,_,i,rfl,dU w _,aR _,by unfold maxLen;omega,?_,by simp⟩;simp[madeCells,s]
 refine⟨_,w.alloc (.cells (madeCells z.cells ((N:Int).toNat*f.size)) e),_,?_,?_,h (some ⟨w.heap.size,0,none⟩)⟩;·simp only[execOp,d,m,aB,C,au,bC,aH];rfl
 ·refine B.grow (es:=[li e g enc (some ⟨w.heap.size,0,none⟩) N ([]:List α)]) rfl rfl rfl Zs (λk c=>dx w _ c) ?_ ?_ Zs;·intro x d;simp only[aE] at d;subst d;unfold li;refine⟨λk c=>?_,D⟩;obtain⟨_,a,j,c⟩:=c;cases j;subst c;simp
  ·intro x d k c;simp only[aE] at d;subst d;unfold li at c;obtain⟨_,a,j,c⟩:=c;cases j;subst c;exact aA _
end
def nX(g:Nat)(cs:List Value)(w:World):Prop:=∀j v,cs[j]? =some v->w.cell? ⟨g,j,none⟩=some v
theorem Iz{g t:Nat}{cs:List Value}(w:World)(h:(k4 g t cs).p w):nX g cs w:=λj v a=>by
 have b:w.heap[g]? =some (.cells cs.toArray t (0,0)):=by unfold k4 at h;exact h
 rw[dS w g j cs.toArray t (0,0) b];simpa using a
theorem pj{H:kM}{g t:Nat}{cs:List Value}(h:H.kn (k4 g t cs).p):H.kn (nX g cs):=λw a=>Iz w (h w a)
def ti(L:List kM)(e:kM)(L0:List kM):Prop:=∃pre post,L=pre++e::post/\L0=pre++post
theorem o0{e:kM}{L:List kM}:ti (e::L) e L:=⟨[],L,rfl,rfl⟩
theorem o1{x e:kM}{L L0:List kM}(h:ti L e L0):ti (x::L) e (x::L0):=by obtain⟨pre,post,rfl,rfl⟩:=h;exact⟨x::pre,post,rfl,rfl⟩
theorem ti.ny{L L0:List kM}{e:kM}(h:ti L e L0):L.Perm (e::L0):=by obtain⟨pre,post,rfl,rfl⟩:=h;exact rT pre post e
theorem Mem.C4{W w:World}{L L0:List kM}{L':kM->List kM}{e H:kM}(b:ti L e L0)(hf:vD L0 H L')(h:Mem W w L):Mem W w (L' (YtkbifmngmocjnaaGreatDoor.tf [e,H])):=by obtain⟨pre,post,rfl,c⟩:=hf;rw[c,tG];refine Mem.ny ?_ (rT pre post _).symm;have a:=h.ny (b.ny.trans ((rT pre post (YtkbifmngmocjnaaGreatDoor.fz H)).cons e));rw[tG] at a;exact a.tf [e,H]
theorem BR{e H:kM}:H.le (YtkbifmngmocjnaaGreatDoor.tf [e,H]):=EH Zs
theorem BS{e H:kM}:(YtkbifmngmocjnaaGreatDoor.tf [e,H]).kn e.p:=CZ Zs
section
variable{P:Program}{n:Sz}{W:World}{Q:Exit->St->List kM->Prop}{σ:St}{L L0:List kM}{L':kM->List kM}{Z:Array Oper}{l:List Oper}{c:Code}{H:kM}
theorem tI{g t:Nat}{cs:List Value}(b:ti L (k4 g t cs) L0)(h:∀a,H.le a->a.kn (nX g cs)->SL P n W .plain Z Q l σ (L' a))(hf:vD L0 H L':=by repeat first|exact f0|refine f1 ?_):SL P n W .plain Z Q l σ L:=(h _ BR (pj BS)).mL λ_ c=>c.C4 b hf
theorem C5{g t:Nat}{cs:List Value}(b:ti L (k4 g t cs) L0)(h:∀a,H.le a->a.kn (nX g cs)->SC P n W c Q σ (L' a))(hf:vD L0 H L':=by repeat first|exact f0|refine f1 ?_):SC P n W c Q σ L:=(h _ BR (pj BS)).mL λ_ d=>d.C4 b hf
theorem L5{α:Type}{e s k:Nat}{enc:α->List Value}[m6 enc s]{A:Option Addr}{xs:List α}(c:ti L (li e s enc A k xs) L0)(h:∀a,H.le a->a.kn (Rd A s enc xs)->(xs.length<=k/\k<=9223372036854775807)->SL P n W .plain Z Q l σ (L' a))(hf:vD L0 H L':=by repeat first|exact f0|refine f1 ?_):SL P n W .plain Z Q l σ L:=SL.pure (φ:=xs.length<=k/\k<=maxLen) (λ_ b=>yC (c.ny.mem_iff.2 (ay ..)) b) λd=>(h _ BR (ra BS) d).mL λ_ b=>b.C4 c hf
theorem tJ{α:Type}{e s k:Nat}{enc:α->List Value}[m6 enc s]{A:Option Addr}{xs:List α}(d:ti L (li e s enc A k xs) L0)(h:∀a,H.le a->a.kn (Rd A s enc xs)->(xs.length<=k/\k<=9223372036854775807)->SC P n W c Q σ (L' a))(hf:vD L0 H L':=by repeat first|exact f0|refine f1 ?_):SC P n W c Q σ L:=SC.pure (φ:=xs.length<=k/\k<=maxLen) (λ_ b=>yC (d.ny.mem_iff.2 (ay ..)) b) λf=>(h _ BR (ra BS) f).mL λ_ b=>b.C4 d hf
end
section
variable{P:Program}{n:Sz}{W:World}{q:Md}{Q:Exit->St->List kM->Prop}{σ:St}{L:List kM}{Z:Array Oper}{rest:List Oper}
 {dst:Option Nat} {ty:TypeId} {pos:String} {lf:Array Edge} {gd:Option (Nat×Bool)}
theorem IA{x:Operand}{t:Nat}[i:pv P t]{g k:Nat}{cs:List Value}{v:Value}(a:ev σ x=.pointer (some ⟨g,k,none⟩))(b:oq W L (nX g cs))(c:cs[k]? =some v)(d:lP Z σ ⟨dst,.load t x,ty,pos,lf,gd⟩=true) (e:l8 n dst=true)(h:SL P n W q Z Q rest (l6 σ dst v) L):SL P n W q Z Q (⟨dst,.load t x,ty,pos,lf,gd⟩::rest) σ L:=LR a (λw f=>b w f k v c) d e h
theorem S0{x:Operand}{t s:Nat}[oD P t s]{g:Nat}{cs:List Value}(b:ev σ x=.pointer (some ⟨g,0,none⟩))(c:oq W L (nX g cs))(d:cs.length=s)(e:lP Z σ ⟨dst,.load t x,ty,pos,lf,gd⟩=true) (f:l8 n dst=true)(h:SL P n W q Z Q rest (l6 σ dst (.agg cs.toArray)) L):SL P n W q Z Q (⟨dst,.load t x,ty,pos,lf,gd⟩::rest) σ L:=by refine uD _ rfl e f (λw i=>?_) h;have:=CR (P:=P) (w:=w) (t:=t) (a:=⟨g,0,none⟩) (cs:=cs) d (λj v k=>by rw[cz,cV];exact c w i j v k);simp[execOp,b,Instr.loadAt,Instr.sureAddr,this]
theorem pN{x:Operand}{t s:Nat}[oD P t s]{g k:Nat}{cs:List Value}(c:ev σ x=.pointer (some ⟨g,k,none⟩))(d:oq W L (nX g cs))(vs:List Value)(e:vs.length=s)(f:(cs.drop k).take s=vs)(i:lP Z σ ⟨dst,.load t x,ty,pos,lf,gd⟩=true) (l:l8 n dst=true)(h:SL P n W q Z Q rest (l6 σ dst (.agg vs.toArray)) L):SL P n W q Z Q (⟨dst,.load t x,ty,pos,lf,gd⟩::rest) σ L:=by
 refine uD _ rfl i l (λw m=>?_) h;have:=CR (P:=P) (w:=w) (t:=t) (a:=⟨g,k,none⟩) (cs:=vs) e (λj v b=>by
  rw[cz];refine d w m (k+j) v ?_;rw[<-f,dP] at b;split at b;·rw[dQ] at b;exact b
  ·cases b)
 simp[execOp,c,Instr.loadAt,Instr.sureAddr,this]
theorem AZ{x:Operand}{t s2:Nat}[oD P t s2]{A:Option Addr}{s i j:Nat}{α:Type}{enc:α->List Value}{xs:List α}{e:α}(c:ev σ x=.pointer (some (pM A s i j)))(d:oq W L (Rd A s enc xs))(f:xs[i]? =some e)(vs:List Value) (g:vs.length=s2) (l:((enc e).drop j).take s2=vs)(m:lP Z σ ⟨dst,.load t x,ty,pos,lf,gd⟩=true) (o:l8 n dst=true)(h:SL P n W q Z Q rest (l6 σ dst (.agg vs.toArray)) L):SL P n W q Z Q (⟨dst,.load t x,ty,pos,lf,gd⟩::rest) σ L:=by
 refine uD _ rfl m o (λw p=>?_) h;have:=CR (P:=P) (w:=w) (t:=t) (a:=pM A s i j) (cs:=vs) g (λk v b=>by
  have r:(enc e)[j+k]? =some v:=by
   rw[<-l,dP] at b;split at b;·rw[dQ] at b;exact b
   ·cases b
  have u:=(d w p).cell f r;have y:(pM A s i j).add k=pM A s i (j+k):=by simp[pM,cz,eX]
  rw[y];exact u)
 simp[execOp,c,Instr.loadAt,Instr.sureAddr,this]
theorem qP{g t:Nat}{cs:List Value}(h:k4 g t cs∈L):oq W L (nX g cs):=λw a=>Iz w (a.ok _ h).holds
def Ch(P:Program)(f:FuncId)(args:Array Value)(H:kM)(e:kM)(R:kM->kM->Value->Prop):Prop:=∀W L,m3 P W f args (e::fz H::L) (λv L'=>∃a e',H.le a/\L'=e'::fz a::L/\R a e' v)
theorem tK{f:Operand}{l:List Operand}{i:Array TypeId}{k:Nat}{fst cap:List Value}{H e:kM}{R:kM->kM->Value->Prop}{L0:List kM}{L':kM->List kM}(j:ti L e L0)(m:Ch P k (fst++l.map (ev σ)++cap).toArray H e R) (h:∀a e' v,H.le a->R a e' v->SL P n W .plain Z Q rest (l6 σ dst v) (e'::L' a))(hf:vD L0 H L':=by repeat first|exact f0|refine f1 ?_)
 (o:ev σ f=.func (.func k) fst.toArray cap.toArray:=by rfl) (p:lP Z σ ⟨dst,.call {callee:=.value f,args:=l.toArray,argTypes:=i},ty,pos,lf,gd⟩=true:=by rfl) (q:l8 n dst=true:=by rfl):
 SL P n W .plain Z Q (⟨dst,.call {callee:=.value f,args:=l.toArray,argTypes:=i},ty,pos,lf,gd⟩::rest) σ L:=by
 obtain⟨pre,post,rfl,r⟩:=hf;have s:L.Perm (e::fz H::(pre++post)):=j.ny.trans ((rT pre post (fz H)).cons e);refine nR (R:=λv b=>∃a e',H.le a/\b=e'::L' a/\R a e' v) (((m W (pre++post)).mL λw c=>c.ny s).conv ?_) ?_ o p q;·rintro v b ⟨a,e',d,t,g⟩;refine⟨e'::L' a,λw c=>?_,a,e',d,rfl,g⟩;subst t;rw[r];exact c.ny ((rT pre post (fz a)).symm.cons e')
 ·rintro v b ⟨a,e',d,rfl,g⟩;exact h a e' v d g
end
theorem S1{P:Program}{n:Sz}{W:World}{q:Md}{Q:Exit->St->List kM->Prop}{σ:St}{L:List kM}{Z:Array Oper}{rest:List Oper}{dst:Option Nat}{ty:TypeId}{pos:String}{lf:Array Edge}{gd:Option (Nat×Bool)}{t:TypeId}{x y:Operand}(h:SL P n W q Z Q (⟨dst,.indexAddr t x y,ty,pos,lf,gd⟩::rest) σ L):SL P n W q Z Q (⟨dst,.indexAddr t x y,ty,pos,lf,gd⟩::rest) σ L:=h
theorem kn{W:World}{L:List kM}{p:World->Prop}(h:oq W L p:=by first|assumption|exact nS Zn (by assumption) EG|exact qP Zn|exact p9 Zn|exact oq.sub (by assumption) Zu):oq W L p:=h
structure L6(B:Prop):Prop where
 h:B
theorem U{A B:Prop}(d:B)(h:L6 B->A:=by
 intro k;(repeat first
  |(refine Si ?_;first
   |refine q8 ?_
   |refine RR rfl rfl ?_
   |refine LY rfl rfl rfl ?_
   |refine Iv rfl rfl rfl ?_
   |refine LY (a _) rfl rfl ?_
   |refine Iv (a _) rfl rfl ?_
   |refine LZ rfl rfl rfl rfl ?_
   |(refine Sj ?_;first|refine RV rfl rfl Zo rfl rfl ?_|refine RW rfl rfl Zo rfl rfl ?_|refine SM rfl rfl Zo rfl rfl ?_|refine zX rfl rfl rfl ?_|refine RZ rfl rfl rfl rfl ?_|refine e rfl rfl rfl rfl ?_|refine SN rfl rfl rfl rfl rfl ?_|refine LV rfl rfl rfl rfl ?_|refine LW rfl rfl rfl rfl ?_|refine LV rfl (a _) rfl rfl ?_|refine LW rfl (a _) rfl rfl ?_)
   |(refine Sk ?_;first|refine R1 rfl Zn Zr rfl rfl ?_|refine zY rfl Zn Zr rfl rfl ?_|refine FT rfl kn (by assumption) Zr rfl rfl ?_|refine uV rfl kn (by assumption) Zr rfl rfl ?_|refine IA rfl kn Zr rfl rfl ?_|refine S0 rfl kn Zr rfl rfl ?_|refine pN rfl kn [_,_] rfl rfl rfl rfl ?_|refine AZ rfl kn (by assumption) [_,_] rfl rfl rfl rfl ?_|refine pN rfl kn [_,_,_,_,_,_,_] rfl rfl rfl rfl ?_|refine AZ rfl kn (by assumption) [_,_,_,_,_,_,_] rfl rfl rfl rfl ?_|refine pN rfl kn [_,_,_,_,_,_,_,_] rfl rfl rfl rfl ?_|refine AZ rfl kn (by assumption) [_,_,_,_,_,_,_,_] rfl rfl rfl rfl ?_|refine pN rfl kn [_,_,_,_,_] rfl rfl rfl rfl ?_|refine AZ rfl kn (by assumption) [_,_,_,_,_] rfl rfl rfl rfl ?_|refine pN rfl kn [_,_,_] rfl rfl rfl rfl ?_|refine AZ rfl kn (by assumption) [_,_,_] rfl rfl rfl rfl ?_|refine pN rfl kn [_,_,_,_] rfl rfl rfl rfl ?_|refine AZ rfl kn (by assumption) [_,_,_,_] rfl rfl rfl rfl ?_|refine pN rfl kn [_,_,_,_,_,_,_,_,_,_] rfl rfl rfl rfl ?_|refine AZ rfl kn (by assumption) [_,_,_,_,_,_,_,_,_,_] rfl rfl rfl rfl ?_|refine pN rfl kn [_,_,_,_,_,_] rfl rfl rfl rfl ?_|refine AZ rfl kn (by assumption) [_,_,_,_,_,_] rfl rfl rfl rfl ?_)
   |(refine Sn ?_;first|refine R0 rfl rfl rfl ?_|refine Ev rfl rfl rfl ?_)
   |(refine S1 ?_;refine qO rfl rfl (by first|assumption|omega) (by first|rfl|assumption|omega) kn rfl rfl ?_)
   |(refine So ?_;first|refine RY rfl rfl rfl ?_|refine SU rfl rfl rfl ?_|refine Ly rfl rfl rfl ?_)
   |(refine SD ?_;refine Sx rfl rfl rfl rfl ?_)
   |(refine SE ?_;refine Sy rfl rfl rfl rfl ?_)
   |(refine SG ?_;refine RX rfl rfl rfl Zo rfl rfl ?_)
   |refine SH rfl rfl rfl ?_
   |(refine Sm ?_;first|refine xL rfl rfl rfl rfl (by(first|exact p0|exact p1 p0|exact p1 (p1 p0)|exact p1 (p1 (p1 p0))|exact p1 (p1 (p1 (p1 p0)))|exact p1 (p1 (p1 (p1 (p1 p0))))|exact p1 (p1 (p1 (p1 (p1 (p1 p0)))))|exact p1 (p1 (p1 (p1 (p1 (p1 (p1 p0)))))))) Zr rfl (by first|exact λ_=>trivial|(intro _;refine Sub.of ?_;exact Zu)) rfl ?_|refine Lz rfl rfl rfl (by(first|exact p0|exact p1 p0|exact p1 (p1 p0)|exact p1 (p1 (p1 p0))|exact p1 (p1 (p1 (p1 p0)))|exact p1 (p1 (p1 (p1 (p1 p0))))|exact p1 (p1 (p1 (p1 (p1 (p1 p0)))))|exact p1 (p1 (p1 (p1 (p1 (p1 (p1 p0)))))))) (by exact n0 rfl) rfl (by first|exact λ_=>trivial|(intro _;refine Sub.of ?_;exact Zu)) rfl ?_)
   |(refine Sq ?_;refine R6 rfl rfl rfl rfl ?_)
   |(refine Sr ?_;refine R7 rfl rfl rfl ?_)
   |refine Sd Zb Zr Zr rfl rfl rfl ?_
   |refine zX rfl rfl rfl ?_
   |refine R9 rfl rfl rfl ?_
   |refine R4 rfl rfl ?_)
  |(refine LG ?_;first|refine sX ?_|refine Ik ?_|refine Es ?_|refine CO ?_|refine Lu ?_|refine Lv ?_|refine mE (b:=true) rfl (λ_=>?_) (λc=>by cases c)|refine mE (b:=false) rfl (λc=>by cases c) (λ_=>?_)))
 exact k.h):A:=h ⟨d⟩
end
end Go.Proofs.YtkbifmngmocjnaaGreatDoor
