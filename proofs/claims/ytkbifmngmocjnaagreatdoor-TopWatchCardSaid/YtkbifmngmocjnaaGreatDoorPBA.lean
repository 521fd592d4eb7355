/- Proved here, packed: what the parts Targ Lord Refc Quie Ordo Forg Tliv Hisa Hisb Hisc prove (rules of the walk, contracts of functions, plain laws). Conditions: in each statement. -/
import Derived.Test.YtkbifmngmocjnaaGreatDoorPAZ
namespace Go.Proofs.YtkbifmngmocjnaaGreatDoor
set_option maxRecDepth 100000
set_option maxHeartbeats 8000000
set_option linter.all false
section
open Top Go.ChangeShapes Go.WideShapes Go.ChangeAt Go.RowKit Proofs.Tryz
theorem Tryz.own:ownKnob prog.godebug=none:=by kernel_rfl
theorem Tryz.K0:laidOutB prog=true:=by kernel_rfl
section
variable{P:Program}{W:World}{t:TypeId}{f0 f1 f2 f3 f4:Field}{s0 s1 s2 s3 s4:Nat}{α β γ δ ε:Type}{HM:α->List Value}{HN:β->List Value}{HO:γ->List Value}{HP:δ->List Value}{Rh:ε->List Value}
 {G0:α->Prop} {G1:β->Prop} {G2:γ->Prop} {G3:δ->Prop} {G4:ε->Prop}
theorem oJ.Rj(a:P.underlying t=some (.struct #[f0,f1,f2,f3]))(v:P.cellsOf t=s0+s1+s2+s3)(o0:f0.offset=0/\P.cellsOf f0.type=s0) (o1:f1.offset=s0/\P.cellsOf f1.type=s1) (b:f2.offset=s0+s1/\P.cellsOf f2.type=s2) (c:f3.offset=s0+s1+s2/\P.cellsOf f3.type=s3)(d:oJ P W f0.type HM G0) (e:oJ P W f1.type HN G1) (f:oJ P W f2.type HO G2) (g:oJ P W f3.type HP G3):oJ P W t (λx:α×β×γ×δ=>HM x.1++HN x.2.1++HO x.2.2.1++HP x.2.2.2) (λx=>G0 x.1/\G1 x.2.1/\G2 x.2.2.1/\G3 x.2.2.2):=by intro H w A cs y h;obtain⟨xs,n,_,_,lL,i,hf⟩:=DataW.trod_struct a h;simp at i;obtain⟨x,j,k⟩:=AC (hf 0 f0 rfl) Zo o0 d;obtain⟨y,m,o⟩:=AC (hf 1 f1 rfl) Zo o1 e;obtain⟨z,p,q⟩:=AC (hf 2 f2 rfl) Zo b f;obtain⟨u,r,s⟩:=AC (hf 3 f3 rfl) Zo c g;refine⟨(x,y,z,u),?_,k,o,q,s⟩;simp only;rw[<-j,<-m,<-p,<-r,iK,aY (l:=cs.drop (s0+s1+s2)) (by simp;omega),<-ib,<-ib,bT]
theorem oJ.aaZ(a:P.underlying t=some (.struct #[f0,f1,f2,f3,f4]))(D:P.cellsOf t=s0+s1+s2+s3+s4)(o0:f0.offset=0/\P.cellsOf f0.type=s0) (o1:f1.offset=s0/\P.cellsOf f1.type=s1) (b:f2.offset=s0+s1/\P.cellsOf f2.type=s2) (c:f3.offset=s0+s1+s2/\P.cellsOf f3.type=s3) (d:f4.offset=s0+s1+s2+s3/\P.cellsOf f4.type=s4)(e:oJ P W f0.type HM G0) (f:oJ P W f1.type HN G1) (g:oJ P W f2.type HO G2) (i:oJ P W f3.type HP G3) (j:oJ P W f4.type Rh G4):oJ P W t (λx:α×β×γ×δ×ε=>HM x.1++HN x.2.1++HO x.2.2.1++HP x.2.2.2.1++Rh x.2.2.2.2) (λx=>G0 x.1/\G1 x.2.1/\G2 x.2.2.1/\G3 x.2.2.2.1/\G4 x.2.2.2.2):=by intro H E F cs y h;obtain⟨xs,n,_,_,lL,k,hf⟩:=DataW.trod_struct a h;simp at k;obtain⟨x,m,o⟩:=AC (hf 0 f0 rfl) Zo o0 e;obtain⟨y,p,q⟩:=AC (hf 1 f1 rfl) Zo o1 f;obtain⟨z,r,s⟩:=AC (hf 2 f2 rfl) Zo b g;obtain⟨u,w,A⟩:=AC (hf 3 f3 rfl) Zo c i;obtain⟨v,B,C⟩:=AC (hf 4 f4 rfl) Zo d j;refine⟨(x,y,z,u,v),?_,o,q,s,A,C⟩;simp only;rw[<-m,<-p,<-r,<-w,<-B,iK,aY (l:=cs.drop (s0+s1+s2+s3)) (by simp;omega),<-ib,<-ib,<-ib,bT]
theorem oJ.conv{G:α->Prop}{enc:α->List Value}{a:β->List Value}{b:β->Prop}(h:oJ P W t enc G)(g:α->β)(c:∀x,G x->enc x=a (g x)/\b (g x)):oJ P W t a b:=λH e f cs y i=>by obtain⟨x,rfl,d⟩:=h H e f cs y i;exact⟨g x,(c x d).1,(c x d).2⟩
end
theorem Eo{n:Int}(h:(Lit.int .i64 n).wf=true):od n:=by
 have:-9223372036854775808<=n/\n<=9223372036854775807:=by simpa[Lit.wf,IntKind.min,IntKind.max,IntKind.signed,IntKind.bits] using h
 exact⟨by omega,by omega⟩
theorem aa0{n:Int}(h:(Lit.int .u8 n).wf=true):0<=n/\n<=255:=by simpa[Lit.wf,IntKind.min,IntKind.max,IntKind.signed,IntKind.bits] using h
theorem HU(b:ByteArray):Value.string b=sv b.data.toList:=by unfold sv;rw[jV]
theorem HV{b:ByteArray}(h:b.size<=maxLen):b.data.toList.length<=maxLen:=by rw[fy];exact h
structure HW(c:mo):Prop where
 kind:od c.kind
 path:c.path.length<=maxLen
 to:c.to.length<=maxLen
 data:c.data.length<=maxLen
 n:od c.n
theorem Rk(W:World):oJ prog W 48 qL HW:=
 oJ.conv (oJ.aaZ (s0:=1) (s1:=1) (s2:=1) (s3:=1) (s4:=1) rfl Zk ⟨rfl,by kernel_rfl⟩ ⟨rfl,by kernel_rfl⟩ ⟨rfl,by kernel_rfl⟩ ⟨rfl,by kernel_rfl⟩ ⟨rfl,by kernel_rfl⟩ (oJ.int rfl) (oJ.string rfl) (oJ.string rfl) (oJ.string rfl) (oJ.int rfl))
  (λx=>⟨x.1,x.2.1.data.toList,x.2.2.1.data.toList,x.2.2.2.1.data.toList,x.2.2.2.2⟩) (λx a=>⟨by show[Value.int .i64 x.1]++[Value.string x.2.1]++[Value.string x.2.2.1]++[Value.string x.2.2.2.1]++[Value.int .i64 x.2.2.2.2]=_;rw[HU,HU,HU];rfl,⟨Eo a.1,HV a.2.1,HV a.2.2.1,HV a.2.2.2.1,Eo a.2.2.2.2⟩⟩)
structure tA where
 kind:Int
 call:mo
 pick:Int
 mT:kV
deriving Inhabited
def tV(o:tA):List Value:=[nI o.kind]++qL o.call++[nI o.pick]++[sv o.mT]
structure AP(o:tA):Prop where
 kind:od o.kind
 call:HW o.call
 pick:od o.pick
 mT:o.mT.length<=maxLen
instance:m6 tV 8:=⟨λ_=>rfl,λx v a=>by simp[tV,qL,sv] at a;rcases a with rfl|rfl|rfl|rfl|rfl|rfl|rfl|rfl<;>rfl⟩
theorem aa1(W:World):oJ prog W 84 tV AP:=
 oJ.conv (oJ.Rj (s0:=1) (s1:=5) (s2:=1) (s3:=1) rfl Zk ⟨rfl,by kernel_rfl⟩ ⟨rfl,by kernel_rfl⟩ ⟨rfl,by kernel_rfl⟩ ⟨rfl,by kernel_rfl⟩ (oJ.int rfl) (Rk W) (oJ.int rfl) (oJ.string rfl))
  (λx=>⟨x.1,x.2.1,x.2.2.1,x.2.2.2.data.toList⟩) (λx a=>⟨by show[Value.int .i64 x.1]++qL x.2.1++[Value.int .i64 x.2.2.1]++[Value.string x.2.2.2]=_;rw[HU];rfl,⟨Eo a.1,a.2.1,Eo a.2.2.1,HV a.2.2.2⟩⟩)
def FJ(a:Top.Act):List Value:=[.bool a.start]++qL a.call++[nI a.pick]++[.bool a.ng]
structure K5(a:Top.Act):Prop where
 call:HW a.call
 pick:od a.pick
instance:m6 FJ 8:=⟨λ_=>rfl,λx v a=>by simp[FJ,qL,sv] at a;rcases a with rfl|rfl|rfl|rfl|rfl|rfl|rfl|rfl<;>rfl⟩
theorem aa2(W:World):oJ prog W 56 FJ K5:=
 oJ.conv (oJ.Rj (s0:=1) (s1:=5) (s2:=1) (s3:=1) rfl Zk ⟨rfl,by kernel_rfl⟩ ⟨rfl,by kernel_rfl⟩ ⟨rfl,by kernel_rfl⟩ ⟨rfl,by kernel_rfl⟩ (oJ.bool rfl) (Rk W) (oJ.int rfl) (oJ.bool rfl))
  (λx=>(⟨x.1,x.2.1,x.2.2.1,x.2.2.2⟩:Top.Act)) (λx a=>⟨rfl,⟨a.2.1,Eo a.2.2.1⟩⟩)
theorem Rl(W:World):oJ prog W 71 DN (DO W 8 tV AP):=oJ.slice rfl Zk Zo (aa1 W)
theorem aa3(W:World):oJ prog W 22 DN (DO W 8 FJ K5):=oJ.slice rfl Zk Zo (aa2 W)
def tC(c:mo):Bool:=decide (c.path.length<=1000)&&decide (c.to.length<=1000)&&decide (c.data.length<=5000)
def s8(o:tA):Bool:=tC o.call&&decide (o.mT.length<=1000)
theorem aa4:prog.globalNamed "gunwale/sums.steps"=some 0:=by kernel_rfl
theorem aa5:(prog.globals[0]?).map (·.type)=some 440:=by kernel_rfl
theorem K6{W:World}{r:List (String×DataW Unit)}(h:laidMet prog (("gunwale/sums.steps",Rows.laid_gunwale_sums_steps)::r) W):Steps (pu W):=by
 have f:∀(i:Nat) (v:Value),W.cell? ⟨0,i,none⟩=some v->(pu W).kn (λw=>w.cell? ⟨0,i,none⟩=some v):=by
  intro i v a w g;unfold pu at g;have e:0<W.heap.size:=by
   unfold World.cell? at a;simp only at a;split at a;·rename_i e;exact(aO.1 e).1
   ·cases a
  have b:w.heap[0]? =W.heap[0]?:=g 0 e;unfold World.cell? at a⊢;simp only at a⊢;rw[b];exact a
 obtain⟨B,⟨C,t0,n,f0,p0,D,j,o,p,q,_⟩,_,_⟩:=h;obtain rfl:=dB (aa4.symm.trans j);obtain rfl:=dB (aa5.symm.trans o);obtain⟨xs,m1,rfl,c,lL,s,k⟩:=DataW.trod_array underlying440 q;have t:prog.cellsOf 373=1:=by kernel_rfl
 have b:=k 0 Zd;have d:=k 1 Zd;have m:=World.var?_cell j p;rw[t] at b d;obtain⟨l⟩:=n;match xs,s,c,b,d with
 |[x0,u],_,c,b,d=>
  simp only[Rows.laid_gunwale_sums_steps,bE,DataW.agg.injEq,bk,cu,cH] at c;obtain⟨k0,x,f0,_⟩:=jR underlying373 (show DataW.trod _ prog W 0 _ false m1 373 _=some x0 from b);obtain⟨k1,y,f1,_⟩:=jR underlying373 (show DataW.trod _ prog W 0 _ false m1 373 _=some u from d);rw[f0,f1] at c;have z:k0=0:=by have:=c.1.1;simpa using this.symm
  have A:k1=79764919:=by have:=c.1.2.1;simpa using this.symm
  subst z;subst A;refine⟨f 0 _ ?_,f 1 _ ?_⟩;·rw[m];have:=congrArg (·[0]?) x;simpa using this
  ·rw[m];have:=congrArg (·[0]?) y;simpa using this
end
section
open Top
def s9(d:nh)(o:tA):nh:=if o.kind=1 then((rL d o.call).map (·.1)).getD d else if o.kind=2 then xw d o.pick else if o.kind=3 then(xY d).getD d else if o.kind=4 then(uN d o.mT).getD d else d
theorem Rm{c:mo}(h:tC c=true):yd c:=by unfold tC at h;simp only[aF,bz] at h;exact⟨by omega,by omega,by omega⟩
theorem Rn{o:tA}(h:s8 o=true):yd o.call/\o.mT.length<=1000:=by unfold s8 at h;simp only[aF,bz] at h;exact⟨Rm h.1,h.2⟩
theorem nL.order{S:Nat}{N:Int}{d:nh}(h:nL S N d)(b:0<=N){o:tA}(hf:s8 o=true)(c:S<=255\/o.kind≠4):nL S (N+1) (s9 d o):=by
 have a:nL S (N+1) d:=h.up Zo;unfold s9;split
 ·cases f:rL d o.call with
  |none=>exact a
  |some y=>exact h.start (Rn hf).1 (show rL d o.call=some (y.1,y.2) from f)
 ·split;·exact h.step _
  ·split
   ·cases g:xY d with
    |none=>exact a
    |some y=>exact(h.mark g).1.up Zo
   ·split
    ·rename_i i;cases j:uN d o.mT with
     |none=>exact a
     |some y=>exact(h.Cr b (c.resolve_right (λe=>e i)) j).up Zo
    ·exact a
theorem nL.HX{S:Nat}:∀(l:List tA) {N:Int} {d:nh},nL S N d->0<=N->(∀o∈l,s8 o=true)->(∀o∈l,S<=255\/o.kind≠4)->nL S (N+l.length) (l.foldl s9 d)
 |[],N,d,h,_,_,_=>h.up Zs
 |o::l,N,d,h,c,hf,b=>by have:=nL.HX l (h.order c (hf o (ay ..)) (b o (ay ..))) Zo (λx a=>hf x (aI _ a)) (λx a=>b x (aI _ a));exact this.up (by rw[aG];omega)
theorem m5.Ro{C:Nat}{N:Int}{x:lD}(h:m5 C N x):(tN x==decide (((pa x).length:Int)>0))=false:=by
 cases a:tN x with
 |true=>rw[Ze a];rfl
 |false=>
  have b:pa x≠[]:=λe=>by rw[h.tQ e] at a;cases a
  have hp:=cA.2 b;rw[show decide (((pa x).length:Int)>0)=true from aZ Zo];rfl
def HY(l:List lr):Prop:=∀t∈l,t.call.kind≠12
theorem aa6{l l':List lr}(h:HY l)(e:l'.map (·.call)=l.map (·.call)):HY l':=λt b=>by have a:t.call∈l'.map (·.call):=aU.2 ⟨t,b,rfl⟩;rw[e] at a;obtain⟨u,c,d⟩:=aU.1 a;rw[<-d];exact h u c
theorem aa7{C:Nat}{N:Int}{x:lD}(h:m5 C N x)(a:HY x.kK):x.k6.2=[]:=by
 cases b:x.k6.2 with
 |nil=>rfl
 |cons w r=>obtain⟨_,_,k,t,_,c,_,_,_,d,_⟩:=h.k6 w (by rw[b];exact ay ..);exact absurd d (a t (ar c))
theorem aa8{x:lD}(a:x.k6.2=[]){p:Int}{kU:Nat}{nP:Bool}(h:tM x p=some (kU,nP)):nP=false:=by
 unfold tM at h;split at h;·cases h
 ·cases h;unfold oU;rw[a];rfl
theorem K7{d:nh}{p:Int}(a:d.kN.k6.2=[]):(xw d p).kN=nm d.kN p false:=by
 rw[FF];cases hp:tM d.kN p with
 |none=>show d.kN=_;unfold nm;rw[hp]
 |some y=>obtain⟨kU,nP⟩:=y;obtain rfl:=aa8 a hp;rfl
theorem K8(d:nh)(c:mo):(((rL d c).map (·.1)).getD d).kN=((rA d.kN c).map (·.1)).getD d.kN:=by rw[HF];cases rA d.kN c<;>rfl
theorem K9{S:Nat}{N:Int}{d:nh}(h:nL S N d):((xY d).getD d).kN=d.kN:=by
 cases a:xY d with
 |none=>rfl
 |some y=>exact(h.mark a).2
structure yv(N:Int)(d m:nh):Prop where
 one:nL 8 N d
 HZ:nL 1000 N m
 kN:d.kN=m.kN
 no:HY d.kN.kK
 ng:xJ d
def calm(o:tA):Bool:=(o.kind==1&&o.call.kind != 12)||o.kind==2||o.kind==3
theorem xJ.start{d f:nh}(h:xJ d){c:mo}{k:Int}(b:rL d c=some (f,k)):xJ f/\f.kN.kK=d.kN.kK++[rz c (d.kN.lp+1)]/\k=d.kN.kK.length:=by
 rw[HF] at b;cases a:rA d.kN c with
 |none=>rw[a] at b;cases b
 |some y=>
  obtain⟨x,i⟩:=y;rw[a] at b;cases b;unfold rA at a;split at a;·cases a
  ·cases a;refine⟨⟨h.oX,h.next,h.mD,λt e g=>?_⟩,rfl,rfl⟩;rcases aQ.1 e with e|e
   ·exact h.kK t e g
   ·rw[aE.1 e];exact⟨λh=>(by cases h),λh=>(by cases h)⟩
theorem xJ.mark{S:Nat}{N:Int}{d f:nh}(h:xJ d)(b:nL S N d)(a:xY d=some f):xJ f:=by
 rw[KS] at a;cases c:xW d.lw d.kN.Z with
 |none=>rw[c] at a;cases a
 |some w=>
  rw[c] at a;cases a;obtain⟨n,g⟩:=b.lw.JR b.oX.1 c;have o:w.mD=d.kN.Z.length:=by rw[g.mD,h.next];omega
  have p:=b.kN.mD;refine⟨h.oX,by show w.next=_;rw[g.next];exact h.next,by show d.kN.k6.1<=w.mD;omega,λt i j=>?_⟩;obtain⟨k,l⟩:=h.kK t i j;have q:=(b.kN.kK t i).mV;refine⟨k,λm=>?_⟩;rcases l m with e|e
  ·exact .inl ⟨e.1,by show t.mV<=w.mD;omega⟩
  ·exact .inr e
theorem yv.order{N:Int}{d m:nh}(h:yv N d m)(f:0<=N){o:tA}(hf:s8 o=true)(a:calm o=true):yv (N+1) (s9 d o) (s9 m o):=by
 have g:o.kind≠4:=by unfold calm at a;simp at a;omega
 have i:=h.one.order f hf (.inl Zd);have j:=h.HZ.order f hf (.inr g);have c:d.kN.k6.2=[]:=aa7 h.one.kN h.no;have k:m.kN.k6.2=[]:=by rw[<-h.kN];exact c
 refine⟨i,j,?_,?_,?_⟩
 ·unfold s9;split;·rw[K8,K8,h.kN]
  ·split;·rw[K7 c,K7 k,h.kN]
   ·split;·rw[K9 h.one,K9 h.HZ,h.kN]
    ·exact h.kN
 ·unfold s9;split
  ·rename_i l;rw[K8];unfold rA;split;·exact h.no
   ·intro t b;rcases aQ.1 b with b|b
    ·exact h.no t b
    ·rw[aE.1 b];unfold calm at a;simp[l] at a;exact a
  ·split;·rw[K7 c];exact aa6 h.no (HD d.kN _ false).BC
   ·split;·rw[K9 h.one];exact h.no
    ·exact h.no
 ·unfold s9;split
  ·cases e:rL d o.call with
   |none=>exact h.ng
   |some y=>exact(h.ng.start (show rL d o.call=some (y.1,y.2) from e)).1
  ·split;·exact h.ng.step h.one _
   ·split
    ·cases e:xY d with
     |none=>exact h.ng
     |some y=>exact h.ng.mark h.one e
    ·exact h.ng
theorem yv.HX:∀(l:List tA) {N:Int} {d m:nh},yv N d m->0<=N->(∀o∈l,s8 o=true)->(∀o∈l,calm o=true)->yv (N+l.length) (l.foldl s9 d) (l.foldl s9 m)
 |[],N,d,m,h,_,_,_=>⟨h.one.up Zs,h.HZ.up Zs,h.kN,h.no,h.ng⟩
 |o::l,N,d,m,h,c,hf,b=>by
  have:=yv.HX l (h.order c (hf o (ay ..)) (b o (ay ..))) Zo (λx a=>hf x (aI _ a)) (λx a=>b x (aI _ a));have e:N+1+(l.length:Int)=N+((o::l).length:Int):=by rw[aG];omega
  rw[e] at this;exact this
theorem yv.new{d m:nh}(c:xv 1 8=some d)(e:xv 1 1000=some m):yv 0 d m:=by obtain⟨f,a,g,h,i⟩:=nL.new (S:=8) Zd Zd c;obtain⟨k1,k2,_⟩:=nL.new (S:=1000) Zd Zd e;refine⟨f,k1,by rw[a,k2],by rw[a];exact λt b=>(by cases b),⟨by rw[g,a];rfl,by rw[h,a];rfl,by rw[a,i];exact fJ _,by rw[a];exact λt b=>(by cases b)⟩⟩
theorem yv.told{N:Int}{d m x:nh}{k:Int}(h:yv N d m)(e:rL d sT=some (x,k))(p:Nat->Int):∃t,(sU x p).kN.kK.getLast? =some t/\((t.lM.err=0/\t.mV<=(sU x p).lw.mD)\/t.lM.err=120):=by
 have f:=h.one.start (c:=sT) ⟨by decide,by decide,by decide⟩ e;obtain⟨hf,l,_⟩:=h.ng.start e;obtain⟨g,n⟩:=f.quiet p;obtain⟨i,a⟩:=Q6 (45*x.kN.kK.length*x.kN.kK.length) 0 p f hf;change xJ (sU x p) at i;change(sU x p).kN.kK.map (·.call)=x.kN.kK.map (·.call) at a;rw[l,bA] at a;generalize sU x p=y at*;have hl:(y.kN.kK.map (·.call)).getLast? =some sT:=by rw[a];simp[rz]
 rw[List.getLast?_map] at hl;cases b:y.kN.kK.getLast? with
 |none=>rw[b] at hl;cases hl
 |some t=>rw[b] at hl;simp only[aW,cD] at hl;have j:=iD b;refine⟨t,rfl,(i.kK t j hl).2 ?_⟩;unfold tN at g;exact aK.1 g t j
end
section
open Top Proofs.Tryz
theorem Rp(H:kM)(v:Value)(l:List mo)(g:Sl 5 qL H v l)(h:∀c∈l,HW c)(n:Int)(t:od n):Rf prog 10 #[v,nI n] H (.bool (l.all tC&&decide ((l.length:Int)<=n))):=λW L=>by
 obtain⟨A,c,rfl,u,w⟩:=g;refine enter func10 ?_;refine U ?_;refine mP (λr σ L'=>L'=fz H::L/\∃k:Nat,k<=l.length/\r=l.length-k/\ml σ [(0,.slice A l.length c),(1,nI n),(5,.int .i64 (k:Int))]/\(l.take k).all tC=true) l.length
  _ (s1 _) ⟨rfl,0,by omega,by omega,⟨rfl,rfl,rfl,trivial⟩,rfl⟩ ?_
 rintro r σ _ ⟨rfl,k,x,rfl,i,mz⟩;obtain⟨y,rfl⟩:=i.open;refine U ?_;refine mE rfl (λd=>?_) (λd=>?_)
 ·have j:k<l.length:=by have:=am d;omega
  obtain⟨e,a⟩:∃e,l[k]? =some e:=⟨_,ad j⟩;have f:=h e (ar a);have m:=f.path;have o:=f.to;have p:=f.data;unfold maxLen at m o p;have q:(l.take (k+1)).all tC=tC e:=by rw[aT,a,List.all_append,mz];simp
  refine U ?_;by_cases z:e.path.length<=1000
  ·rw[show decide ((e.path.length:Int)>1000)=false from Zq];refine U ?_;by_cases B:e.to.length<=1000;·(rw[show decide ((e.to.length:Int)>1000)=false from Zq];refine U ?_;by_cases C:e.data.length<=5000;·rw[show decide ((e.data.length:Int)>5000)=false from Zq];refine U ?_;exact⟨l.length-(k+1),_,by omega,s1 _,rfl,k+1,by omega,rfl,⟨rfl,rfl,rfl,trivial⟩,by rw[q];unfold tC;simp;omega⟩);·(rw[show decide ((e.data.length:Int)>5000)=true from Zq];have b:(l.all tC&&decide ((l.length:Int)<=n))=false:=by(have:l.all tC=false:=by rw[fS];exact⟨e,ar a,by unfold tC;simp;omega⟩);rw[this];rfl);refine U ?_;refine kS ?_;exact lj results10 Zt lv ⟨by rw[b]<;>rfl,rfl⟩
   ·(rw[show decide ((e.to.length:Int)>1000)=true from Zq];have b:(l.all tC&&decide ((l.length:Int)<=n))=false:=by(have:l.all tC=false:=by rw[fS];exact⟨e,ar a,by unfold tC;simp;omega⟩);rw[this];rfl);refine U ?_;refine kS ?_;exact lj results10 Zt lv ⟨by rw[b]<;>rfl,rfl⟩
  ·rw[show decide ((e.path.length:Int)>1000)=true from Zq];have b:(l.all tC&&decide ((l.length:Int)<=n))=false:=by(have:l.all tC=false:=by rw[fS];exact⟨e,ar a,by unfold tC;simp;omega⟩);rw[this];rfl
   refine U ?_;refine kS ?_;exact lj results10 Zt lv ⟨by rw[b]<;>rfl,rfl⟩
 ·have s:k=l.length:=by have:=av d;omega
  rw[s,bf] at mz;refine U ?_;refine kS ?_;exact lj results10 Zt lv ⟨by rw[mz]<;>rfl,rfl⟩
theorem aa9(H:kM)(v:Value)(l:List tA)(s:Sl 8 tV H v l)(t:∀o∈l,AP o)(n:Int)(F:od n):Fn prog 40 #[v,nI n] H (λ_ r=>r=.bool (l.all s8&&decide ((l.length:Int)<=n))):=λW L=>by
 obtain⟨A,c,rfl,G,u⟩:=s;refine enter func40 ?_;refine U ?_;refine mP (λr σ L'=>∃(k:Nat) (b:kM),H.le b/\L'=fz b::L/\k<=l.length/\r=l.length-k/\ml σ [(0,.slice A l.length c),(1,nI n),(5,.int .i64 (k:Int))]/\(l.take k).all s8=true) l.length
  _ (s1 _) ⟨0,H,le_refl _,rfl,by omega,by omega,⟨rfl,rfl,rfl,trivial⟩,rfl⟩ ?_
 rintro r σ _ ⟨k,b,hl,rfl,I,rfl,w,mz⟩;obtain⟨J,rfl⟩:=w.open;refine U ?_;refine mE rfl (λd=>?_) (λd=>?_)
 ·have x:k<l.length:=by have:=am d;omega
  obtain⟨e,a⟩:∃e,l[k]? =some e:=⟨_,ad x⟩;have i:=t e (ar a);have y:=i.mT;unfold maxLen at y;have z:=u.up hl;refine U ?_;intro j;refine U ?_;refine tI (hf:=f0) o0 (λf m B=>?_);have C:Sl 5 qL f (.slice (some ⟨j,0,none⟩) 1 1) [e.call]:=⟨some ⟨j,0,none⟩,1,rfl,⟨aA _,by decide⟩,uf B rfl⟩;refine mi ((Rp f _ [e.call] C (by simpa using i.call) 1 ⟨by decide,by decide⟩).eq (v':=.bool (tC e.call)) Zs) ?_;have D:(l.take (k+1)).all s8=s8 e:=by rw[aT,a,List.all_append,mz];simp
  cases g:tC e.call with
  |false=>
   have h:(l.all s8&&decide ((l.length:Int)<=n))=false:=by(have:l.all s8=false:=by rw[fS];exact⟨e,ar a,by unfold s8;simp[g]<;>omega⟩);rw[this];rfl
   refine U ?_;refine kS ?_;exact lX c0 results40 Zt (λp q _=>by rw[h]<;>rfl)
  |true=>
   have K:=z.up m;refine U ?_;by_cases M:e.mT.length<=1000;·rw[show decide ((e.mT.length:Int)>1000)=false from Zq];refine U ?_;exact⟨l.length-(k+1),_,by omega,s1 _,k+1,f,le_trans hl m,rfl,by omega,rfl,⟨rfl,rfl,rfl,trivial⟩,by rw[D];unfold s8;simp[g];omega⟩
   ·(rw[show decide ((e.mT.length:Int)>1000)=true from Zq];have h:(l.all s8&&decide ((l.length:Int)<=n))=false:=by(have:l.all s8=false:=by rw[fS];exact⟨e,ar a,by unfold s8;simp[g]<;>omega⟩);rw[this];rfl);refine U ?_;refine kS ?_;exact lX c0 results40 Zt (λp q _=>by rw[h]<;>rfl)
 ·have E:k=l.length:=by have:=av d;omega
  rw[E,bf] at mz;refine U ?_;refine kS ?_;exact lX c0 results40 Zt (λp q _=>by rw[mz]<;>rfl)
def Ep(l:List tA):Bool:=l.all s8&&decide ((l.length:Int)<=80)
theorem La(H:kM)(v:Value)(l:List tA)(a:Sl 8 tV H v l)(b:∀o∈l,AP o):Fn prog 16 #[v] H (λ_ r=>r=.bool (Ep l)):=λW L=>by obtain⟨A,c,rfl,d,e⟩:=Zi a;refine enter func16 ?_;refine U ?_;refine l4 (hp:=f0) (aa9 H _ l a b 80 ⟨by decide,by decide⟩) ?_;rintro f _ g rfl;refine U ?_;refine kS ?_;exact lX c0 results16 Zt (λh i _=>rfl)
theorem aba(f i:Nat)(d:nh)(p:Nat->Int):yu (f+1) i d p=if tN d.kN then d else yu f (i+1) (xw d (p i)) p:=rfl
def rS(p:Int)(i:Nat):Int:=IntKind.i64.wrap (p+((i%7:Nat):Int))
theorem abb(p:Int)(i:Nat):od (rS p i):=by unfold rS;rw[IntKind.wrap_i64];exact⟨by omega,by omega⟩
theorem Rq:rS 0=λi=>0+((i%7:Nat):Int):=by funext i;unfold rS;exact dT _ ⟨by omega,by omega⟩
theorem Rr(H:kM)(k:Steps H){S:Nat}{N:Int}(d:nh)(ve b vs c e f g vt h i j:Value)(l:uz H d ve b vs c e f g vt h i j)(a:nL S N d)(m:N<=10000000)(p:Int)(hp:od p):Fn prog 41 #[.agg (nZ d ve b vs c e f g vt h i j).toArray,nI p] H (vB (xw d p)):=
 aaw H k p hp d _ _ _ _ _ _ _ _ _ _ _ l a.kN m Zd a.B (by have:=a.len;omega) a.Q2 a.G5 a.JQ
  (λo n=>Ft ((a.kN.y3 p false).Z o n)) (by have:=m5.len (a.kN.y3 p false);omega) (a.aaD p) (by have:=a.oX;have:=a.len;exact⟨by omega,by omega⟩)
theorem Ia(H:kM)(M:Steps H){S:Nat}{N:Int}(d:nh)(v:Value)(O:vB d H v)(A:nL S N d)(hN:N<=1000000)(p:Int)(hp:od p):Fn prog 20 #[v,nI p] H (vB (sU d (rS p))):=λW L=>by
 obtain⟨ve,n,vs,o,q,r,s,vt,t,u,w,rfl,g⟩:=O;obtain⟨lu,lx,rfl,_,_⟩:=Zi g.kN.kR.kP.es;obtain⟨ly,lz,rfl,_,_⟩:=Zi g.kN.kR.kP.ns.sl;obtain⟨lB,lE,lF,rfl,_⟩:=Zi g.kN.kR.l3;obtain⟨lG,lH,lI,rfl,_⟩:=Zi g.kN.kR.lN;obtain⟨lJ,lK,rfl,_,_⟩:=Zi g.kN.kW.1;obtain⟨lO,lS,rfl,_,_⟩:=Zi g.kN.kW.2;obtain⟨lT,lV,rfl,_,_⟩:=Zi g.kN.k6;obtain⟨lY,l7,x,rfl,ma,mb,P,mg⟩:=Zi g.kN.kK;obtain⟨mh,mq,rfl,_,_⟩:=Zi g.kN.Z;obtain⟨mF,mG,rfl,_,_⟩:=Zi g.lw.ld;obtain⟨mH,mJ,rfl,_,_⟩:=Zi g.lw.waits;have B:=A.kN.tz;refine enter func20 ?_;refine U ?_;intro C;refine U ?_;intro D;refine U ?_;obtain⟨F,E⟩:∃F,F=45*d.kN.kK.length*d.kN.kK.length:=⟨_,rfl⟩;have mU:F<=72000:=by have h3:45*d.kN.kK.length*d.kN.kK.length<=45*40*40:=gb (kg _ B) B;omega
 have Q:(45*(x.length:Int))*(x.length:Int)=(F:Int):=by rw[E,P];push_cast;rfl
 have R:sU d (rS p)=yu F 0 d (rS p):=by unfold sU;rw[<-E]
 refine mP (λm σ L'=>∃(i:Nat) (c:nh) (ve n vs o q r s vt t u w:Value) (l:kM),m=F-i/\i<=F/\sU d (rS p)=yu (F-i) i c (rS p)/\nL S (N+(i:Int)) c/\uz l c ve n vs o q r s vt t u w/\H.le l/\
  L'=k4 D 78 xI::k4 C 78 (nZ c ve n vs o q r s vt t u w)::fz l::L/\
  ml σ [(1,nI p),(2,.pointer (some ⟨C,0,none⟩)),(4,.pointer (some ⟨D,0,none⟩)),(5,nN x.length),(6,nN i)]) F
  _ (s1 _) ⟨0,d,_,_,_,_,_,_,_,_,_,_,_,H,rfl,aR _,R,A.up Zo,g,le_refl _,rfl,rfl,rfl,rfl,rfl,rfl,trivial⟩ ?_
 rintro m σ _ ⟨i,c,ve,n,vs,o,q,r,s,vt,t,u,w,G,rfl,I,j,y,e,J,rfl,T⟩;obtain⟨mW,rfl⟩:=T.open;obtain⟨V,X,rfl,_,_⟩:=Zi e.kN.kR.kP.es;obtain⟨Y,kF,rfl,_,_⟩:=Zi e.kN.kR.kP.ns.sl;obtain⟨kG,kH,kI,rfl,_⟩:=Zi e.kN.kR.l3;obtain⟨kJ,kL,kO,rfl,_⟩:=Zi e.kN.kR.lN;obtain⟨kQ,kT,rfl,_,_⟩:=Zi e.kN.kW.1;obtain⟨kX,kY,rfl,_,_⟩:=Zi e.kN.kW.2;obtain⟨kZ,k5,rfl,_,_⟩:=Zi e.kN.k6;obtain⟨k7,k8,k9,rfl,na,ne,nl,nw⟩:=Zi e.kN.kK;obtain⟨lc,lg,rfl,_,_⟩:=Zi e.kN.Z;obtain⟨nz,nB,rfl,_,_⟩:=Zi e.lw.ld;obtain⟨nC,nD,rfl,_,_⟩:=Zi e.lw.waits;refine U ?_;rw[Q];by_cases nF:i<F
 ·rw[show decide ((i:Int)<(F:Int))=true from Zq];obtain⟨f,hf⟩:∃f,F-i=f+1:=⟨F-i-1,by omega⟩;rw[hf,aba] at j;have lh:f=F-(i+1):=by omega
  refine U ?_;refine pN rfl (qP Zn) (oz c.kN (.slice V c.kN.kR.kP.es.length X) (.slice Y c.kN.kR.kP.ns.length kF) (.slice kG kI.length kH) (.slice kJ kO.length kL) (.slice kQ c.kN.kW.1.length kT) (.slice kX c.kN.kW.2.length kY) (.slice kZ c.kN.k6.2.length k5) (.slice k7 k9.length k8) (.slice lc c.kN.Z.length lg)) rfl rfl rfl rfl ?_;refine mi (FC G c.kN _ _ _ _ _ _ _ _ _ e.kN (by have:=y.kN.tz;omega)) ?_;cases K:tN c.kN with
  |true=>rw[aj K] at j;have z:sU d (rS p)=c:=j;refine U ?_;refine kS ?_;exact lX (c1 (c1 c0)) results20 (.agg (cs:=nZ c _ _ _ _ _ _ _ _ _ _ _) inferInstance rfl lW rfl) (λl hl _=>by rw[z];exact⟨_,_,_,_,_,_,_,_,_,_,_,rfl,e.up hl⟩)
  |false=>rw[ai (by rw[K];decide)] at j;refine U ?_;refine z6 (k:=.i64) (a:=(i:Int)) (b:=7) rfl rfl Zd rfl rfl ?_;refine It (k:=.i64) (a:=p) (b:=(i:Int).tmod 7) rfl rfl rfl rfl ?_;rw[show IntKind.i64.wrap (p+(i:Int).tmod 7)=rS p i from rfl];refine l4 (hp:=f1 (f1 f0)) (Rr G (M.up J) c _ _ _ _ _ _ _ _ _ _ _ e y Zo (rS p i) (abb p i)) ?_;rintro H2 _ lm ⟨ze,zn,zs,zw,zh,za,zg,zt,zo,zl,zq,rfl,h⟩;have lq:=y.step (rS p i);generalize xw c (rS p i)=d2 at*;obtain⟨nH,nK,rfl,_,_⟩:=Zi h.kN.kR.kP.es;obtain⟨nT,oc,rfl,_,_⟩:=Zi h.kN.kR.kP.ns.sl;obtain⟨ou,ox,oN,rfl,_⟩:=Zi h.kN.kR.l3;obtain⟨o6,o9,pm,rfl,_⟩:=Zi h.kN.kR.lN;obtain⟨pr,px,rfl,_,_⟩:=Zi h.kN.kW.1;obtain⟨pC,qr,rfl,_,_⟩:=Zi h.kN.kW.2;obtain⟨qy,qF,rfl,_,_⟩:=Zi h.kN.k6;obtain⟨rn,rq,rD,rfl,rG,sL,tH,uW⟩:=Zi h.kN.kK;obtain⟨u9,vi,rfl,_,_⟩:=Zi h.kN.Z;obtain⟨vA,vK,rfl,_,_⟩:=Zi h.lw.ld;obtain⟨vN,xM,rfl,_,_⟩:=Zi h.lw.waits;refine U ?_;exact⟨F-(i+1),_,by omega,s1 _,i+1,d2,_,_,_,_,_,_,_,_,_,_,_,H2,rfl,by omega,by rw[<-lh];exact j,lq.up (by push_cast;omega),h,le_trans J lm,rfl,rfl,rfl,rfl,rfl,rfl,trivial⟩
 ·rw[show decide ((i:Int)<(F:Int))=false from Zq];have I:F-i=0:=by omega
  rw[I] at j;have z:sU d (rS p)=c:=j;refine U ?_;refine kS ?_;exact lX (c1 (c1 c0)) results20 (.agg (cs:=nZ c _ _ _ _ _ _ _ _ _ _ _) inferInstance rfl lW rfl) (λl hl _=>by rw[z];exact⟨_,_,_,_,_,_,_,_,_,_,_,rfl,e.up hl⟩)
def OdV(d:nh)(H:kM)(r:Value):Prop:=∃v a,r=.tuple #[v,nI a]/\vB d H v
theorem FK(H:kM)(d:nh)(c:mo)(ve g vs h i j k vt l m o:Value)(s:uz H d ve g vs h i j k vt l m o)(t:0<=d.kN.lp/\d.kN.lp<=1000000000):Fn prog 23 #[.agg (nZ d ve g vs h i j k vt l m o).toArray,.agg (qL c).toArray] H (λb r=>∃v n p,r=.tuple #[v,nI n,nI p]/\(p=0↔(rL d c).isSome=true)/\vB (((rL d c).map (·.1)).getD d) b v/\n=((rL d c).map (·.2)).getD 0):=λW L=>
 (aau H d c _ _ _ _ _ _ _ _ _ _ _ s t W L).mono λr L' ⟨b,u,w,a⟩=>by
  refine⟨b,u,w,?_⟩;unfold HG at a;cases q:rL d c with
  |none=>rw[q] at a;obtain⟨v,e,f⟩:=a;exact⟨v,0,193,e,by simp,f,rfl⟩
  |some y=>obtain⟨x,n⟩:=y;rw[q] at a;obtain⟨v,e,f⟩:=a;exact⟨v,n,0,e,by simp,f,rfl⟩
theorem Ib(H:kM)(p:Steps H){S:Nat}{N:Int}(d:nh)(v:Value)(hv:vB d H v)(f:nL S N d)(hN:N<=1000000)(ly:0<=N)(o:tA)(hG:AP o)(hf:s8 o=true)(hS:S<=255\/o.kind≠4):Fn prog 17 #[v,.agg (tV o).toArray] H (OdV (s9 d o)):=λW L=>by
 obtain⟨ve,vn,vs,vw,vh,va,vg,vt,vo,vl,vq,rfl,b⟩:=hv;have hB:=Rn hf;have c:s9 d o=if o.kind=1 then((rL d o.call).map (·.1)).getD d else if o.kind=2 then xw d o.pick else if o.kind=3 then(xY d).getD d else if o.kind=4 then(uN d o.mT).getD d else d:=rfl;obtain⟨lz,lB,rfl,_,_⟩:=Zi b.kN.kR.kP.es;obtain⟨lE,lF,rfl,_,_⟩:=Zi b.kN.kR.kP.ns.sl;obtain⟨lG,lH,lI,rfl,_⟩:=Zi b.kN.kR.l3;obtain⟨lJ,lK,lO,rfl,_⟩:=Zi b.kN.kR.lN;obtain⟨lS,lT,rfl,_,_⟩:=Zi b.kN.kW.1;obtain⟨lV,lY,rfl,_,_⟩:=Zi b.kN.kW.2;obtain⟨l7,ma,rfl,_,_⟩:=Zi b.kN.k6;obtain⟨mb,mg,mh,rfl,mq,mF,mG,mH⟩:=Zi b.kN.kK;obtain⟨mJ,mU,rfl,_,_⟩:=Zi b.kN.Z;obtain⟨mW,na,rfl,_,_⟩:=Zi b.lw.ld;obtain⟨ne,nl,rfl,_,_⟩:=Zi b.lw.waits;refine enter func17 ?_;refine U ?_;intro g2;refine U ?_;intro g3;refine U ?_;intro g4;refine U ?_;by_cases i:o.kind=1;·rw[show(o.kind==1)=true from by simp[i]];rw[aj i] at c;refine U ?_;have lc:=f.kN.lp;refine l4 (hp:=f1 (f1 (f1 f0))) (FK H d o.call _ _ _ _ _ _ _ _ _ _ _ b ⟨lc.1,by omega⟩) ?_;rintro j _ q ⟨_,n,er,rfl,_,⟨r,s,t,u,w,x,z,A,C,D,E,rfl,a⟩,_⟩;generalize((rL d o.call).map (·.1)).getD d=g at*;obtain⟨F,G,rfl,_,_⟩:=Zi a.kN.kR.kP.es;obtain⟨I,J,rfl,_,_⟩:=Zi a.kN.kR.kP.ns.sl;obtain⟨K,M,O,rfl,_⟩:=Zi a.kN.kR.l3;obtain⟨P,Q,R,rfl,_⟩:=Zi a.kN.kR.lN;obtain⟨T,V,rfl,_,_⟩:=Zi a.kN.kW.1;obtain⟨X,Y,rfl,_,_⟩:=Zi a.kN.kW.2;obtain⟨kF,kG,rfl,_,_⟩:=Zi a.kN.k6;obtain⟨kH,kI,kJ,rfl,kL,kO,kQ,kT⟩:=Zi a.kN.kK;obtain⟨kX,kY,rfl,_,_⟩:=Zi a.kN.Z;obtain⟨kZ,k5,rfl,_,_⟩:=Zi a.lw.ld;obtain⟨k7,k8,rfl,_,_⟩:=Zi a.lw.waits;refine U ?_;refine kS ?_;exact m7 (c1 (c1 (c1 c0))) results17 (.agg (cs:=nZ g _ _ _ _ _ _ _ _ _ _ _) inferInstance rfl lW rfl) Zt (λk hl _=>⟨_,_,rfl,by rw[c];exact⟨_,_,_,_,_,_,_,_,_,_,_,rfl,a.up hl⟩⟩)
 ·rw[show(o.kind==1)=false from by simp[i]];rw[ai i] at c;refine U ?_;by_cases l:o.kind=2;·rw[show(o.kind==2)=true from by simp[l]];rw[aj l] at c;refine U ?_;refine l4 (hp:=f1 (f1 (f1 f0))) (Rr H p d _ _ _ _ _ _ _ _ _ _ _ b f Zo o.pick hG.pick) ?_;rintro j _ q ⟨r,s,t,u,w,x,z,A,C,D,E,rfl,a⟩;generalize xw d o.pick=g at*;obtain⟨F,G,rfl,_,_⟩:=Zi a.kN.kR.kP.es;obtain⟨I,J,rfl,_,_⟩:=Zi a.kN.kR.kP.ns.sl;obtain⟨K,M,O,rfl,_⟩:=Zi a.kN.kR.l3;obtain⟨P,Q,R,rfl,_⟩:=Zi a.kN.kR.lN;obtain⟨T,V,rfl,_,_⟩:=Zi a.kN.kW.1;obtain⟨X,Y,rfl,_,_⟩:=Zi a.kN.kW.2;obtain⟨kF,kG,rfl,_,_⟩:=Zi a.kN.k6;obtain⟨kH,kI,kJ,rfl,kL,kO,kQ,kT⟩:=Zi a.kN.kK;obtain⟨kX,kY,rfl,_,_⟩:=Zi a.kN.Z;obtain⟨kZ,k5,rfl,_,_⟩:=Zi a.lw.ld;obtain⟨k7,k8,rfl,_,_⟩:=Zi a.lw.waits;refine U ?_;refine kS ?_;exact m7 (c1 (c1 (c1 c0))) results17 (.agg (cs:=nZ g _ _ _ _ _ _ _ _ _ _ _) inferInstance rfl lW rfl) Zt (λk hl _=>⟨_,_,rfl,by rw[c];exact⟨_,_,_,_,_,_,_,_,_,_,_,rfl,a.up hl⟩⟩)
  ·rw[show(o.kind==2)=false from by simp[l]];rw[ai l] at c;refine U ?_;by_cases m:o.kind=3;·rw[show(o.kind==3)=true from by simp[m]];rw[aj m] at c;refine U ?_;refine l4 (hp:=f1 (f1 (f1 f0))) (aav H p d _ _ _ _ _ _ _ _ _ _ _ b f.B (by have:=f.len;omega) f.Q2 f.G5) ?_;rintro j _ q ⟨_,er,rfl,_,r,s,t,u,w,x,z,A,C,D,E,rfl,a⟩;generalize(xY d).getD d=g at*;obtain⟨F,G,rfl,_,_⟩:=Zi a.kN.kR.kP.es;obtain⟨I,J,rfl,_,_⟩:=Zi a.kN.kR.kP.ns.sl;obtain⟨K,M,O,rfl,_⟩:=Zi a.kN.kR.l3;obtain⟨P,Q,R,rfl,_⟩:=Zi a.kN.kR.lN;obtain⟨T,V,rfl,_,_⟩:=Zi a.kN.kW.1;obtain⟨X,Y,rfl,_,_⟩:=Zi a.kN.kW.2;obtain⟨kF,kG,rfl,_,_⟩:=Zi a.kN.k6;obtain⟨kH,kI,kJ,rfl,kL,kO,kQ,kT⟩:=Zi a.kN.kK;obtain⟨kX,kY,rfl,_,_⟩:=Zi a.kN.Z;obtain⟨kZ,k5,rfl,_,_⟩:=Zi a.lw.ld;obtain⟨k7,k8,rfl,_,_⟩:=Zi a.lw.waits;refine U ?_;refine kS ?_;exact m7 (c1 (c1 (c1 c0))) results17 (.agg (cs:=nZ g _ _ _ _ _ _ _ _ _ _ _) inferInstance rfl lW rfl) Zt (λk hl _=>⟨_,_,rfl,by rw[c];exact⟨_,_,_,_,_,_,_,_,_,_,_,rfl,a.up hl⟩⟩)
   ·rw[show(o.kind==3)=false from by simp[m]];rw[ai m] at c;refine U ?_;by_cases h:o.kind=4
    ·rw[show(o.kind==4)=true from by simp[h]];rw[aj h] at c;obtain⟨lg,lh,lm⟩:=f.Q4 (hS.resolve_right (λe=>e h)) o.mT;have k9:=f.kN.kR.mC;have nw:=f.B.ld;refine U ?_;refine l4 (hp:=f1 (f1 (f1 f0))) (QY H p d _ _ _ _ _ _ _ _ _ _ _ b k9.1 k9.2 o.mT Zo Zo lg lh lm) ?_;rintro j _ q ⟨v2,er,rfl,_,lq,lu⟩;have lx:vB ((uN d o.mT).getD d) j v2:=by
      cases hc:uN d o.mT with
      |none=>exact lu hc
      |some y=>exact lq y hc
     obtain⟨r,s,t,u,w,x,z,A,C,D,E,rfl,a⟩:=lx;generalize(uN d o.mT).getD d=g at*;obtain⟨F,G,rfl,_,_⟩:=Zi a.kN.kR.kP.es;obtain⟨I,J,rfl,_,_⟩:=Zi a.kN.kR.kP.ns.sl;obtain⟨K,M,O,rfl,_⟩:=Zi a.kN.kR.l3;obtain⟨P,Q,R,rfl,_⟩:=Zi a.kN.kR.lN;obtain⟨T,V,rfl,_,_⟩:=Zi a.kN.kW.1;obtain⟨X,Y,rfl,_,_⟩:=Zi a.kN.kW.2;obtain⟨kF,kG,rfl,_,_⟩:=Zi a.kN.k6;obtain⟨kH,kI,kJ,rfl,kL,kO,kQ,kT⟩:=Zi a.kN.kK;obtain⟨kX,kY,rfl,_,_⟩:=Zi a.kN.Z;obtain⟨kZ,k5,rfl,_,_⟩:=Zi a.lw.ld;obtain⟨k7,k8,rfl,_,_⟩:=Zi a.lw.waits;refine U ?_;refine kS ?_;exact m7 (c1 (c1 (c1 c0))) results17 (.agg (cs:=nZ g _ _ _ _ _ _ _ _ _ _ _) inferInstance rfl lW rfl) Zt (λk hl _=>⟨_,_,rfl,by rw[c];exact⟨_,_,_,_,_,_,_,_,_,_,_,rfl,a.up hl⟩⟩)
    ·rw[show(o.kind==4)=false from by simp[h]];rw[ai h] at c;refine U ?_;refine kS ?_;exact m7 (c1 (c1 (c1 c0))) results17 (.agg (cs:=nZ d _ _ _ _ _ _ _ _ _ _ _) inferInstance rfl lW rfl) Zt (λk hl _=>⟨_,_,rfl,by rw[c];exact⟨_,_,_,_,_,_,_,_,_,_,_,rfl,b.up hl⟩⟩)
theorem Rs(H:kM)(G:Steps H){S:Nat}{N:Int}(d:nh)(v:Value)(R:vB d H v)(T:nL S N d)(hN:N<=100000)(lK:0<=N)(I:Value)(l:List tA)(V:Sl 8 tV H I l)(lO:l.length<=100000)(J:∀o∈l,AP o)(hf:∀o∈l,s8 o=true)(k:∀o∈l,S<=255\/o.kind≠4):Fn prog 21 #[v,I] H (vB (l.foldl s9 d)):=λW L=>by
 obtain⟨ve,n,vs,p,q,r,s,vt,t,u,w,rfl,c⟩:=R;obtain⟨B,X,rfl,lS,Y⟩:=V;obtain⟨lT,lV,rfl,_,_⟩:=Zi c.kN.kR.kP.es;obtain⟨lY,l7,rfl,_,_⟩:=Zi c.kN.kR.kP.ns.sl;obtain⟨ma,mb,mg,rfl,_⟩:=Zi c.kN.kR.l3;obtain⟨mh,mq,mF,rfl,_⟩:=Zi c.kN.kR.lN;obtain⟨mG,mH,rfl,_,_⟩:=Zi c.kN.kW.1;obtain⟨mJ,mU,rfl,_,_⟩:=Zi c.kN.kW.2;obtain⟨mW,na,rfl,_,_⟩:=Zi c.kN.k6;obtain⟨ne,nl,nw,rfl,nz,nB,nC,nD⟩:=Zi c.kN.kK;obtain⟨nF,nH,rfl,_,_⟩:=Zi c.kN.Z;obtain⟨nK,nT,rfl,_,_⟩:=Zi c.lw.ld;obtain⟨oc,ou,rfl,_,_⟩:=Zi c.lw.waits;refine enter func21 ?_;refine U ?_;intro K;refine U ?_;intro M;refine U ?_;refine mP (λm σ L'=>∃(i:Nat) (f:nh) (ve n vs p q r s vt t u w:Value) (x:kM),m=l.length-i/\i<=l.length/\f=(l.take i).foldl s9 d/\nL S (N+(i:Int)) f/\uz x f ve n vs p q r s vt t u w/\H.le x/\
  L'=k4 M 78 xI::k4 K 78 (nZ f ve n vs p q r s vt t u w)::fz x::L/\
  ml σ [(1,.slice B l.length X),(2,.pointer (some ⟨K,0,none⟩)),(4,.pointer (some ⟨M,0,none⟩)),(5,nN i)]) l.length
  _ (s1 _) ⟨0,d,_,_,_,_,_,_,_,_,_,_,_,H,rfl,aR _,rfl,T.up Zo,c,le_refl _,rfl,rfl,rfl,rfl,rfl,trivial⟩ ?_
 rintro m σ _ ⟨i,f,ve,n,vs,p,q,r,s,vt,t,u,w,O,rfl,ox,z,y,b,j,rfl,kF⟩;obtain⟨oN,rfl⟩:=kF.open;obtain⟨o6,o9,rfl,_,_⟩:=Zi b.kN.kR.kP.es;obtain⟨pm,pr,rfl,_,_⟩:=Zi b.kN.kR.kP.ns.sl;obtain⟨px,pC,qr,rfl,_⟩:=Zi b.kN.kR.l3;obtain⟨qy,qF,rn,rfl,_⟩:=Zi b.kN.kR.lN;obtain⟨rq,rD,rfl,_,_⟩:=Zi b.kN.kW.1;obtain⟨rG,sL,rfl,_,_⟩:=Zi b.kN.kW.2;obtain⟨tH,uW,rfl,_,_⟩:=Zi b.kN.k6;obtain⟨u9,vi,vA,rfl,vK,vN,xM,xZ⟩:=Zi b.kN.kK;obtain⟨yF,y7,rfl,_,_⟩:=Zi b.kN.Z;obtain⟨zE,zM,rfl,_,_⟩:=Zi b.lw.ld;obtain⟨zT,zU,rfl,_,_⟩:=Zi b.lw.waits;refine U ?_;refine mE rfl (λA=>?_) (λA=>?_)
 ·have kG:i<l.length:=by have:=am A;omega
  obtain⟨o,P⟩:∃e,l[i]? =some e:=⟨_,ad kG⟩;have g:=ar P;have Q:(l.take (i+1)).foldl s9 d=s9 f o:=by rw[aT,P,bV,<-z];rfl
  have zZ:=Y.up j;refine U ?_;refine qN [] (lC.Z [0,1,2,3,4] (.o8 (lC.Z [5,6,7,8,9,10,11] .mZ) (lC.Z [9,5,6,7,8,10,11] .mZ))) Zk Zk Zk Zk (λ_ _ _ h=>h) (.of Zu) ?_;refine mM _ _ _ _ Zk ?_;refine U ?_;refine ta ?_ ?_;·refine mM _ _ _ _ Zk ?_;refine l4 (hp:=f1 (f1 f0)) (Ib O (G.up j) f _ ⟨_,_,_,_,_,_,_,_,_,_,_,rfl,b⟩ y Zo Zo o (J o g) (hf o g) (k o g)) ?_;rintro C _ D ⟨_,er,rfl,ze,zn,zs,zw,zh,za,zg,zt,zo,zl,zq,rfl,a⟩;have E:=y.order Zo (hf o g) (k o g);generalize s9 f o=F at*;obtain⟨kH,kI,rfl,_,_⟩:=Zi a.kN.kR.kP.es;obtain⟨kJ,kL,rfl,_,_⟩:=Zi a.kN.kR.kP.ns.sl;obtain⟨kO,kQ,kT,rfl,_⟩:=Zi a.kN.kR.l3;obtain⟨kX,kY,kZ,rfl,_⟩:=Zi a.kN.kR.lN;obtain⟨k5,k7,rfl,_,_⟩:=Zi a.kN.kW.1;obtain⟨k8,k9,rfl,_,_⟩:=Zi a.kN.kW.2;obtain⟨lc,lg,rfl,_,_⟩:=Zi a.kN.k6;obtain⟨lh,lm,lq,rfl,lu,lx,ly,lz⟩:=Zi a.kN.kK;obtain⟨lB,lE,rfl,_,_⟩:=Zi a.kN.Z;obtain⟨lF,lG,rfl,_,_⟩:=Zi a.lw.ld;obtain⟨lH,lI,rfl,_,_⟩:=Zi a.lw.waits;refine U ?_;intro g6;refine U ?_;exact⟨l.length-(i+1),_,by omega,Zu,i+1,F,_,_,_,_,_,_,_,_,_,_,_,C,rfl,by omega,Q.symm,E.up (by push_cast;omega),a,le_trans j D,rfl,rfl,rfl,rfl,rfl,trivial⟩
  ·refine mM _ _ _ _ Zk ?_;refine U ?_;intro g6;refine U ?_;refine l4 (hp:=f1 (f1 (f1 f0))) (Ib O (G.up j) f _ ⟨_,_,_,_,_,_,_,_,_,_,_,rfl,b⟩ y Zo Zo o (J o g) (hf o g) (k o g)) ?_;rintro C _ D ⟨_,er,rfl,ze,zn,zs,zw,zh,za,zg,zt,zo,zl,zq,rfl,a⟩;have E:=y.order Zo (hf o g) (k o g);generalize s9 f o=F at*;obtain⟨kH,kI,rfl,_,_⟩:=Zi a.kN.kR.kP.es;obtain⟨kJ,kL,rfl,_,_⟩:=Zi a.kN.kR.kP.ns.sl;obtain⟨kO,kQ,kT,rfl,_⟩:=Zi a.kN.kR.l3;obtain⟨kX,kY,kZ,rfl,_⟩:=Zi a.kN.kR.lN;obtain⟨k5,k7,rfl,_,_⟩:=Zi a.kN.kW.1;obtain⟨k8,k9,rfl,_,_⟩:=Zi a.kN.kW.2;obtain⟨lc,lg,rfl,_,_⟩:=Zi a.kN.k6;obtain⟨lh,lm,lq,rfl,lu,lx,ly,lz⟩:=Zi a.kN.kK;obtain⟨lB,lE,rfl,_,_⟩:=Zi a.kN.Z;obtain⟨lF,lG,rfl,_,_⟩:=Zi a.lw.ld;obtain⟨lH,lI,rfl,_,_⟩:=Zi a.lw.waits;refine U ?_;exact⟨l.length-(i+1),_,by omega,Zu,i+1,F,_,_,_,_,_,_,_,_,_,_,_,C,rfl,by omega,Q.symm,E.up (by push_cast;omega),a,le_trans j D,rfl,rfl,rfl,rfl,rfl,trivial⟩
 ·have lJ:i=l.length:=by have:=av A;omega
  rw[lJ,bf] at z;refine U ?_;refine kS ?_;exact lX (c1 (c1 c0)) results21 (.agg (cs:=nZ f _ _ _ _ _ _ _ _ _ _ _) inferInstance rfl lW rfl) (λx hl _=>by rw[<-z];exact⟨_,_,_,_,_,_,_,_,_,_,_,rfl,b.up hl⟩)
end
section
open Go.RowKit
section
variable{P:Program}{n:Sz}{W:World}{q:Md}{Q:Exit->St->List kM->Prop}{σ:St}{L:List kM}{Z:Array Oper}{rest:List Oper}{c:Code}
theorem wL(l:List (Nat×Value))(h:ml σ l)(k:∀a,SL P n W q Z Q rest (CU a l) L):SL P n W q Z Q rest σ L:=by obtain⟨a,rfl⟩:=h.open;exact k a
theorem yx(l:List (Nat×Value))(h:ml σ l)(k:∀a,SC P n W c Q (CU a l) L):SC P n W c Q σ L:=by obtain⟨a,rfl⟩:=h.open;exact k a
end
end
section
open Top Proofs.Tryz
def Ic:Prop:=∀H,Steps H->Fn prog 6 #[] H (λ_ r=>r=.bool true)
theorem Rt{l:List tA}(h:Ep l=true):(∀o∈l,s8 o=true)/\l.length<=80:=by unfold Ep at h;simp only[aF,bz,aK] at h;exact⟨h.1,by omega⟩
theorem abd(lB:Ic)(H:kM)(hT:Steps H)(size:Int)(lV:0<=size/\size<=255)(v:Value)(l:List tA)(hv:Sl 8 tV H v l)(hG:∀o∈l,AP o)(p:Int)(hp:od p):Fn prog 4 #[.int .u8 size,v,nI p] H (λ_ r=>r=.bool true):=λW L=>by
 obtain⟨B,bc,rfl,lY,lE⟩:=Zi hv;refine enter func4 ?_;refine U ?_;refine l4 (hp:=f0) (lB H hT) ?_;rintro H1 _ kL rfl;refine U ?_;have lc:=hT.up kL;refine l4 (hp:=f0) (HE H1 lc 1 size Zd Zd ⟨by omega,by omega⟩) ?_;rintro H2 _ kO ⟨v1,Y,rfl,kQ,lg,lh⟩;have l7:=lc.up kO;have kT:Sl 8 tV H2 (.slice B l.length bc) l:=hv.up (le_trans kL kO);cases R:xv 1 size with
 |none=>
  have lF:=lh R;subst lF;have lG:Y≠0:=by intro h;have:=kQ.1 h;rw[R] at this;cases this
  refine U ?_;intro T;refine U ?_;refine l4 (hp:=f1 f0) (La H2 _ l kT hG) ?_;rintro H3 _ kX rfl;cases lm:Ep l with
  |false=>refine U ?_;refine kS ?_;exact lX (c1 c0) results4 Zt (λk hl _=>rfl)
  |true=>refine U ?_;rw[show(Y != 0)=true from by simpa using lG];refine U ?_;refine kS ?_;exact lX (c1 c0) results4 Zt (λk hl _=>rfl)
 |some d=>
  have lH:Y=0:=kQ.2 (by rw[R];rfl);subst lH;obtain⟨ve,vn,vs,vw,vh,va,vg,vt,vo,vl,vq,rfl,f⟩:=lg d R;obtain⟨hI,_⟩:=nL.new (S:=255) Zd Zo R;obtain⟨ma,mb,rfl,-⟩:=Zi f.kN.kR.kP.es;obtain⟨mg,mh,rfl,-⟩:=Zi f.kN.kR.kP.ns.sl;obtain⟨mq,mF,mG,rfl,-⟩:=Zi f.kN.kR.l3;obtain⟨mH,mJ,mU,rfl,-⟩:=Zi f.kN.kR.lN;obtain⟨mW,na,rfl,-⟩:=Zi f.kN.kW.1;obtain⟨ne,nl,rfl,-⟩:=Zi f.kN.kW.2;obtain⟨nw,nz,rfl,-⟩:=Zi f.kN.k6;obtain⟨nB,nC,nD,rfl,-,-,nF,-⟩:=Zi f.kN.kK;obtain⟨nH,nK,rfl,-⟩:=Zi f.kN.Z;obtain⟨nT,oc,rfl,-⟩:=Zi f.lw.ld;obtain⟨ou,ox,rfl,-⟩:=Zi f.lw.waits;refine U ?_;intro T;refine U ?_;refine l4 (hp:=f1 f0) (La H2 _ l kT hG) ?_;rintro H3 _ kX rfl;cases lm:Ep l with
  |false=>refine U ?_;refine kS ?_;exact lX (c1 c0) results4 Zt (λk hl _=>rfl)
  |true=>
   obtain⟨kH,oN⟩:=Rt lm;have lI:H.le H3:=le_trans (le_trans kL kO) kX;have lq:=f.up kX;refine U ?_;refine mP (λm σ L'=>∃(i:Nat) (j:nh) (ve vn vs vw vh va vg vt vo vl vq:Value) (k:kM),m=l.length-i/\i<=l.length/\nL 255 (i:Int) j/\uz k j ve vn vs vw vh va vg vt vo vl vq/\H.le k/\
    L'=k4 T 78 (nZ j ve vn vs vw vh va vg vt vo vl vq)::fz k::L/\
    ml σ [(1,.slice B l.length bc),(2,nI p),(7,.bool true),(8,.pointer (some ⟨T,0,none⟩)),(10,nN i)]) l.length
    _ (s1 _) ⟨0,d,_,_,_,_,_,_,_,_,_,_,_,H3,rfl,aR _,hI,lq,lI,rfl,rfl,rfl,rfl,rfl,rfl,trivial⟩ ?_
   clear f lq hI lg lh kQ R kT;rintro m σ _ ⟨i,j,ve,vn,vs,vw,vh,va,vg,vt,vo,vl,vq,H4,rfl,o6,V,c,kI,rfl,lJ⟩;obtain⟨o9,rfl⟩:=lJ.open;have kY:=hT.up kI;obtain⟨pm,pr,rfl,-⟩:=Zi c.kN.kR.kP.es;obtain⟨px,pC,rfl,-⟩:=Zi c.kN.kR.kP.ns.sl;obtain⟨qr,qy,qF,rfl,-⟩:=Zi c.kN.kR.l3;obtain⟨rn,rq,rD,rfl,-⟩:=Zi c.kN.kR.lN;obtain⟨rG,sL,rfl,-⟩:=Zi c.kN.kW.1;obtain⟨tH,uW,rfl,-⟩:=Zi c.kN.kW.2;obtain⟨u9,vi,rfl,-⟩:=Zi c.kN.k6;obtain⟨vA,vK,lK,rfl,-,-,vN,-⟩:=Zi c.kN.kK;obtain⟨xM,xZ,rfl,-⟩:=Zi c.kN.Z;obtain⟨yF,y7,rfl,-⟩:=Zi c.lw.ld;obtain⟨zE,zM,rfl,-⟩:=Zi c.lw.waits;refine U ?_;refine mE rfl (λhc=>?_) (λhc=>?_)
   ·(have lO:i<l.length:=by have:=am hc;omega);obtain⟨o,ho⟩:∃e,l[i]? =some e:=⟨_,ad lO⟩;have X:=ar ho;have zT:=lE.up kI;refine U ?_;refine qN [] (lC.Z [0,1,2,3,4] (.o8 (lC.Z [5,6,7,8,9,10,11] .mZ) (lC.Z [9,5,6,7,8,10,11] .mZ))) Zk Zk Zk Zk (λ_ _ _ h=>h) (.of Zu) ?_;refine mM _ _ _ _ Zk ?_;refine U ?_;refine ta ?_ ?_;·(refine mM _ _ _ _ Zk ?_;refine l4 (hp:=f1 f0) (Ib H4 kY j _ ⟨_,_,_,_,_,_,_,_,_,_,_,rfl,c⟩ V Zo Zo o (hG o X) (kH o X) (.inl Zd)) ?_;rintro Q _ kJ ⟨_,Y,rfl,ze,zn,zs,zw,zh,za,zg,zt,zo,zl,zq,rfl,b⟩;have g:=V.order Zo (kH o X) (.inl Zd);generalize s9 j o=a at*;obtain⟨n,q,rfl,-⟩:=Zi b.kN.kR.kP.es;obtain⟨s,t,rfl,-⟩:=Zi b.kN.kR.kP.ns.sl;obtain⟨u,w,x,rfl,-⟩:=Zi b.kN.kR.l3;obtain⟨y,z,A,rfl,-⟩:=Zi b.kN.kR.lN;obtain⟨D,E,rfl,-⟩:=Zi b.kN.kW.1;obtain⟨F,G,rfl,-⟩:=Zi b.kN.kW.2;obtain⟨I,J,rfl,-⟩:=Zi b.kN.k6;obtain⟨K,M,N,rfl,-,-,lu,-⟩:=Zi b.kN.kK;obtain⟨O,P,rfl,-⟩:=Zi b.kN.Z;obtain⟨kZ,k5,rfl,-⟩:=Zi b.lw.ld;obtain⟨k7,k8,rfl,-⟩:=Zi b.lw.waits;refine U ?_;intro lS;refine U ?_;refine U ?_;refine yx [(1,.slice B l.length bc),(2,nI p),(7,.bool true),(8,.pointer (some ⟨T,0,none⟩)),(10,nN i)] ⟨rfl,rfl,rfl,rfl,rfl,trivial⟩ (λlx=>?_);refine nq [0,1,3,4,2,5,6,7,8] Zk Zk Zk Zk Zk (λ_ _ _ h=>h) ?_;refine Ev rfl rfl rfl ?_;refine pN rfl (qP Zn) (oz a.kN (.slice n a.kN.kR.kP.es.length q) (.slice s a.kN.kR.kP.ns.length t) (.slice u x.length w) (.slice y A.length z) (.slice D a.kN.kW.1.length E) (.slice F a.kN.kW.2.length G) (.slice I a.kN.k6.2.length J) (.slice K N.length M) (.slice O a.kN.Z.length P)) rfl rfl rfl rfl ?_;refine Ev rfl rfl rfl ?_;refine pN rfl (qP Zn) (oz a.kN (.slice n a.kN.kR.kP.es.length q) (.slice s a.kN.kR.kP.ns.length t) (.slice u x.length w) (.slice y A.length z) (.slice D a.kN.kW.1.length E) (.slice F a.kN.kW.2.length G) (.slice I a.kN.k6.2.length J) (.slice K N.length M) (.slice O a.kN.Z.length P)) rfl rfl rfl rfl ?_;refine mi (FC Q a.kN _ _ _ _ _ _ _ _ _ b.kN (by have:=g.kN.tz;omega)) ?_;refine U ?_;refine l4 (hp:=f1 (f1 f0)) (KK Q a.kN _ _ _ _ _ _ _ _ _ b.kN (by have:=g.kN.tz;omega)) ?_;rintro H6 _ kF ⟨C,ec,rfl,-⟩;have kG:=m5.Ro g.kN;have k9:(p7 (pa a.kN)).length=(pa a.kN).length:=by unfold p7;rw[bO]);rw[<-k9] at kG;refine U ?_;rw[kG];refine U ?_;exact⟨l.length-(i+1),_,by omega,Zu,i+1,a,_,_,_,_,_,_,_,_,_,_,_,H6,rfl,by omega,g.up (by push_cast;omega),b.up kF,le_trans kI (le_trans kJ kF),rfl,rfl,rfl,rfl,rfl,rfl,trivial⟩
    ·(refine mM _ _ _ _ Zk ?_;refine U ?_;intro lS;refine U ?_;refine l4 (hp:=f1 (f1 f0)) (Ib H4 kY j _ ⟨_,_,_,_,_,_,_,_,_,_,_,rfl,c⟩ V Zo Zo o (hG o X) (kH o X) (.inl Zd)) ?_;rintro Q _ kJ ⟨_,Y,rfl,ze,zn,zs,zw,zh,za,zg,zt,zo,zl,zq,rfl,b⟩;have g:=V.order Zo (kH o X) (.inl Zd);generalize s9 j o=a at*;obtain⟨n,q,rfl,-⟩:=Zi b.kN.kR.kP.es;obtain⟨s,t,rfl,-⟩:=Zi b.kN.kR.kP.ns.sl;obtain⟨u,w,x,rfl,-⟩:=Zi b.kN.kR.l3;obtain⟨y,z,A,rfl,-⟩:=Zi b.kN.kR.lN;obtain⟨D,E,rfl,-⟩:=Zi b.kN.kW.1;obtain⟨F,G,rfl,-⟩:=Zi b.kN.kW.2;obtain⟨I,J,rfl,-⟩:=Zi b.kN.k6;obtain⟨K,M,N,rfl,-,-,lu,-⟩:=Zi b.kN.kK;obtain⟨O,P,rfl,-⟩:=Zi b.kN.Z;obtain⟨kZ,k5,rfl,-⟩:=Zi b.lw.ld;obtain⟨k7,k8,rfl,-⟩:=Zi b.lw.waits;refine U ?_;refine U ?_;refine yx [(1,.slice B l.length bc),(2,nI p),(7,.bool true),(8,.pointer (some ⟨T,0,none⟩)),(10,nN i)] ⟨rfl,rfl,rfl,rfl,rfl,trivial⟩ (λlx=>?_);refine nq [0,1,3,4,2,5,6,7,8] Zk Zk Zk Zk Zk (λ_ _ _ h=>h) ?_;refine Ev rfl rfl rfl ?_;refine pN rfl (qP Zn) (oz a.kN (.slice n a.kN.kR.kP.es.length q) (.slice s a.kN.kR.kP.ns.length t) (.slice u x.length w) (.slice y A.length z) (.slice D a.kN.kW.1.length E) (.slice F a.kN.kW.2.length G) (.slice I a.kN.k6.2.length J) (.slice K N.length M) (.slice O a.kN.Z.length P)) rfl rfl rfl rfl ?_;refine Ev rfl rfl rfl ?_;refine pN rfl (qP Zn) (oz a.kN (.slice n a.kN.kR.kP.es.length q) (.slice s a.kN.kR.kP.ns.length t) (.slice u x.length w) (.slice y A.length z) (.slice D a.kN.kW.1.length E) (.slice F a.kN.kW.2.length G) (.slice I a.kN.k6.2.length J) (.slice K N.length M) (.slice O a.kN.Z.length P)) rfl rfl rfl rfl ?_;refine mi (FC Q a.kN _ _ _ _ _ _ _ _ _ b.kN (by have:=g.kN.tz;omega)) ?_;refine U ?_;refine l4 (hp:=f1 (f1 f0)) (KK Q a.kN _ _ _ _ _ _ _ _ _ b.kN (by have:=g.kN.tz;omega)) ?_;rintro H6 _ kF ⟨C,ec,rfl,-⟩;have kG:=m5.Ro g.kN;have k9:(p7 (pa a.kN)).length=(pa a.kN).length:=by unfold p7;rw[bO]);rw[<-k9] at kG;refine U ?_;rw[kG];refine U ?_;exact⟨l.length-(i+1),_,by omega,Zu,i+1,a,_,_,_,_,_,_,_,_,_,_,_,H6,rfl,by omega,g.up (by push_cast;omega),b.up kF,le_trans kI (le_trans kJ kF),rfl,rfl,rfl,rfl,rfl,rfl,trivial⟩
   ·(refine U ?_;by_cases ly:(12:Int)<(lK.length:Int);·rw[aZ ly];refine U ?_;refine kS ?_;exact lX (c1 c0) results4 Zt (λk hl _=>rfl));·rw[bx ly];refine U ?_;refine l4 (hp:=f1 f0) (Ia H4 kY j _ ⟨_,_,_,_,_,_,_,_,_,_,_,rfl,c⟩ V Zo p hp) ?_;rintro Q _ kJ ⟨ze,zn,zs,zw,zh,za,zg,zt,zo,zl,zq,rfl,b⟩;obtain⟨lz,g⟩:=V.quiet (rS p);generalize sU j (rS p)=a at*;obtain⟨n,q,rfl,-⟩:=Zi b.kN.kR.kP.es;obtain⟨s,t,rfl,-⟩:=Zi b.kN.kR.kP.ns.sl;obtain⟨u,w,x,rfl,-⟩:=Zi b.kN.kR.l3;obtain⟨y,z,A,rfl,-⟩:=Zi b.kN.kR.lN;obtain⟨D,E,rfl,-⟩:=Zi b.kN.kW.1;obtain⟨F,G,rfl,-⟩:=Zi b.kN.kW.2;obtain⟨I,J,rfl,-⟩:=Zi b.kN.k6;obtain⟨K,M,N,rfl,-,-,lu,-⟩:=Zi b.kN.kK;obtain⟨O,P,rfl,-⟩:=Zi b.kN.Z;obtain⟨kZ,k5,rfl,-⟩:=Zi b.lw.ld;obtain⟨k7,k8,rfl,-⟩:=Zi b.lw.waits;have lT:=g.kN.held lz;refine wL [(7,.bool true),(8,.pointer (some ⟨T,0,none⟩)),(61,.agg (nZ a (.slice n a.kN.kR.kP.es.length q) (.slice s a.kN.kR.kP.ns.length t) (.slice u x.length w) (.slice y A.length z) (.slice D a.kN.kW.1.length E) (.slice F a.kN.kW.2.length G) (.slice I a.kN.k6.2.length J) (.slice K N.length M) (.slice O a.kN.Z.length P) (.slice kZ a.lw.ln.ld.length k5) (.slice k7 a.lw.waits.length k8)).toArray)] ⟨rfl,rfl,rfl,trivial⟩ (λlx=>?_);refine U ?_;refine pN rfl (qP Zn) (oz a.kN (.slice n a.kN.kR.kP.es.length q) (.slice s a.kN.kR.kP.ns.length t) (.slice u x.length w) (.slice y A.length z) (.slice D a.kN.kW.1.length E) (.slice F a.kN.kW.2.length G) (.slice I a.kN.k6.2.length J) (.slice K N.length M) (.slice O a.kN.Z.length P)) rfl rfl rfl rfl ?_;refine mi (FC Q a.kN _ _ _ _ _ _ _ _ _ b.kN (by have:=g.kN.tz;omega)) ?_;rw[lz];refine U ?_;rw[show((a.kN.kW.1.length:Int)==0)=true from by rw[lT];rfl];refine U ?_;refine kS ?_;exact lX (c1 c0) results4 Zt (λk hl _=>rfl)
def abe(a:lU)(H:kM)(r:Value):Prop:=∃b c,r=.agg (sS a b c).toArray/\tP H a b c
theorem Ru(H:kM)(a:lU)(b d:Value)(f:tP H a b d)(n:a.ll.length<=1000000)(o:a.l9.length<=1000000):Fn prog 54 #[.agg (sS a b d).toArray] H (abe a):=λW L=>by obtain⟨A,c,rfl,p,h⟩:=Zi f.ll;obtain⟨B,e,rfl,q,i⟩:=Zi f.l9;refine enter func54 ?_;refine U ?_;intro r;refine U ?_;intro s;refine U ?_;refine ov (Gu ni H A c a.ll Zo h) ?_;rintro _ _ ⟨j,k,rfl,rfl⟩;simp only[aD];refine U ?_;refine ov (MU nY H B e a.l9 Zo i) ?_;rintro _ _ ⟨l,m,rfl,rfl⟩;simp only[aD];refine U ?_;refine kS ?_;exact lX (c1 (c1 (c1 (c1 c0)))) results54 (.agg (cs:=sS a (.slice j a.ll.length k) (.slice l a.l9.length m)) inferInstance rfl lW rfl) (λt hl g=>⟨_,_,rfl,⟨g.sl (m1 m0),g.sl m0⟩⟩)
def Er(p:Nat×lr)(a ve:Value):List Value:=[nN p.1,nI p.2.IB,nI p.2.mark,nI (if p.2.mS then p.2.mK else 0),nI p.2.call.kind,sv p.2.call.path,sv p.2.call.to,sv p.2.call.data,nI p.2.call.n,nI p.2.lM.err,sv p.2.lM.data,a,nI p.2.lM.n,ve]
theorem abf(p q:Nat×lr)(A B a b:Option Addr)(m c k e d f k2 g:Nat):Pf prog 56 #[.agg (Er p (.slice A m c) (.slice B k e)).toArray,.agg (Er q (.slice a d f) (.slice b k2 g)).toArray] (nI (w5 p.2.mark q.2.mark)):=λW L=>by refine enter func56 ?_;refine U ?_;intro h;refine U ?_;intro i;refine U ?_;refine md (M4 p.2.mark q.2.mark W _) ?_;refine U ?_;refine kS ?_;exact lj results56 Zt lv ⟨rfl,rfl⟩
structure q7 where
 p:Nat×lr
 A:Option Addr
 m:Nat
 c:Nat
 B:Option Addr
 k:Nat
 e:Nat
deriving Inhabited
def tW(x:q7):List Value:=Er x.p (.slice x.A x.m x.c) (.slice x.B x.k x.e)
instance:m6 tW 14:=⟨λ_=>rfl,λx v a=>by
 simp only[tW,Er,aJ,cQ,eG] at a
 (repeat' (rcases a with rfl|a))
 all_goals first|rfl|exact t6 _|(subst a;first|rfl|exact t6 _)⟩
def sV(x:q7):List q7->List q7
 |[]=>[x]
 |y::r=>if x.p.2.mark<y.p.2.mark then y::sV x r else x::y::r
def tX(l:List q7):List q7:=l.foldl (λa x=>sV x a) []
theorem Rv(x:q7):∀l,(sV x l).length=l.length+1
 |[]=>rfl
 |y::r=>by
  unfold sV;split;·rw[aG,Rv x r,aG]
  ·rfl
theorem abg{l:List q7}{i:Nat}{x:q7}(h:l[i]? =some x):tX (l.take (i+1))=sV x (tX (l.take i)):=by unfold tX;rw[aT,h,bV];rfl
theorem Lb:∀(l a:List q7),(l.foldl (λa x=>sV x a) a).length=a.length+l.length
 |[],a=>rfl
 |x::l,a=>by rw[bU,Lb l,Rv,aG];omega
theorem abh{a b:Int}:decide (w5 a b<0)=decide (a<b):=by
 unfold w5;split;·rename_i h;rw[aZ h];decide
 ·rename_i h;rw[bx h];split<;>decide
section
variable{P:Program}{n:Sz}{W:World}{q:Md}{Q:Exit->St->List kM->Prop}{σ:St}{L:List kM}{Z:Array Oper}{rest:List Oper}
 {dst:Option Nat} {ty:TypeId} {pos:String} {lf:Array Edge} {gd:Option (Nat×Bool)}
theorem Id{x a:Operand}{t:TypeId}{g o l c i:Nat}{e s b:Nat}[d:nV P t e s b](f:ev σ x=.slice (some ⟨g,o,none⟩) l c) (j:ev σ a=.int .i64 (i:Int)) (u:i<l)(k:lP Z σ ⟨dst,.indexAddr t x a,ty,pos,lf,gd⟩=true) (m:l8 n dst=true)(h:SL P n W q Z Q rest (l6 σ dst (.pointer (some (pM (some ⟨g,o,none⟩) s i 0)))) L):SL P n W q Z Q (⟨dst,.indexAddr t x a,ty,pos,lf,gd⟩::rest) σ L:=by refine oF _ Zb k m (λw=>?_) h;obtain⟨v,z,p,-,r,-,-⟩:=d.sj;simp[execOp,f,j,Instr.indexAt,aL d.ul,asIntOf,sizeOf,typeInfo,p,r,pM,go_sem];omega
end
theorem abi(H:kM)(A:Option Addr)(c:Nat)(l:List q7)(hl:l.length<=1000)(W:World)(L:List kM):m3 prog W 194 #[.slice A l.length c,nI 0,nN l.length,.func (.func 56) #[] #[]] (li 100 14 tW A c l::fz H::L) (λv L'=>v=.tuple #[]/\L'=li 100 14 tW A c (tX l).reverse::fz H::L):=by
 refine enter func194 ?_;refine SC.pure (φ:=l.length<=c/\c<=maxLen) (λw o=>yC m0 o) (λS=>?_);refine SC.pure (φ:=l=[]\/∃g,A=some ⟨g,0,none⟩) (λw o=>by
  rcases uE (o.ok _ m0).holds with⟨_,M⟩|⟨g,cur,T,q,_⟩;·exact .inl M
  ·exact .inr ⟨g,q⟩) (λq=>?_)
 refine U ?_;refine mP (λr σ L'=>∃(i:Nat),1<=i/\r=l.length-i/\L'=li 100 14 tW A c ((tX (l.take i)).reverse++l.drop i)::fz H::L/\
  ml σ [(0,.slice A l.length c),(1,nI 0),(2,nN l.length),(3,.func (.func 56) #[] #[]),(8,nN i)]) (l.length-1)
  _ (s1 _) ⟨1,by omega,rfl,by
   have:(tX (l.take 1)).reverse++l.drop 1=l:=by cases l<;>rfl
   rw[this],rfl,rfl,rfl,rfl,rfl,trivial⟩ ?_
 rintro r σ _ ⟨i,V,rfl,rfl,s⟩;obtain⟨N,rfl⟩:=s.open;refine U ?_;refine mE rfl (λf=>?_) (λf=>?_)
 ·have d:i<l.length:=by have:=am f;omega
  obtain⟨x,t⟩:∃e,l[i]? =some e:=⟨_,ad d⟩;have G:=abg t;have I:(tX (l.take i)).length=i:=by unfold tX;rw[Lb,aC];simp;omega
  have oC:l.drop i=x::l.drop (i+1):=by rw[br d];rw[ad d] at t;cases t;rfl
  generalize tX (l.take i)=u at*;rw[oC];generalize z:l.drop (i+1)=b at*;refine U ?_;refine mP (λm σ L'=>∃(r a:List q7),m=r.length/\r.length+a.length=i/\sV x u=a.reverse++sV x r/\L'=li 100 14 tW A c (r.reverse++x::a++b)::fz H::L/\
   ml σ [(0,.slice A l.length c),(1,nI 0),(2,nN l.length),(3,.func (.func 56) #[] #[]),(8,nN i),(9,nN r.length)]) i
   _ (s1 _) ⟨u,[],by omega,by simpa using I,by simp,by simp,rfl,rfl,rfl,rfl,rfl,by rw[I];rfl,trivial⟩ ?_
  rintro m σ _ ⟨r,a,rfl,O,C,rfl,s⟩;obtain⟨N,rfl⟩:=s.open;have X:b.length=l.length-(i+1):=by rw[<-z,bi]
  have D:(r.reverse++x::a++b).length=l.length:=by simp;omega
  cases r with
  |nil=>
   refine U ?_;refine nq [0,1,2,3,4,5,6,7,8,9,10,11,12,13,14,15,16] Zk Zk Zk Zk Zk (λ_ _ _ h=>h) ?_;refine U ?_;have E:(tX (l.take (i+1))).reverse++l.drop (i+1)=([]:List q7).reverse++x::a++b:=by rw[G,C,sV,z];simp
   exact⟨l.length-(i+1),_,by omega,s1 _,i+1,by omega,rfl,by rw[E],rfl,rfl,rfl,rfl,rfl,trivial⟩
  |cons y r=>
   have j:(y::r).length<l.length:=by rw[<-D];simp
   have F:r.length<l.length:=by simp at j;omega
   have J:((y::r).reverse++x::a++b)[(y::r).length]? =some x:=by rw[aV,bZ Zs];simp
   have K:((y::r).reverse++x::a++b)[r.length]? =some y:=by rw[aV,cG Zs];simp
   have P:(((y::r).reverse++x::a++b).set (y::r).length y).set r.length x=r.reverse++x::(y::a)++b:=by simp[iu]
   refine U ?_;refine nq [0,1,2,3,4,5,6,7,8,9,10,11,12,13,14,15,16] Zk Zk Zk Zk Zk (λ_ _ _ h=>h) ?_;refine U ?_;rw[show decide ((0:Int)<(((y::r).length:Nat):Int))=true from by simp];refine U ?_;generalize Q:(y::r).reverse++x::a++b=cur at*;refine qO (xs:=cur) (i:=(y::r).length) rfl rfl j D (p9 (e:=100) (c:=c) m0) rfl rfl ?_;refine uV rfl (p9 (l:=cur) (e:=100) (c:=c) m0) J rfl rfl rfl ?_;refine U ?_;rw[show(((y::r).length:Nat):Int)-1=((r.length:Nat):Int) from by simp];refine qO (xs:=cur) (i:=r.length) rfl rfl F D (p9 (e:=100) (c:=c) m0) rfl rfl ?_;refine uV rfl (p9 (l:=cur) (e:=100) (c:=c) m0) K rfl rfl rfl ?_;refine md (abf x.p y.p x.A x.B y.A y.B x.m x.c x.k x.e y.m y.c y.k y.e W _) ?_;refine U ?_;rw[abh];by_cases n:x.p.2.mark<y.p.2.mark;·(rw[aZ n];obtain⟨g,rfl⟩:=q.resolve_left (λe=>by rw[e] at d;simp at d);have R:sV x u=(y::a).reverse++sV x r:=by rw[C,show sV x (y::r)=y::sV x r from by rw[sV,aj n]];simp);refine U ?_;refine qN [] (lC.Z [0,1,2,3,4,5,6,7,8,9,10,11] (lC.p8 [12] (lC.Z [13,14,15] (lC.p8 [16] (lC.Z [17] .mZ))))) Zk Zk Zk Zk (λ_ _ _ h=>h) (.of Zu) ?_;refine mM _ _ _ _ Zk ?_;refine U ?_;rw[show(((y::r).length:Nat):Int)-1=((r.length:Nat):Int) from by simp];refine Id (i:=r.length) rfl rfl F rfl rfl ?_;refine uV rfl (p9 (l:=cur) (e:=100) (c:=c) m0) K rfl rfl rfl ?_;refine U ?_;refine qu _ _ _ Zk ?_;refine Id (i:=(y::r).length) rfl rfl j rfl rfl ?_;refine U ?_;refine mM _ _ _ _ Zk ?_;refine uV rfl (p9 (l:=cur) (e:=100) (c:=c) m0) J rfl rfl rfl ?_;refine Id (i:=(y::r).length) rfl rfl j rfl rfl ?_;refine z7 (l:=cur) (i:=(y::r).length) (y':=y) rfl rfl Zo p0 rfl (λ_=>Sub.of (bu _)) rfl ?_;refine U ?_;refine qu _ _ _ Zk ?_;refine Id (i:=r.length) rfl rfl F rfl rfl ?_;refine U ?_;refine mM _ _ _ _ Zk ?_;refine z7 (l:=cur.set (y::r).length y) (i:=r.length) (y':=x) rfl rfl (by rw[bB];omega) p0 rfl (λ_=>Sub.of (bu _)) rfl ?_;rw[P];refine U ?_;rw[show(((y::r).length:Nat):Int)-1=((r.length:Nat):Int) from by simp];exact⟨r.length,_,by simp,s1 _,r,y::a,rfl,by simp at O⊢;omega,R,rfl,rfl,rfl,rfl,rfl,rfl,rfl,trivial⟩
   ·(rw[bx n];refine U ?_;rw[<-Q];have E:(tX (l.take (i+1))).reverse++l.drop (i+1)=(y::r).reverse++x::a++b:=by rw[G,C,(show sV x (y::r)=x::y::r from by unfold sV;rw[ai n]),z];simp);exact⟨l.length-(i+1),_,by omega,s1 _,i+1,by omega,rfl,by rw[E],rfl,rfl,rfl,rfl,rfl,trivial⟩
 ·have f:=av f;rw[show(tX (l.take i)).reverse++l.drop i=(tX l).reverse from by rw[aY Zo,aX Zo,aP]];refine U ?_;exact qD results194 lv ⟨rfl,rfl⟩
end
end Go.Proofs.YtkbifmngmocjnaaGreatDoor
