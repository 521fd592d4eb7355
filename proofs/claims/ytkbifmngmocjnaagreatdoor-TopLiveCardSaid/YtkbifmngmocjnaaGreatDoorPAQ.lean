/- Proved here, packed: what the parts Viewd Diffa Diff Mdla Mdlb prove (rules of the walk, contracts of functions, plain laws). Conditions: in each statement. -/
import Derived.Test.YtkbifmngmocjnaaGreatDoorPAP
namespace Go.Proofs.YtkbifmngmocjnaaGreatDoor
set_option maxRecDepth 100000
set_option maxHeartbeats 8000000
set_option linter.all false
section
open Top Proofs.Tryz
instance:nE prog 119 [.nilFunc]:=⟨_,_,rfl,rfl,rfl⟩
section
variable{P:Program}{n:Sz}{W:World}{q:Md}{Q:Exit->St->List kM->Prop}{σ:St}{L L0:List kM}{Z:Array Oper}{rest:List Oper}
 {dst:Option Nat} {ty:TypeId} {pos:String} {lf:Array Edge} {gd:Option (Nat×Bool)}
theorem XE{e H:kM}{l:List Oper}{L':kM->List kM}(b:ti L e L0)(h:∀a,H.le a->a.kn e.p->SL P n W .plain Z Q l σ (L' a))(hf:vD L0 H L':=by repeat first|exact f0|refine f1 ?_):SL P n W .plain Z Q l σ L:=(h _ BR BS).mL λ_ c=>c.C4 b hf
theorem XF{κ ν:Type}[BEq κ][LawfulBEq κ]{ke:κ->Value}{ve:ν->Value}{m:List (κ×ν)}{x y:Operand}{t k e g:Nat}{z:Value}[r:wz P t k e][s:wX P k ke][u:Bo P e z]{a:κ}(b:ev σ x=.map (some g))(v:ev σ y=ke a)(A:oq W L (nG g ke ve m).p)(B:q.pb=true) (C:lP Z σ ⟨dst,.lookup t x y false,ty,pos,lf,gd⟩=true) (D:l8 n dst=true)(h:SL P n W q Z Q rest (l6 σ dst (((qG m a).map ve).getD z)) L):SL P n W q Z Q (⟨dst,.lookup t x y false,ty,pos,lf,gd⟩::rest) σ L:=by
 refine tc B Zb C D λw d=>⟨_,w,L,?_,d,λ_=>Sub.refl,.inr id,h⟩;obtain⟨l,c,E,f⟩:=Ar.1 (A w d);obtain⟨i,F,G⟩:=u.q9;have hf:=EX (P:=P) (k:=k) f a w;simp only[execOp,b,v,Instr.lookup,aB,aL r.ul,au,Bp E,aH,s.Cf,hf];cases o:m.findIdx? (λx=>a==x.1) with
 |none=>rw[IQ (EW o)];simp[zeroValue,aB,typeInfo,F,G]
 |some j=>obtain⟨x,b,I,H⟩:=EV f.nd o;rw[IP b H];simp[b,aB]
end
def ux(out:List Int)(oh:List kV)(x:kV×la):Bool:=!(oh.contains x.1&&out.contains x.2.id)
theorem XG(out:List Int)(m:Nm):m.filter (ux out [])=m:=by rw[du];intro x _;rfl
theorem PB{m:Nm}(c:(m.map (·.1)).Nodup){x y:kV×la}(d:x∈m)(e:y∈m)(h:x.1=y.1):x=y:=by obtain⟨i,b⟩:=cL d;obtain⟨j,a⟩:=cL e;have:=(Bm (·.1) c b a).1 h;subst this;rw[b] at a;cases a;rfl
theorem XH{m:Nm}{out:List Int}{oh:List kV}{y:kV×la}(a:y∈m)(b:(m.map (·.1)).Nodup)(c:out.contains y.2.id=true):Aq (m.filter (ux out oh)) y.1=m.filter (ux out (y.1::oh)):=by
 unfold Aq;rw[List.filter_filter];refine je λx d=>?_;by_cases h:x.1=y.1
 ·have:=PB b d a h;subst this;have e:x.2.id∈out:=by simpa using c
  simp[ux,e]
 ·simp[ux,h]
theorem XI{m:Nm}{out:List Int}{oh:List kV}{y:kV×la}(a:y∈m)(b:(m.map (·.1)).Nodup)(c:out.contains y.2.id=false):m.filter (ux out oh)=m.filter (ux out (y.1::oh)):=by
 refine je λx d=>?_;by_cases h:x.1=y.1
 ·have:=PB b d a h;subst this;have e:x.2.id∉out:=by simpa using c
  simp[ux,e]
 ·simp[ux,h]
theorem XJ{m:Nm}{out:List Int}{oh:List kV}(h:∀y∈m.filter (ux out oh),y.1∈oh):m.filter (ux out oh)=m.filter λx=>!(out.contains x.2.id):=by
 refine je λx c=>?_;by_cases b:x.2.id∈out
 ·by_cases a:x.1∈oh;·simp[ux,b,a]
  ·exact absurd (h x (bp.2 ⟨c,by simp[ux,a]⟩)) a
 ·simp[ux,b]
def Cy(b:Bool):Value:=.bool b
structure Hg(H:kM)(l:List la)(out:List Int)(b c f d:Nat):Prop where
 nodes:∃v,H.kn (nX b [v])/\pq H v l
 adC:∃(go:Nat) (e:List (Int×Bool)),H.kn (nX c [.map (some go)])/\H.kn (nG go (λa:Int=>Value.int .i64 a) Cy e).p/\∀k,(qG e k).getD false=out.contains k
 self:H.kn (nX d [.func (.func 60) #[] #[.pointer (some ⟨b,0,none⟩),.pointer (some ⟨c,0,none⟩),.pointer (some ⟨f,0,none⟩),.pointer (some ⟨d,0,none⟩)]])
theorem Hg.up{H a:kM}{l:List la}{out:List Int}{b c d e:Nat}(h:Hg H l out b c d e)(hl:H.le a):Hg a l out b c d e:=by obtain⟨⟨v,f,g⟩,⟨go,i,j,k,m⟩,n⟩:=h;exact⟨⟨v,f.up hl,g.up hl⟩,⟨go,i,j.up hl,k.up hl,m⟩,n.up hl⟩
def yc(l:List la)(out:List Int)(f:Nat)(m:Nm)(path:kV)(s:kV):List oI:=match pR m s with
 |none=>[]
 |some n=>⟨path++47::s,n.id,n.data⟩::(if nM n.id then r5 l out f n.id (path++47::s) else[])
theorem XK(l:List la)(out:List Int)(f:Nat)(dir:Int)(path:kV):r5 l out (f+1) dir path=(rising ((xc l out dir).map (·.1))).flatMap (yc l out f (xc l out dir) path):=by rw[r5];rfl
theorem XL{m:Nm}{s:kV}(h:s∈m.map (·.1)):∃n,pR m s=some n:=by
 obtain⟨x,a,rfl⟩:=aU.1 h;unfold pR;cases hf:m.find? (λy=>y.1==x.1) with
 |some y=>exact⟨_,rfl⟩
 |none=>exact absurd (bK.1 hf x a) Zs
theorem PC(l:List la)(Q:vP l)(out:List Int)(K:Int)(kT:K∈out)(E F h G:Nat):∀(f:Nat) (H:kM) (dir:Int) (path:kV) (p:List Int) (e:List oI) (A:Option Addr) (c:Nat),Hg H l out E F h G->yW l out K p->p.Nodup->dir=p.headD K->l.length+1<=f+p.length->od dir->path.length<=p.length*10001->(e++r5 l out f dir path).length<=10000000000->
 ∀W L,m3 prog W 60 #[nI dir,sv path,.pointer (some ⟨E,0,none⟩),.pointer (some ⟨F,0,none⟩),.pointer (some ⟨h,0,none⟩),.pointer (some ⟨G,0,none⟩)] (k4 h 97 [.slice A e.length c]::li 102 3 sE A c e::fz H::L)
  (λv L'=>v=.tuple #[]/\∃H' A' c',H.le H'/\L'=k4 h 97 [.slice A' (e++r5 l out f dir path).length c']::li 102 3 sE A' c' (e++r5 l out f dir path)::fz H'::L)
 |0,H,dir,path,p,e,A,c,X,R,S,Y,hf,lg,lh,kF,W,L=>by have:=R.len S;omega
 |f+1,H,dir,path,p,e,A,c,X,R,S,Y,hf,lg,lh,kF,W,L=>by
  have lm:=X;obtain⟨⟨v,mg,hv⟩,⟨go,om,mh,lq,lu⟩,lx⟩:=X;have kX:=hv.ok;obtain⟨B,d,rfl,T,hr⟩:=hv.sl;refine enter func60 ?_;refine U ?_;refine ov (JS H _ l hv dir) ?_;rintro _ _ ⟨gm,rfl,rfl⟩;simp only[aD];have kY:=Pb l dir;have ly:=JX l dir;have mq:=λx=>Fj (l:=l) (dir:=dir) (x:=x);refine U ?_;refine TG (gm:=gm) rfl (λgi=>p0) rfl rfl (λgi=>?_);have lz:xc l out dir=(rI l dir).filter λx=>!(out.contains x.2.id):=rfl;have lB:=XK l out f dir path;have kG:=λx=>Ha (l:=l) (out:=out) (dir:=dir) (x:=x);have mF:=(Pc l out dir);have kZ:(xc l out dir).length<=l.length:=cR (bG _ _) ly;have lE:∀n∈l,od n.id:=λn M=>by have:=kX.bd n M;exact⟨by omega,by omega⟩
  generalize hm:rI l dir=m at*;rw[show wY gm gi sv qk m [] none=wY gm gi sv qk (m.filter (ux out [])) [] none from by rw[XG]];refine U ?_;refine mP (λn σ L'=>∃(oh:List kV) (cur:Option kV),n=m.length-oh.length/\oh.Nodup/\(∀s∈oh,s∈m.map (·.1))/\L'=wY gm gi sv qk (m.filter (ux out oh)) oh cur::k4 h 97 [.slice A e.length c]::li 102 3 sE A c e::fz H::L/\
   ml σ [(0,nI dir),(1,sv path),(2,.pointer (some ⟨E,0,none⟩)),(3,.pointer (some ⟨F,0,none⟩)),(4,.pointer (some ⟨h,0,none⟩)),(5,.pointer (some ⟨G,0,none⟩)),(8,.map (some gm)),(19,.pointer (some ⟨gi,0,none⟩))]) m.length
   _ (s1 _) ⟨[],none,by simp,jU,by simp,rfl,rfl,rfl,rfl,rfl,rfl,rfl,rfl,rfl,trivial⟩ ?_
  rintro n σ _ ⟨oh,cur,rfl,lF,lG,rfl,kH⟩;obtain⟨lH,rfl⟩:=kH.open;refine U ?_;refine TH (gm:=gm) (gi:=gi) (ke:=sv) (ve:=qk) (oh:=oh) (cur:=cur) (m:=m.filter (ux out oh)) rfl (λ_ _=>p0) rfl rfl (λlI=>?_) (λy hy lJ=>?_)
  ·rw[XJ lI,<-lz];have mG:=Q.len;rw[lB] at kF⊢;generalize xc l out dir=k at*;refine U ?_;refine SL.mL (λw C=>C.TF (L':=nG gm sv qk k::k4 h 97 [.slice A e.length c]::li 102 3 sE A c e::fz H::L) p0) ?_;refine nR (O5 gm k Zo (λx hx=>by have:=kG x hx;have:=Q.name _ this.2.1;rw[(kG x hx).1];omega) W _) ?_;rintro _ _ ⟨I,J,rfl,rfl⟩;have lK:∀s∈rising (k.map (·.1)),∃n,pR k s=some n:=λs r=>XL ((x8 _).mem_iff.1 r);have mH:(rising (k.map (·.1))).length<=10000:=by rw[(x8 _).length_eq,bO];omega
   generalize rising (k.map (·.1))=ns at*;refine U ?_;refine mP (λn σ L'=>∃(i:Nat) (q:kM) (V:Option Addr) (c1:Nat),n=ns.length-i/\i<=ns.length/\H.le q/\
    L'=li 9 1 ni I J ns::nG gm sv qk k::k4 h 97 [.slice V (e++(ns.take i).flatMap (yc l out f k path)).length c1]::li 102 3 sE V c1 (e++(ns.take i).flatMap (yc l out f k path))::fz q::L/\
    ml σ [(1,sv path),(2,.pointer (some ⟨E,0,none⟩)),(3,.pointer (some ⟨F,0,none⟩)),(4,.pointer (some ⟨h,0,none⟩)),(5,.pointer (some ⟨G,0,none⟩)),(8,.map (some gm)),(32,.slice I ns.length J),(33,nN ns.length),(34,nN i)]) ns.length
    _ (s1 _) ⟨0,H,A,c,by simp,by simp,le_refl _,by simp,rfl,rfl,rfl,rfl,rfl,rfl,rfl,rfl,rfl,trivial⟩ ?_
   rintro n σ _ ⟨i,q,V,c1,rfl,hi,N,rfl,kH⟩;obtain⟨lH,rfl⟩:=kH.open;have mJ:=lx.up N;have k5:∀j,(e++(ns.take j).flatMap (yc l out f k path)).length<=10000000000:=λj=>by(refine cR ?_ kF;conv=>rhs;rw[<-bT j ns,bD,<-aV,ak]);omega
   refine U ?_;refine mE rfl (λT=>?_) (λT=>?_)
   ·(have lO:i<ns.length:=by have:=am T;omega);obtain⟨s,r⟩:∃s,ns[i]? =some s:=⟨_,ad lO⟩;have mU:(ni s)[0]? =some (sv s):=rfl;obtain⟨n,M⟩:=lK s (ar r);obtain⟨e1,O,e3,e4⟩:=kG _ (Fk M);simp only at e1 O e3 e4;have lS:=Q.name n O;rw[<-e1] at lS;have k7:yW l out K (n.id::p):=⟨e4,⟨n,O,rfl,by rw[e3,Y]⟩,R⟩;have k8:(n.id::p).Nodup:=cU.2 ⟨R.new kX kT S O (by rw[e3,Y]),S⟩;have lT:=k7.len k8;have D:(ns.take (i+1)).flatMap (yc l out f k path)=(ns.take i).flatMap (yc l out f k path)++((⟨path++47::s,n.id,n.data⟩:oI)::(if nM n.id then r5 l out f n.id (path++47::s) else[])):=by rw[aT,r,bD];simp[yc,M]
    have P:=k5 (i+1);have mW:=k5 i;rw[D] at P;have lV:(path++47::s).length<=(n.id::p).length*10001:=by simp only[ak,aG];rw[bW];omega
    (have na:p.length*10001<=10000*10001:=bL _ (by simp only[aG] at lT;omega);have lY:path++[47]++s=path++47::s:=by simp);generalize kI:e++(ns.take i).flatMap (yc l out f k path)=ac at*;rw[<-aV,kI] at P;have k9:=lE n O;refine U ?_;refine TC (ke:=sv) (ve:=qk) (a:=s) (m:=k) rfl rfl Zn rfl rfl rfl ?_;rw[G6,M];refine U ?_;intro ne;refine U ?_;refine F4 (a:=path) (b:=[47]) rfl rfl (by simp only[dy];omega) rfl rfl ?_;refine U ?_;refine F4 (a:=path++[47]) (b:=s) rfl rfl (by simp only[ak,dy];omega) rfl rfl ?_;rw[lY];generalize path++47::s=o at*;refine U ?_;intro l7;refine U ?_;refine ap (l:=ac) (news:=[(⟨o,n.id,n.data⟩:oI)]) (oG (g:=l7) (t:=102) (cs:=sE ⟨o,n.id,n.data⟩) Zn rfl) Zl (λu z=>?_);refine U ?_;refine md (wW n.id k9 W _) ?_;cases lc:nM n.id with
    |false=>(rw[lc] at D;simp only[aM,bH] at D;have kJ:e++(ns.take (i+1)).flatMap (yc l out f k path)=ac++[(⟨o,n.id,n.data⟩:oI)]:=by rw[D,<-aV,kI]);refine U ?_;exact⟨ns.length-(i+1),li 9 1 ni I J ns::nG gm sv qk k::k4 h 97 [.slice u (ac++[(⟨o,n.id,n.data⟩:oI)]).length z]::li 102 3 sE u z (ac++[(⟨o,n.id,n.data⟩:oI)])::fz q::L,by omega,Zu,i+1,q,u,z,rfl,by omega,N,by rw[kJ],rfl,rfl,rfl,rfl,rfl,rfl,rfl,rfl,rfl,trivial⟩
    |true=>
     (rw[lc] at D P;simp only[cc] at D P;have kJ:e++(ns.take (i+1)).flatMap (yc l out f k path)=ac++[(⟨o,n.id,n.data⟩:oI)]++r5 l out f n.id o:=by rw[D,<-aV,kI,aV];rfl);refine U ?_;refine SL.mL (L':=k4 h 97 [.slice u (ac++[(⟨o,n.id,n.data⟩:oI)]).length z]::li 102 3 sE u z (ac++[(⟨o,n.id,n.data⟩:oI)])::fz q::li 9 1 ni I J ns::nG gm sv qk k::L)
      (λw C=>(C.sublist (L':=[li 9 1 ni I J ns,nG gm sv qk k]++([k4 h 97 [.slice u (ac++[(⟨o,n.id,n.data⟩:oI)]).length z],li 102 3 sE u z (ac++[(⟨o,n.id,n.data⟩:oI)]),fz q]++L)) Zu).ny (iX _ _ _)) ?_
     refine nR (fst:=[]) (cap:=[.pointer (some ⟨E,0,none⟩),.pointer (some ⟨F,0,none⟩),.pointer (some ⟨h,0,none⟩),.pointer (some ⟨G,0,none⟩)]) (PC l Q out K kT E F h G f q n.id o (n.id::p) (ac++[(⟨o,n.id,n.data⟩:oI)]) u z (lm.up N) k7 k8 rfl (by simp only[aG];omega) k9 lV (by simpa using P) W _) ?_;rintro _ _ ⟨rfl,H2,A2,c2,ma,rfl⟩;rw[<-kJ];refine SL.mL (L':=li 9 1 ni I J ns::nG gm sv qk k::k4 h 97 [.slice A2 (e++(ns.take (i+1)).flatMap (yc l out f k path)).length c2]::li 102 3 sE A2 c2 (e++(ns.take (i+1)).flatMap (yc l out f k path))::fz H2::L) (λw C=>C.ny (iX [_,_,_] [_,_] L)) ?_;refine U ?_;exact⟨ns.length-(i+1),_,by omega,s1 _,i+1,H2,A2,c2,rfl,by omega,le_trans N ma,rfl,rfl,rfl,rfl,rfl,rfl,rfl,rfl,rfl,rfl,trivial⟩
   ·(have kZ:i=ns.length:=by have:=av T;omega);subst kZ;rw[bf];refine U ?_;exact qD results60 (λw C=>C.sublist Zu) ⟨rfl,q,V,c1,N,rfl⟩
  ·have kL:=(bp.1 hy).1;have kO:(y.1::oh).Nodup:=cU.2 ⟨lJ,lF⟩;have kQ:∀s∈y.1::oh,s∈m.map (·.1):=λs r=>by(rcases aJ.1 r with rfl|r;·exact aU.2 ⟨y,kL,rfl⟩);·exact lG s r
   have lL:=Cu kO kQ;rw[bO,aG] at lL;have mb:((qG om y.2.id).map Cy).getD (.bool false)=.bool (out.contains y.2.id):=by rw[<-lu];cases qG om y.2.id<;>rfl
   refine U ?_;refine TI (gm:=gm) (gi:=gi) (ke:=sv) (ve:=qk) (oh:=y.1::oh) (m:=m.filter (ux out oh)) (y:=y) rfl m0 hy rfl rfl rfl ?_;refine U ?_;intro nl;refine U ?_;refine XF (ke:=λa:Int=>Value.int .i64 a) (ve:=Cy) (m:=om) (a:=y.2.id) (g:=go) rfl rfl (nS Zn lq (le_refl H)) rfl rfl rfl ?_;rw[mb];cases ho:out.contains y.2.id with
   |true=>refine U ?_;refine TJ (gm:=gm) (gi:=gi) (ke:=sv) (ve:=qk) (a:=y.1) (m:=m.filter (ux out oh)) rfl rfl (p1 p0) rfl (λ_=>trivial) rfl rfl ?_;rw[XH kL kY ho];refine U ?_;exact⟨m.length-(y.1::oh).length,_,by simp only[aG];omega,s3 _ (s1 _),y.1::oh,none,rfl,kO,kQ,rfl,rfl,rfl,rfl,rfl,rfl,rfl,rfl,rfl,trivial⟩
   |false=>refine U ?_;exact⟨m.length-(y.1::oh).length,_,by simp only[aG];omega,s3 _ (s1 _),y.1::oh,some y.1,rfl,kO,kQ,by rw[XI kL kY ho],rfl,rfl,rfl,rfl,rfl,rfl,rfl,rfl,trivial⟩
theorem J4{κ ν:Type}[BEq κ][LawfulBEq κ][DecidableEq κ]{m:List (κ×ν)}(a k:κ)(v:ν):qG (wy m a v) k=if k=a then some v else qG m k:=by
 have g:∀m:List (κ×ν),m.any (λx=>x.1==a)=true->qG (m.map λx=>if x.1==a then(a,v) else x) a=some v:=by
  intro m;induction m with
  |nil=>intro h;simp at h
  |cons x m d=>
   intro h;unfold qG at d⊢;rw[bk,dA];by_cases b:x.1=a;·simp[b]
   ·(have hf:(x.1==a)=false:=by simpa using b);rw[j7,hf,eW] at h;simp only[hf,aM,bH];exact d h
 have i:∀m:List (κ×ν),k≠a->qG (m.map λx=>if x.1==a then(a,v) else x) k=qG m k:=by
  intro m c;have f:(a==k)=false:=by simpa using λe=>c e.symm
  induction m with
  |nil=>rfl
  |cons x m d=>
   unfold qG at d⊢;rw[bk,dA,dA];by_cases b:x.1=a;·simp only[b,gA,cc,f];exact d
   ·(have hf:(x.1==a)=false:=by simpa using b);simp only[hf,aM,bH];cases(x.1==k) with
    |true=>rfl
    |false=>exact d
 unfold wy;split
 ·rename_i h;split;·rename_i c;subst c;exact g m h
  ·rename_i c;exact i m c
 ·rename_i h;have j:∀x∈m,(x.1==a)=false:=λx b=>by
   cases l:(x.1==a) with
   |false=>rfl
   |true=>exact absurd (eF.2 ⟨x,b,l⟩) h
  unfold qG;rw[hY];split;·rename_i c;subst c;rw[bK.2 (λx b=>by rw[j x b];simp)];simp
  ·rename_i c;have f:(a==k)=false:=by simpa using λe=>c e.symm
   cases m.find? (λx=>x.1==k) with
   |some y=>rfl
   |none=>simp[f]
theorem PD(l:List la):∀(f:Nat) (id:Int),(qQ l f id).length<=f
 |0,_=>aA _
 |f+1,id=>by
  unfold qQ;split;·exact aR _
  ·split;·exact aR _
   ·have:=PD l f;simp only[aG];exact Nat.succ_le_succ (this _)
theorem J5(H:kM)(v:Value)(l:List la)(e:pq H v l)(u:vP l)(dir:Int)(E:od dir):Fn prog 27 #[v,nI dir] H (λx r=>Sl 3 sE x r (sN l dir)):=λW L=>by
 have F:=e;obtain⟨A,c,rfl,g,hr⟩:=e.sl;have G:rZ l=true:=ud.2 e.ok;refine enter func27 ?_;refine U ?_;intro j;refine U ?_;refine mi (Cj H _ l e) ?_;refine U ?_;refine EZ (λa:Int=>Value.int .i64 a) Cy (.inl rfl) rfl rfl (λgo=>?_);refine U ?_;refine uc (ke:=λa:Int=>Value.int .i64 a) (ve:=Cy) (m:=[]) (a:=dir) (v:=true) rfl rfl rfl (by(first|exact p0|exact p1 p0|exact p1 (p1 p0)|exact p1 (p1 (p1 p0))|exact p1 (p1 (p1 (p1 p0)))|exact p1 (p1 (p1 (p1 (p1 p0))))|exact p1 (p1 (p1 (p1 (p1 (p1 p0)))))|exact p1 (p1 (p1 (p1 (p1 (p1 (p1 p0)))))))) rfl (λ_=>trivial) rfl ?_;refine U ?_;intro n;refine U ?_;refine l4 (hp:=f1 (f1 (f1 f0))) (Jh H _ l e dir) ?_;rintro I _ y ⟨B,d,rfl,hd,hq⟩;have kF:(oH l dir).length<=l.length:=PD l _ _;unfold sN;rw[aj G];generalize oH l dir=b at*;have kG:=u.len;refine U ?_;refine mP (λm σ L'=>∃(i:Nat) (f:List (Int×Bool)),m=b.length-i/\i<=b.length/\(∀k,(qG f k).getD false=(dir::b.take i).contains k)/\
  L'=k4 n 159 [.map (some go)]::nG go (λa:Int=>Value.int .i64 a) Cy f::k4 j 25 [.slice A l.length c]::fz I::L/\
  ml σ [(1,nI dir),(2,.pointer (some ⟨j,0,none⟩)),(5,.pointer (some ⟨n,0,none⟩)),(18,.slice B b.length d),(19,nN b.length),(20,nN i)]) b.length
  _ (s1 _) ⟨0,_,by simp,by simp,λk=>?_,rfl,rfl,rfl,rfl,rfl,rfl,rfl,trivial⟩ ?_
 ·rw[J4];by_cases h:k=dir<;>simp[h,qG]
 rintro m σ _ ⟨i,f,rfl,hi,o,rfl,J⟩;obtain⟨kH,rfl⟩:=J.open;refine U ?_;refine mE rfl (λg=>?_) (λg=>?_)
 ·have K:i<b.length:=by have:=am g;omega
  obtain⟨a,M⟩:∃a,b[i]? =some a:=⟨_,ad K⟩;have kI:(oY a)[0]? =some (nI a):=rfl;refine U ?_;refine E0 (ke:=λa:Int=>Value.int .i64 a) (ve:=Cy) (m:=f) (a:=a) (v:=true) rfl rfl rfl (by(first|exact p0|exact p1 p0|exact p1 (p1 p0)|exact p1 (p1 (p1 p0))|exact p1 (p1 (p1 (p1 p0)))|exact p1 (p1 (p1 (p1 (p1 p0))))|exact p1 (p1 (p1 (p1 (p1 (p1 p0)))))|exact p1 (p1 (p1 (p1 (p1 (p1 (p1 p0)))))))) rfl (λ_=>trivial) rfl ?_;refine U ?_;refine⟨b.length-(i+1),_,by omega,s1 _,i+1,wy f a true,rfl,by omega,λk=>?_,rfl,rfl,rfl,rfl,rfl,rfl,rfl,trivial⟩;rw[J4,aT,M];have:=o k;by_cases h:k=a;·simp[h]
  ·rw[ai h,this];simp[h]
 ·have N:i=b.length:=by have:=av g;omega
  subst N;rw[bf] at o;refine U ?_;intro p;refine U ?_;intro z;refine U ?_;refine tI (hf:=f1 (f1 (f1 (f1 f0)))) o0 ?_;intro O C P;refine tI (hf:=f1 (f1 (f1 f0))) (o1 o0) ?_;intro H3 Q R;refine XE (hf:=f1 (f1 f0)) (o1 o0) ?_;intro H4 D S;refine tI (hf:=f1 f0) (o1 o0) ?_;intro q s T;refine SL.oA 102 3 sE none ?_;refine SL.mL (L':=k4 p 97 [.slice none 0 ([]:List oI).length]::li 102 3 sE none 0 ([]:List oI)::fz q::L) (λw V=>V.ny (bX _ _ _)) ?_;have t:O.le q:=le_trans Q (le_trans D s);have lL:(([]:List oI)++r5 l (dir::b) (l.length+1) dir []).length<=10000000000:=by have:=J0 e.ok (dir::b) (l.length+1) [(dir,[])] Zs;simp only[bj,ii,aP] at this;have h2:(l.length+1)*l.length<=10001*10000:=gb Zo Zo;rw[aS];omega
  refine nR (fst:=[]) (cap:=[.pointer (some ⟨j,0,none⟩),.pointer (some ⟨n,0,none⟩),.pointer (some ⟨p,0,none⟩),.pointer (some ⟨z,0,none⟩)]) (PC l u (dir::b) dir Zs j n p z (l.length+1) q dir [] [] [] none 0
   ⟨⟨_,T,F.up (le_trans y (le_trans C t))⟩,⟨go,f,R.up (le_trans D s),S.up s,o⟩,P.up t⟩ trivial jU rfl Zs E Zs lL W _) ?_
  rintro _ _ ⟨rfl,H6,A',c',X,rfl⟩;rw[aS];refine U ?_;refine kS ?_;exact lX (c1 (c1 c0)) results27 Zt (λx hl Y=>Y.sl Zn) (hl:=le_trans y (le_trans C (le_trans t X)))
def uR(l:List oI):List (Int×oI):=l.mapIdx λi t=>((i:Int),t)
theorem J6(l:List oI):(uR l).length=l.length:=by unfold uR;simp
theorem XM{l:List oI}{i:Nat}{t:oI}(h:l[i]? =some t):(uR l).drop i=((i:Int),t)::(uR l).drop (i+1):=by
 obtain⟨a,rfl⟩:=ax.1 h;have b:i<(uR l).length:=by rw[J6];exact a
 have c:(uR l)[i]=((i:Int),l[i]):=by simp[uR]
 rw[br b,c]
theorem XN(l:List oI):(uR l).map (·.2)=l:=by unfold uR;refine cK λi=>?_;rw[bP,iA];cases l[i]?<;>rfl
theorem XO(H:kM)(e:Nat)(A:Option Addr)(c:Nat)(l:List oI)(n:H.kn (nX e [.slice A l.length c]))(u:H.kn (Rd A 3 sE l))(hl:l.length<=1000000000)(W:World):zx prog W 75 [.pointer (some ⟨e,0,none⟩)] H.p (λx:Int×oI=>[nI x.1,qX x.2]) (·<+:(uR l).reverse) (·=(uR l).reverse):=by
 intro v K E d w y z o;refine enter func75 ?_;have f:∀pre X,K pre X->oq W (X++d) H.p:=λpre X h=>w pre X d h;have k1:=(f _ _ o).kn n;refine U ?_;refine mP (λm σ L'=>∃(j:Nat) (X:List kM),m=j/\j<=l.length/\K ((uR l).drop j).reverse X/\L'=X++d/\ml σ [(0,.func (.yield v) #[] #[]),(1,.pointer (some ⟨e,0,none⟩)),(3,nI ((j:Int)-1))]) l.length
  _ (s1 _) ⟨l.length,z,rfl,aA _,by rw[aX (by rw[J6];omega)];exact o,rfl,rfl,rfl,rfl,trivial⟩ ?_
 rintro m σ _ ⟨j,X,rfl,F,a,rfl,B⟩;obtain⟨G,rfl⟩:=B.open;have k1:=(f _ _ a).kn n;have I:=(f _ _ a).kn u;refine U ?_;refine mE rfl (λg=>?_) (λg=>?_)
 ·obtain⟨i,rfl⟩:∃i,m=i+1:=⟨m-1,by have:=am g;omega⟩;obtain⟨t,C⟩:∃t,l[i]? =some t:=⟨_,ad Zo⟩;have oC:=XM C;have q:((uR l).drop i).reverse=((uR l).drop (i+1)).reverse++[((i:Int),t)]:=by rw[oC,gZ]
  have r:((uR l).drop (i+1)).reverse++[((i:Int),t)]<+:(uR l).reverse:=by rw[<-q];exact⟨((uR l).take i).reverse,by rw[<-kb,bT]⟩
  have J:(sE t).length=3:=rfl;rw[show((i+1:Nat):Int)-1=(i:Int) from by omega];refine CO ?_;refine sX ?_;refine Es ?_;refine sX (Gl ?_);refine rN rfl ?_;refine U ?_;refine rN rfl ?_;refine U ?_;refine rN rfl ?_;refine U ?_;refine rN rfl ?_;refine U ?_;refine rN rfl ?_;refine U ?_;refine rN rfl ?_;refine U ?_;refine ER rfl (y _ ((i:Int),t) X d r a) rfl rfl rfl (λ_ _ h=>h) ?_;rintro b _ ⟨s,rfl,⟨rfl,k⟩|⟨rfl,k⟩⟩;·refine U ?_;exact⟨i,_,by omega,s1 _,i,s,rfl,by omega,by rw[q];exact k,rfl,rfl,rfl,rfl,trivial⟩
  ·refine U ?_;refine kS ?_;exact AS results75 ⟨s,rfl,.inr ⟨_,r,k⟩⟩
 ·have D:m=0:=by have:=av g;omega
  subst D;rw[iK] at a;refine U ?_;exact xK results75 ⟨X,rfl,.inl ⟨_,rfl,a⟩⟩
theorem XP(H:kM)(A:Option Addr)(m c:Nat):Fn prog 35 #[.slice A m c] H (λb r=>∃a:Nat,r=.func (.func 75) #[] #[.pointer (some ⟨a,0,none⟩)]/\b.kn (nX a [.slice A m c])):=λW L=>by refine enter func35 ?_;refine U ?_;intro a;refine U ?_;refine kS ?_;exact lX (c1 c0) results35 Zt (λb hl d=>⟨a,rfl,pj (d.kn _ m0)⟩)
theorem DX(g:Nat)(A:Option Addr)(c:Nat)(ev:List nk)(kind:Int)(path:kV)(hl:ev.length<=1000000000)(W:World)(L:List kM):
 m3 prog W 34 #[nI kind,sv path,.pointer (some ⟨g,0,none⟩)] (k4 g 51 [.slice A ev.length c]::li 68 2 nY A c ev::L)
  (λv L'=>v=.tuple #[]/\∃a b,L'=k4 g 51 [.slice a (ev++[(⟨kind,path⟩:nk)]).length b]::li 68 2 nY a b (ev++[(⟨kind,path⟩:nk)])::L):=by
 refine enter func34 ?_;refine U ?_;intro d;refine U ?_;refine ap (l:=ev) (news:=[(⟨kind,path⟩:nk)]) (oG (g:=d) (t:=68) (cs:=nY ⟨kind,path⟩) Zn rfl) Zl (λe f=>?_);refine U ?_;exact qD results34 (λw h=>h.sublist Zu) ⟨rfl,e,f,rfl⟩
instance:Bo prog 102 (.agg (sE ⟨[],0,[]⟩).toArray):=⟨_,rfl,rfl⟩
def qA(l:List oI):List (kV×oI):=l.foldl (λm t=>wy m t.path t) []
theorem J7(l:List oI)(p:kV):qG (qA l) p=wU l p:=by
 have h:∀(l:List oI) (m:List (kV×oI)),qG (l.foldl (λm t=>wy m t.path t) m) p=(wU l p).or (qG m p):=by
  intro l;induction l with
  |nil=>intro m;rfl
  |cons t l a=>
   intro m;rw[bU,a,J4];unfold wU;rw[gZ,hY];cases l.reverse.find? (λt=>t.path==p) with
   |some x=>rfl
   |none=>(by_cases hp:p=t.path;·subst hp;simp);·(have hf:(t.path==p)=false:=by simpa using λe=>hp e.symm);simp[hp,hf]
 have:=h l [];unfold qA;rw[this];cases wU l p<;>rfl
theorem PE{l:List oI}{i:Nat}{t:oI}(h:l[i]? =some t):qA (l.take (i+1))=wy (qA (l.take i)) t.path t:=by unfold qA;rw[aT,h,bV];rfl
theorem Hh{l:List la}(b:nb l)(a:vP l)(dir:Int):(sN l dir).length<=100010000:=by
 unfold sN;split;·have:=J0 b (dir::oH l dir) (l.length+1) [(dir,[])] Zs;simp only[bj,ii,aP] at this;have c:(l.length+1)*l.length<=10001*10000:=gb (by have:=a.len;omega) a.len;omega
 ·simp
theorem PF{α:Type}{l:List α}{i:Nat}{t:α}(p:α->Bool)(h:l[i]? =some t):(l.take (i+1)).filter p=if p t=true then(l.take i).filter p++[t] else(l.take i).filter p:=by rw[aT,h,cm];by_cases a:p t=true<;>simp[a]
theorem J8(H:kM)(va vb:Value)(a b:List la)(T:pq H va a)(V:pq H vb b)(kJ:vP a)(kL:vP b)(dir:Int)(kO:od dir):Fn prog 12 #[va,vb,nI dir] H (λH' r=>Sl 2 nY H' r (ss a b dir)):=λW L=>by
 have lu:=Hh T.ok kJ dir;have lx:=Hh V.ok kL dir;obtain⟨Aa,ca,rfl,_⟩:=T.sl;obtain⟨Ab,cb,rfl,_⟩:=V.sl;unfold ss;simp only;refine EU func12 ?_;refine rj (sR ?_);refine U ?_;refine rj (sR ?_);refine U ?_;refine l4 (hp:=f0) (J5 H _ a T kJ dir kO) ?_;rintro H1 _ kQ ⟨B,d,rfl,hd,hq⟩;generalize sN a dir=my at*;refine U ?_;refine l4 (hp:=f0) (J5 H1 _ b (V.up kQ) kL dir kO) ?_;rintro H2 _ kT ⟨J,K,rfl,ly,k5⟩;generalize sN b dir=e at*;have k7:=hq.up kT;refine U ?_;refine rj (sR ?_);refine U ?_;intro f;refine U ?_;refine rj (sR ?_);refine U ?_;intro j;refine U ?_;refine rj (sR ?_);refine Ik ?_;refine EZ sv qX (.inl rfl) rfl rfl (λgm=>?_);refine U ?_;intro k;refine U ?_;refine rj (sR ?_);refine U ?_;refine mP (λm σ L'=>∃i:Nat,m=e.length-i/\i<=e.length/\L'=k4 k 120 [.map (some gm)]::nG gm sv qX (qA (e.take i))::k4 j 119 [.func (.func 34) #[] #[.pointer (some ⟨f,0,none⟩)]]::k4 f 51 [.slice none 0 0]::fz H2::L/\
  ml σ [(7,.slice B my.length d),(8,.slice J e.length K),(9,.pointer (some ⟨f,0,none⟩)),(10,.pointer (some ⟨j,0,none⟩)),(11,.pointer (some ⟨k,0,none⟩)),(36,.slice J e.length K),(37,nN e.length),(38,nN i)]) e.length
  _ (s1 _) ⟨0,by omega,by omega,rfl,rfl,rfl,rfl,rfl,rfl,rfl,rfl,rfl,trivial⟩ ?_
 ·rintro m σ _ ⟨i,rfl,Y,rfl,C⟩;obtain⟨kF,rfl⟩:=C.open;refine U ?_;refine mE rfl (λp=>?_) (λp=>?_)
  ·have M:i<e.length:=by have:=am p;omega
   obtain⟨t,N⟩:∃t,e[i]? =some t:=⟨_,ad M⟩;have kG:(sE t).length=3:=rfl;have kH:=PE N;refine U ?_;intro lz;refine U ?_;refine E0 (ke:=sv) (ve:=qX) (m:=qA (e.take i)) (a:=t.path) (v:=t) rfl rfl rfl (by(first|exact p0|exact p1 p0|exact p1 (p1 p0)|exact p1 (p1 (p1 p0))|exact p1 (p1 (p1 (p1 p0)))|exact p1 (p1 (p1 (p1 (p1 p0))))|exact p1 (p1 (p1 (p1 (p1 (p1 p0)))))|exact p1 (p1 (p1 (p1 (p1 (p1 (p1 p0)))))))) rfl (λ_=>trivial) rfl ?_;rw[<-kH];refine U ?_;exact⟨e.length-(i+1),_,by omega,Zu,i+1,rfl,by omega,rfl,rfl,rfl,rfl,rfl,rfl,rfl,rfl,rfl,trivial⟩
  ·have O:i=e.length:=by have:=av p;omega
   subst O;rw[bf];refine U ?_;refine rj ?_;refine rj (sR ?_);refine U ?_;refine l4 (hp:=f1 (f1 (f1 (f1 f0)))) (XP H2 B my.length d) ?_;rintro o _ kI ⟨g1,rfl,k8⟩;have k9:=k7.up kI;have lB:=k5.up kI;refine U ?_;refine ES ?_;refine uO.mL (λw q=>q.oA 68 2 nY none) ?_;refine uO.mL (L':=k4 f 51 [.slice none ([]:List nk).length 0]::li 68 2 nY none 0 ([]:List nk)::k4 j 119 [.func (.func 34) #[] #[.pointer (some ⟨f,0,none⟩)]]::k4 k 120 [.map (some gm)]::nG gm sv qX (qA e)::fz o::L) (λw q=>q.pick 6 [4,0,3,1,2,5] Zd) ?_;refine ET (L:=L) (XO o g1 B d my k8 k9 Zo W) (λpre X=>∃A c,X=[k4 f 51 [.slice A (((pre.map (·.2)).filter (ph e)).map (λt=>(⟨1,t.path⟩:nk))).length c],li 68 2 nY A c (((pre.map (·.2)).filter (ph e)).map (λt=>(⟨1,t.path⟩:nk))),k4 j 119 [.func (.func 34) #[] #[.pointer (some ⟨f,0,none⟩)]],k4 k 120 [.map (some gm)],nG gm sv qX (qA e),fz o]) (λ_ _ _=>False)
    (λpre x lc X'=>∃Q A c,X'=k4 Q 102 (sE x.2)::[k4 f 51 [.slice A (((pre.map (·.2)).filter (ph e)).map (λt=>(⟨1,t.path⟩:nk))).length c],li 68 2 nY A c (((pre.map (·.2)).filter (ph e)).map (λt=>(⟨1,t.path⟩:nk))),k4 j 119 [.func (.func 34) #[] #[.pointer (some ⟨f,0,none⟩)]],k4 k 120 [.map (some gm)],nG gm sv qX (qA e),fz o]/\ml lc [(9,.pointer (some ⟨f,0,none⟩)),(10,.pointer (some ⟨j,0,none⟩)),(11,.pointer (some ⟨k,0,none⟩)),(15,.pointer (some ⟨Q,0,none⟩))])
    [k4 f 51 [.slice none ([]:List nk).length 0],li 68 2 nY none 0 ([]:List nk),k4 j 119 [.func (.func 34) #[] #[.pointer (some ⟨f,0,none⟩)]],k4 k 120 [.map (some gm)],nG gm sv qX (qA e),fz o] ⟨none,0,rfl⟩ (by rintro pre _ R ⟨A,c,rfl⟩;exact Gm (m1 (m1 (m1 (m1 (m1 m0)))))) ?_ ?_ ?_ (λ_ _ _ _ _ h=>h.elim) (sk:=As func75)
   ·rintro yl pre x _ R kX ⟨A,c,rfl⟩;refine pA ?_;refine U ?_;intro Q;refine U ?_;exact⟨_,Sub.refl,Q,A,c,rfl,rfl,rfl,rfl,rfl,trivial⟩
   ·rintro yl pre x σ _ R kX ⟨Q,A,c,rfl,C⟩;obtain⟨lE,rfl⟩:=C.open;have lF:pre.length<=my.length:=by have:=kX.length_le;rw[gF,J6,ak] at this;omega
    have P:(((pre.map (·.2)).filter (ph e)).map (λt=>(⟨1,t.path⟩:nk))).length<=1000000000:=by have:=bG (ph e) (pre.map (·.2));rw[bO] at this⊢;omega
    (have l:(((pre++[x]).map (·.2)).filter (ph e)).map (λt=>(⟨1,t.path⟩:nk))=if ph e x.2=true then((pre.map (·.2)).filter (ph e)).map (λt=>(⟨1,t.path⟩:nk))++[(⟨1,x.2.path⟩:nk)] else((pre.map (·.2)).filter (ph e)).map (λt=>(⟨1,t.path⟩:nk)):=by rw[bA,cm,bA];by_cases s:ph e x.2=true<;>simp[s]);obtain⟨x1,t⟩:=x;simp only at l⊢;have lG:=DX f;have E:ph e t=match wU e t.path with|none=>true|some n=>n.id != t.id:=rfl
    (generalize kY:((pre.map (·.2)).filter (ph e)).map (λt=>(⟨1,t.path⟩:nk))=ev at*;have hX:∀u y S,(((pre++[(x1,t)]).map (·.2)).filter (ph e)).map (λt=>(⟨1,t.path⟩:nk))=S->(λpre X=>∃A c,X=[k4 f 51 [.slice A (((pre.map (·.2)).filter (ph e)).map (λt=>(⟨1,t.path⟩:nk))).length c],li 68 2 nY A c (((pre.map (·.2)).filter (ph e)).map (λt=>(⟨1,t.path⟩:nk))),k4 j 119 [.func (.func 34) #[] #[.pointer (some ⟨f,0,none⟩)]],k4 k 120 [.map (some gm)],nG gm sv qX (qA e),fz o]) (pre++[(x1,t)]) [k4 f 51 [.slice u (S).length y],li 68 2 nY u y (S),k4 j 119 [.func (.func 34) #[] #[.pointer (some ⟨f,0,none⟩)]],k4 k 120 [.map (some gm)],nG gm sv qX (qA e),fz o]:=λu y S h=>by subst h;exact⟨u,y,rfl⟩);refine pA ?_;refine U ?_;refine yM (ke:=sv) (ve:=qX) (a:=t.path) (m:=qA e) rfl rfl Zn rfl rfl rfl ?_;rw[J7];cases s:wU e t.path with
    |none=>
     (rw[s] at E;rw[E,aj rfl] at l;refine U ?_;intro lg;refine U ?_;iterate 3 (refine pA ?_;refine U ?_));refine SL.mL (L':=k4 f 51 [.slice A (ev).length c]::li 68 2 nY A c (ev)::k4 j 119 [.func (.func 34) #[] #[.pointer (some ⟨f,0,none⟩)]]::k4 k 120 [.map (some gm)]::nG gm sv qX (qA e)::fz o::R) (λw q=>q.sublist Zu) ?_;refine nR (fst:=[]) (cap:=[.pointer (some ⟨f,0,none⟩)]) (DX f A c ev 1 t.path P W _) ?_;rintro _ _ ⟨rfl,u,y,rfl⟩;refine U ?_;iterate 3 (refine pA ?_;refine U ?_)
     exact⟨_,Sub.refl,hX u y _ l⟩
    |some n=>
     (have F:ph e t=(n.id != t.id):=by rw[E,s]);refine U ?_;intro lg;refine U ?_;iterate 3 (refine pA ?_;refine U ?_)
     cases G:(n.id != t.id) with
     |true=>
      (rw[F,G,aj rfl] at l;refine U ?_;iterate 3 (refine pA ?_;refine U ?_));refine SL.mL (L':=k4 f 51 [.slice A (ev).length c]::li 68 2 nY A c (ev)::k4 j 119 [.func (.func 34) #[] #[.pointer (some ⟨f,0,none⟩)]]::k4 k 120 [.map (some gm)]::nG gm sv qX (qA e)::fz o::R) (λw q=>q.sublist Zu) ?_;refine nR (fst:=[]) (cap:=[.pointer (some ⟨f,0,none⟩)]) (DX f A c ev 1 t.path P W _) ?_;rintro _ _ ⟨rfl,u,y,rfl⟩;refine U ?_;iterate 3 (refine pA ?_;refine U ?_)
      exact⟨_,Sub.refl,hX u y _ l⟩
     |false=>(rw[F,G,ai Zs] at l;refine U ?_;iterate 3 (refine pA ?_;refine U ?_));exact⟨[k4 f 51 [.slice A (ev).length c],li 68 2 nY A c (ev),k4 j 119 [.func (.func 34) #[] #[.pointer (some ⟨f,0,none⟩)]],k4 k 120 [.map (some gm)],nG gm sv qX (qA e),fz o],.of Zu,hX A c _ l⟩
   ·rintro D _ _ rfl ⟨A,c,rfl⟩;rw[show(((uR my).reverse.map (·.2)).filter (ph e)).map (λt=>(⟨1,t.path⟩:nk))=(my.reverse.filter (ph e)).map (λt=>(⟨1,t.path⟩:nk)) from by rw[List.map_reverse,XN]];have lH:((my.reverse.filter (ph e)).map (λt=>(⟨1,t.path⟩:nk))).length<=my.length:=by rw[bO];have:=bG (ph e) my.reverse;rw[gF] at this;exact this
    generalize(my.reverse.filter (ph e)).map (λt=>(⟨1,t.path⟩:nk))=z at*;refine SC.mL (L':=k4 f 51 [.slice A (z).length c]::li 68 2 nY A c (z)::k4 j 119 [.func (.func 34) #[] #[.pointer (some ⟨f,0,none⟩)]]::k4 k 120 [.map (some gm)]::nG gm sv qX (qA e)::fz o::qj D::L) (λw q=>q.ny dN.symm) ?_;refine U ?_;refine TD (ke:=sv) (ve:=qX) (m:=qA e) (g:=gm) rfl (by(first|exact p0|exact p1 p0|exact p1 (p1 p0)|exact p1 (p1 (p1 p0))|exact p1 (p1 (p1 (p1 p0)))|exact p1 (p1 (p1 (p1 (p1 p0))))|exact p1 (p1 (p1 (p1 (p1 (p1 p0)))))|exact p1 (p1 (p1 (p1 (p1 (p1 (p1 p0)))))))) rfl (λ_=>trivial) rfl rfl ?_;refine U ?_;refine mP (λm σ L'=>∃i:Nat,m=my.length-i/\i<=my.length/\L'=k4 f 51 [.slice A (z).length c]::li 68 2 nY A c (z)::k4 j 119 [.func (.func 34) #[] #[.pointer (some ⟨f,0,none⟩)]]::k4 k 120 [.map (some gm)]::nG gm sv qX (qA (my.take i))::fz o::qj D::L/\
     ml σ [(8,.slice J e.length K),(9,.pointer (some ⟨f,0,none⟩)),(10,.pointer (some ⟨j,0,none⟩)),(11,.pointer (some ⟨k,0,none⟩)),(72,.slice B my.length d),(73,nN my.length),(74,nN i)]) my.length
     _ (s1 _) ⟨0,by omega,by omega,rfl,rfl,rfl,rfl,rfl,rfl,rfl,rfl,trivial⟩ ?_
    rintro m σ _ ⟨i,rfl,Y,rfl,C⟩;obtain⟨kF,rfl⟩:=C.open;refine U ?_;refine mE rfl (λp=>?_) (λp=>?_);·(have M:i<my.length:=by have:=am p;omega);obtain⟨t,N⟩:∃t,my[i]? =some t:=⟨_,ad M⟩;have kG:(sE t).length=3:=rfl;have kH:=PE N;refine U ?_;intro lI;refine U ?_;refine E0 (ke:=sv) (ve:=qX) (m:=qA (my.take i)) (a:=t.path) (v:=t) rfl rfl rfl (by(first|exact p0|exact p1 p0|exact p1 (p1 p0)|exact p1 (p1 (p1 p0))|exact p1 (p1 (p1 (p1 p0)))|exact p1 (p1 (p1 (p1 (p1 p0))))|exact p1 (p1 (p1 (p1 (p1 (p1 p0)))))|exact p1 (p1 (p1 (p1 (p1 (p1 (p1 p0)))))))) rfl (λ_=>trivial) rfl ?_;rw[<-kH];refine U ?_;exact⟨my.length-(i+1),_,by omega,s3 _ (s1 _),i+1,rfl,by omega,rfl,rfl,rfl,rfl,rfl,rfl,rfl,rfl,trivial⟩
    (have O:i=my.length:=by have:=av p;omega);subst O;rw[bf];refine U ?_;refine mP (λm σ L'=>∃(i:Nat) (A:Option Addr) (c:Nat),m=e.length-i/\i<=e.length/\L'=k4 f 51 [.slice A (z++((e.take i).filter (ph my)).map (λt=>(⟨2,t.path⟩:nk))).length c]::li 68 2 nY A c (z++((e.take i).filter (ph my)).map (λt=>(⟨2,t.path⟩:nk)))::k4 j 119 [.func (.func 34) #[] #[.pointer (some ⟨f,0,none⟩)]]::k4 k 120 [.map (some gm)]::nG gm sv qX (qA my)::fz o::qj D::L/\
     ml σ [(8,.slice J e.length K),(9,.pointer (some ⟨f,0,none⟩)),(10,.pointer (some ⟨j,0,none⟩)),(11,.pointer (some ⟨k,0,none⟩)),(83,.slice J e.length K),(84,nN e.length),(85,nN i)]) e.length
     _ (s1 _) ⟨0,A,c,by omega,by omega,by simp,rfl,rfl,rfl,rfl,rfl,rfl,rfl,trivial⟩ ?_
    clear C;rintro m σ _ ⟨i,A,c,rfl,Y,rfl,C⟩;obtain⟨kF,rfl⟩:=C.open;refine U ?_;refine mE rfl (λp=>?_) (λp=>?_)
    ·(have M:i<e.length:=by have:=am p;omega);obtain⟨t,N⟩:∃t,e[i]? =some t:=⟨_,ad M⟩;have kG:(sE t).length=3:=rfl;have l:z++((e.take (i+1)).filter (ph my)).map (λt=>(⟨2,t.path⟩:nk))=if ph my t=true then z++((e.take i).filter (ph my)).map (λt=>(⟨2,t.path⟩:nk))++[(⟨2,t.path⟩:nk)] else z++((e.take i).filter (ph my)).map (λt=>(⟨2,t.path⟩:nk)):=by rw[PF (ph my) N];by_cases s:ph my t=true<;>simp[s]
     have P:(z++((e.take i).filter (ph my)).map (λt=>(⟨2,t.path⟩:nk))).length<=1000000000:=by rw[ak,bO];have:=bG (ph my) (e.take i);rw[aC] at this;omega
     (have E:ph my t=match wU my t.path with|none=>true|some n=>n.id != t.id:=rfl);generalize kY:z++((e.take i).filter (ph my)).map (λt=>(⟨2,t.path⟩:nk))=ev at*;refine U ?_;intro lJ;refine U ?_;refine yM (ke:=sv) (ve:=qX) (a:=t.path) (m:=qA my) rfl rfl Zn rfl rfl rfl ?_;rw[J7];cases s:wU my t.path with
     |none=>rw[s] at E;rw[E,aj rfl] at l;refine U ?_;intro lh;refine U ?_;refine SL.mL (L':=k4 f 51 [.slice A (ev).length c]::li 68 2 nY A c (ev)::k4 j 119 [.func (.func 34) #[] #[.pointer (some ⟨f,0,none⟩)]]::k4 k 120 [.map (some gm)]::nG gm sv qX (qA my)::fz o::qj D::L) (λw q=>q.sublist Zu) ?_;refine nR (fst:=[]) (cap:=[.pointer (some ⟨f,0,none⟩)]) (DX f A c ev 2 t.path P W _) ?_;rintro _ _ ⟨rfl,u,y,rfl⟩;refine U ?_;exact⟨e.length-(i+1),_,by omega,s1 _,i+1,u,y,rfl,by omega,by rw[l],rfl,rfl,rfl,rfl,rfl,rfl,rfl,trivial⟩
     |some n=>
      (have F:ph my t=(n.id != t.id):=by rw[E,s]);refine U ?_;intro lh;refine U ?_;cases G:(n.id != t.id) with
      |true=>rw[F,G,aj rfl] at l;refine U ?_;refine SL.mL (L':=k4 f 51 [.slice A (ev).length c]::li 68 2 nY A c (ev)::k4 j 119 [.func (.func 34) #[] #[.pointer (some ⟨f,0,none⟩)]]::k4 k 120 [.map (some gm)]::nG gm sv qX (qA my)::fz o::qj D::L) (λw q=>q.sublist Zu) ?_;refine nR (fst:=[]) (cap:=[.pointer (some ⟨f,0,none⟩)]) (DX f A c ev 2 t.path P W _) ?_;rintro _ _ ⟨rfl,u,y,rfl⟩;refine U ?_;exact⟨e.length-(i+1),_,by omega,s1 _,i+1,u,y,rfl,by omega,by rw[l],rfl,rfl,rfl,rfl,rfl,rfl,rfl,trivial⟩
      |false=>rw[F,G,ai Zs] at l;refine U ?_;exact⟨e.length-(i+1),k4 f 51 [.slice A (ev).length c]::li 68 2 nY A c (ev)::k4 j 119 [.func (.func 34) #[] #[.pointer (some ⟨f,0,none⟩)]]::k4 k 120 [.map (some gm)]::nG gm sv qX (qA my)::fz o::qj D::L,by omega,Zu,i+1,A,c,rfl,by omega,by rw[l],rfl,rfl,rfl,rfl,rfl,rfl,rfl,trivial⟩
    (have O:i=e.length:=by have:=av p;omega);subst O;rw[bf];generalize lm:z++(e.filter (ph my)).map (λt=>(⟨2,t.path⟩:nk))=I at*;have lK:I.length<=my.length+e.length:=by rw[<-lm,ak,bO];have:=bG (ph my) e;omega
    refine U ?_;refine mP (λm σ L'=>∃(i:Nat) (A:Option Addr) (c:Nat),m=e.length-i/\i<=e.length/\L'=k4 f 51 [.slice A (I++((e.take i).filter (uY my)).map (λt=>(⟨3,t.path⟩:nk))).length c]::li 68 2 nY A c (I++((e.take i).filter (uY my)).map (λt=>(⟨3,t.path⟩:nk)))::k4 j 119 [.func (.func 34) #[] #[.pointer (some ⟨f,0,none⟩)]]::k4 k 120 [.map (some gm)]::nG gm sv qX (qA my)::fz o::qj D::L/\
     ml σ [(8,.slice J e.length K),(9,.pointer (some ⟨f,0,none⟩)),(10,.pointer (some ⟨j,0,none⟩)),(11,.pointer (some ⟨k,0,none⟩)),(110,.slice J e.length K),(111,nN e.length),(112,nN i)]) e.length
     _ (s1 _) ⟨0,A,c,by omega,by omega,by simp,rfl,rfl,rfl,rfl,rfl,rfl,rfl,trivial⟩ ?_
    clear C;rintro m σ _ ⟨i,A,c,rfl,Y,rfl,C⟩;obtain⟨kF,rfl⟩:=C.open;refine U ?_;refine mE rfl (λp=>?_) (λp=>?_)
    ·(have M:i<e.length:=by have:=am p;omega);obtain⟨t,N⟩:∃t,e[i]? =some t:=⟨_,ad M⟩;have kG:(sE t).length=3:=rfl;have l:I++((e.take (i+1)).filter (uY my)).map (λt=>(⟨3,t.path⟩:nk))=if uY my t=true then I++((e.take i).filter (uY my)).map (λt=>(⟨3,t.path⟩:nk))++[(⟨3,t.path⟩:nk)] else I++((e.take i).filter (uY my)).map (λt=>(⟨3,t.path⟩:nk)):=by rw[PF (uY my) N];by_cases s:uY my t=true<;>simp[s]
     have P:(I++((e.take i).filter (uY my)).map (λt=>(⟨3,t.path⟩:nk))).length<=1000000000:=by rw[ak,bO];have:=bG (uY my) (e.take i);rw[aC] at this;omega
     (have E:uY my t=match wU my t.path with|none=>false|some n=>n.id==t.id&&n.data != t.data:=rfl);generalize kY:I++((e.take i).filter (uY my)).map (λt=>(⟨3,t.path⟩:nk))=ev at*;refine U ?_;intro lO;refine U ?_;refine yM (ke:=sv) (ve:=qX) (a:=t.path) (m:=qA my) rfl rfl Zn rfl rfl rfl ?_;rw[J7];cases s:wU my t.path with
     |none=>rw[s] at E;rw[E,ai Zs] at l;refine U ?_;intro lq;refine U ?_;refine U ?_;exact⟨e.length-(i+1),k4 f 51 [.slice A (ev).length c]::li 68 2 nY A c (ev)::k4 j 119 [.func (.func 34) #[] #[.pointer (some ⟨f,0,none⟩)]]::k4 k 120 [.map (some gm)]::nG gm sv qX (qA my)::fz o::qj D::L,by omega,Zu,i+1,A,c,rfl,by omega,by rw[l],rfl,rfl,rfl,rfl,rfl,rfl,rfl,trivial⟩
     |some n=>
      (have F:uY my t=(n.id==t.id&&n.data != t.data):=by rw[E,s]);refine U ?_;intro lq;refine U ?_;cases G:(n.id==t.id) with
      |true=>
       rw[G,cE] at F;refine U ?_;cases kZ:(n.data != t.data) with
       |true=>rw[F,kZ,aj rfl] at l;refine U ?_;refine SL.mL (L':=k4 f 51 [.slice A (ev).length c]::li 68 2 nY A c (ev)::k4 j 119 [.func (.func 34) #[] #[.pointer (some ⟨f,0,none⟩)]]::k4 k 120 [.map (some gm)]::nG gm sv qX (qA my)::fz o::qj D::L) (λw q=>q.sublist Zu) ?_;refine nR (fst:=[]) (cap:=[.pointer (some ⟨f,0,none⟩)]) (DX f A c ev 3 t.path P W _) ?_;rintro _ _ ⟨rfl,u,y,rfl⟩;refine U ?_;exact⟨e.length-(i+1),_,by omega,s1 _,i+1,u,y,rfl,by omega,by rw[l],rfl,rfl,rfl,rfl,rfl,rfl,rfl,trivial⟩
       |false=>rw[F,kZ,ai Zs] at l;refine U ?_;exact⟨e.length-(i+1),k4 f 51 [.slice A (ev).length c]::li 68 2 nY A c (ev)::k4 j 119 [.func (.func 34) #[] #[.pointer (some ⟨f,0,none⟩)]]::k4 k 120 [.map (some gm)]::nG gm sv qX (qA my)::fz o::qj D::L,by omega,Zu,i+1,A,c,rfl,by omega,by rw[l],rfl,rfl,rfl,rfl,rfl,rfl,rfl,trivial⟩
      |false=>rw[F,G,eC,ai Zs] at l;refine U ?_;exact⟨e.length-(i+1),k4 f 51 [.slice A (ev).length c]::li 68 2 nY A c (ev)::k4 j 119 [.func (.func 34) #[] #[.pointer (some ⟨f,0,none⟩)]]::k4 k 120 [.map (some gm)]::nG gm sv qX (qA my)::fz o::qj D::L,by omega,Zu,i+1,A,c,rfl,by omega,by rw[l],rfl,rfl,rfl,rfl,rfl,rfl,rfl,trivial⟩
    (have O:i=e.length:=by have:=av p;omega);subst O;rw[bf];refine U ?_;refine kS ?_;refine⟨_,o1 (o1 (o1 (o1 (o1 (o1 o0))))),?_⟩;exact lX (c1 (c1 (c1 (c1 (c1 c0))))) results12 Zt (λH' hl hk=>hk.sl Zn) (hl:=le_trans kQ (le_trans kT kI))
def DY(H:kM)(r:List Value)(s:Int×List la):Prop:=∃v,r=[nI s.1,v]/\pq H v s.2
def Cz(H:kM)(r:List Value)(w:zm):Prop:=∃v,r=[nI w.n,nI w.dir,v,.bool w.q.2]/\Sl 2 nY H v w.q.1
theorem AF{H a:kM}(hl:H.le a)(r:List Value)(s:Int×List la)(h:DY H r s):DY a r s:=by obtain⟨v,b,c⟩:=h;exact⟨v,b,c.up hl⟩
theorem zP{H a:kM}(hl:H.le a)(r:List Value)(w:zm)(h:Cz H r w):Cz a r w:=by obtain⟨v,b,c⟩:=h;exact⟨v,b,c.up hl⟩
def sG(m:mQ)(ve a vs b:Value):List Value:=[ve,a,nI m.seen,nI m.mC,vs,b,nI m.next]
structure sH(H:kM)(m:mQ)(ve a vs b:Value):Prop where
 kP:xD H ve a m.kP
 l3:Dl 2 DY H vs m.l3
 lN:Dl 4 Cz H b m.lN
theorem sH.up{H a:kM}{m:mQ}{ve b vs c:Value}(h:sH H m ve b vs c)(hl:H.le a):sH a m ve b vs c:=⟨h.kP.up hl,h.l3.up hl (AF hl),h.lN.up hl (zP hl)⟩
def J9(m:mQ)(H:kM)(r:Value):Prop:=∃ve a vs b,r=.agg (sG m ve a vs b).toArray/\sH H m ve a vs b
def sS(a:lU)(b c:Value):List Value:=[nI a.err,sv a.data,b,nI a.n,c]
structure tP(H:kM)(a:lU)(b c:Value):Prop where
 ll:Sl 1 ni H b a.ll
 l9:Sl 2 nY H c a.l9
theorem tP.up{H b:kM}{a:lU}{c d:Value}(h:tP H a c d)(hl:H.le b):tP b a c d:=⟨h.ll.up hl,h.l9.up hl⟩
def wG(m:mQ)(a:lU)(c:mo)(ve b vs d e f g:Value):List Value:=[ve,b,nI m.seen,nI m.mC,vs,d,nI m.next,nI a.err,sv a.data,e,nI a.n,f,nI c.kind,sv c.path,sv c.to,sv c.data,nI c.n,g]
structure CA(m:mQ):Prop where
 es:m.kP.es.length<=200
 Z:∀e∈m.kP.es,pn e.op
 ns:vP m.kP.ns
 seen:od m.seen
 mC:od m.mC
 l3:m.l3.length<=8
 pu:∀s∈m.l3,vP s.2/\od s.1
 lN:m.lN.length<=8
 xd:∀w∈m.lN,od w.dir/\w.q.1.length<=100000
 next:0<=m.next/\m.next<=1000000000
structure yd(c:mo):Prop where
 path:c.path.length<=1000000
 to:c.to.length<=1000000
 data:c.data.length<=1000000
theorem Dl.nil{α:Type}(s:Nat)(a:kM->List Value->α->Prop)(H:kM):Dl s a H (.slice none 0 0) ([]:List α):=⟨none,0,[],rfl,⟨aA _,by decide⟩,λ_ _=>Il,rfl,by simp⟩
theorem PG{l:List la}(b:nb l):∀(ns:List kV) (a:Int),od a->od (pk l a ns).1
 |[],a,h=>h
 |s::ns,a,h=>by
  unfold pk;split
  ·cases c:oP l a s with
   |none=>exact⟨by show(-9223372036854775808:Int)<=0;omega,by show(0:Int)<=9223372036854775807;omega⟩
   |some id=>obtain⟨n,d,rfl,_⟩:=JY c;have:=b.bd n d;exact PG b ns n.id ⟨by omega,by omega⟩
  ·exact⟨by show(-9223372036854775808:Int)<=0;omega,by show(0:Int)<=9223372036854775807;omega⟩
theorem By{l:List la}(a:nb l)(ns:List kV):od (oQ l ns).1:=PG a ns 0 ⟨by omega,by omega⟩
theorem Bz{l:List la}(a:nb l)(p:kV):od (o5 l p).1:=by
 unfold o5;cases oy p with
 |none=>exact⟨by show(-9223372036854775808:Int)<=0;omega,by show(0:Int)<=9223372036854775807;omega⟩
 |some ns=>exact By a ns
theorem XQ(H:kM)(r:Int):Fn prog 28 #[nI r] H (λa v=>if r<0\/r>63 then∃v',v=.tuple #[v',nI 20] else∃v',v=.tuple #[v',nI 0]/\J9 (r6 r) a v'):=λW L=>by
 refine enter func28 ?_;refine U ?_;intro e;refine U ?_;by_cases c:r<0;·rw[show decide (r<0)=true from Zq];refine U ?_;refine kS ?_;exact m7 (c1 c0) results28 (.agg (cs:=[.slice none 0 0,.slice none 0 0,nI 0,nI 0,.slice none 0 0,.slice none 0 0,nI 0]) inferInstance rfl lW rfl) Zt (λa hl b=>by rw[aj (.inl c)];exact⟨_,rfl⟩)
 ·rw[show decide (r<0)=false from Zq];refine U ?_;by_cases d:r>63;·rw[show decide ((63:Int)<r)=true from Zq];refine U ?_;refine kS ?_;exact m7 (c1 c0) results28 (.agg (cs:=[.slice none 0 0,.slice none 0 0,nI 0,nI 0,.slice none 0 0,.slice none 0 0,nI 0]) inferInstance rfl lW rfl) Zt (λa hl b=>by rw[aj (.inr d)];exact⟨_,rfl⟩)
  ·rw[show decide ((63:Int)<r)=false from Zq];refine U ?_;refine kS ?_;exact m7 (c1 c0) results28 (.agg (cs:=sG (r6 r) (.slice none 0 0) (.slice none 0 0) (.slice none 0 0) (.slice none 0 0)) inferInstance rfl lW rfl) Zt (λa hl b=>by rw[ai Zo];exact⟨_,rfl,_,_,_,_,rfl,⟨Sl.nil _ _ _,Sl.nil _ _ _,jc,by simp[r6]⟩,Dl.nil _ _ _,Dl.nil _ _ _⟩)
theorem DZ(H:kM)(v:Value)(l:List la)(g:pq H v l)(p:kV)(hp:p.length<=1000000000):Rf prog 144 #[v,sv p] H (.tuple #[nI (o5 l p).1,nI (o5 l p).2]):=Fn.rf λW L=>by
 obtain⟨A,c,rfl,j,k⟩:=g.sl;refine enter func144 ?_;refine U ?_;refine l4 (hp:=f0) (yR H p hp) ?_;rintro h _ i ⟨v',rfl,a⟩;unfold o5;cases b:oy p with
 |none=>rw[b] at a;obtain⟨B,d,rfl,e,f⟩:=a;refine U ?_;refine kS ?_;exact m7 c0 results144 Zt Zt (λ_ _ _=>rfl)
 |some ns=>rw[b] at a;have m:=Cm b;obtain⟨B,d,rfl,e,f⟩:=a;simp only[aN] at e f⊢;refine U ?_;refine mi (Ct h _ _ l (g.up i) ns ⟨B,d,rfl,e,f⟩ Zo) ?_;refine U ?_;refine kS ?_;exact m7 c0 results144 Zt Zt (λ_ _ _=>rfl)
theorem PH(H:kM)(v:Value)(l:List la)(f:pq H v l)(p:kV)(hp:p.length<=1000000000):Rf prog 139 #[v,sv p] H (.tuple #[nI (rv l p).1,sv (rv l p).2.1,nI (rv l p).2.2]):=Fn.rf λW L=>by
 obtain⟨A,c,rfl,y,z⟩:=f.sl;refine enter func139 ?_;refine U ?_;refine l4 (hp:=f0) (yR H p hp) ?_;rintro q _ r ⟨v',rfl,a⟩;unfold rv;cases g:oy p with
 |none=>rw[g] at a;obtain⟨B,d,rfl,n,i⟩:=a;refine U ?_;refine kS ?_;exact tg c0 results139 Zt Zt Zt (λ_ _ _=>rfl)
 |some ns=>
  rw[g] at a;have C:=Cm g;obtain⟨B,d,rfl,n,i⟩:=a;simp only[aN] at n i⊢;refine U ?_;by_cases j:ns=[];·subst j;rw[show((([]:List kV).length:Int)==0)=true from rfl];rw[aj rfl];refine U ?_;refine kS ?_;exact tg c0 results139 Zt Zt Zt (λ_ _ _=>rfl)
  ·have D:0<ns.length:=cA.2 j;rw[show((ns.length:Int)==0)=false from Zq];rw[ai j];have t:ns.dropLast=ns.take (ns.length-1):=ed;have k:(ns.take (ns.length-1)).length=ns.length-1:=by rw[aC];omega
   obtain⟨m,u⟩:∃s,ns[ns.length-1]? =some s:=⟨_,ad Zo⟩;have w:ns.getLast?.getD []=m:=by rw[fd,u];rfl
   have E:(ni m)[0]? =some (sv m):=rfl;rw[t,w];refine U ?_;rw[show(ns.length:Int)-1=((ns.length-1:Nat):Int) from by omega];refine U ?_;refine rW (h:=ns.length-1) rfl rfl Zo rfl rfl ?_;refine U ?_;refine mi (Ct q _ _ l (f.up r) (ns.take (ns.length-1)) ⟨B,d,by rw[k]<;>rfl,by rw[k];omega,Sl.take i _⟩ (by rw[k];omega)) ?_;have o:=By f.ok (ns.take (ns.length-1));generalize oQ l (ns.take (ns.length-1))=x at*;obtain⟨dir,e⟩:=x;simp only at o⊢;refine U ?_;by_cases b:e=0
   ·rw[show(e != 0)=false from by simpa using b];rw[ai Zo];refine U ?_;refine md (wW dir o W _) ?_;cases F:nM dir with
    |false=>refine U ?_;refine kS ?_;exact tg c0 results139 Zt Zt Zt (λ_ _ _=>rfl)
    |true=>subst b;refine U ?_;refine nq [0,1,2,3,4,5,6,7] Zk Zk Zk Zk Zk (λ_ _ _ h=>h) ?_;refine U ?_;refine kS ?_;exact tg c0 results139 Zt Zt Zt (λ_ _ _=>rfl)
   ·rw[show(e != 0)=true from by simpa using b];rw[aj b];refine U ?_;refine kS ?_;exact tg c0 results139 Zt Zt Zt (λ_ _ _=>rfl)
theorem PI{m:mQ}(h:xn m.seen m.mC=none):su m=(mN.z,20):=by unfold su;rw[h]
theorem PJ{m:mQ}{s:mN}(h:xn m.seen m.mC=some s)(hl:200<=m.kP.es.length):su m=(mN.z,193):=by unfold su;rw[h];exact aj hl
theorem PK{m:mQ}{s:mN}(h:xn m.seen m.mC=some s)(hl:¬200<=m.kP.es.length):su m=(s,0):=by unfold su;rw[h];exact ai hl
theorem PL(gd:Nat)(m:mQ)(a:lU)(c:mo)(ve d vs e f g i:Value)(A:Option Addr)(k:Nat)(j:ve=.slice A m.kP.es.length k)(n:CA m):Ce prog 141 #[.pointer (some ⟨gd,0,none⟩)] (k4 gd 128 (wG m a c ve d vs e f g i)) (.tuple #[Am (su m).1,nI (su m).2]) (k4 gd 128 (wG m a c ve d vs e f g i)):=λW L=>by
 subst j;refine enter func141 ?_;refine U ?_;intro o;refine U ?_;refine qN _ (lC.Z [0,1,2,3,5,6,7,8] (lC.p8 [4,9] (.o8 (lC.Z [10,11,12,13,14,15,16] .mZ) (lC.Z [14,10,11,12,13,15,16] .mZ)))) Zk Zk Zk Zk (λ_ _ _ h=>h) Sub.refl ?_;refine mM _ _ _ _ Zk ?_;refine U ?_;refine qu _ _ _ Zk ?_;refine U ?_;refine ta ?_ ?_
 ·refine mM _ _ _ _ Zk ?_;refine U ?_;refine md (L7 m.seen m.mC W _) ?_;refine U ?_;intro l;refine U ?_;refine U ?_;generalize b:xn m.seen m.mC=x;cases x with
  |none=>refine U ?_;refine kS ?_;exact og results141 (.agg (cs:=sb mN.z) inferInstance rfl lW rfl) Zt lv ⟨by rw[PI b]<;>rfl,rfl⟩
  |some s=>
   refine U ?_;by_cases hl:200<=m.kP.es.length;·rw[show decide ((200:Int)<=(m.kP.es.length:Int))=true from Zq];refine U ?_;refine kS ?_;exact og results141 (.agg (cs:=sb mN.z) inferInstance rfl lW rfl) Zt lv ⟨by rw[PJ b hl]<;>rfl,rfl⟩
   ·rw[show decide ((200:Int)<=(m.kP.es.length:Int))=false from Zq];refine U ?_;refine kS ?_;exact og results141 (.agg (cs:=sb s) inferInstance rfl lW rfl) Zt lv ⟨by rw[PK b hl]<;>rfl,rfl⟩
 ·refine mM _ _ _ _ Zk ?_;refine U ?_;intro l;refine U ?_;refine md (L7 m.seen m.mC W _) ?_;refine U ?_;refine U ?_;generalize b:xn m.seen m.mC=x;cases x with
  |none=>refine U ?_;refine kS ?_;exact og results141 (.agg (cs:=sb mN.z) inferInstance rfl lW rfl) Zt lv ⟨by rw[PI b]<;>rfl,rfl⟩
  |some s=>
   refine U ?_;by_cases hl:200<=m.kP.es.length;·rw[show decide ((200:Int)<=(m.kP.es.length:Int))=true from Zq];refine U ?_;refine kS ?_;exact og results141 (.agg (cs:=sb mN.z) inferInstance rfl lW rfl) Zt lv ⟨by rw[PJ b hl]<;>rfl,rfl⟩
   ·rw[show decide ((200:Int)<=(m.kP.es.length:Int))=false from Zq];refine U ?_;refine kS ?_;exact og results141 (.agg (cs:=sb s) inferInstance rfl lW rfl) Zt lv ⟨by rw[PK b hl]<;>rfl,rfl⟩
theorem Ka(m:mQ)(o:lQ):qU m o=if(oM m.kP o).2≠0 then(m,(oM m.kP o).2) else({m with kP:=(oM m.kP o).1},0):=rfl
def Fq(Z:List lQ)(o:lQ)(e:Int):List lQ:=if e≠0 then Z else Z++[o]
def mY(gd:Nat)(m:mQ)(a:lU)(c:mo)(ve b vs d e f:Value)(A:Option Addr)(k:Nat)(Z:List lQ)(H:kM)(L:List kM):List kM:=k4 gd 128 (wG m a c ve b vs d e f (.slice A Z.length k))::li 201 7 nA A k Z::fz H::L
theorem PM(gd:Nat)(m:mQ)(a:lU)(c:mo)(H:kM)(ve n vs p y z:Value)(B:sH H m ve n vs p)(C:xE m.kP 100000)(o:lQ)(E:pn o)(A:Option Addr)(k:Nat)(Z:List lQ)(P:Z.length<=1000)(W:World)(L:List kM):
 m3 prog W 164 #[.pointer (some ⟨gd,0,none⟩),qW o] (mY gd m a c ve n vs p y z A k Z H L)
  (λv L'=>∃b f i J K,H.le b/\v=nI (qU m o).2/\sH b (qU m o).1 f i vs p/\
   L'=mY gd (qU m o).1 a c f i vs p y z J K (Fq Z o (qU m o).2) b L):=by
 have Q:=C.len;unfold mY;refine enter func164 ?_;refine U ?_;intro F;refine U ?_;refine wM (λM L'=>∃q b f i,H.le b/\xD b f i (oM m.kP o).1/\L'=k4 q 27 [f,i]::k4 F 201 (nA o)::k4 gd 128 (wG m a c ve n vs p y z (.slice A Z.length k))::li 201 7 nA A k Z::fz b::L/\
  ml M [(0,.pointer (some ⟨gd,0,none⟩)),(3,.pointer (some ⟨F,0,none⟩)),(5,.pointer (some ⟨q,0,none⟩)),(6,nI (oM m.kP o).2)]) ?_ ?_
 ·refine qN _ (lC.Z [0,1,2,3] (lC.p8 [4,5] (.o8 (lC.Z [6,7,8,9,10,11,12] .mZ) (lC.Z [10,6,7,8,9,11,12] .mZ)))) Zk Zk Zk Zk (λ_ _ _ h=>h) Sub.refl ?_;refine mM _ _ _ _ Zk ?_;refine U ?_;refine qu _ _ _ Zk ?_;refine U ?_;refine ta ?_ ?_;·refine mM _ _ _ _ Zk ?_;refine U ?_;refine l4 (hp:=f1 (f1 (f1 f0))) (Jl H ve n m.kP B.kP Zo C.Z o E) ?_;rintro b _ hl ⟨_,rfl,f,i,rfl,d⟩;refine U ?_;intro q;refine U ?_;obtain⟨r,s,rfl,_,_⟩:=Zi d.es;obtain⟨u,w,rfl,_,_⟩:=Zi d.ns.sl;refine xL (vs:=[.slice r (oM m.kP o).1.es.length s,.slice u (oM m.kP o).1.ns.length w]) rfl rfl rfl rfl p0 Zr rfl (λ_=>.trans (Sub.fz hl (p1 (p1 (p1 p0)))) (.of Zu)) rfl ?_;refine U ?_;exact⟨q,b,_,_,hl,d,rfl,rfl,rfl,rfl,rfl,trivial⟩
  ·refine mM _ _ _ _ Zk ?_;refine U ?_;intro q;refine U ?_;refine l4 (hp:=f1 (f1 (f1 (f1 f0)))) (Jl H ve n m.kP B.kP Zo C.Z o E) ?_;rintro b _ hl ⟨_,rfl,f,i,rfl,d⟩;refine U ?_;obtain⟨r,s,rfl,_,_⟩:=Zi d.es;obtain⟨u,w,rfl,_,_⟩:=Zi d.ns.sl;refine xL (vs:=[.slice r (oM m.kP o).1.es.length s,.slice u (oM m.kP o).1.ns.length w]) rfl rfl rfl rfl p0 Zr rfl (λ_=>.trans (Sub.fz hl (p1 (p1 (p1 p0)))) (.of Zu)) rfl ?_;refine U ?_;exact⟨q,b,_,_,hl,d,rfl,rfl,rfl,rfl,rfl,trivial⟩
 rintro _ _ ⟨q,b,f,i,hl,d,rfl,N⟩;obtain⟨R,rfl⟩:=N.open;have j:=Ka m o;generalize oM m.kP o=x at*;obtain⟨g,e⟩:=x;dsimp only at*;obtain⟨r,s,rfl,_,_⟩:=Zi d.es;obtain⟨u,w,rfl,_,_⟩:=Zi d.ns.sl;refine U ?_;by_cases D:e=0;·subst D;refine U ?_;refine rM (vs:=[.slice r g.es.length s,.slice u g.ns.length w]) rfl rfl rfl rfl rfl (p1 (p1 p0)) rfl (λ_=>trivial) rfl ?_;refine U ?_;refine nq [0,1,2,3,4,5,6,7,8,9,10] Zk Zk Zk Zk Zk (λ_ _ _ h=>h) ?_;refine U ?_;intro O;refine U ?_;refine td (l:=Z) (news:=[o]) rfl rfl (oG (g:=O) (t:=201) (cs:=nA o) Zn rfl) (λ_ _=>by(first|exact p0|exact p1 p0|exact p1 (p1 p0)|exact p1 (p1 (p1 p0))|exact p1 (p1 (p1 (p1 p0)))|exact p1 (p1 (p1 (p1 (p1 p0))))|exact p1 (p1 (p1 (p1 (p1 (p1 p0)))))|exact p1 (p1 (p1 (p1 (p1 (p1 (p1 p0)))))))) Zl Zm rfl (λ_ _ _=>Sub.of (bu _)) rfl rfl (λG I=>?_);refine U ?_;refine kS ?_;rw[ai Zs] at j;exact lj results164 (L':=mY gd {m with kP:=g} a c (.slice r g.es.length s) (.slice u g.ns.length w) vs p y z G I (Z++[o]) b L) Zt lv ⟨b,_,_,G,I,hl,by rw[j]<;>rfl,by rw[j];exact⟨d,B.l3.up hl (AF hl),B.lN.up hl (zP hl)⟩,by rw[j];rfl⟩
 ·rw[show(e != 0)=true from Zq];rw[aj D] at j;refine U ?_;refine kS ?_;exact lj results164 (L':=mY gd m a c ve n vs p y z A k Z b L) Zt lv ⟨b,ve,n,A,k,hl,by rw[j]<;>rfl,by rw[j];exact B.up hl,by rw[j];unfold Fq;rw[aj D];rfl⟩
theorem XR{m:mQ}{o:lQ}(h:(qU m o).2≠0):(qU m o).1=m:=by
 rw[Ka] at h⊢;split;·rfl
 ·rename_i a;rw[ai a] at h;exact absurd rfl h
theorem XS(m:mQ)(o:lQ):rh m o=if(su m).2≠0 then((m,[]),(su m).2) else if(qU m {o with tm:=(su m).1}).2≠0 then((m,[]),(qU m {o with tm:=(su m).1}).2)
 else(({(qU m {o with tm:=(su m).1}).1 with seen:=(su m).1.c},[{o with tm:=(su m).1}]),0):=rfl
theorem Hk(gd:Nat)(m:mQ)(a:lU)(c:mo)(H:kM)(ve i vs d f g:Value)(u:sH H m ve i vs d)(z:CA m)(o:lQ)(q:pn o)(A:Option Addr)(k:Nat)(Z:List lQ)(E:Z.length<=1000)(W:World)(L:List kM):
 m3 prog W 143 #[.pointer (some ⟨gd,0,none⟩),qW o] (mY gd m a c ve i vs d f g A k Z H L)
  (λv L'=>∃h j l n p,H.le h/\v=nI (rh m o).2/\sH h (rh m o).1.1 j l vs d/\
   L'=mY gd (rh m o).1.1 a c j l vs d f g n p (Z++(rh m o).1.2) h L):=by
 obtain⟨F,k0,G,_,_⟩:=Zi u.kP.es;have b:=XS m o;refine enter func143 ?_;unfold mY;refine U ?_;intro M;refine U ?_;refine Fe (z1 z0) (PL gd m a c ve i vs d f g (.slice A Z.length k) F k0 G z) ?_;generalize su m=x at*;obtain⟨s,e⟩:=x;dsimp only at*;refine U ?_;intro B;refine U ?_;by_cases C:e=0
 ·subst C;rw[ai Zs] at b;refine U ?_;refine rM (vs:=sb s) rfl rfl rfl rfl rfl (p1 p0) rfl (λ_=>trivial) rfl ?_;refine U ?_;refine SL.mL (L':=mY gd m a c ve i vs d f g A k Z H (k4 B 164 (sb s)::L)) (λw I=>I.pick 5 [2,3,4,0] Zd) ?_;refine nR (PM gd m a c H ve i vs d f g u ⟨by have:=z.es;omega,z.Z⟩ {o with tm:=s} ⟨q.node,q.lZ,q.name,q.data⟩ A k Z E W (k4 B 164 (sb s)::L)) ?_;have J:(qU m {o with tm:=s}).2≠0->(qU m {o with tm:=s}).1=m:=XR;generalize qU m {o with tm:=s}=y at*;obtain⟨D,e'⟩:=y;dsimp only at*;rintro _ _ ⟨h,j,l,n,p,hl,rfl,r,rfl⟩;unfold mY;refine U ?_;by_cases t:e'=0;·subst t;rw[ai Zs] at b;refine U ?_;refine kS ?_;exact lj results143 (L':=mY gd {D with seen:=s.c} a c j l vs d f g n p (Z++[{o with tm:=s}]) h L) Zt lv ⟨h,j,l,n,p,hl,by rw[b]<;>rfl,by rw[b];exact⟨r.kP,r.l3,r.lN⟩,by rw[b]<;>rfl⟩
  ·rw[show(e' != 0)=true from Zq];rw[aj t] at b;refine U ?_;have K:=J t;subst K;unfold Fq;rw[aj t];refine kS ?_;exact lj results143 (L':=mY gd D a c j l vs d f g n p Z h L) Zt lv ⟨h,j,l,n,p,hl,by rw[b]<;>rfl,by rw[b];exact r,by rw[b];simp[mY]⟩
 ·rw[show(e != 0)=true from Zq];rw[aj C] at b;refine U ?_;refine kS ?_;exact lj results143 (L':=mY gd m a c ve i vs d f g A k Z H L) Zt lv ⟨H,ve,i,A,k,le_refl _,by rw[b]<;>rfl,by rw[b];exact u,by rw[b];simp[mY]⟩
end
end Go.Proofs.YtkbifmngmocjnaaGreatDoor
