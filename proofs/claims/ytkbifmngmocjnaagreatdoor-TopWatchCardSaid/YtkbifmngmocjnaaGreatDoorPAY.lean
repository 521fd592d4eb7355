/- Proved here, packed: what the parts Stgn Lwatch Lwat2 prove (rules of the walk, contracts of functions, plain laws). Conditions: in each statement. -/
import Derived.Test.YtkbifmngmocjnaaGreatDoorPAX
namespace Go.Proofs.YtkbifmngmocjnaaGreatDoor
set_option maxRecDepth 100000
set_option maxHeartbeats 8000000
set_option linter.all false
section
open Top Proofs.Tryz
def Em(x:lD)(a:List Int):lD:=a.foldl (λx p=>nm x p false) x
theorem QV{C:Nat}{N:Int}{x:lD}(h:m5 C N x):∀a:List Int,m5 C (N+a.length) (Em x a)
 |[]=>h.up Zs
 |p::a=>by have:=QV (h.y3 p false) a;exact this.up (by simp;omega)
theorem aat(H:kM)(x:lD)(ve f vs g j k l vt n:Value)(b:vU H x ve f vs g j k l vt n){C:Nat}{N:Int}(z:m5 C N x)(A:Option Addr)(c:Nat)(a:List Int)(P:N+a.length<=10000000)(B:C<=50000)(Q:H.kn (Rd A 1 oY a))(hp:∀p∈a,od p)(hl:a.length<=1000000):Fn prog 9 #[.agg (oz x ve f vs g j k l vt n).toArray,.slice A a.length c] H (Eh (Em x a)):=λW L=>by
 obtain⟨R,S,rfl,_,_⟩:=Zi b.kR.kP.es;obtain⟨T,V,rfl,_,_⟩:=Zi b.kR.kP.ns.sl;obtain⟨X,Y,r2,rfl,_⟩:=Zi b.kR.lN;obtain⟨A3,kF,r3,rfl,_⟩:=Zi b.kR.l3;obtain⟨A4,kG,rfl,_,_⟩:=Zi b.kW.h;obtain⟨A5,kH,rfl,_,_⟩:=Zi b.kW.w;obtain⟨A6,kI,rfl,_,_⟩:=Zi b.k6;obtain⟨A7,kJ,kL,rfl,_⟩:=Zi b.kK;obtain⟨A8,kO,rfl,_,_⟩:=Zi b.Z;refine enter func9 ?_;refine U ?_;intro s;refine U ?_;intro t;refine U ?_;refine mP (λm σ L'=>∃(i:Nat) (y:lD) (o:kM) (ve f vs g j k l vt n:Value),m=a.length-i/\i<=a.length/\y=Em x (a.take i)/\H.le o/\vU o y ve f vs g j k l vt n/\
  L'=k4 t 41 xh::k4 s 41 (oz y ve f vs g j k l vt n)::fz o::L/\
  ml σ [(2,.pointer (some ⟨s,0,none⟩)),(4,.pointer (some ⟨t,0,none⟩)),(7,.slice A a.length c),(8,nN a.length),(9,nN i)]) a.length _ (s1 _)
  ⟨0,x,H,_,_,_,_,_,_,_,_,_,by omega,by omega,rfl,le_refl _,b,rfl,rfl,rfl,rfl,rfl,rfl,trivial⟩ ?_
 clear b;rintro m σ _ ⟨i,y,D,_,_,_,_,_,_,_,_,_,rfl,E,q,u,d,rfl,F⟩;obtain⟨kQ,rfl⟩:=F.open;obtain⟨B0,kT,rfl,_,_⟩:=Zi d.kR.kP.es;obtain⟨B1,kX,rfl,_,_⟩:=Zi d.kR.kP.ns.sl;obtain⟨B2,kY,q2,rfl,_⟩:=Zi d.kR.lN;obtain⟨B3,kZ,q3,rfl,_⟩:=Zi d.kR.l3;obtain⟨B4,k5,rfl,_,_⟩:=Zi d.kW.h;obtain⟨B5,k7,rfl,_,_⟩:=Zi d.kW.w;obtain⟨B6,k8,rfl,_,_⟩:=Zi d.k6;obtain⟨B7,k9,rs,rfl,_⟩:=Zi d.kK;obtain⟨B8,lc,rfl,_,_⟩:=Zi d.Z;refine U ?_;refine mE rfl (λr=>?_) (λr=>?_)
 ·have G:i<a.length:=by have:=am r;omega
  obtain⟨p,v⟩:∃p,a[i]? =some p:=⟨_,ad G⟩;have lg:(oY p)[0]? =some (nI p):=rfl;have I:Em x (a.take (i+1))=nm y p false:=by rw[aT,v,q];unfold Em;rw[bV];rfl
  have J:m5 C (N+i) y:=by have:=QV z (a.take i);rw[<-q,aC,ci E] at this;exact this
  refine U ?_;refine l4 (hp:=f1 (f1 f0)) (KR D y _ _ _ _ _ _ _ _ _ d J Zo B p (hp p (ar v)) false) ?_;rintro K _ M ⟨_,_,_,_,_,_,_,_,_,rfl,e⟩;obtain⟨D0,lh,rfl,_,_⟩:=Zi e.kR.kP.es;obtain⟨D1,lm,rfl,_,_⟩:=Zi e.kR.kP.ns.sl;obtain⟨D2,lq,e2,rfl,_⟩:=Zi e.kR.lN;obtain⟨D3,lu,e3,rfl,_⟩:=Zi e.kR.l3;obtain⟨D4,lx,rfl,_,_⟩:=Zi e.kW.h;obtain⟨D5,ly,rfl,_,_⟩:=Zi e.kW.w;obtain⟨D6,lz,rfl,_,_⟩:=Zi e.k6;obtain⟨D7,lB,es,rfl,_⟩:=Zi e.kK;obtain⟨D8,lE,rfl,_,_⟩:=Zi e.Z;refine U ?_;exact⟨a.length-(i+1),_,by omega,s1 _,i+1,nm y p false,K,_,_,_,_,_,_,_,_,_,rfl,by omega,I.symm,le_trans u M,e,rfl,rfl,rfl,rfl,rfl,rfl,trivial⟩
 ·have O:i=a.length:=by have:=av r;omega
  rw[O,bf] at q;refine U ?_;refine kS ?_;exact lX (c1 (c1 c0)) results9 (.agg (cs:=oz y _ _ _ _ _ _ _ _ _) inferInstance rfl m0 rfl) (λo hl _=>by rw[<-q];exact⟨_,_,_,_,_,_,_,_,_,rfl,d.up hl⟩) u
end
namespace Top
def QR(told:List nk)(q:xp)(all:List nk):Prop:=(q.2=false/\told++q.1=all)\/(q.2=true/\∃k,k<all.length/\told++q.1=all.take k++[⟨9,[]⟩])
theorem QR.put{told:List nk}{q:xp}{all:List nk}(l:List nk)(h:QR told q all):QR told (rJ q l) (all++l):=by
 obtain⟨a,o⟩:=q;unfold rJ;rcases h with⟨c,b⟩|⟨c,k,d,b⟩
 ·simp only at c b;subst c;simp only[aM,bH];split;·rename_i h;refine .inr ⟨rfl,all.length+(8-a.length),by simp;omega,?_⟩;simp only;rw[i6,<-b];simp
  ·exact .inl ⟨rfl,by simp only;rw[<-aV,b]⟩
 ·simp only at c b;subst c;rw[aj rfl];refine .inr ⟨rfl,k,by simp;omega,?_⟩;rw[b,cS Zo]
theorem QR.take{told:List nk}{q:xp}{all:List nk}(h:QR told q all):QR (told++q.1) ([],q.2) all:=by
 rcases h with⟨a,b⟩|⟨a,k,c,b⟩;·exact .inl ⟨a,by simpa using b⟩
 ·exact .inr ⟨a,k,c,by simpa using b⟩
theorem KV(q:xp):rJ q []=q:=by obtain⟨a,o⟩:=q;unfold rJ;cases o<;>simp
def AO(n:la):Prop:=ow n.pg=true->(47:UInt8)∉n.name
theorem KW:AO la.z:=λh=>by simp[ow,la.z,mN.z] at h
def vV(g:Lg):Prop:=w7 g.ns/\∀e∈g.es,AO e.t7.my
theorem Q7{l:List la}{n:la}(h:w7 l)(b:AO n):w7 (qR l n):=by
 intro m a;unfold qR at a;simp only[aQ,aJ] at a;rcases a with a|rfl|a
 ·exact h m (bp.1 a).1
 ·exact b
 ·exact h m (bp.1 a).1
theorem aaE{l:List la}{o:lQ}(h:w7 l):w7 (oZ l o).1/\AO (oZ l o).2.my:=by
 unfold oZ;split;·exact⟨h,KW⟩
 ·rename_i a;split;·exact⟨h,KW⟩
  ·simp only;have qB:AO ((nr l o.node).getD la.z):=by
    cases hf:nr l o.node with
    |none=>exact KW
    |some n=>exact h n (bF hf)
   have b:AO ((nr l o.node).getD ⟨o.node,-1,[],mN.z,[],mN.z⟩):=by
    cases hf:nr l o.node with
    |none=>exact λc=>by simp[ow,mN.z] at c
    |some n=>exact h n (bF hf)
   refine⟨Q7 h ?_,qB⟩;split
   ·rename_i d;intro _;have:nj o=true:=by
     cases e:nj o;·simp[e] at a
     ·rfl
    unfold nj at this;rw[aj d] at this;simp only[aF] at this;exact Uo this.2.1.2
   ·exact b
theorem aaF{l:List la}{o:lQ}{u:tL}(h:w7 l)(a:AO u.my):w7 (wT l o u):=by
 unfold wT;split;·exact h
 ·split;·exact Q7 h a
  ·intro m b;exact h m (bp.1 b).1
theorem aaG(o:lQ)(es:List rg)(ns:List la)(h:w7 ns)(a:∀e∈es,AO e.t7.my):w7 (rH o es ns).2/\∀e∈(rH o es ns).1,AO e.t7.my:=by
 induction es generalizing ns with
 |nil=>exact⟨h,λe a=>by simp[rH] at a⟩
 |cons e r b=>
  unfold rH;split;·exact b _ (aaF h (a e (ay ..))) (λx c=>a x (aI _ c))
  ·exact⟨h,a⟩
theorem Q8{g:Lg}(o:lQ)(h:vV g):vV (qS g o):=by
 obtain⟨b,c⟩:=aaE (o:=o) h.1;unfold qS;refine⟨b,λe a=>?_⟩;simp only[aQ,aE] at a;rcases a with a|rfl;·exact h.2 e a
 ·exact c
theorem aaH(l:List lQ)(g:Lg)(h:vV g):vV (l.foldl qS g):=by
 induction l generalizing g with
 |nil=>exact h
 |cons o l a=>exact a _ (Q8 o h)
theorem aaI{g:Lg}(o:lQ)(h:vV g):vV (oM g o).1:=by
 unfold oM;split;·exact h
 ·split;·exact h
  ·split;·exact h
   ·obtain⟨b,c⟩:=aaG o g.es.reverse g.ns h.1 (λe a=>h.2 e (eI.1 a));refine aaH _ _ (Q8 o ⟨b,λe a=>c e (eI.1 a)⟩)
theorem Q9(m:mQ)(o:lQ):(qU m o).1.lN=m.lN/\(vV m.kP->vV (qU m o).1.kP)/\(qU m o).1.l3=m.l3:=by
 unfold qU;have:=aaI (g:=m.kP) o;generalize oM m.kP o=x at*;obtain⟨g,e⟩:=x;simp only;split;·exact⟨rfl,id,rfl⟩
 ·exact⟨rfl,this,rfl⟩
theorem aaJ(l:List lQ)(m:mQ):(uI m l).1.lN=m.lN/\(vV m.kP->vV (uI m l).1.kP):=by
 induction l generalizing m with
 |nil=>exact⟨rfl,id⟩
 |cons o l a=>
  have h:=Q9 m o;unfold uI;generalize qU m o=x at*;obtain⟨b,e⟩:=x;simp only at h⊢;split;·exact⟨h.1,h.2.1⟩
  ·exact⟨(a b).1.trans h.1,λhl=>(a b).2 (h.2.1 hl)⟩
def FG(m:mQ)(c:mo)(x:sw×Int):Prop:=
 x.2≠0\/(x.1.2.2≠[]/\x.1.1.lN=m.lN/\(vV m.kP->vV x.1.1.kP)/\c.kind≠11)\/
 (x.1.2.2=[]/\x.1.1.kP=m.kP/\((c.kind≠11/\∃w,x.1.1.lN=m.lN++w)\/
  (c.kind=11/\∃i,(m.lN.findIdx? λw=>w.n==c.n)=some i/\x.1.1.lN=m.lN.modify i (λw=>{w with q:=([],w.q.2)})/\x.1.2.1.l9=((m.lN[i]?).map λw=>w.q.1).getD [])))
theorem q6{m:mQ}{c:mo}{a:mQ}{e:Int}(h:e≠0):FG m c (nJ a e):=.inl h
theorem HJ(m:mQ)(c:mo)(o:lQ)(b:c.kind≠11):FG m c (tt (rh m o)):=by
 unfold rh;split;rename_i s e f;split;·rename_i a;exact .inl a
 ·have h:=Q9 m {o with tm:=s};split;rename_i g e' d;rw[d] at h;split;·rename_i a;exact .inl a
  ·exact .inr (.inl ⟨by simp[tt],h.1,h.2.1,b⟩)
theorem aaK(m:mQ)(c:mo)(g:c.kind≠9):FG m c (pS m c):=by
 have same:∀(a:lU) (e:Int),c.kind≠11->FG m c ((m,a,[]),e):=λa e h=>.inr (.inr ⟨rfl,rfl,.inl ⟨h,[],by simp⟩⟩);unfold pS;split
 ·have b:c.kind≠11:=by omega
  unfold Af;split;·exact q6 Zd
  ·split;split;·exact q6 (by assumption)
   ·split;·exact q6 Zd
    ·split;split;·exact q6 (by assumption)
     ·exact HJ m c _ b
 split
 ·have b:c.kind≠11:=by omega
  unfold Be;split;split;·exact q6 (by assumption)
  ·split;·exact q6 Zd
   ·exact HJ m c _ b
 split
 ·have b:c.kind≠11:=by omega
  unfold BW;split;·exact q6 Zd
  ·split;split;·exact q6 (by assumption)
   ·split;·exact q6 Zd
    ·exact same _ _ b
 split
 ·have b:c.kind≠11:=by omega
  unfold Bf;split;·exact q6 Zd
  ·split;split;·exact q6 (by assumption)
   ·split;split;·exact q6 (by assumption)
    ·split;·exact q6 Zd
     ·split;·exact q6 Zd
      ·exact HJ m c _ b
 split
 ·have b:c.kind≠11:=by omega
  unfold Bg;split;·exact q6 Zd
  ·split;split;·exact q6 (by assumption)
   ·split;·exact q6 Zd
    ·split;·exact q6 Zd
     ·exact HJ m c _ b
 split
 ·have b:c.kind≠11:=by omega
  unfold BX;split;·exact q6 Zd
  ·split;split;·exact q6 (by assumption)
   ·split;·exact same _ _ b
    ·exact q6 Zd
 split
 ·have b:c.kind≠11:=by omega
  unfold BY;split;·exact q6 Zd
  ·exact .inr (.inr ⟨rfl,rfl,.inl ⟨b,[],by simp⟩⟩)
 split
 ·have b:c.kind≠11:=by omega
  unfold BZ;split;split;·exact q6 (by assumption)
  ·split;·exact q6 Zd
   ·split;·exact q6 Zd
    ·exact .inr (.inr ⟨rfl,rfl,.inl ⟨b,_,rfl⟩⟩)
 split
 ·rename_i b;unfold Bh;split;·exact q6 Zd
  ·rename_i i f;exact .inr (.inr ⟨rfl,rfl,.inr ⟨b,i,f,rfl,rfl⟩⟩)
 split
 ·have b:c.kind≠11:=by omega
  exact same _ _ b
 ·have b:c.kind≠11:=by omega
  unfold Ag;split;·exact q6 Zd
  ·rename_i l _;simp only;split;·exact q6 Zd
   ·have h:=aaJ (l.foldl (rx m.kP) []) m;generalize d:uI m (l.foldl (rx m.kP) [])=x at*;obtain⟨j,e⟩:=x;simp only at h⊢;split;·exact q6 (by assumption)
    ·(by_cases hf:l.foldl (rx m.kP) []=[];·rw[hf] at d;unfold uI at d;cases d;exact .inr (.inr ⟨hf,rfl,.inl ⟨b,[],by simp⟩⟩));·exact .inr (.inl ⟨hf,h.1,h.2,b⟩)
theorem aaL{m:mQ}{c:mo}{q:xp}{ws:List zm}(k:m.lN=⟨1,0,q⟩::ws)(hl:vV m.kP)(A:c.kind≠9):
 vV (py m c).1.kP/\∃d o,(py m c).1.lN=⟨1,0,d⟩::o/\
  (
   (c.kind=11/\c.n=1/\(py m c).2.1.l9=q.1/\d=([],q.2)/\(py m c).1.kP=m.kP)\/
   ((c.kind=11/\c.n=1->(py m c).2.1.l9=[])/\d=rJ q (ss m.kP.ns (py m c).1.kP.ns 0))):=by
 have x:∀a:lU,a.l9=[]->vV m.kP/\∃d o,m.lN=⟨1,0,d⟩::o/\
  (
   (c.kind=11/\c.n=1/\a.l9=q.1/\d=([],q.2)/\m.kP=m.kP)\/
   ((c.kind=11/\c.n=1->a.l9=[])/\d=rJ q (ss m.kP.ns m.kP.ns 0))):=λa B=>
  ⟨hl,q,ws,k,.inr ⟨λ_=>B,by rw[Dn hl.1,KV]⟩⟩
 unfold py;split;·exact x _ rfl
 ·have h:=aaK m c A;split;rename_i p a Z e C;rw[C] at h;simp only[FG] at h;split;·exact x _ rfl
  ·rename_i D;rcases h with h|⟨r,s,t,f⟩|⟨r,s,t⟩
   ·exact absurd h D
   ·rw[ai r];refine⟨t hl,rJ q (ss m.kP.ns p.kP.ns 0),ws.map (λw=>{w with q:=rJ w.q (ss m.kP.ns p.kP.ns w.dir)}),?_,.inr ⟨λg=>absurd g.1 f,rfl⟩⟩;show(p.lN.map _)=_;rw[s,k];rfl
   ·(rw[aj r];simp only;rw[s];refine⟨hl,?_⟩;rcases t with⟨f,w,b⟩|⟨f,i,b,u,y⟩);·exact⟨q,ws++w,by rw[b,k];rfl,.inr ⟨λg=>absurd g.1 f,by rw[Dn hl.1,KV]⟩⟩
    ·rw[k] at b u y;by_cases l:c.n=1;·(have v:i=0:=by rw[eb] at b;rw[aj (by simp[l])] at b;cases b;rfl);subst v;exact⟨([],q.2),ws,by rw[u];rfl,.inl ⟨f,l,by rw[y];rfl,rfl,rfl⟩⟩
     ·have v:∃j,i=j+1:=by
       rw[eb] at b;rw[ai (by simp;exact λe=>l e.symm)] at b;cases z:ws.findIdx? (λw=>w.n==c.n) with
       |none=>rw[z] at b;cases b
       |some j=>rw[z] at b;cases b;exact⟨j,rfl⟩
      obtain⟨j,rfl⟩:=v;exact⟨q,ws.modify j (λw=>{w with q:=([],w.q.2)}),by rw[u];rfl,.inr ⟨λg=>absurd g.2 l,by rw[Dn hl.1,KV]⟩⟩
end Top
namespace Top
abbrev K2:=Bool×mo
abbrev K3:=Bool×mo×lU
def k2(t:lr):K2:=(t.done,t.call)
def k3(t:lr):K3:=(t.done,t.call,t.lM)
theorem KX{α β:Type}(k:α->β)(f:α->α)(g:β->β)(h:∀a,k (f a)=g (k a))(l:List α)(n:Nat):(l.modify n f).map k=(l.map k).modify n g:=by
 induction l generalizing n with
 |nil=>simp
 |cons a l b=>cases n<;>simp[h,b]
theorem aaN{β:Type}(l:List β)(n:Nat):l.modify n (λa=>a)=l:=by
 induction l generalizing n with
 |nil=>simp
 |cons a l b=>cases n<;>simp[b]
theorem En{α β:Type}(k:α->β)(f:α->α)(h:∀a,k (f a)=k a)(l:List α)(n:Nat):(l.modify n f).map k=l.map k:=by rw[KX k f (λb=>b) h,aaN]
theorem Rb{β:Type}(k:lr->β)(f:lr->lr)(h:∀a,k (f a)=k a)(l:List lr)(n:Int):(r8 l n f).map k=l.map k:=by
 unfold r8;split;·exact En k f h l _
 ·rfl
theorem HK(t:lr)(u:Int×Int)(h:u.1≠3):k3 (mO t u)=k3 t:=by
 unfold mO;split;·rfl
 ·split;·rfl
  ·split<;>rfl
theorem KY{t t':lr}(h:k3 t=k3 t'):k2 t=k2 t':=by simp only[k3,k2,bE] at*;exact⟨h.1,h.2.1⟩
theorem Rc{l l':List lr}(h:l.map k3=l'.map k3):l.map k2=l'.map k2:=by
 have:∀l:List lr,l.map k2=(l.map k3).map (λk=>(k.1,k.2.1)):=by intro l;simp[k2,k3]
 rw[this,this,h]
structure vW(x y:lD):Prop where
 kR:y.kR=x.kR
 kK:y.kK.map k2=x.kK.map k2
theorem vW.refl(x:lD):vW x x:=⟨rfl,rfl⟩
theorem vW.trans{x y z:lD}(h:vW x y)(a:vW y z):vW x z:=⟨a.kR.trans h.kR,a.kK.trans h.kK⟩
theorem vW.pre{x y z:lD}(h:vW y z)(a:y.kR=x.kR)(b:y.kK.map k2=x.kK.map k2):vW x z:=.trans ⟨a,b⟩ h
theorem KZ(s:lD)(n:Int):vW s (pE s n):=⟨rfl,Rb k2 (λt=>{t with mS:=true,mK:=s.lp}) (λ_=>rfl) s.kK n⟩
theorem aaO(l:List Int)(s:lD):vW s (l.foldl pE s):=by
 induction l generalizing s with
 |nil=>exact .refl s
 |cons a l b=>exact(KZ s a).trans (b _)
theorem aaP(s:lD)(kU:Nat)(ng:Bool):vW s (ob s kU ng):=by
 unfold ob;split;·refine(KZ _ _).pre rfl ?_;exact En k2 (λt=>{t with lM:={lU.z with err:=120}}) (λ_=>rfl) s.kK kU
 ·split;exact(aaO _ _).pre rfl rfl
structure wK(x y:lD):Prop where
 kR:y.kR=x.kR
 kK:y.kK.map k3=x.kK.map k3
theorem wK.refl(x:lD):wK x x:=⟨rfl,rfl⟩
theorem wK.trans{x y z:lD}(h:wK x y)(a:wK y z):wK x z:=⟨a.kR.trans h.kR,a.kK.trans h.kK⟩
theorem wK.pre{x y z:lD}(h:wK y z)(a:y.kR=x.kR)(b:y.kK.map k3=x.kK.map k3):wK x z:=.trans ⟨a,b⟩ h
theorem wK.FH{x y:lD}(h:wK x y):vW x y:=⟨h.kR,Rc h.kK⟩
theorem Re(s:lD)(h:Int×Int):wK s (ri s h):=⟨rfl,Rb k3 _ (λt=>HK t _ Zs) _ _⟩
theorem aaQ(l:List (Int×Int))(s:lD):wK s (l.foldl ri s):=by
 induction l generalizing s with
 |nil=>exact .refl s
 |cons a l b=>exact(Re s a).trans (b _)
theorem aaR(kU:Nat)(s:lD)(n:Nat):wK s (rB kU s n):=by
 unfold rB;split;·split;refine(aaQ _ _).pre rfl ?_;exact En k3 pD (λ_=>rfl) s.kK n
 ·exact .refl s
theorem aaS(kU:Nat)(l:List Nat)(s:lD):wK s (l.foldl (rB kU) s):=by
 induction l generalizing s with
 |nil=>exact .refl s
 |cons a l b=>exact(aaR kU s a).trans (b _)
theorem aaT(s:lD)(kU:Nat)(u:Int×Int)(c:u.1=3)(t:lr)(d:s.kK[kU]? =some t):(qJ s kU u).kR=(py s.kR t.call).1/\(qJ s kU u).kK.map k3=(s.kK.map k3).modify kU (λk=>(true,k.2.1,(py s.kR t.call).2.1)):=by
 unfold qJ;rw[d];simp only;generalize py s.kR t.call=x;obtain⟨m,a,Z⟩:=x;simp only;have b:∀t:lr,k3 (mO {t with lM:=a,mark:=s.lp,mV:=(s.Z++Z).length} u)=(λk:K3=>(true,k.2.1,a)) (k3 t):=by intro t;unfold mO;rw[ai Zo,ai Zo,aj c];rfl
 split;·have h:=aaS kU (List.range s.kK.length) {s with kR:=m,Z:=s.Z++Z,kK:=s.kK.modify kU λt=>mO {t with lM:=a,mark:=s.lp,mV:=(s.Z++Z).length} u};exact⟨h.kR,h.kK.trans (KX k3 _ _ b _ _)⟩
 ·exact⟨rfl,KX k3 _ _ b _ _⟩
theorem aaU(s:lD)(kU:Nat)(u:Int×Int):vW s (pz s kU u)\/(u.1=3/\pz s kU u=qJ s kU u):=by
 unfold pz;split
 ·rename_i h;refine .inl ?_;split;rename_i t lA _;refine⟨rfl,?_⟩;simp only;split;·exact En k2 _ (λt=>KY (HK t _ Zo)) _ _
  ·rfl
 ·split
  ·refine .inl ?_;split;rename_i t next _
   have a:vW s {s with kW:=t,kK:=s.kK.modify kU λt=>mO t u}:=⟨rfl,En k2 _ (λt=>KY (HK t _ Zo)) _ _⟩;simp only;split;·exact a.trans (Re _ _).FH
   ·exact a
  ·split;·rename_i h;exact .inr ⟨h,rfl⟩
   ·split;·(refine .inl ?_;split;split;·exact(KZ _ _).pre rfl rfl);·exact⟨rfl,rfl⟩
    ·split;·refine .inl ⟨rfl,?_⟩;exact En k2 _ (λt=>by have:=KY (HK t u Zo);simpa[k2] using this) _ _
     ·exact .inl (.refl s)
theorem aaV{l:List la}{t:lr}(h:(pZ l t).1=3):t.done=false:=by
 cases c:t.done with
 |false=>rfl
 |true=>
  exfalso;unfold pZ at h;rw[c] at h;by_cases a:t.mS=true;·simp[a] at h
  ·by_cases b:t.lA=[];·by_cases d:t.call.kind=12<;>simp[a,b,d] at h
   ·simp[a,b] at h
theorem aaW(x:lD)(p:Int)(ng:Bool):vW x (nm x p ng)\/∃kU t,x.kK[kU]? =some t/\t.done=false/\ (nm x p ng).kR=(py x.kR t.call).1/\(nm x p ng).kK.map k3=(x.kK.map k3).modify kU (λk=>(true,k.2.1,(py x.kR t.call).2.1)):=by
 unfold nm;split;·exact .inl (.refl x)
 ·rename_i kU waits _;simp only;split;·exact .inl ((aaP _ _ _).pre rfl rfl)
  ·split;·exact .inl ⟨rfl,rfl⟩
   ·rename_i t a;rcases aaU {x with lp:=x.lp+1} kU (pZ x.kR.kP.ns t) with h|⟨b,c⟩
    ·exact .inl (h.pre rfl rfl)
    ·refine .inr ⟨kU,t,a,aaV b,?_⟩;rw[c];exact aaT {x with lp:=x.lp+1} kU _ b t a
structure Act where
 start:Bool
 call:mo
 pick:Int
 ng:Bool
def BF(x:lD)(a:Act):lD:=if a.start then((rA x a.call).map (·.1)).getD x else nm x a.pick a.ng
def pQ(p q:lr):Bool:=q.done&&!p.done&&q.call.kind==11&&q.call.n==1
def pG:List lr->List lr->List nk
 |p::l,q::m=>(if pQ p q then q.lM.l9 else[])++pG l m
 |_,_=>[]
theorem Rg(l m e:List lr)(h:m.map k2=l.map k2):pG l (m++e)=[]:=by
 induction l generalizing m with
 |nil=>cases m<;>rfl
 |cons p l a=>
  cases m with
  |nil=>cases h
  |cons q m=>
   simp only[bk,cH] at h;have:pQ p q=false:=by have:=h.1;simp only[k2,bE] at this;unfold pQ;rw[this.1];cases p.done<;>simp
   simp only[bQ,pG,this];exact a m h.2
theorem aaX(l m:List lr)(kU:Nat)(t:lr)(a:lU)(c:l[kU]? =some t)(d:t.done=false)(h:m.map k3=(l.map k3).modify kU (λk=>(true,k.2.1,a))):pG l m=if t.call.kind=11/\t.call.n=1 then a.l9 else[]:=by
 induction l generalizing m kU with
 |nil=>simp at c
 |cons p l e=>
  cases m with
  |nil=>cases kU<;>simp at h
  |cons q m=>
   cases kU with
   |zero=>(simp only[dW,cD] at c;subst c;simp only[bk,List.modify_zero_cons,cH] at h;have b:=h.1;simp only[k3,bE] at b;have f:pG l m=[]:=by have:=Rg l m [] (Rc h.2);rwa [aP] at this);simp only[pG,f,aP];unfold pQ;rw[b.1,b.2.1,b.2.2,d];by_cases g:p.call.kind=11<;>by_cases i:p.call.n=1<;>simp[g,i]
   |succ kU=>(simp only[bk,List.modify_succ_cons,cH] at h;have b:=h.1;simp only[k3,bE] at b;have:pQ p q=false:=by unfold pQ;rw[b.1];cases p.done<;>simp);simp only[pG,this];exact e m kU (by simpa using c) h.2
structure WJ(x:lD)(all told:List nk):Prop where
 q:∃q ws,x.kR.lN=⟨1,0,q⟩::ws/\QR told q all
 kP:vV x.kR.kP
 all:∀e∈all,e.kind≠9
 kK:∀k∈x.kK.map k2,k.2.kind≠9
theorem WJ.FH{x y:lD}{all told:List nk}(h:WJ x all told)(b:y.kR=x.kR)(e:List lr)(c:∃m,y.kK=m++e/\m.map k2=x.kK.map k2)(g:∀t∈e,t.call.kind≠9):WJ y (all++ss x.kR.kP.ns y.kR.kP.ns 0) (told++pG x.kK y.kK):=by
 obtain⟨m,d,f⟩:=c;rw[b,Dn h.kP.1,aP,d,Rg _ _ _ f,aP];refine⟨by rw[b];exact h.q,by rw[b];exact h.kP,h.all,?_⟩;rw[d,bA,f];intro k a;rcases aQ.1 a with a|a;·exact h.kK k a
 ·obtain⟨t,c,rfl⟩:=aU.1 a;exact g t c
theorem WJ.next{x:lD}{all told:List nk}(h:WJ x all told)(a:Act)(z:a.call.kind≠9):WJ (BF x a) (all++ss x.kR.kP.ns (BF x a).kR.kP.ns 0) (told++pG x.kK (BF x a).kK):=by
 have A:WJ x (all++ss x.kR.kP.ns x.kR.kP.ns 0) (told++pG x.kK x.kK):=h.FH rfl [] ⟨x.kK,by simp,rfl⟩ (λt b=>by simp at b);unfold BF;split
 ·unfold rA;split;·exact A
  ·exact h.FH rfl [rz a.call (x.lp+1)] ⟨x.kK,rfl,rfl⟩ (λt b=>by simp at b;subst b;exact z)
 ·rcases aaW x a.pick a.ng with hl|⟨kU,t,b,B,c,m⟩;·exact h.FH hl.kR [] ⟨_,by simp,hl.kK⟩ (λt b=>by simp at b)
  ·obtain⟨q,ws,C,o⟩:=h.q;have D:t.call.kind≠9:=h.kK (k2 t) (gE (ar b));obtain⟨p,r,s,u,E⟩:=aaL C h.kP D;rw[aaX _ _ kU t _ b B m];have v:∀k∈(nm x a.pick a.ng).kK.map k2,k.2.kind≠9:=by
    intro k w;have e:(nm x a.pick a.ng).kK.map k2=((nm x a.pick a.ng).kK.map k3).map (λk=>(k.1,k.2.1)):=by simp[k2,k3]
    rw[e,m] at w;obtain⟨N,F,rfl⟩:=aU.1 w;obtain⟨i,d⟩:=cL F;rw[bM] at d;cases g:(x.kK.map k3)[i]? with
    |none=>rw[g] at d;simp at d
    |some k0=>rw[g] at d;have G:=ar g;obtain⟨t0,H,rfl⟩:=aU.1 G;have I:=h.kK (k2 t0) (gE H);simp only[Option.map_eq_map,aW,cD] at d;split at d<;>(subst d;exact I)
   rcases E with⟨j,l,J,K,y⟩|⟨j,l⟩;·(refine⟨⟨r,s,by rw[c];exact u,?_⟩,by rw[c];exact p,?_,v⟩;·rw[aj ⟨j,l⟩,J,c,y,Dn h.kP.1,aP,K];exact o.take);·rw[c,y,Dn h.kP.1,aP];exact h.all
   ·have L:(if t.call.kind=11/\t.call.n=1 then(py x.kR t.call).2.1.l9 else[])=[]:=by
     split;·rename_i M;exact j M
     ·rfl
    refine⟨⟨r,s,by rw[c];exact u,?_⟩,by rw[c];exact p,?_,v⟩;·rw[L,aP,c,l];exact o.put _
    ·intro e f;rcases aQ.1 f with f|f
     ·exact h.all e f
     ·exact Uw _ _ _ e f
def FI(told all:List nk):Bool:=
 let a:=match told.getLast? with
  |some e=>e.kind==9
  |none=>false
 let n:=if a then told.length-1 else told.length;(decide (n<=all.length)&&decide (told.take n=all.take (min n all.length)))&&(a==decide (n<all.length))
theorem WJ.r9{x:lD}{all told:List nk}(h:WJ x all told):(py x.kR ⟨11,[],[],[],1⟩).2.1.err=0/\FI (told++(py x.kR ⟨11,[],[],[],1⟩).2.1.l9) all=true:=by
 obtain⟨q,ws,c,d⟩:=h.q;have f:(py x.kR ⟨11,[],[],[],1⟩).2.1={lU.z with l9:=q.1}:=by
  have a:uZ ⟨11,[],[],[],1⟩=true:=by decide
  unfold py;rw[a];simp[pS,Bh,c,eb]
 rw[f];refine⟨rfl,?_⟩;simp only;rcases d with⟨a,b⟩|⟨a,k,i,b⟩
 ·rw[b];have hl:(match all.getLast? with
   |some e=>e.kind==9
   |none=>false)=false:=by
   cases g:all.getLast? with
   |none=>rfl
   |some e=>simp only[beq_eq_false_iff_ne];exact h.all e (iD g)
  unfold FI;rw[hl];simp
 ·rw[b];unfold FI;rw[List.getLast?_append];simp;omega
def CK:lD:=[0,0,0,0].foldl (λx p=>nm x p false) (((rA (n4 0) ⟨10,[47],[],[],0⟩).map (·.1)).getD (n4 0))
theorem aaY:WJ CK [] []:=by
 have b:CK.kR.lN=[⟨1,0,([],false)⟩]:=by decide+kernel
 have c:CK.kR.kP=⟨[],[]⟩:=by decide+kernel
 have d:CK.kK.map k2=[(true,⟨10,[47],[],[],0⟩)]:=by decide+kernel
 exact⟨⟨_,_,b,.inl ⟨rfl,rfl⟩⟩,by rw[c];exact⟨λn f=>by simp at f,λe a=>by simp at a⟩,λe a=>by simp at a,by rw[d];simp⟩
end Top
end Go.Proofs.YtkbifmngmocjnaaGreatDoor
