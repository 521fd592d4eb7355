/- Proved here, packed: what the parts Mdlc Mdld Mdle Mdlf Mdli Lmdl prove (rules of the walk, contracts of functions, plain laws). Conditions: in each statement. -/
import Derived.Test.YtkbifmngmocjnaaGreatDoorPAQ
namespace Go.Proofs.YtkbifmngmocjnaaGreatDoor
set_option maxRecDepth 100000
set_option maxHeartbeats 8000000
set_option linter.all false
section
open Top Proofs.Tryz
abbrev lR:Value:=.slice none 0 0
def oK(gd:Nat)(c:mo)(m:mQ)(r:sw×Int)(H:kM)(L:List kM)(v:Value)(L':List kM):Prop:=
 ∃a m1 b d e f g h i j k l,H.le a/\v=nI r.2/\L'=mY gd m1 b c e f g h i j k l d a L/\
  (r.2=0->(m1,b,d)=r.1/\sH a m1 e f g h/\tP a b i j)
def xG(k:Nat)(f:mQ->mo->sw×Int):Prop:=∀(gd:Nat) (m:mQ) (c:mo) (H:kM) (ve a vs b:Value),sH H m ve a vs b->CA m->yd c->∀W L,m3 prog W k #[.pointer (some ⟨gd,0,none⟩)] (mY gd m lU.z c ve a vs b lR lR none 0 [] H L) (oK gd c m (f m c) H L)
theorem tP.z(H:kM):tP H lU.z lR lR:=⟨Sl.nil _ _ _,Sl.nil _ _ _⟩
theorem oK.err{gd:Nat}{c:mo}{m:mQ}{r:sw×Int}{H a:kM}{L:List kM}{ve b vs d:Value}(f:sH H m ve b vs d)(e:Int)(hl:H.le a)(g:r=nJ m e):oK gd c m r H L (nI e) (mY gd m lU.z c ve b vs d lR lR none 0 [] a L):=by subst g;exact⟨a,m,lU.z,[],ve,b,vs,d,_,_,_,_,hl,rfl,rfl,λ_=>⟨rfl,f.up hl,tP.z a⟩⟩
theorem oK.put{gd:Nat}{c:mo}{m:mQ}{r:sw×Int}{H a:kM}{L:List kM}{ve b vs d:Value}{A:Option Addr}{k:Nat}(o:lQ)(e:sH a (rh m o).1.1 ve b vs d)(hl:H.le a)(f:r=tt (rh m o)):oK gd c m r H L (nI (rh m o).2) (mY gd (rh m o).1.1 lU.z c ve b vs d lR lR A k ([]++(rh m o).1.2) a L):=by subst f;exact⟨a,(rh m o).1.1,lU.z,[]++(rh m o).1.2,ve,b,vs,d,_,_,_,_,hl,rfl,rfl,λ_=>⟨rfl,e,tP.z a⟩⟩
theorem PN:od 0:=⟨by decide,by decide⟩
theorem XT(m:mQ)(c:mo):Be m c=if(o5 m.kP.ns c.path).2≠0 then nJ m (o5 m.kP.ns c.path).2 else if nM (o5 m.kP.ns c.path).1 then nJ m 82 else tt (rh m ⟨mN.z,2,(o5 m.kP.ns c.path).1,0,[],c.data⟩):=rfl
theorem XU:xG 80 Be:=λgd m c H ve n vs d a k f W L=>by
 obtain⟨o,k0,rfl,_,_⟩:=Zi a.kP.es;obtain⟨p,k1,rfl,_,_⟩:=Zi a.kP.ns.sl;have b:=XT m c;have hp:=f.path;have g:=Bz a.kP.ns.ok c.path;unfold mY;refine enter func80 ?_;refine U ?_;refine nq [0,1,2,3,4,5,6,7,8,9,10,11,12,13,14,15,16] Zk Zk Zk Zk Zk (λ_ _ _ h=>h) ?_;refine U ?_;refine mi (DZ H _ m.kP.ns a.kP.ns c.path Zo) ?_;generalize o5 m.kP.ns c.path=x at*;obtain⟨id,e⟩:=x;dsimp only at*;refine U ?_;by_cases i:e=0
 ·subst i;rw[ai Zs] at b;refine U ?_;refine md (wW id g W _) ?_;cases j:nM id with
  |true=>rw[j,aj rfl] at b;refine U ?_;refine kS ?_;exact lj results80 (L':=mY gd m lU.z c _ _ vs d lR lR none 0 [] H L) Zt lv (oK.err a _ (le_refl _) b)
  |false=>rw[j,ai Zs] at b;refine U ?_;refine nR (Hk gd m lU.z c H _ _ vs d lR lR a k ⟨mN.z,2,id,0,[],c.data⟩ ⟨g,PN,aR _,f.data⟩ none 0 [] (aR _) W L) ?_;rintro _ _ ⟨q,r,s,t,u,hl,rfl,l,rfl⟩;refine U ?_;refine kS ?_;exact lj results80 Zt lv (oK.put _ l hl b)
 ·rw[show(e != 0)=true from Zq];rw[aj i] at b;refine U ?_;refine kS ?_;exact lj results80 (L':=mY gd m lU.z c _ _ vs d lR lR none 0 [] H L) Zt lv (oK.err a _ (le_refl _) b)
theorem PO:∀(p:kV) (s:kV),s∈qf p->s.length<=p.length
 |[],s,h=>by simp[qf] at h;subst h;simp
 |c::l,s,h=>by
  have a:=PO l;rw[qf] at h;cases b:qf l with
  |nil=>exact absurd b (Ja l)
  |cons p r=>
   rw[b] at h a;dsimp only at h;split at h;·(rcases aJ.1 h with rfl|h;·simp);·have:=a s h;simp only[aG];omega
   ·(rcases aJ.1 h with rfl|h;·have:=a p (ay ..);simp only[aG];omega);·have:=a s (aI _ h);simp only[aG];omega
theorem PP{p:kV}{ns:List kV}(h:oy p=some ns):∀s∈ns,s.length<=p.length:=λs a=>by
 unfold oy at h;split at h;·cases h;cases a
 ·split at h
  ·split at h;·cases h;have:=PO _ s a;simp only[aG];omega
   ·cases h
  ·cases h
theorem PQ{ns:List kV}{P:kV->Prop}(a:P [])(h:∀s∈ns,P s):P (ns.getLast?.getD []):=by
 cases hl:ns.getLast? with
 |none=>exact a
 |some x=>exact h x (iD hl)
theorem PR{l:List la}(a:nb l)(p:kV):od (rv l p).1/\(rv l p).2.1.length<=p.length:=by
 have z:od (0:Int):=⟨by decide,by decide⟩;unfold rv;cases hp:oy p with
 |none=>exact⟨z,aR _⟩
 |some ns=>
  dsimp only;split;·exact⟨z,aR _⟩
  ·split;·exact⟨z,aR _⟩
   ·split;·exact⟨By a _,PQ (P:=λs=>s.length<=p.length) (aR _) (PP hp)⟩
    ·exact⟨z,aR _⟩
theorem XV(m:mQ)(c:mo):Af m c=if c.path=[47] then nJ m 194 else if(rv m.kP.ns c.path).2.2≠0 then nJ m (rv m.kP.ns c.path).2.2 else if(oP m.kP.ns (rv m.kP.ns c.path).1 (rv m.kP.ns c.path).2.1).isSome then nJ m 190 else if(su m).2≠0 then nJ m (su m).2 else tt (rh m ⟨mN.z,1,yH (su m).1 (c.kind==1),(rv m.kP.ns c.path).1,(rv m.kP.ns c.path).2.1,[]⟩):=rfl
theorem XW(s:mN)(f:Bool):od (yH s f):=by
 unfold yH;split;·rename_i h;unfold ow at h;simp only[aF,bz] at h;split<;>constructor<;>omega
 ·exact⟨by decide,by decide⟩
theorem PS:xG 79 Af:=λgd m c H ve q vs d b j l W L=>by
 obtain⟨n,k0,rfl,_,_⟩:=Zi b.kP.es;obtain⟨r,k1,rfl,_,_⟩:=Zi b.kP.ns.sl;have a:=XV m c;have hp:=l.path;obtain⟨o,t⟩:=PR b.kP.ns.ok c.path;unfold mY;refine enter func79 ?_;refine U ?_;by_cases g:c.path=[47];·rw[show(c.path==[47])=true from by simpa using g];rw[aj g] at a;refine U ?_;refine kS ?_;exact lj results79 (L':=mY gd m lU.z c _ _ vs d lR lR none 0 [] H L) Zt lv (oK.err b _ (le_refl _) a)
 rw[show(c.path==[47])=false from by simpa using g];rw[ai g] at a;refine U ?_;refine nq [0,1,2,3,4,5,6,7,8,9,10,11,12,13,14,15,16,17,18] Zk Zk Zk Zk Zk (λ_ _ _ h=>h) ?_;refine U ?_;refine mi (PH H _ m.kP.ns b.kP.ns c.path Zo) ?_;generalize rv m.kP.ns c.path=x at*;obtain⟨dir,i,e⟩:=x;dsimp only at*;refine U ?_;by_cases f:e=0
 ·subst f;rw[ai Zs] at a;refine U ?_;refine mi (G9 H _ m.kP.ns b.kP.ns dir i) ?_;cases k:oP m.kP.ns dir i with
  |some id=>rw[k,aj (show(some id).isSome=true from rfl)] at a;refine U ?_;refine kS ?_;exact lj results79 (L':=mY gd m lU.z c _ _ vs d lR lR none 0 [] H L) Zt lv (oK.err b _ (le_refl _) a)
  |none=>
   rw[k,ai Zs] at a;refine U ?_;refine Fe z0 (PL gd m lU.z c _ _ vs d lR lR _ n k0 rfl j) ?_;generalize u:su m=x at*;obtain⟨s,e⟩:=x;dsimp only at*;refine U ?_;intro v;refine U ?_;by_cases f:e=0;·subst f;rw[ai Zs] at a;refine U ?_;refine nq [0,1,2,3,4,5,6,7,8] Zk Zk Zk Zk Zk (λ_ _ _ h=>h) ?_;refine U ?_;refine md (S3 s _ W _) ?_;refine U ?_;refine SL.mL (L':=mY gd m lU.z c _ _ vs d lR lR none 0 [] H L) lv ?_;refine nR (Hk gd m lU.z c H _ _ vs d lR lR b j ⟨mN.z,1,yH s (c.kind==1),dir,i,[]⟩ ⟨XW _ _,o,by dsimp only;omega,aR _⟩ none 0 [] (aR _) W L) ?_;rintro _ _ ⟨w,y,A,B,C,hl,rfl,p,rfl⟩;refine U ?_;refine kS ?_;exact lj results79 Zt lv (oK.put _ p hl a)
   ·rw[show(e != 0)=true from Zq];rw[aj f] at a;refine U ?_;refine kS ?_;exact lj results79 (L':=mY gd m lU.z c _ _ vs d lR lR none 0 [] H L) Zt lv (oK.err b _ (le_refl _) a)
 ·rw[show(e != 0)=true from Zq];rw[aj f] at a;refine U ?_;refine kS ?_;exact lj results79 (L':=mY gd m lU.z c _ _ vs d lR lR none 0 [] H L) Zt lv (oK.err b _ (le_refl _) a)
theorem XX:od 2:=⟨by decide,by decide⟩
theorem XY(m:mQ)(c:mo):Bg m c=if c.path=[47] then nJ m 194 else if(o5 m.kP.ns c.path).2≠0 then nJ m (o5 m.kP.ns c.path).2 else match oy c.path with
 |none=>nJ m 194
 |some ll=>if ll=[] then nJ m 194 else tt (rh m ⟨mN.z,1,(o5 m.kP.ns c.path).1,2,ll.getLast?.getD [],[]⟩):=rfl
theorem XZ:xG 83 Bg:=λgd m c H ve C vs g b u v W L=>by
 obtain⟨D,k0,rfl,_,_⟩:=Zi b.kP.es;obtain⟨E,k1,rfl,_,_⟩:=Zi b.kP.ns.sl;have a:=XY m c;have hp:=v.path;have w:=Bz b.kP.ns.ok c.path;unfold mY;refine enter func83 ?_;refine U ?_;by_cases i:c.path=[47];·rw[show(c.path==[47])=true from by simpa using i];rw[aj i] at a;refine U ?_;refine kS ?_;exact lj results83 (L':=mY gd m lU.z c _ _ vs g lR lR none 0 [] H L) Zt lv (oK.err b _ (le_refl _) a)
 rw[show(c.path==[47])=false from by simpa using i];rw[ai i] at a;refine U ?_;refine nq [0,1,2,3,4,5,6,7,8,9,10,11,12,13,14,15,16] Zk Zk Zk Zk Zk (λ_ _ _ h=>h) ?_;refine U ?_;refine mi (DZ H _ m.kP.ns b.kP.ns c.path Zo) ?_;generalize o5 m.kP.ns c.path=x at*;obtain⟨id,e⟩:=x;dsimp only at*;refine U ?_;by_cases q:e=0
 ·subst q;rw[ai Zs] at a;refine U ?_;refine l4 (hp:=f1 (f1 f0)) (yR H c.path Zo) ?_;rintro n _ j ⟨v',rfl,k⟩;have o:=λns h=>@PP c.path ns h;cases p:oy c.path with
  |none=>rw[p] at k a;obtain⟨B,d,rfl,r,t⟩:=k;refine U ?_;refine kS ?_;exact lj results83 (L':=mY gd m lU.z c _ _ vs g lR lR none 0 [] n L) Zt lv (oK.err b _ j a)
  |some ns=>
   rw[p] at k a;replace o:=o ns p;obtain⟨B,d,rfl,r,t⟩:=k;simp only[aN] at r t⊢;cases ns with
   |nil=>refine U ?_;refine kS ?_;exact lj results83 (L':=mY gd m lU.z c _ _ vs g lR lR none 0 [] n L) Zt lv (oK.err b _ j a)
   |cons f ns=>
    dsimp only at a;rw[ai Zs] at a;refine U ?_;have F:(f::ns)[(f::ns).length-1]? =some ((f::ns).getLast?.getD []):=by rw[<-fd];simp[List.getLast?_cons]
    (have G:=PQ (P:=λs=>s.length<=c.path.length) (aR _) o;have I:1<=(f::ns).length:=by simp);generalize(f::ns).getLast?.getD []=y at*;generalize J:f::ns=l at*;rw[show(l.length:Int)-1=((l.length-1:Nat):Int) from by omega];refine U ?_;refine nR (Hk gd m lU.z c n _ _ vs g lR lR (b.up j) u ⟨mN.z,1,id,2,y,[]⟩ ⟨w,XX,by dsimp only;omega,aR _⟩ none 0 [] (aR _) W L) ?_;rintro _ _ ⟨K,M,N,O,Q,hl,rfl,A,rfl⟩;refine U ?_;refine kS ?_;exact lj results83 Zt lv (oK.put _ A (le_trans j hl) a)
 ·rw[show(e != 0)=true from Zq];rw[aj q] at a;refine U ?_;refine kS ?_;exact lj results83 (L':=mY gd m lU.z c _ _ vs g lR lR none 0 [] H L) Zt lv (oK.err b _ (le_refl _) a)
theorem X2(m:mQ)(c:mo):Bf m c=if c.path=[47]\/c.to=[47] then nJ m 194 else if(o5 m.kP.ns c.path).2≠0 then nJ m (o5 m.kP.ns c.path).2 else if(rv m.kP.ns c.to).2.2≠0 then nJ m (rv m.kP.ns c.to).2.2 else if(oP m.kP.ns (rv m.kP.ns c.to).1 (rv m.kP.ns c.to).2.1).isSome then nJ m 190 else if(rv m.kP.ns c.to).1=(o5 m.kP.ns c.path).1\/(rZ m.kP.ns=true/\(o5 m.kP.ns c.path).1∈oH m.kP.ns (rv m.kP.ns c.to).1) then nJ m 192 else tt (rh m ⟨mN.z,1,(o5 m.kP.ns c.path).1,(rv m.kP.ns c.to).1,(rv m.kP.ns c.to).2.1,[]⟩):=rfl
theorem X3:xG 82 Bf:=λgd m c H ve D vs f b t q W L=>by
 obtain⟨E,k0,rfl,_,_⟩:=Zi b.kP.es;obtain⟨F,k1,rfl,_,_⟩:=Zi b.kP.ns.sl;have a:=X2 m c;have hp:=q.path;have G:=q.to;have u:rZ m.kP.ns=true:=ud.2 b.kP.ns.ok;have v:=Bz b.kP.ns.ok c.path;obtain⟨w,I⟩:=PR b.kP.ns.ok c.to;unfold mY;refine enter func82 ?_;refine U ?_;by_cases j:c.path=[47];·rw[show(c.path==[47])=true from by simpa using j];rw[aj (.inl j)] at a;refine U ?_;refine kS ?_;exact lj results82 (L':=mY gd m lU.z c _ _ vs f lR lR none 0 [] H L) Zt lv (oK.err b _ (le_refl _) a)
 rw[show(c.path==[47])=false from by simpa using j];refine U ?_;by_cases k:c.to=[47];·rw[show(c.to==[47])=true from by simpa using k];rw[aj (.inr k)] at a;refine U ?_;refine kS ?_;exact lj results82 (L':=mY gd m lU.z c _ _ vs f lR lR none 0 [] H L) Zt lv (oK.err b _ (le_refl _) a)
 rw[show(c.to==[47])=false from by simpa using k];rw[ai (not_or.2 ⟨j,k⟩)] at a;refine U ?_;refine nq [0,1,2,3,4,5,6,7,8,9,10,11,12,13,14,15,16] Zk Zk Zk Zk Zk (λ_ _ _ h=>h) ?_;refine U ?_;refine mi (DZ H _ m.kP.ns b.kP.ns c.path Zo) ?_;generalize o5 m.kP.ns c.path=x at*;obtain⟨id,e⟩:=x;dsimp only at*;refine U ?_;by_cases g:e=0
 ·subst g;rw[ai Zs] at a;refine U ?_;refine nq [0,1,2,3,4,5,6,7,8,9,10,11,12,13,14,15,16,17,18] Zk Zk Zk Zk Zk (λ_ _ _ h=>h) ?_;refine U ?_;refine mi (PH H _ m.kP.ns b.kP.ns c.to Zo) ?_;generalize rv m.kP.ns c.to=x at*;obtain⟨dir,l,e⟩:=x;dsimp only at*;refine U ?_;by_cases g:e=0
  ·subst g;rw[ai Zs] at a;refine U ?_;refine mi (G9 H _ m.kP.ns b.kP.ns dir l) ?_;cases r:oP m.kP.ns dir l with
   |some i=>rw[r,aj (show(some i).isSome=true from rfl)] at a;refine U ?_;refine kS ?_;exact lj results82 (L':=mY gd m lU.z c _ _ vs f lR lR none 0 [] H L) Zt lv (oK.err b _ (le_refl _) a)
   |none=>
    rw[r,ai Zs] at a;refine U ?_;by_cases n:dir=id;·rw[show(dir==id)=true from Zq];rw[aj (.inl n)] at a;refine U ?_;refine kS ?_;exact lj results82 (L':=mY gd m lU.z c _ _ vs f lR lR none 0 [] H L) Zt lv (oK.err b _ (le_refl _) a)
    ·rw[show(dir==id)=false from by simpa using n];refine U ?_;refine l4 (hp:=f1 (f1 f0)) (Jh H _ m.kP.ns b.kP.ns dir) ?_;rintro o _ p ⟨B,d,rfl,y,A⟩;refine U ?_;refine mi (Fa o _ _ ⟨B,d,rfl,y,A⟩ id) ?_;cases s:(oH m.kP.ns dir).contains id with
     |true=>rw[aj (.inr ⟨u,by simpa using s⟩)] at a;refine U ?_;refine kS ?_;exact lj results82 (L':=mY gd m lU.z c _ _ vs f lR lR none 0 [] o L) Zt lv (oK.err b _ p a)
     |false=>rw[ai (by rintro(h|⟨_,h⟩);exact n h;simp[h] at s)] at a;refine U ?_;refine nR (Hk gd m lU.z c o _ _ vs f lR lR (b.up p) t ⟨mN.z,1,id,dir,l,[]⟩ ⟨v,w,by dsimp only;omega,aR _⟩ none 0 [] (aR _) W L) ?_;rintro _ _ ⟨J,K,M,N,O,hl,rfl,C,rfl⟩;refine U ?_;refine kS ?_;exact lj results82 Zt lv (oK.put _ C (le_trans p hl) a)
  ·rw[show(e != 0)=true from Zq];rw[aj g] at a;refine U ?_;refine kS ?_;exact lj results82 (L':=mY gd m lU.z c _ _ vs f lR lR none 0 [] H L) Zt lv (oK.err b _ (le_refl _) a)
 ·rw[show(e != 0)=true from Zq];rw[aj g] at a;refine U ?_;refine kS ?_;exact lj results82 (L':=mY gd m lU.z c _ _ vs f lR lR none 0 [] H L) Zt lv (oK.err b _ (le_refl _) a)
theorem PT(gd:Nat)(m:mQ)(a:lU)(c:mo)(H:kM)(ve g vs f j n:Value)(o:sH H m ve g vs f)(p:CA m)(h:Int)(A:Option Addr)(k:Nat)(Z:List lQ)(W:World)(L:List kM):
 m3 prog W 145 #[.pointer (some ⟨gd,0,none⟩),nI h] (mY gd m a c ve g vs f j n A k Z H L)
  (λv L'=>L'=mY gd m a c ve g vs f j n A k Z H L/\∃B d l,v=.tuple #[.slice B (l:List la).length d,nI (if(yJ m h).isSome then 0 else 191)]/\l=(yJ m h).getD []/\pq H (.slice B l.length d) l/\vP l):=by
 obtain⟨w,k1,rfl,_,_⟩:=Zi o.kP.ns.sl;obtain⟨S,x,b,rfl,N,O,lL,D⟩:=Zi o.l3;have P:=p.l3;unfold mY;refine enter func145 ?_;refine U ?_;have e:yJ m h=if h=0 then some m.kP.ns else(m.l3.find? λs=>s.1==h).map (·.2):=rfl;by_cases q:h=0;·subst q;rw[aj rfl] at e;refine U ?_;refine kS ?_;exact og results145 Zt Zt lv ⟨rfl,w,k1,m.kP.ns,by rw[e]<;>rfl,by rw[e];rfl,o.kP.ns,p.ns⟩
 rw[show(h==0)=false from by simpa using q];rw[ai q] at e;refine U ?_;refine mP (λr σ L'=>∃i:Nat,r=b.length-i/\i<=b.length/\m.l3.find? (λs=>s.1==h)=(m.l3.drop i).find? (λs=>s.1==h)/\
  L'=k4 gd 128 (wG m a c ve (.slice w m.kP.ns.length k1) (.slice S b.length x) f j n (.slice A Z.length k))::li 201 7 nA A k Z::fz H::L/\ml σ [(1,nI h),(20,.slice S b.length x),(21,nN b.length),(22,nN i)]) b.length
  _ (s1 _) ⟨0,by omega,by omega,rfl,rfl,rfl,rfl,rfl,rfl,trivial⟩ ?_
 rintro r σ _ ⟨i,rfl,Q,hf,rfl,E⟩;obtain⟨R,rfl⟩:=E.open;refine U ?_;refine mE rfl (λt=>?_) (λt=>?_)
 ·have F:i<b.length:=by have:=am t;omega
  obtain⟨row,G⟩:∃s,b[i]? =some s:=⟨_,ad F⟩;have u:i<m.l3.length:=by omega
  have I:m.l3[i]? =some m.l3[i]:=ad u;have oC:m.l3.drop i=m.l3[i]::m.l3.drop (i+1):=(dp u).symm;obtain⟨v',y,z⟩:=D i row _ G I;have J:m.l3[i]∈m.l3:=bv u;rw[oC,dA] at hf;generalize m.l3[i]=K at*;obtain⟨id,l⟩:=K;obtain⟨B,d,rfl,T,V⟩:=Zi z.sl;obtain⟨val,X,Y⟩:=row;dsimp only at y;subst y;refine U ?_;intro g7;refine U ?_;by_cases C:id=h;·rw[show(id==h)=true from by simpa using C] at hf⊢;rw[hf] at e;refine U ?_;refine kS ?_;exact og results145 Zt Zt lv ⟨rfl,B,d,l,by rw[e]<;>rfl,by rw[e];rfl,z,(p.pu _ J).1⟩
  ·rw[show(id==h)=false from by simpa using C] at hf⊢;refine U ?_;exact⟨b.length-(i+1),_,by omega,dI ..,i+1,rfl,by omega,hf,rfl,rfl,rfl,rfl,rfl,trivial⟩
 ·have M:i=b.length:=by have:=av t;omega
  rw[M,lL,dm,List.find?_nil] at hf;rw[hf] at e;refine U ?_;refine kS ?_;exact og results145 Zt Zt lv ⟨rfl,none,0,[],by rw[e]<;>rfl,by rw[e];rfl,⟨Sl.nil _ _ _,ud.1 rfl⟩,⟨aR _,by simp,by simp⟩⟩
theorem oK.lM{gd:Nat}{c:mo}{m:mQ}{r:sw×Int}{H a:kM}{L:List kM}{ve d vs e g h:Value}{A:Option Addr}{k:Nat}(m1:mQ)(b:lU)(f:List lQ)(i:sH a m1 ve d vs e)(j:tP a b g h)(hl:H.le a)(l:r=((m1,b,f),0)):oK gd c m r H L (nI 0) (mY gd m1 b c ve d vs e g h A k f a L):=by subst l;exact⟨a,m1,b,f,ve,d,vs,e,_,_,_,_,hl,rfl,rfl,λ_=>⟨rfl,i,j⟩⟩
theorem X4(m:mQ)(c:mo):BW m c=match yJ m c.n with
 |none=>nJ m 191
 |some l=>if(o5 l c.path).2≠0 then nJ m (o5 l c.path).2 else if nM (o5 l c.path).1 then nJ m 82 else((m,{lU.z with data:=if rZ l then((nr l (o5 l c.path).1).getD la.z).data else[]},[]),0):=rfl
theorem X5(m:mQ)(c:mo):BX m c=match yJ m c.n with
 |none=>nJ m 191
 |some l=>if(o5 l c.path).2≠0 then nJ m (o5 l c.path).2 else if nM (o5 l c.path).1 then((m,{lU.z with ll:=Ae l (o5 l c.path).1},[]),0) else nJ m 81:=rfl
theorem X6:xG 81 BW:=λgd m c H ve q vs f b k o W L=>by
 obtain⟨r,k0,rfl,_,_⟩:=Zi b.kP.es;obtain⟨s,k1,rfl,_,_⟩:=Zi b.kP.ns.sl;have a:=X4 m c;have hp:=o.path;refine enter func81 ?_;unfold mY;refine U ?_;refine nR (PT gd m lU.z c H _ _ vs f lR lR b k c.n none 0 [] W L) ?_;rintro _ _ ⟨rfl,B,d,l,rfl,hl,g,t⟩;unfold mY;cases h:yJ m c.n with
 |none=>rw[h] at a;dsimp only at a;refine U ?_;refine kS ?_;exact lj results81 (L':=mY gd m lU.z c _ _ vs f lR lR none 0 [] H L) Zt lv (oK.err b _ (le_refl _) a)
 |some l'=>
  rw[h] at a hl;obtain rfl:l=l':=hl;dsimp only at a;have p:=Bz g.ok c.path;refine U ?_;refine mi (DZ H _ l g c.path Zo) ?_;generalize o5 l c.path=x at*;obtain⟨id,e⟩:=x;dsimp only at*;refine U ?_;by_cases i:e=0
  ·subst i;rw[ai Zs] at a;refine U ?_;refine md (wW id p W _) ?_;cases j:nM id with
   |true=>rw[j,aj rfl] at a;refine U ?_;refine kS ?_;exact lj results81 (L':=mY gd m lU.z c _ _ vs f lR lR none 0 [] H L) Zt lv (oK.err b _ (le_refl _) a)
   |false=>rw[j,ai Zs,aj (ud.2 g.ok)] at a;refine U ?_;refine mi (U9 H _ l g id) ?_;refine U ?_;intro u;refine U ?_;refine kS ?_;exact lj results81 (L':=mY gd m {lU.z with data:=((nr l id).getD la.z).data} c _ _ vs f lR lR none 0 [] H L) Zt lv (oK.lM _ _ _ b ⟨Sl.nil _ _ _,Sl.nil _ _ _⟩ (le_refl _) a)
  ·rw[show(e != 0)=true from Zq];rw[aj i] at a;refine U ?_;refine kS ?_;exact lj results81 (L':=mY gd m lU.z c _ _ vs f lR lR none 0 [] H L) Zt lv (oK.err b _ (le_refl _) a)
theorem X7:xG 84 BX:=λgd m c H ve y vs f b q r W L=>by
 obtain⟨A,k0,rfl,_,_⟩:=Zi b.kP.es;obtain⟨C,k1,rfl,_,_⟩:=Zi b.kP.ns.sl;have a:=X5 m c;have hp:=r.path;refine enter func84 ?_;unfold mY;refine U ?_;refine nR (PT gd m lU.z c H _ _ vs f lR lR b q c.n none 0 [] W L) ?_;rintro _ _ ⟨rfl,B,d,l,rfl,hl,g,s⟩;unfold mY;cases h:yJ m c.n with
 |none=>rw[h] at a;dsimp only at a;refine U ?_;refine kS ?_;exact lj results84 (L':=mY gd m lU.z c _ _ vs f lR lR none 0 [] H L) Zt lv (oK.err b _ (le_refl _) a)
 |some l'=>
  rw[h] at a hl;obtain rfl:l=l':=hl;dsimp only at a;have t:=Bz g.ok c.path;refine U ?_;refine mi (DZ H _ l g c.path Zo) ?_;generalize o5 l c.path=x at*;obtain⟨id,e⟩:=x;dsimp only at*;refine U ?_;by_cases i:e=0
  ·subst i;rw[ai Zs] at a;refine U ?_;refine md (wW id t W _) ?_;cases j:nM id with
   |false=>rw[j,ai Zs] at a;refine U ?_;refine kS ?_;exact lj results84 (L':=mY gd m lU.z c _ _ vs f lR lR none 0 [] H L) Zt lv (oK.err b _ (le_refl _) a)
   |true=>rw[j,aj rfl] at a;refine U ?_;refine l4 (hp:=f1 (f1 f0)) (Xf H _ l g s id) ?_;rintro u _ k ⟨o,p,rfl,v,w⟩;refine U ?_;refine kS ?_;exact lj results84 (L':=mY gd m {lU.z with ll:=Ae l id} c _ _ vs f (.slice o (Ae l id).length p) lR none 0 [] u L) Zt lv (oK.lM _ _ _ (b.up k) ⟨⟨o,p,rfl,v,w⟩,Sl.nil _ _ _⟩ k a)
  ·rw[show(e != 0)=true from Zq];rw[aj i] at a;refine U ?_;refine kS ?_;exact lj results84 (L':=mY gd m lU.z c _ _ vs f lR lR none 0 [] H L) Zt lv (oK.err b _ (le_refl _) a)
theorem Dl.push{α:Type}{s:Nat}{e:List Value->α->Prop}{b:List (mB s)}{l:List α}(lL:b.length=l.length)(h:∀(i:Nat) (r:mB s) (x:α),b[i]? =some r->l[i]? =some x->e r.val x){row:mB s}{x:α}(f:e row.val x):∀(i:Nat) (r:mB s) (y:α),(b++[row])[i]? =some r->(l++[x])[i]? =some y->e r.val y:=λi r y a c=>by
 rcases gX i b.length with d|d|d;·rw[cG d] at a;rw[cG Zo] at c;exact h i r y a c
 ·subst d;rw[bZ (aA _),dF] at a;rw[lL,bZ (aA _),dF] at c;cases a;cases c;exact f
 ·rw[dL (by simp;omega)] at a;cases a
theorem X8:xG 89 (λm _=>((m,lU.z,[]),0)):=λgd m c H ve b vs d a e f W L=>by refine enter func89 ?_;unfold mY;refine U ?_;refine kS ?_;exact lj results89 (L':=mY gd m lU.z c _ _ _ _ lR lR none 0 [] H L) Zt lv (oK.lM _ _ _ a (tP.z H) (le_refl _) rfl)
theorem X9:xG 85 (λm _=>BY m):=λgd m c H ve vn vs I p A hC W L=>by
 obtain⟨J,k0,rfl,_,_⟩:=Zi p.kP.es;obtain⟨v,k1,rfl,kF,K⟩:=Zi p.kP.ns.sl;obtain⟨S,B,e,rfl,kG,M,lL,O⟩:=Zi p.l3;have kH:=A.ns.len;have kI:=A.l3;have kJ:=A.next;have y:BY m=if m.l3.length>=8 then nJ m 193 else(({m with l3:=m.l3++[(m.next,m.kP.ns)],next:=m.next+1},{lU.z with n:=m.next},[]),0):=rfl;refine enter func85 ?_;unfold mY;refine U ?_;by_cases N:8<=m.l3.length;·rw[show decide ((8:Int)<=(e.length:Int))=true from Zq];rw[aj N] at y;refine U ?_;refine kS ?_;exact lj results85 (L':=mY gd m lU.z c _ _ _ _ lR lR none 0 [] H L) Zt lv (oK.err p _ (le_refl _) y)
 rw[show decide ((8:Int)<=(e.length:Int))=false from Zq];rw[ai N] at y;refine U ?_;refine wM (λC L'=>∃q f j,(∀w,Mem W w L'->Mem W w (li 166 8 oR f j m.kP.ns::k4 q 215 [nI m.next,.slice f m.kP.ns.length j]::mY gd m {lU.z with n:=m.next} c (.slice J m.kP.es.length k0) (.slice v m.kP.ns.length k1) (.slice S e.length B) I lR lR none 0 [] H L))/\
  ml C [(0,.pointer (some ⟨gd,0,none⟩)),(3,.pointer (some ⟨q,0,none⟩))]) ?_ ?_
 ·refine qN [] (lC.Z [0,1,2,3,4,5,6,7,8,9,10] (.o8 (lC.Z [11,12,13,14] .mZ) (lC.Z [13,11,12,14] .mZ))) Zk Zk Zk Zk (λ_ _ _ h=>h) (.of Zu) ?_;refine mM _ _ _ _ Zk ?_;refine U ?_;refine ta ?_ ?_;·refine mM _ _ _ _ Zk ?_;refine ov (I1 oR H v k1 m.kP.ns Zo K) ?_;rintro _ _ ⟨f,j,rfl,rfl⟩;simp only[aD];refine U ?_;intro q;refine U ?_;exact⟨q,f,j,λ_ d=>d.ny (.swap ..),rfl,rfl,trivial⟩
  ·refine mM _ _ _ _ Zk ?_;refine U ?_;intro q;refine U ?_;refine ov (I1 oR H v k1 m.kP.ns Zo K) ?_;rintro _ _ ⟨f,j,rfl,rfl⟩;simp only[aD];refine U ?_;exact⟨q,f,j,λ_ d=>d,rfl,rfl,trivial⟩
 rintro _ _ ⟨q,f,j,d,D⟩;obtain⟨kL,rfl⟩:=D.open;refine SC.mL d ?_;refine tJ (hf:=f1 (f1 (f1 f0))) o0 ?_;intro E s P Q;obtain⟨row,F⟩:∃row:mB 2,row.val=[nI m.next,.slice f m.kP.ns.length j]:=⟨⟨_,rfl,by simp;exact⟨rfl,rfl⟩⟩,rfl⟩;refine sX ?_;refine wM (λC L'=>∃k o,(∀w,Mem W w L'->Mem W w (li 215 2 mB.val k o (e++[row])::mY gd m {lU.z with n:=m.next} c (.slice J m.kP.es.length k0) (.slice v m.kP.ns.length k1) (.slice k (e++[row]).length o) I lR lR none 0 [] E L))/\
  ml C [(0,.pointer (some ⟨gd,0,none⟩))]) ?_ ?_
 ·refine qN [] (lC.Z [0,1,2,3,4,5,7] (.o8 (lC.Z [6,8,9,10,11,12,13] .mZ) (lC.Z [8,6,9,10,11,12,13] .mZ))) Zk Zk Zk Zk (λ_ _ _ h=>h) (.of Zu) ?_;refine mM _ _ _ _ Zk ?_;refine U ?_;refine ta ?_ ?_;·refine mM _ _ _ _ Zk ?_;refine ov (Gv mB.val E S B e Zo (M.up s)) ?_;rintro _ _ ⟨R,T,rfl,rfl⟩;simp only[aD];refine U ?_;intro G;refine U ?_;rw[<-F];refine td (l:=e) (news:=[row]) rfl rfl (oG (enc:=mB.val) (g:=G) (t:=215) (cs:=row.val) Zn Zs) (λ_ _=>by(first|exact p0|exact p1 p0|exact p1 (p1 p0)|exact p1 (p1 (p1 p0))|exact p1 (p1 (p1 (p1 p0)))|exact p1 (p1 (p1 (p1 (p1 p0))))|exact p1 (p1 (p1 (p1 (p1 (p1 p0)))))|exact p1 (p1 (p1 (p1 (p1 (p1 (p1 p0)))))))) Zl Zm rfl (λ_ _ _=>Sub.of (bu _)) rfl rfl (λk o=>?_);refine U ?_;exact⟨k,o,λ_ d=>d.pick 6 [1,3,4,5] Zd,rfl,trivial⟩
  ·refine mM _ _ _ _ Zk ?_;refine U ?_;intro G;refine U ?_;rw[<-F];refine ov (Gv mB.val E S B e Zo (M.up s)) ?_;rintro _ _ ⟨R,T,rfl,rfl⟩;simp only[aD];refine U ?_;refine td (l:=e) (news:=[row]) rfl rfl (oG (enc:=mB.val) (g:=G) (t:=215) (cs:=row.val) Zn Zs) (λ_ _=>by(first|exact p0|exact p1 p0|exact p1 (p1 p0)|exact p1 (p1 (p1 p0))|exact p1 (p1 (p1 (p1 p0)))|exact p1 (p1 (p1 (p1 (p1 p0))))|exact p1 (p1 (p1 (p1 (p1 (p1 p0)))))|exact p1 (p1 (p1 (p1 (p1 (p1 (p1 p0)))))))) Zl Zm rfl (λ_ _ _=>Sub.of (bu _)) rfl rfl (λk o=>?_);refine U ?_;exact⟨k,o,λ_ d=>d.pick 6 [0,3,4,5] Zd,rfl,trivial⟩
 rintro _ _ ⟨k,o,d,D⟩;obtain⟨kO,rfl⟩:=D.open;refine SC.mL d ?_;refine tJ (hf:=f1 (f1 f0)) o0 ?_;intro V u X Y;refine U ?_;refine kS ?_;exact lj results85 (L':=mY gd {m with l3:=m.l3++[(m.next,m.kP.ns)],next:=m.next+1} {lU.z with n:=m.next} c _ _ _ _ lR lR none 0 [] V L) Zt lv (oK.lM _ _ _ ⟨p.kP.up (le_trans s u),⟨k,o,e++[row],rfl,Y,X,by simp[lL],Dl.push lL (λi r x a b=>AF (le_trans s u) _ _ (O i r x a b)) ⟨_,F,⟨⟨f,j,rfl,Q,P.up u⟩,p.kP.ns.ok⟩⟩⟩,p.lN.up (le_trans s u) (zP (le_trans s u))⟩ ⟨Sl.nil _ _ _,Sl.nil _ _ _⟩ (le_trans s u) y)
theorem Ya(m:mQ)(c:mo):BZ m c=if(o5 m.kP.ns c.path).2≠0 then nJ m (o5 m.kP.ns c.path).2 else if !(nM (o5 m.kP.ns c.path).1) then nJ m 81 else if m.lN.length>=8 then nJ m 193 else(({m with lN:=m.lN++[⟨m.next,(o5 m.kP.ns c.path).1,([],false)⟩],next:=m.next+1},{lU.z with n:=m.next},[]),0):=rfl
theorem Yb:xG 87 BZ:=λgd m c H ve T vs V d v E W L=>by
 obtain⟨F,k0,rfl,_,_⟩:=Zi d.kP.es;obtain⟨G,k1,rfl,X,Y⟩:=Zi d.kP.ns.sl;obtain⟨S,y,j,rfl,kF,A,lL,I⟩:=Zi d.lN;have kG:=v.lN;have kH:=v.next;have f:=Ya m c;have hp:=E.path;have J:=Bz d.kP.ns.ok c.path;refine enter func87 ?_;unfold mY;refine U ?_;refine nq [0,1,2,3,4,5,6,7,8,9,10,11,12,13,14,15,16] Zk Zk Zk Zk Zk (λ_ _ _ h=>h) ?_;refine U ?_;refine mi (DZ H _ m.kP.ns d.kP.ns c.path Zo) ?_;generalize o5 m.kP.ns c.path=x at*;obtain⟨id,e⟩:=x;dsimp only at*;refine U ?_;by_cases B:e=0
 ·subst B;rw[ai Zs] at f;refine U ?_;refine md (wW id J W _) ?_;cases C:nM id with
  |false=>rw[C,aj (show(!false)=true from rfl)] at f;refine U ?_;refine kS ?_;exact lj results87 (L':=mY gd m lU.z c _ _ _ _ lR lR none 0 [] H L) Zt lv (oK.err d _ (le_refl _) f)
  |true=>
   rw[C,ai Zs] at f;refine U ?_;by_cases D:8<=m.lN.length;·rw[show decide ((8:Int)<=(j.length:Int))=true from Zq];rw[aj D] at f;refine U ?_;refine kS ?_;exact lj results87 (L':=mY gd m lU.z c _ _ _ _ lR lR none 0 [] H L) Zt lv (oK.err d _ (le_refl _) f)
   rw[show decide ((8:Int)<=(j.length:Int))=false from Zq];rw[ai D] at f;refine U ?_;obtain⟨row,s⟩:∃row:mB 4,row.val=[nI m.next,nI id,.slice none 0 0,.bool false]:=⟨⟨_,rfl,by simp;exact⟨rfl,rfl,rfl,rfl⟩⟩,rfl⟩;refine wM (λK L'=>∃k o,(∀w,Mem W w L'->Mem W w (li 187 4 mB.val k o (j++[row])::mY gd m {lU.z with n:=m.next} c (.slice F m.kP.es.length k0) (.slice G m.kP.ns.length k1) vs (.slice k (j++[row]).length o) lR lR none 0 [] H L))/\
    ml K [(0,.pointer (some ⟨gd,0,none⟩))]) ?_ ?_
   ·(refine qN [] (lC.Z [0,1,2,3,4,5,7,8,9,10,11,12,13] (.o8 (lC.Z [6,14,15,16,17,18,19] .mZ) (lC.Z [14,6,15,16,17,18,19] .mZ))) Zk Zk Zk Zk (λ_ _ _ h=>h) (.of Zu) ?_;refine mM _ _ _ _ Zk ?_;refine U ?_;refine ta ?_ ?_;·refine mM _ _ _ _ Zk ?_;refine ov (Dm mB.val H S y j Zo A) ?_;rintro _ _ ⟨M,N,rfl,rfl⟩;simp only[aD];refine U ?_;intro u;refine U ?_;rw[show[Value.int IntKind.i64 m.next,Value.int IntKind.i64 id,Value.slice none 0 0,Value.bool false]=row.val from s.symm];refine td (l:=j) (news:=[row]) rfl rfl (oG (enc:=mB.val) (g:=u) (t:=187) (cs:=row.val) Zn Zs) (λ_ _=>by(first|exact p0|exact p1 p0|exact p1 (p1 p0)|exact p1 (p1 (p1 p0))|exact p1 (p1 (p1 (p1 p0)))|exact p1 (p1 (p1 (p1 (p1 p0))))|exact p1 (p1 (p1 (p1 (p1 (p1 p0)))))|exact p1 (p1 (p1 (p1 (p1 (p1 (p1 p0)))))))) Zl Zm rfl (λ_ _ _=>Sub.of (bu _)) rfl rfl (λk o=>?_);refine U ?_;exact⟨k,o,λ_ p=>p.pick 5 [1,2,3,4] Zd,rfl,trivial⟩);·refine mM _ _ _ _ Zk ?_;refine U ?_;intro u;refine U ?_;rw[show[Value.int IntKind.i64 m.next,Value.int IntKind.i64 id,Value.slice none 0 0,Value.bool false]=row.val from s.symm];refine ov (Dm mB.val H S y j Zo A) ?_;rintro _ _ ⟨M,N,rfl,rfl⟩;simp only[aD];refine U ?_;refine td (l:=j) (news:=[row]) rfl rfl (oG (enc:=mB.val) (g:=u) (t:=187) (cs:=row.val) Zn Zs) (λ_ _=>by(first|exact p0|exact p1 p0|exact p1 (p1 p0)|exact p1 (p1 (p1 p0))|exact p1 (p1 (p1 (p1 p0)))|exact p1 (p1 (p1 (p1 (p1 p0))))|exact p1 (p1 (p1 (p1 (p1 (p1 p0)))))|exact p1 (p1 (p1 (p1 (p1 (p1 (p1 p0)))))))) Zl Zm rfl (λ_ _ _=>Sub.of (bu _)) rfl rfl (λk o=>?_);refine U ?_;exact⟨k,o,λ_ p=>p.pick 5 [0,2,3,4] Zd,rfl,trivial⟩
   rintro _ _ ⟨k,o,p,O⟩;obtain⟨kI,rfl⟩:=O.open;refine SC.mL p ?_;refine tJ (hf:=f1 (f1 f0)) o0 ?_;intro P q Q R;refine U ?_;refine kS ?_;exact lj results87 (L':=mY gd {m with lN:=m.lN++[⟨m.next,id,([],false)⟩],next:=m.next+1} {lU.z with n:=m.next} c _ _ _ _ lR lR none 0 [] P L) Zt lv (oK.lM _ _ _ ⟨d.kP.up q,d.l3.up q (AF q),⟨k,o,j++[row],rfl,R,Q,by simp[lL],Dl.push lL (λi r x a b=>zP q _ _ (I i r x a b)) ⟨_,s,Sl.nil _ _ _⟩⟩⟩ ⟨Sl.nil _ _ _,Sl.nil _ _ _⟩ q f)
 ·rw[show(e != 0)=true from Zq];rw[aj B] at f;refine U ?_;refine kS ?_;exact lj results87 (L':=mY gd m lU.z c _ _ _ _ lR lR none 0 [] H L) Zt lv (oK.err d _ (le_refl _) f)
theorem Yc{s:kV}{o:lQ}{r:kV}(h:uG s=some (o,r))(l:s.length<=1000000):pn o:=by
 unfold uG at h;split at h
 ·rename_i c r' k n rest e;have f:=Dp e;have d:n<=9223372036854775807:=f.2.2 n Zs;have a:∀n:Nat,n<=9223372036854775807->od (n:Int):=λn h=>⟨by omega,by omega⟩;split at h
  ·split at h
   ·rename_i p m g;have i:=Dp g;have hp:p<=9223372036854775807:=i.2.2 p Zs;split at h
    ·rename_i t j b;have:=Av b;split at h;·cases h;exact⟨a _ d,a _ hp,by dsimp only;omega,aR _⟩
     ·cases h
    ·cases h
   ·cases h
  ·split at h
   ·rename_i t j b;have:=Av b;split at h;·cases h;exact⟨a _ d,PN,aR _,by dsimp only;omega⟩
    ·cases h
   ·cases h
 ·cases h
theorem PU:∀(f:Nat) (b:kV) (l:List lQ),sr f b=some l->b.length<=1000000->(∀o∈l,pn o)/\l.length<=b.length
 |0,b,l,h,e=>by
  unfold sr at h;split at h;·cases h;exact⟨by simp,aR _⟩
  ·cases h
 |f+1,b,l,h,e=>by
  unfold sr at h;split at h;·cases h;exact⟨by simp,aR _⟩
  ·cases a:uG b with
   |none=>rw[a] at h;cases h
   |some x=>
    obtain⟨o,r⟩:=x;rw[a] at h;have i:=GB a;cases c:sr f r with
    |none=>simp[c] at h
    |some l'=>
     (simp[c] at h;subst h;obtain⟨g,j⟩:=PU f r l' c Zo;refine⟨λx d=>?_,by simp;omega⟩;rcases aJ.1 d with rfl|d);·exact Yc a e
     ·exact g x d
theorem Yd(s:Int)(l:List mN)(x:mN):rb s (l++[x])=rb (rb s l) [x]:=by simp[rb]
theorem Ye(g:Lg)(l:List lQ)(a:List lQ):(l.foldl (rx g) a).length<=a.length+l.length:=by
 induction l generalizing a with
 |nil=>simp
 |cons o l b=>
  rw[bU];have:=b (rx g a o);have c:(rx g a o).length<=a.length+1:=by unfold rx;split<;>simp
  simp only[aG];omega
theorem PV(g:Lg)(l:List lQ)(a:List lQ){P:lQ->Prop}(c:∀o∈a,P o)(hl:∀o∈l,P o):∀o∈l.foldl (rx g) a,P o:=by
 induction l generalizing a with
 |nil=>exact c
 |cons o l d=>
  rw[bU];refine d _ (λx b=>?_) λx b=>hl x (aI _ b);unfold rx at b;split at b
  ·rcases aQ.1 b with b|b;·exact c x b
   ·rw[aE.1 b];exact hl o (ay ..)
  ·exact c x b
theorem Yf(H:kM)(g:Nat)(o:lQ)(a:H.kn (nX g (nA o)))(x:lQ):Rf prog 161 #[.agg (nA x).toArray,.pointer (some ⟨g,0,none⟩)] H (.bool (x.tm==o.tm)):=λW L=>by refine enter func161 ?_;refine U ?_;intro b;refine U ?_;refine Ex (enc:=sb) x.tm o.tm rfl rfl rfl rfl ?_;refine U ?_;refine kS ?_;exact lj results161 Zt lv ⟨rfl,rfl⟩
theorem Yg(m:mQ)(c:mo):Ag m c=match qI c.data with
 |none=>nJ m 50
 |some l=>if m.kP.es.length+(l.foldl (rx m.kP) []).length>200 then nJ m 193 else if(uI m (l.foldl (rx m.kP) [])).2≠0 then nJ m (uI m (l.foldl (rx m.kP) [])).2
  else(({(uI m (l.foldl (rx m.kP) [])).1 with seen:=rb m.seen (l.map (·.tm))},{lU.z with n:=(l.foldl (rx m.kP) []).length},l.foldl (rx m.kP) []),0):=rfl
theorem Yh:xG 90 Ag:=λgd m c H ve vn vs f C X hC W L=>by
 obtain⟨A0,kZ,rfl,_,_⟩:=Zi C.kP.es;obtain⟨A1,k5,rfl,lz,lB⟩:=Zi C.kP.ns.sl;have kL:=hC.data;have lE:=X.es;have b:=Yg m c;refine enter func90 ?_;unfold mY;refine U ?_;refine l4 (hp:=f1 (f1 f0)) (U7 H c.data kL) ?_;rintro O _ D ⟨v',rfl,P⟩;cases Y:qI c.data with
 |none=>rw[Y] at P b;dsimp only at b;obtain⟨B,d,rfl,hd,hq⟩:=P;refine U ?_;refine kS ?_;exact lj results90 (L':=mY gd m lU.z c _ _ _ _ lR lR none 0 [] O L) Zt lv (oK.err C _ D b)
 |some l=>
  rw[Y] at P b;dsimp only at b;obtain⟨hF,kO⟩:=PU _ _ _ Y kL;obtain⟨B,d,rfl,hd,hq⟩:=P;simp only[aN] at hd hq⊢;refine U ?_;refine SC.oA 201 7 nA none ?_;refine mP (λr σ L'=>∃(i:Nat) (a:List lQ) (k:Option Addr) (p:Nat),r=l.length-i/\i<=l.length/\a=(l.take i).foldl (rx m.kP) []/\
   L'=li 201 7 nA k p a::k4 gd 128 (wG m lU.z c (.slice A0 m.kP.es.length kZ) (.slice A1 m.kP.ns.length k5) vs f lR lR (.slice none 0 0))::li 201 7 nA none 0 []::fz O::L/\
   ml σ [(0,.pointer (some ⟨gd,0,none⟩)),(5,nI (rb m.seen ((l.take i).map (·.tm)))),(6,.slice k a.length p),(29,.slice B l.length d),(30,nN l.length),(31,nN i)]) l.length
   _ (s1 _) ⟨0,[],none,0,by omega,by omega,rfl,rfl,rfl,rfl,rfl,rfl,rfl,rfl,trivial⟩ ?_
  rintro r σ _ ⟨i,a,k,p,rfl,hi,K,rfl,kF⟩;obtain⟨k7,rfl⟩:=kF.open;have lF:a.length<=i:=by rw[K];have:=Ye m.kP (l.take i) [];simp at this;omega
  refine U ?_;refine mE rfl (λu=>?_) (λu=>?_)
  ·have M:i<l.length:=by have:=am u;omega
   obtain⟨x,E⟩:∃s,l[i]? =some s:=⟨_,ad M⟩;have Q:l.take (i+1)=l.take i++[x]:=by rw[aT,E];rfl
   have k8:rb m.seen ((l.take (i+1)).map (·.tm))=rb (rb m.seen ((l.take i).map (·.tm))) [x.tm]:=by rw[Q,bA];exact Yd _ _ _
   have kG:(l.take (i+1)).foldl (rx m.kP) []=rx m.kP a x:=by rw[Q,bV,<-K];rfl
   refine U ?_;intro g8;refine U ?_;refine U ?_;intro lG;refine U ?_;refine sm (k1 k0) (λq R k9=>L8 q _ _ [x.tm] (z8 (R _ m0) rfl ⟨aA _,by show 1<=_;decide⟩)) ?_;rw[<-k8];refine U ?_;refine nq [0,1,2,3,4,5,6,7,8,9,10,11,12,13,14] Zk Zk Zk Zk Zk (λ_ _ _ h=>h) ?_;refine U ?_;refine mi (ND O _ _ m.kP (C.kP.up D) x.tm) ?_;cases hh:vH m.kP x.tm with
   |true=>refine U ?_;exact⟨l.length-(i+1),_,by omega,Zu,i+1,a,k,p,rfl,by omega,by rw[kG];unfold rx;simp[hh],rfl,rfl,rfl,rfl,rfl,rfl,rfl,trivial⟩
   |false=>
    refine U ?_;refine sm (k1 (k1 (k1 (k1 (k1 (k1 k0)))))) (λq R k9=>Ua nA q k p a Zo (ra (R _ (m1 (m1 m0)))) 161 [.pointer (some ⟨g8,0,none⟩)] (λy=>y.tm==x.tm) (λy hy=>Yf q g8 x (pj (R _ (m1 m0))) y)) ?_;cases hb:a.any λy=>y.tm==x.tm with
    |true=>refine U ?_;exact⟨l.length-(i+1),_,by omega,Zu,i+1,a,k,p,rfl,by omega,by rw[kG];unfold rx;simp[hh,hb],rfl,rfl,rfl,rfl,rfl,rfl,rfl,trivial⟩
    |false=>refine U ?_;intro lc;refine U ?_;refine ap (l:=a) (news:=[x]) (oG (g:=lc) (t:=201) (cs:=nA x) Zn rfl) Zl (λA6 c6=>?_);refine U ?_;exact⟨l.length-(i+1),_,by omega,Zu,i+1,a++[x],A6,c6,rfl,by omega,by rw[kG];unfold rx;simp[hh,hb],rfl,rfl,rfl,rfl,rfl,rfl,rfl,trivial⟩
  ·have lg:i=l.length:=by have:=av u;omega
   subst lg;rw[bf] at K⊢;rw[<-K] at b;have lh:∀o∈a,pn o:=by rw[K];exact PV m.kP l [] Zs hF
   refine U ?_;by_cases kQ:m.kP.es.length+a.length>200;·rw[show decide ((200:Int)<(m.kP.es.length:Int)+(a.length:Int))=true from Zq];rw[aj kQ] at b;refine U ?_;refine kS ?_;exact lj results90 (L':=mY gd m lU.z c _ _ _ _ lR lR none 0 [] O L) Zt lv (oK.err C _ D b)
   rw[show decide ((200:Int)<(m.kP.es.length:Int)+(a.length:Int))=false from Zq];rw[ai kQ] at b;refine U ?_;refine tJ (hf:=f1 (f1 f0)) o0 ?_;intro H2 kH lm lH;have lI:=X.es;refine mP (λr σ L'=>∃(j:Nat) (e:mQ) (v:kM) (F G:Value) (I:Option Addr) (J:Nat),r=a.length-j/\j<=a.length/\H2.le v/\sH v e F G vs f/\xE e.kP (200+j)/\uI m a=uI e (a.drop j)/\
    L'=k4 gd 128 (wG e lU.z c F G vs f lR lR (.slice I (a.take j).length J))::li 201 7 nA I J (a.take j)::fz v::L/\
    ml σ [(0,.pointer (some ⟨gd,0,none⟩)),(5,nI (rb m.seen (l.map (·.tm)))),(6,.slice k a.length p),(72,.slice k a.length p),(73,nN a.length),(74,nN j)]) a.length
    _ (s1 _) ⟨0,m,H2,_,_,none,0,by omega,by omega,le_refl _,C.up (le_trans D kH),⟨by omega,X.Z⟩,rfl,rfl,rfl,rfl,rfl,rfl,rfl,rfl,trivial⟩ ?_
   rintro r σ _ ⟨j,e,v,F,G,I,J,rfl,hj,S,T,N,A,rfl,kF⟩;obtain⟨k7,rfl⟩:=kF.open;refine U ?_;refine mE rfl (λu=>?_) (λu=>?_)
   ·(have M:j<a.length:=by have:=am u;omega);obtain⟨x,E⟩:∃s,a[j]? =some s:=⟨_,ad M⟩;have Q:a.take (j+1)=a.take j++[x]:=by rw[aT,E];rfl
    have oC:a.drop j=x::a.drop (j+1):=by rw[ad M] at E;cases E;exact(dp M).symm
    (have kT:pn x:=lh x (ar E);have lJ:=lm.up S;rw[oC,uI] at A;have lq:=N.add kT;refine U ?_;intro kX;refine U ?_;refine SL.mL (L':=mY gd e lU.z c F G vs f lR lR I J (a.take j) v (k4 kX 201 (nA x)::L)) (λw hw=>hw.pick 4 [1,2,3,0] Zd) ?_;have lK:=List.length_take_le j a;refine nR (PM gd e lU.z c v F G vs f lR lR T ⟨by have:=N.len;omega,N.Z⟩ x kT I J (a.take j) Zo W (k4 kX 201 (nA x)::L)) ?_;have lu:(qU e x).2=0->xE (qU e x).1.kP (200+(j+1)):=λ_=>by(rw[Ka];split;·exact⟨by have:=N.len;dsimp only;omega,N.Z⟩);·exact lq);generalize qU e x=y at*;obtain⟨m',e'⟩:=y;dsimp only at*;rintro _ _ ⟨q,kI,kJ,A',k',kY,rfl,hm,rfl⟩;unfold mY;refine U ?_;by_cases V:e'=0;·(subst V;rw[ai Zs] at A;refine U ?_;have lx:Fq (a.take j) x 0=a.take (j+1):=by unfold Fq;rw[ai Zs,Q]);rw[lx];exact⟨a.length-(j+1),_,by omega,Zu,j+1,m',q,kI,kJ,A',k',rfl,by omega,le_trans S kY,hm,lu rfl,A,rfl,rfl,rfl,rfl,rfl,rfl,rfl,trivial⟩
    ·rw[show(e' != 0)=true from Zq];rw[aj V] at A;refine U ?_;refine kS ?_;rw[A] at b;rw[aj V] at b;exact lj results90 (L':=mY gd m' lU.z c kI kJ vs f lR lR A' k' _ q L) Zt lv (by rw[b];exact⟨q,m',lU.z,_,kI,kJ,vs,f,_,_,_,_,le_trans D (le_trans kH (le_trans S kY)),rfl,rfl,λh=>absurd h V⟩)
   ·(have ly:j=a.length:=by have:=av u;omega);subst ly;rw[dm,uI] at A;rw[A] at b;rw[ai Zs] at b;rw[bf];refine U ?_;refine kS ?_;have kO:=le_trans D (le_trans kH S);exact lj results90 (L':=mY gd {e with seen:=rb m.seen (l.map (·.tm))} {lU.z with n:=a.length} c F G vs f lR lR I J a v L) Zt lv (oK.lM _ _ _ ⟨T.kP,T.l3,T.lN⟩ ⟨Sl.nil _ _ _,Sl.nil _ _ _⟩ kO b)
end
namespace Top
open YtkbifmngmocjnaaGreatDoor
theorem Fs{s:mN}:ow s=true↔1<=s.c/\s.c<=1048576/\0<=s.r/\s.r<=63:=by unfold ow;simp[and_assoc]
theorem Kb{id:Int}{s:mN}{f:Bool}(h:oO id=some (s,f)):id<128*(s.c+1)/\ow s=true:=by
 unfold oO at h;split at h;·cases h
 ·split at h;·rename_i b a;cases h;refine⟨?_,a⟩;show id<128*(id.tdiv 128+1);rw[eY Zo];omega
  ·cases h
theorem Kc{s:mN}{id:Int}(h:uX s id=false){t:mN}{f:Bool}(a:oO id=some (t,f)):t.c<=s.c:=by
 unfold uX at h;rw[a] at h;simp only at h;unfold xO at h;split at h;·rename_i e;rw[e];exact fJ _
 ·split at h;·simp at h;omega
  ·rename_i b;omega
theorem CB{o:lQ}(h:nj o=true):ow o.tm=true/\uX o.tm o.node=false/\o.name.length<=80/\o.data.length<=64/\(o.kind=1->nM o.lZ=true/\uX o.tm o.lZ=false):=by
 unfold nj at h;split at h
 ·rename_i i;simp only[aF,cJ,ck] at h;obtain⟨⟨d,f⟩,⟨⟨⟨a,j⟩,k⟩,b⟩,l⟩:=h;refine⟨d,f,?_,by simp[l],λ_=>⟨j,k⟩⟩;unfold wS at b;split at b;·cases b
  ·rename_i r m;simp only[aF,bz] at b;have s:=b.1.1.1.2;obtain⟨n,_⟩:=Gy m;rw[n];have p:∀r:List Nat,(r.flatMap zC).length<=4*r.length:=by
    intro r;induction r with
    |nil=>simp
    |cons c r t=>
     rw[bj,ak,aG];have:(zC c).length<=4:=by
      unfold zC;split;·simp
      ·split;·simp
       ·split<;>simp
     omega
   have:=p r;omega
 ·split at h
  ·rename_i q i;simp only[aF,cJ] at h;obtain⟨⟨d,f⟩,a⟩:=h;cases g:oO o.node with
   |none=>rw[g] at a;simp at a
   |some x=>rw[g] at a;simp only[aF,bz,ck] at a;exact⟨d,f,by simp[a.2],a.1.1.2,λe=>absurd e q⟩
  ·cases h
structure D9(C:Int)(l:List la):Prop where
 id:∀n∈l,n.id<128*(C+1)
 DV:∀n∈l,n.lZ<128*(C+1)
 name:∀n∈l,n.name.length<=80
 data:∀n∈l,n.data.length<=64
theorem D9.new{C:Int}{l:List la}(h:D9 C l){o:lQ}(e:nj o=true)(u:o.tm.c<=C):(tO l o).id<128*(C+1)/\(tO l o).lZ<128*(C+1)/\(tO l o).name.length<=80/\(tO l o).data.length<=64:=by
 obtain⟨i,j,k,n,p⟩:=CB e;have g:=DS e;have q:(tO l o).id<128*(C+1):=by
  rw[DT];cases a:oO o.node with
  |none=>rw[a] at g;cases g
  |some x=>obtain⟨s,f⟩:=x;have:=(Kb a).1;have:=Kc j a;omega
 have v:1<=C:=by have:=(Fs.1 i).1;omega
 have qB:((nr l o.node).getD ⟨o.node,-1,[],mN.z,[],mN.z⟩).lZ<128*(C+1)/\((nr l o.node).getD ⟨o.node,-1,[],mN.z,[],mN.z⟩).name.length<=80/\((nr l o.node).getD ⟨o.node,-1,[],mN.z,[],mN.z⟩).data.length<=64:=by
  cases hf:nr l o.node with
  |none=>exact⟨by show(-1:Int)<_;omega,by simp,by simp⟩
  |some m=>have d:=(ur hf).1;exact⟨h.DV m d,h.name m d,h.data m d⟩
 refine⟨q,?_⟩;unfold tO;split
 ·rename_i r;obtain⟨b,t⟩:=p r;refine⟨?_,k,qB.2.2⟩;show o.lZ<_;unfold nM at b;split at b;·omega
  ·cases a:oO o.lZ with
   |none=>rw[a] at b;cases b
   |some x=>obtain⟨s,f⟩:=x;have:=(Kb a).1;have:=Kc t a;omega
 ·exact⟨qB.1,qB.2.1,n⟩
theorem D9.do{C:Int}{l:List la}(h:D9 C l)(hl:nb l){o:lQ}(b:nj o=true)(d:o.tm.c<=C):D9 C (oZ l o).1:=by
 rcases Cw l o hl b with e|⟨_,e⟩;·rw[e];exact h
 ·rw[e];obtain⟨f,g,i,j⟩:=h.new b d;refine⟨λn a=>?_,λn a=>?_,λn a=>?_,λn a=>?_⟩<;>rcases AD.1 a with rfl|⟨a,_⟩
  ·exact f
  ·exact h.id n a
  ·exact g
  ·exact h.DV n a
  ·exact i
  ·exact h.name n a
  ·exact j
  ·exact h.data n a
theorem p5.Kd{g:Lg}(h:p5 g):∀{C:Int},(∀e∈g.es,e.op.tm.c<=C)->D9 C g.ns:=by
 induction h with
 |nil=>intro C _;exact⟨by simp,by simp,by simp,by simp⟩
 |@zL g o h b d=>intro C a;rw[wB] at a⊢;exact(d (λe f=>a e (cy _ f))).do h.ns b (a ⟨o,_⟩ (cZ _ (aE.2 rfl)))
theorem Yi(l:List la)(n:la):(qR l n).length<=l.length+1:=by
 unfold qR;rw[ak,aG];have:∀l:List la,(l.filter λm=>decide (m.id<n.id)).length+(l.filter λm=>decide (n.id<m.id)).length<=l.length:=by
  intro l;induction l with
  |nil=>simp
  |cons a l d=>
   simp only[cX,aG];by_cases b:a.id<n.id;·simp only[b,iO,cc,aG,show¬n.id<a.id from by omega,fY,aM,bH];omega
   ·(by_cases c:n.id<a.id;·simp only[b,fY,aM,bH,c,iO,cc,aG];omega);·simp only[b,fY,aM,bH,c];omega
 have:=this l;omega
theorem p5.len{g:Lg}(h:p5 g):g.ns.length<=g.es.length:=by
 induction h with
 |nil=>simp
 |@zL g o h a b=>
  rw[wB];simp only[ak,aG,bm];rcases Cw g.ns o h.ns a with e|⟨_,e⟩
  ·rw[e];dsimp only;omega
  ·rw[e];dsimp only;have:=Yi g.ns (tO g.ns o);omega
theorem PW(o:lQ):∀(es:List rg) (ns:List la),∃k,(rH o es ns).1=es.drop k
 |[],ns=>⟨0,rfl⟩
 |e::r,ns=>by
  unfold rH;split;·obtain⟨k,a⟩:=PW o r (wT ns e.op e.t7);exact⟨k+1,by rw[a];rfl⟩
  ·exact⟨0,rfl⟩
theorem PX:∀(l:List lQ) (g:Lg),(l.foldl qS g).es.map (·.op)=g.es.map (·.op)++l
 |[],g=>by simp
 |o::l,g=>by rw[bU,PX l,wB];simp
theorem Ke(g:Lg)(o:lQ):(oM g o=(g,50)/\nj o=false)\/(oM g o=(g,0)/\vH g o.tm=true)\/oM g o=(g,193)\/(nj o=true/\vH g o.tm=false/\g.es.length<200/\(oM g o).2=0/\∃a b,g.es.map (·.op)=a++b/\(oM g o).1.es.map (·.op)=a++o::b):=by
 unfold oM;split;·rename_i h;exact .inl ⟨rfl,by simpa using h⟩
 ·rename_i h;split;·rename_i c;exact .inr (.inl ⟨rfl,c⟩)
  ·rename_i c;split;·exact .inr (.inr (.inl rfl))
   ·rename_i f;refine .inr (.inr (.inr ⟨by simpa using h,by simpa using c,by omega,?_⟩));obtain⟨k,d⟩:=PW o g.es.reverse g.ns;generalize rH o g.es.reverse g.ns=y at*;obtain⟨r,ns⟩:=y;dsimp only at*;refine⟨rfl,g.es.map (·.op)|>.take (g.es.length-k),g.es.map (·.op)|>.drop (g.es.length-k),(bT _ _).symm,?_⟩;have e:r.reverse=g.es.take (g.es.length-k):=by rw[d,gY,fc]
    (have hl:r.length=g.es.length-k:=by rw[d];simp);rw[PX,wB,hl];dsimp only;rw[e,bA,j5,i8];simp
theorem Kf{g:Lg}{s:mN}:vH g s=true↔∃p∈g.es.map (·.op),p.tm=s:=by
 unfold vH;rw[eF];constructor;·rintro⟨e,a,h⟩;exact⟨e.op,aU.2 ⟨e,a,rfl⟩,by simpa using h⟩
 ·rintro⟨p,hp,h⟩;obtain⟨e,a,rfl⟩:=aU.1 hp;exact⟨e,a,by simpa using h⟩
theorem PY(g:Lg)(o:lQ):∀p∈(oM g o).1.es.map (·.op),p∈g.es.map (·.op)\/p=o:=by
 intro p hp;rcases Ke g o with⟨h,_⟩|⟨h,_⟩|h|⟨_,_,_,_,a,b,c,d⟩
 ·rw[h] at hp;exact .inl hp
 ·rw[h] at hp;exact .inl hp
 ·rw[h] at hp;exact .inl hp
 ·rw[d] at hp;rw[c];rcases aQ.1 hp with hp|hp
  ·exact .inl (cy _ hp)
  ·rcases aJ.1 hp with hp|hp;·exact .inr hp
   ·exact .inl (cZ _ hp)
theorem Yj(g:Lg)(o:lQ)(h:g.es.length<=200):(oM g o).1.es.length<=200:=by
 rcases Ke g o with⟨c,_⟩|⟨c,_⟩|c|⟨_,_,j,_,a,b,d,e⟩;·rw[c];exact h
 ·rw[c];exact h
 ·rw[c];exact h
 ·have f:=congrArg List.length d;have i:=congrArg List.length e;simp at f i;omega
theorem Kg:∀(l:List lQ) (g:Lg),∀p∈(uH g l).es.map (·.op),p∈g.es.map (·.op)\/p∈l
 |[],_,_,h=>.inl h
 |o::l,g,p,h=>by
  rcases Kg l (oM g o).1 p h with a|a
  ·rcases PY g o p a with b|b;·exact .inl b
   ·exact .inr (by rw[b];exact ay ..)
  ·exact .inr (aI _ a)
theorem Kh:∀(l:List lQ) (g:Lg),g.es.length<=200->(uH g l).es.length<=200
 |[],_,h=>h
 |o::l,g,h=>Kh l _ (Yj g o h)
theorem Yk{g:Lg}{o:lQ}(b:nj o=true)(h:∀e∈g.es,e.op.tm.c<o.tm.c)(hl:g.es.length<200):oM g o=(qS g o,0):=by
 have d:vH g o.tm=false:=by
  cases a:vH g o.tm with
  |false=>rfl
  |true=>obtain⟨p,hp,e⟩:=Kf.1 a;obtain⟨e',f,rfl⟩:=aU.1 hp;have:=h e' f;rw[e] at this;omega
 unfold oM;rw[ai (by simp[b]),ai (by simp[d]),ai Zo];have a:rH o g.es.reverse g.ns=(g.es.reverse,g.ns):=by
  cases i:g.es.reverse with
  |nil=>rfl
  |cons e r=>
   have j:e∈g.es:=by rw[<-eI,i];exact ay ..
   have:=h e j;unfold rH;rw[ai];unfold xO;split;·simp
   ·split;·simp;omega
    ·omega
 rw[a];simp
structure p6(N:Int)(m:mQ):Prop where
 w:p5 m.kP
 ru:∀e∈m.kP.es,e.op.tm.c<=m.seen
 len:m.kP.es.length<=200
 seen:0<=m.seen/\m.seen<=1048576
 mC:0<=m.mC/\m.mC<=63
 l3:m.l3.length<=8
 pu:∀s∈m.l3,vP s.2/\0<=s.1/\s.1<=N
 lN:m.lN.length<=8
 xd:∀w∈m.lN,od w.dir/\w.q.1.length<=9/\(w.q.2=false->w.q.1.length<=8)
 next:1<=m.next/\m.next<=N
theorem p5.yf{g:Lg}(h:p5 g)(hl:g.es.length<=200):vP g.ns:=by obtain⟨C,d⟩:∃C:Int,∀e∈g.es,e.op.tm.c<=C:=⟨1048576,λe f=>(Fs.1 (CB (h.ok e f)).1).2.1⟩;have b:=h.Kd d;have:=h.len;exact⟨by omega,λn a=>by have:=b.name n a;omega,λn a=>by have:=b.data n a;omega⟩
theorem Yl{o:lQ}(h:nj o=true)(b:o.kind=1\/o.lZ=0):pn o:=by
 obtain⟨i,j,m,n,k⟩:=CB h;have l:=DS h;have p:=(Fs.1 i).2.1;have g:∀id:Int,(oO id).isSome=true->uX o.tm id=false->od id:=by
  intro id a e;cases c:oO id with
  |none=>rw[c] at a;cases a
  |some x=>obtain⟨s,f⟩:=x;have d:=(Kb c).1;have q:=Kc e c;have r:=Cx a;exact⟨by omega,by omega⟩
 refine⟨g _ l j,?_,by omega,by omega⟩;rcases b with b|b
 ·obtain⟨a,e⟩:=k b;unfold nM at a;split at a;·rename_i d;rcases d with d|d<;>rw[d]<;>exact⟨by decide,by decide⟩
  ·refine g _ ?_ e;cases c:oO o.lZ with
   |none=>rw[c] at a;cases a
   |some x=>rfl
 ·rw[b];exact⟨by decide,by decide⟩
theorem Ft{o:lQ}(h:nj o=true):pn o:=by
 refine Yl h ?_;unfold nj at h;split at h;·rename_i c;exact .inl c
 ·split at h
  ·simp only[aF] at h;obtain⟨_,a⟩:=h;cases b:oO o.node with
   |none=>rw[b] at a;simp at a
   |some x=>rw[b] at a;simp only[aF,ck] at a;exact .inr a.1.2
  ·cases h
theorem p6.bd{N:Int}{m:mQ}(h:p6 N m)(d:N<=1000000000):CA m:=⟨h.len,λe c=>Ft (h.w.ok e c),h.w.yf h.len,⟨by have:=h.seen;omega,by have:=h.seen;omega⟩,⟨by have:=h.mC;omega,by have:=h.mC;omega⟩,h.l3,λs a=>⟨(h.pu s a).1,by have:=(h.pu s a).2;exact⟨by omega,by omega⟩⟩,h.lN,λw b=>⟨(h.xd w b).1,by have:=(h.xd w b).2.1;omega⟩,by have:=h.next;omega⟩
theorem p6.up{N M:Int}{m:mQ}(h:p6 N m)(b:N<=M):p6 M m:=⟨h.w,h.ru,h.len,h.seen,h.mC,h.l3,λs a=>⟨(h.pu s a).1,(h.pu s a).2.1,by have:=(h.pu s a).2.2;omega⟩,h.lN,h.xd,by have:=h.next;omega⟩
theorem p6.new{r:Int}(a:0<=r/\r<=63):p6 1 (r6 r):=⟨.nil,by simp[r6],by simp[r6],by simp[r6],a,by simp[r6],by simp[r6],by simp[r6],by simp[r6],by simp[r6]⟩
theorem Hl{N:Int}{m:mQ}(h:p6 N m)(o:lQ):((rh m o).2≠0/\(rh m o).1=(m,[]))\/∃b,b={o with tm:=⟨m.seen+1,m.mC⟩}/\nj b=true/\m.kP.es.length<200/\rh m o=(({m with kP:=qS m.kP b,seen:=m.seen+1},[b]),0):=by
 unfold rh su;cases a:xn m.seen m.mC with
 |none=>exact .inl Zs
 |some s=>
  have j:s=⟨m.seen+1,m.mC⟩:=by
   unfold xn at a;split at a;·cases a
   ·split at a;·cases a;rfl
    ·cases a
  subst j;simp only;by_cases i:m.kP.es.length>=200;·rw[aj i];exact .inl Zs
  ·rw[ai i];simp only[ai (show¬(0:Int)≠0 from λe=>e rfl)];cases d:nj {o with tm:=⟨m.seen+1,m.mC⟩} with
   |false=>(have f:oM m.kP {o with tm:=⟨m.seen+1,m.mC⟩}=(m.kP,50):=by unfold oM;rw[aj (by simp[d])]);unfold qU;rw[f];exact .inl Zs
   |true=>have f:=Yk (g:=m.kP) d (λe k=>by have:=h.ru e k;show e.op.tm.c<m.seen+1;omega) Zo;unfold qU;rw[f];exact .inr ⟨_,rfl,d,by omega,by simp⟩
theorem p6.put{N:Int}{m:mQ}(h:p6 N m){b:lQ}(d:nj b=true)(f:b.tm=⟨m.seen+1,m.mC⟩)(hl:m.kP.es.length<200):p6 N {m with kP:=qS m.kP b,seen:=m.seen+1}:=by
 have g:=Fs.1 (CB d).1;rw[f] at g;refine⟨.zL h.w d,λe a=>?_,?_,⟨by have:=h.seen;show 0<=m.seen+1;omega,g.2.1⟩,h.mC,h.l3,h.pu,h.lN,h.xd,h.next⟩
 ·show e.op.tm.c<=m.seen+1;rw[wB] at a;rcases aQ.1 a with a|a
  ·have:=h.ru e a;omega
  ·rw[aE.1 a,f];exact fJ _
 ·rw[wB];simp;omega
inductive BA(c:mo)(err:Int)(l l':List la):Prop
 |same (h:l.map kn=l'.map kn)
 |PZ (n:la) (h:q5 l n) (e:l'=l++[n])
 |move (a:c.kind=5\/c.kind=6) (w n:la) (b:w∈l) (d:n.id=w.id) (hp:w.lZ∈zN l c) (e:l'=qR l n)
 |P0 (a:c.kind=13) (f:err=0)
theorem Ym{l:List la}(hl:nb l){w n:la}(d:w∈l)(i:kn n=kn w):(qR l n).map kn=l.map kn:=by
 have f:n.id=w.id:=congrArg (·.1) i;have e:qR l n=l.map λm=>if m.id=n.id then n else m:=by
  have j:(oO n.id).isSome=true:=by rw[f];exact hl.2 w d
  refine(hl.put j).ext ⟨?_,?_⟩ (λm=>?_);·rw[ey];refine hl.1.imp (λ{a b} p=>?_);split<;>split<;>omega
  ·intro m c;obtain⟨k,g,rfl⟩:=aU.1 c;split;·exact j
   ·exact hl.2 k g
  ·rw[AD,aU];constructor
   ·rintro(rfl|⟨c,h⟩);·exact⟨w,d,by rw[aj f.symm]⟩
    ·exact⟨m,c,by rw[ai h]⟩
   ·rintro⟨k,g,rfl⟩;split;·exact .inl rfl
    ·rename_i h;exact .inr ⟨g,h⟩
 rw[e,ex];refine gD (λm c=>?_);simp only[Function.comp];split;·rename_i o;rw[i,DQ hl c d (by rw[o,f])]
 ·rfl
theorem Ki{l:List la}{p:kV}{id:Int}(h:o5 l p=(id,0)):(id=0)\/∃d s,pB l p=some d/\oP l d s=some id:=by
 unfold o5 at h;unfold pB;cases hp:oy p with
 |none=>rw[hp] at h;simp at h
 |some ll=>
  rw[hp] at h;simp only at h⊢;by_cases a:ll=[];·subst a;simp only[oQ,pk,bE,fu] at h;exact .inl h.symm
  ·rw[ai a];obtain⟨d,b,c,e⟩:=Hf a h;refine .inr ⟨d,_,?_,e⟩;rw[b];simp[c]
theorem Yn{l:List la}{p:kV}{d:Int}{s:kV}(h:rv l p=(d,s,0)):nM d=true/\(d=0\/∃n∈l,n.id=d):=by
 unfold rv at h;cases hp:oy p with
 |none=>rw[hp] at h;simp at h
 |some ll=>
  rw[hp] at h;simp only at h;split at h;·simp at h
  ·cases hf:oQ l ll.dropLast with
   |mk j e=>
   rw[hf] at h;simp only at h;split at h;·rename_i a;simp at h;exact absurd h.2.2 a
   ·rename_i a;have a:e=0:=by omega
    subst a;split at h
    ·rename_i c;simp only[bE,fu] at h;obtain⟨rfl,_⟩:=h;refine⟨c,?_⟩;by_cases b:ll.dropLast=[];·rw[b] at hf;simp only[oQ,pk,bE,fu] at hf;exact .inl hf.symm
     ·obtain⟨k,_,_,f⟩:=Hf b hf;obtain⟨m,g,i,_⟩:=Bx f;exact .inr ⟨m,g,i⟩
    ·simp at h
theorem Kj(g:Lg)(o:lQ):(qS g o).ns=(oZ g.ns o).1:=rfl
theorem Yo{s:mN}{f:Bool}(h:ow s=true):yH s f=128*s.c+2*s.r+(if f then 1 else 0):=by unfold yH;rw[aj h]
theorem Yp{N:Int}{m:mQ}(h:p6 N m)(c:mo)(err:Int):BA c err m.kP.ns (Af m c).1.1.kP.ns:=by
 unfold Af;split;·exact .same rfl
 ·split;rename_i d s e B;split;·exact .same rfl
  ·rename_i r;have r:e=0:=by omega
   subst r;split;·exact .same rfl
   ·rename_i t;split;rename_i g J f;split;·exact .same rfl
    ·rename_i u;have k:g=⟨m.seen+1,m.mC⟩/\ow g=true:=by
      unfold su at f;cases a:xn m.seen m.mC with
      |none=>rw[a] at f;simp only[bE] at f;obtain⟨_,rfl⟩:=f;exact absurd Zd u
      |some K=>
       rw[a] at f;simp only at f;unfold xn at a;split at a;·cases a
       ·split at a
        ·rename_i l;cases a;split at f;·simp only[bE] at f;obtain⟨_,rfl⟩:=f;exact absurd Zd u
         ·simp only[bE] at f;obtain⟨rfl,_⟩:=f;exact⟨rfl,l⟩
        ·cases a
     obtain⟨k,l⟩:=k;rcases Hl h ⟨mN.z,1,yH g (c.kind==1),d,s,[]⟩ with⟨_,o⟩|⟨b,i,v,lL,o⟩;·unfold tt;rw[o];exact .same rfl
     ·unfold tt;rw[o];simp only;rw[Kj];have hl:=h.w.ns;rcases Cw m.kP.ns b hl v with p|⟨L,p⟩
      ·rw[p];exact .same rfl
      ·(rw[p];have j:=h.w.Kd h.ru;have C:b.node=128*(m.seen+1)+2*m.mC+(if(c.kind==1)=true then 1 else 0):=by rw[i];show yH g _=_;rw[Yo l,k]);have M:128*(m.seen+1)<=b.node:=by rw[C];have:=h.mC;split<;>omega
       have D:nr m.kP.ns b.node=none:=Cv.2 λn a=>by have:=j.id n a;omega
       have E:b.lZ=d:=by rw[i]
       have F:b.name=s:=by rw[i]
       have G:b.kind=1:=by rw[i]
       (have q:tO m.kP.ns b=⟨b.node,d,s,b.tm,[],mN.z⟩:=by unfold tO;rw[aj G,D,E,F];rfl);obtain⟨y,H⟩:=Yn B;have O:d<128*(m.seen+1):=by(rcases H with rfl|⟨n,a,rfl⟩;·have:=h.seen;omega);·exact j.id n a
       have A:q5 m.kP.ns (tO m.kP.ns b):=by
        (refine⟨λn a=>?_,?_,?_,?_,?_⟩;·rw[DT];have:=j.id n a;have:=j.DV n a;exact⟨by omega,by omega⟩);·rw[DT];exact DS v
        ·rw[q];show d≠b.node;omega
        ·rw[q];show d≠-1;intro e;rw[e] at y;exact absurd y Zd
        ·rw[q];show oP m.kP.ns d s=none;cases I:oP m.kP.ns d s with
         |none=>rfl
         |some x=>rw[I] at t;simp at t
       exact .PZ _ A A.put
theorem Yq(l:List la)(o:lQ)(a:o.kind≠1){w:la}(hf:nr l o.node=some w):kn (tO l o)=kn w:=by unfold tO;rw[ai a,hf];rfl
theorem Yr{N:Int}{m:mQ}(h:p6 N m)(c:mo)(err:Int):BA c err m.kP.ns (Be m c).1.1.kP.ns:=by
 unfold Be;split;rename_i id e k;split;·exact .same rfl
 ·rename_i g;have g:e=0:=by omega
  subst g;split;·exact .same rfl
  ·rename_i l;rcases Hl h ⟨mN.z,2,id,0,[],c.data⟩ with⟨_,a⟩|⟨b,i,n,lL,a⟩
   ·unfold tt;rw[a];exact .same rfl
   ·unfold tt;rw[a];simp only;rw[Kj];have hl:=h.w.ns;rcases Cw m.kP.ns b hl n with f|⟨r,f⟩
    ·rw[f];exact .same rfl
    ·(rw[f];rcases Ki k with rfl|⟨d,s,_,o⟩);·exact absurd (by decide:nM 0=true) l
     ·(obtain⟨w,j,p,_⟩:=Bx o;have q:b.node=id:=by rw[i]);have hf:nr m.kP.ns b.node=some w:=hl.DR.2 ⟨j,by rw[p,q]⟩;exact .same (Ym hl j (Yq _ _ (by rw[i];show(2:Int)≠1;decide) hf)).symm
theorem P1{N:Int}{m:mQ}(h:p6 N m)(c:mo)(err:Int)(a:c.kind=5\/c.kind=6){id:Int}(p:o5 m.kP.ns c.path=(id,0))(d:Int)(s:kV)(g:kV):BA c err m.kP.ns (tt (rh m ⟨mN.z,1,id,d,s,g⟩)).1.1.kP.ns:=by
 rcases Hl h ⟨mN.z,1,id,d,s,g⟩ with⟨_,e⟩|⟨i,q,j,lL,e⟩;·unfold tt;rw[e];exact .same rfl
 ·unfold tt;rw[e];simp only;rw[Kj];have hl:=h.w.ns;rcases Cw m.kP.ns i hl j with f|⟨x,f⟩
  ·rw[f];exact .same rfl
  ·rw[f];have k:i.node=id:=by rw[q]
   rcases Ki p with rfl|⟨l,y,n,r⟩;·have:=DS j;rw[k] at this;exact absurd this Zd
   ·obtain⟨w,t,u,v⟩:=Bx r;refine .move a w _ t (by rw[DT,k,u]) ?_ rfl;rw[v,DW];have o:∀b:Option Int,l∈tx (some l) b:=by
     intro b;cases b with
     |none=>simp[tx]
     |some b=>simp only[tx];split<;>simp
    (rcases a with a|a;·rw[aj a,n];exact o _);·rw[ai Zo,aj a,n];exact o _
theorem Ys{N:Int}{m:mQ}(h:p6 N m)(c:mo)(err:Int)(b:c.kind=5):BA c err m.kP.ns (Bf m c).1.1.kP.ns:=by
 unfold Bf;split;·exact .same rfl
 ·split;rename_i id e d;split;·exact .same rfl
  ·rename_i a;have a:e=0:=by omega
   subst a;split;split;·exact .same rfl
   ·split;·exact .same rfl
    ·split;·exact .same rfl
     ·exact P1 h c err (.inl b) d _ _ _
theorem Yt{N:Int}{m:mQ}(h:p6 N m)(c:mo)(err:Int)(b:c.kind=6):BA c err m.kP.ns (Bg m c).1.1.kP.ns:=by
 unfold Bg;split;·exact .same rfl
 ·split;rename_i id e d;split;·exact .same rfl
  ·rename_i a;have a:e=0:=by omega
   subst a;split;·exact .same rfl
   ·split;·exact .same rfl
    ·exact P1 h c err (.inr b) d _ _ _
end Top
end Go.Proofs.YtkbifmngmocjnaaGreatDoor
