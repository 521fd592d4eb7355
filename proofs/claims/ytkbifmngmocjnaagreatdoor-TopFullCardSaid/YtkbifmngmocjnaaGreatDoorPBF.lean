/- Proved here, packed: what the parts Refb prove (rules of the walk, contracts of functions, plain laws). Conditions: in each statement. -/
import Derived.Test.YtkbifmngmocjnaaGreatDoorPAQ
import Derived.Test.YtkbifmngmocjnaaGreatDoorPBE
namespace Go.Proofs.YtkbifmngmocjnaaGreatDoor
set_option maxRecDepth 100000
set_option maxHeartbeats 8000000
set_option linter.all false
section
open Top Proofs.Tryz
theorem ab6(H:kM)(ve b f i:Value)(g:Lg)(h:xD H ve b g)(a:xD H f i g):Rf prog 49 #[.agg #[ve,b],.agg #[f,i]] H (.bool true):=λW L=>by
 obtain⟨A,c,rfl,u,v⟩:=h.es;obtain⟨B,d,rfl,w,x⟩:=a.es;obtain⟨n,o,rfl,_,_⟩:=Zi h.ns.sl;obtain⟨p,q,rfl,_,_⟩:=Zi a.ns.sl;refine enter func49 ?_;refine U ?_;intro j;refine U ?_;intro l;refine U ?_;rw[show((g.es.length:Int) != (g.es.length:Int))=false from by simp];refine U ?_;refine mP (λr σ L'=>L'=k4 l 27 [.slice B g.es.length d,.slice p g.ns.length q]::k4 j 27 [.slice A g.es.length c,.slice n g.ns.length o]::fz H::L/\∃k:Nat,k<=g.es.length/\r=g.es.length-k/\ml σ [(2,.pointer (some ⟨j,0,none⟩)),(3,.pointer (some ⟨l,0,none⟩)),(5,.int .i64 (k:Int))]) g.es.length
  _ (s1 _) ⟨rfl,0,by omega,by omega,⟨rfl,rfl,rfl,trivial⟩⟩ ?_
 rintro r σ _ ⟨rfl,k,y,rfl,s⟩;obtain⟨z,rfl⟩:=s.open;refine U ?_;refine mE rfl (λm=>?_) (λm=>?_)
 ·have t:k<g.es.length:=by have:=am m;omega
  obtain⟨e,C⟩:∃e,g.es[k]? =some e:=⟨_,ad t⟩;refine U ?_;refine nq [0,1,2,3,4,5,6,7,8,9,10] Zk Zk Zk Zk Zk (λ_ _ _ h=>h) ?_;refine U ?_;refine RD e rfl rfl rfl rfl ?_;refine U ?_;exact⟨g.es.length-(k+1),_,by omega,s1 _,rfl,k+1,by omega,rfl,⟨rfl,rfl,rfl,trivial⟩⟩
 ·refine U ?_;refine mi (RE H _ _ g.ns h.ns.sl a.ns.sl) ?_;refine U ?_;refine kS ?_;exact lj results49 Zt lv ⟨rfl,rfl⟩
theorem ab7(H:kM)(v v':Value)(q:xp)(h:Sl 2 nY H v q.1)(a:Sl 2 nY H v' q.1):Rf prog 111 #[.agg #[v,.bool q.2],.agg #[v',.bool q.2]] H (.bool true):=λW L=>by obtain⟨A,c,rfl,b,e⟩:=Zi h;obtain⟨B,d,rfl,f,g⟩:=Zi a;refine enter func111 ?_;refine U ?_;intro i;refine U ?_;intro j;refine U ?_;refine mi ((FM H _ _ q.1 q.1 h a).eq (v':=.bool true) (by rw[aZ rfl])) ?_;refine U ?_;rw[show(q.2==q.2)=true from by simp];refine U ?_;refine kS ?_;exact lj results111 Zt lv ⟨rfl,rfl⟩
theorem ab8(H:kM)(v v':Value)(l:List (Int×List la))(h:Dl 2 DY H v l)(p:Dl 2 DY H v' l):Rf prog 50 #[v,v'] H (.bool true):=λW L=>by
 obtain⟨A,c,a,rfl,y,z,lL,q⟩:=h;obtain⟨B,d,b,rfl,C,D,s,t⟩:=p;refine enter func50 ?_;refine U ?_;rw[show((a.length:Int) != (b.length:Int))=false from by simp[lL,s]];refine U ?_;refine mP (λr σ L'=>L'=fz H::L/\∃k:Nat,k<=a.length/\r=a.length-k/\ml σ [(0,.slice A a.length c),(1,.slice B b.length d),(5,.int .i64 (k:Int))]) a.length
  _ (s1 _) ⟨rfl,0,by omega,by omega,⟨rfl,rfl,rfl,trivial⟩⟩ ?_
 rintro r σ _ ⟨rfl,k,E,rfl,u⟩;obtain⟨F,rfl⟩:=u.open;refine U ?_;refine mE rfl (λf=>?_) (λf=>?_)
 ·have G:k<a.length:=by have:=am f;omega
  obtain⟨e,g⟩:∃e,l[k]? =some e:=⟨_,ad Zo⟩;obtain⟨row,w⟩:∃e,a[k]? =some e:=⟨_,ad Zo⟩;obtain⟨i,x⟩:∃e,b[k]? =some e:=⟨_,ad Zo⟩;obtain⟨I,j,m⟩:=q k row e w g;obtain⟨J,n,o⟩:=t k i e x g;obtain⟨K,M,rfl,_,_⟩:=Zi m.sl;obtain⟨N,O,rfl,_,_⟩:=Zi o.sl;obtain⟨val,P,hl⟩:=row;obtain⟨Q,R,S⟩:=i;dsimp only at j n;subst j;subst n;refine U ?_;refine nq [0,1,2,3,4,5,6,7,8,9,10,11] Zk Zk Zk Zk Zk (λ_ _ _ h=>h) ?_;refine U ?_;refine mi (RE H _ _ e.2 m.sl o.sl) ?_;refine U ?_;refine nq [0,1,2,3,4,5,6,7,8,9,10,11,12,13,14] Zk Zk Zk Zk Zk (λ_ _ _ h=>h) ?_;refine U ?_;rw[show(e.1 != e.1)=false from by simp];refine U ?_;exact⟨a.length-(k+1),_,by omega,s1 _,rfl,k+1,by omega,rfl,⟨rfl,rfl,rfl,trivial⟩⟩
 ·refine U ?_;refine kS ?_;exact lj results50 Zt lv ⟨rfl,rfl⟩
theorem ab9(H:kM)(v v':Value)(l:List (zm))(h:Dl 4 Cz H v l)(s:Dl 4 Cz H v' l):Rf prog 51 #[v,v'] H (.bool true):=λW L=>by
 obtain⟨A,c,a,rfl,C,D,lL,t⟩:=h;obtain⟨B,d,b,rfl,E,F,u,w⟩:=s;refine enter func51 ?_;refine U ?_;rw[show((a.length:Int) != (b.length:Int))=false from by simp[lL,u]];refine U ?_;refine mP (λr σ L'=>L'=fz H::L/\∃k:Nat,k<=a.length/\r=a.length-k/\ml σ [(0,.slice A a.length c),(1,.slice B b.length d),(5,.int .i64 (k:Int))]) a.length
  _ (s1 _) ⟨rfl,0,by omega,by omega,⟨rfl,rfl,rfl,trivial⟩⟩ ?_
 rintro r σ _ ⟨rfl,k,G,rfl,x⟩;obtain⟨I,rfl⟩:=x.open;refine U ?_;refine mE rfl (λf=>?_) (λf=>?_)
 ·have J:k<a.length:=by have:=am f;omega
  obtain⟨e,g⟩:∃e,l[k]? =some e:=⟨_,ad Zo⟩;obtain⟨row,y⟩:∃e,a[k]? =some e:=⟨_,ad Zo⟩;obtain⟨i,z⟩:∃e,b[k]? =some e:=⟨_,ad Zo⟩;obtain⟨K,j,m⟩:=t k row e y g;obtain⟨M,o,p⟩:=w k i e z g;obtain⟨N,O,rfl,_,_⟩:=Zi m;obtain⟨P,Q,rfl,_,_⟩:=Zi p;obtain⟨val,R,hl⟩:=row;obtain⟨S,T,V⟩:=i;dsimp only at j o;subst j;subst o;refine U ?_;refine nq [0,1,2,3,4,5,6,7,8,9,10,11] Zk Zk Zk Zk Zk (λ_ _ _ h=>h) ?_;refine U ?_;refine mi (ab7 H _ _ e.q m p) ?_;refine U ?_;refine nq [0,1,2,3,4,5,6,7,8,9,10,11,12,13,14,15,16,17,18,19,20,21,22,23,24,25,26,27] Zk Zk Zk Zk Zk (λ_ _ _ h=>h) ?_;refine U ?_;rw[show(e.n != e.n)=false from by simp];refine U ?_;rw[show(e.dir != e.dir)=false from by simp];refine U ?_;exact⟨a.length-(k+1),_,by omega,s1 _,rfl,k+1,by omega,rfl,⟨rfl,rfl,rfl,trivial⟩⟩
 ·refine U ?_;refine kS ?_;exact lj results51 Zt lv ⟨rfl,rfl⟩
theorem aca(H:kM)(m:mQ)(ve b vs c d e f g:Value)(h:sH H m ve b vs c)(a:sH H m d e f g):Rf prog 24 #[.agg (sG m ve b vs c).toArray,.agg (sG m d e f g).toArray] H (.bool true):=λW L=>by obtain⟨i,j,rfl,_,_⟩:=Zi h.kP.es;obtain⟨k,l,rfl,_,_⟩:=Zi h.kP.ns.sl;obtain⟨n,o,p,rfl,_⟩:=Zi h.l3;obtain⟨q,r,s,rfl,_⟩:=Zi h.lN;obtain⟨t,u,rfl,_,_⟩:=Zi a.kP.es;obtain⟨v,w,rfl,_,_⟩:=Zi a.kP.ns.sl;obtain⟨x,y,z,rfl,_⟩:=Zi a.l3;obtain⟨A,B,C,rfl,_⟩:=Zi a.lN;refine enter func24 ?_;refine U ?_;intro D;refine U ?_;intro E;refine U ?_;refine mi (ab6 H _ _ _ _ m.kP h.kP a.kP) ?_;refine U ?_;refine mi (ab8 H _ _ m.l3 h.l3 a.l3) ?_;refine U ?_;refine mi (ab9 H _ _ m.lN h.lN a.lN) ?_;refine U ?_;rw[show(m.seen==m.seen)=true from by simp];refine U ?_;rw[show(m.mC==m.mC)=true from by simp];refine U ?_;rw[show(m.next==m.next)=true from by simp];refine U ?_;refine kS ?_;exact lj results24 Zt lv ⟨rfl,rfl⟩
theorem acb(H:kM)(a:lU)(c d e f:Value)(h:tP H a c d)(b:tP H a e f):Rf prog 22 #[.agg (sS a c d).toArray,.agg (sS a e f).toArray] H (.bool true):=λW L=>by obtain⟨g,i,rfl,_,_⟩:=Zi h.ll;obtain⟨j,k,rfl,_,_⟩:=Zi h.l9;obtain⟨l,m,rfl,_,_⟩:=Zi b.ll;obtain⟨o,p,rfl,_,_⟩:=Zi b.l9;refine enter func22 ?_;refine U ?_;intro q;refine U ?_;intro r;refine U ?_;refine mi (ab5 H _ _ a.ll h.ll b.ll) ?_;refine U ?_;refine mi ((FM H _ _ a.l9 a.l9 h.l9 b.l9).eq (v':=.bool true) (by rw[aZ rfl])) ?_;refine U ?_;rw[show(a.err==a.err)=true from by simp];refine U ?_;rw[show(a.data==a.data)=true from by simp];refine U ?_;rw[show(a.n==a.n)=true from by simp];refine U ?_;refine kS ?_;exact lj results22 Zt lv ⟨rfl,rfl⟩
end
end Go.Proofs.YtkbifmngmocjnaaGreatDoor
