/- Proved here, packed: what the parts Refa prove (rules of the walk, contracts of functions, plain laws). Conditions: in each statement. -/
import Derived.Test.YtkbifmngmocjnaaGreatDoorPAJ
namespace Go.Proofs.YtkbifmngmocjnaaGreatDoor
set_option maxRecDepth 100000
set_option maxHeartbeats 8000000
set_option linter.all false
section
open Top Proofs.Tryz
instance:Ew prog 68 nY where
 guard:=λop X Y x y w=>by apply gH;kernel_rfl
 eql:=λx y w=>by
  simp only[nY,sv];simp[go_sem];obtain⟨a,s⟩:=x;obtain⟨b,t⟩:=y;simp only[nk.mk.injEq]
  repeat' split<;>simp_all
 neq:=λx y w=>by
  simp only[nY,sv];simp[go_sem];obtain⟨a,s⟩:=x;obtain⟨b,t⟩:=y;simp only[nk.mk.injEq]
  repeat' split<;>simp_all
theorem FM(H:kM)(i j:Value)(l m:List nk)(o:Sl 2 nY H i l)(p:Sl 2 nY H j m):Rf prog 14 #[i,j] H (.bool (decide (l=m))):=λW L=>by
 obtain⟨A,c,rfl,w,x⟩:=o;obtain⟨B,d,rfl,y,z⟩:=p;refine enter func14 ?_;refine U ?_;by_cases lL:l.length=m.length
 ·rw[show((l.length:Int) != (m.length:Int))=false from by simp[lL]];refine U ?_;refine mP (λr σ L'=>L'=fz H::L/\∃k:Nat,k<=l.length/\r=l.length-k/\ml σ [(0,.slice A l.length c),(1,.slice B m.length d),(5,.int .i64 (k:Int))]/\l.take k=m.take k) l.length
   _ (s1 _) ⟨rfl,0,by omega,by omega,⟨rfl,rfl,rfl,trivial⟩,rfl⟩ ?_
  rintro r σ _ ⟨rfl,k,C,rfl,q,mz⟩;obtain⟨D,rfl⟩:=q.open;refine U ?_;refine mE rfl (λb=>?_) (λb=>?_)
  ·have s:k<l.length:=by have:=am b;omega
   have t:k<m.length:=by omega
   obtain⟨e,n⟩:∃e,l[k]? =some e:=⟨_,ad s⟩;obtain⟨f,hf⟩:∃e,m[k]? =some e:=⟨_,ad t⟩;refine U ?_;refine nq [0,1,2,3,4,5,6,7,8] Zk Zk Zk Zk Zk (λ_ _ _ h=>h) ?_;refine U ?_;refine Sg e f rfl rfl rfl rfl ?_;by_cases a:e=f;·rw[aZ a];refine U ?_;exact⟨l.length-(k+1),_,by omega,s1 _,rfl,k+1,by omega,rfl,⟨rfl,rfl,rfl,trivial⟩,by rw[aT,aT,n,hf,mz,a]⟩
   ·(have g:l≠m:=by rintro rfl;rw[n] at hf;cases hf;exact a rfl);rw[bx a];refine U ?_;refine kS ?_;exact lj results14 Zt lv ⟨by rw[bx g]<;>rfl,rfl⟩
  ·have u:k=l.length:=by have:=av b;omega
   have v:l=m:=by rw[u,bf,lL,bf] at mz;exact mz
   refine U ?_;refine kS ?_;exact lj results14 Zt lv ⟨by rw[aZ v]<;>rfl,rfl⟩
 ·have g:l≠m:=by rintro rfl;exact lL rfl
  rw[show((l.length:Int) != (m.length:Int))=true from by simp;omega];refine U ?_;refine kS ?_;exact lj results14 Zt lv ⟨by rw[bx g]<;>rfl,rfl⟩
section
variable{P:Program}{n:Sz}{W:World}{q:Md}{Q:Exit->St->List kM->Prop}{σ:St}{L:List kM}{Z:Array Oper}{rest:List Oper}
 {dst:Option Nat} {ty:TypeId} {pos:String} {lf:Array Edge} {gd:Option (Nat×Bool)} {α:Type} {enc:α->List Value}
class Li(P:Program)(t:Nat){α:Type}(enc:α->List Value):Prop where
 guard:∀op X Y x y w,(eqGuard op t X Y (.agg (enc x).toArray) (.agg (enc y).toArray)).run P w=.ok () w
 neq:∀x w,(binOp .neq t (.agg (enc x).toArray) (.agg (enc x).toArray)).run P w=.ok (.bool false) w
theorem RD{x y:Operand}{t t2:Nat}[b:Li P t enc](a:α)(c:ev σ x=.agg (enc a).toArray)(d:ev σ y=.agg (enc a).toArray)(e:lP Z σ ⟨dst,.binOp .neq t x y t2,ty,pos,lf,gd⟩=true) (f:l8 n dst=true)(h:SL P n W q Z Q rest (l6 σ dst (.bool false)) L):SL P n W q Z Q (⟨dst,.binOp .neq t x y t2,ty,pos,lf,gd⟩::rest) σ L:=by refine oF _ Zb e f (λw=>?_) h;simp only[execOp,c,d,aB,b.guard,au,b.neq,aH]
end
instance:Li prog 166 oR where
 guard:=λop X Y x y w=>by apply gH;kernel_rfl
 neq:=λx w=>by simp only[oR,sv];simp[go_sem]
instance:Li prog 212 qK where
 guard:=λop X Y x y w=>by apply gH;kernel_rfl
 neq:=λx w=>by simp only[qK,sv];simp[go_sem]
theorem RE(H:kM)(a b:Value)(l:List la)(g:Sl 8 oR H a l)(i:Sl 8 oR H b l):Rf prog 110 #[a,b] H (.bool true):=λW L=>by
 obtain⟨A,c,rfl,n,o⟩:=g;obtain⟨B,d,rfl,p,q⟩:=i;refine enter func110 ?_;refine U ?_;rw[show((l.length:Int) != (l.length:Int))=false from by simp];refine U ?_;refine mP (λr σ L'=>L'=fz H::L/\∃k:Nat,k<=l.length/\r=l.length-k/\ml σ [(0,.slice A l.length c),(1,.slice B l.length d),(5,.int .i64 (k:Int))]) l.length
  _ (s1 _) ⟨rfl,0,by omega,by omega,⟨rfl,rfl,rfl,trivial⟩⟩ ?_
 rintro r σ _ ⟨rfl,k,s,rfl,j⟩;obtain⟨t,rfl⟩:=j.open;refine U ?_;refine mE rfl (λf=>?_) (λf=>?_)
 ·have m:k<l.length:=by have:=am f;omega
  obtain⟨e,u⟩:∃e,l[k]? =some e:=⟨_,ad m⟩;refine U ?_;refine nq [0,1,2,3,4,5,6,7,8] Zk Zk Zk Zk Zk (λ_ _ _ h=>h) ?_;refine U ?_;refine RD e rfl rfl rfl rfl ?_;refine U ?_;exact⟨l.length-(k+1),_,by omega,s1 _,rfl,k+1,by omega,rfl,⟨rfl,rfl,rfl,trivial⟩⟩
 ·refine U ?_;refine kS ?_;exact lj results110 Zt lv ⟨rfl,rfl⟩
theorem ab5(H:kM)(a b:Value)(l:List kV)(g:Sl 1 ni H a l)(i:Sl 1 ni H b l):Rf prog 48 #[a,b] H (.bool true):=λW L=>by
 obtain⟨A,c,rfl,n,o⟩:=g;obtain⟨B,d,rfl,p,q⟩:=i;refine enter func48 ?_;refine U ?_;rw[show((l.length:Int) != (l.length:Int))=false from by simp];refine U ?_;refine mP (λr σ L'=>L'=fz H::L/\∃k:Nat,k<=l.length/\r=l.length-k/\ml σ [(0,.slice A l.length c),(1,.slice B l.length d),(5,.int .i64 (k:Int))]) l.length
  _ (s1 _) ⟨rfl,0,by omega,by omega,⟨rfl,rfl,rfl,trivial⟩⟩ ?_
 rintro r σ _ ⟨rfl,k,s,rfl,j⟩;obtain⟨t,rfl⟩:=j.open;refine U ?_;refine mE rfl (λf=>?_) (λf=>?_)
 ·have m:k<l.length:=by have:=am f;omega
  obtain⟨e,u⟩:∃e,l[k]? =some e:=⟨_,ad m⟩;refine U ?_;refine nq [0,1,2,3,4,5,6,7,8] Zk Zk Zk Zk Zk (λ_ _ _ h=>h) ?_;refine U ?_;rw[show(e != e)=false from by simp];refine U ?_;exact⟨l.length-(k+1),_,by omega,s1 _,rfl,k+1,by omega,rfl,⟨rfl,rfl,rfl,trivial⟩⟩
 ·refine U ?_;refine kS ?_;exact lj results48 Zt lv ⟨rfl,rfl⟩
end
end Go.Proofs.YtkbifmngmocjnaaGreatDoor
