/- Proved here, packed: what the parts Viewb Viewc Lview Lnd Lvw prove (rules of the walk, contracts of functions, plain laws). Conditions: in each statement. -/
import Derived.Test.YtkbifmngmocjnaaGreatDoorPAO
namespace Go.Proofs.YtkbifmngmocjnaaGreatDoor
set_option maxRecDepth 100000
set_option maxHeartbeats 8000000
set_option linter.all false
section
open Top Proofs.Tryz
def W6(a gm:Nat)(l:List MapEntry)(c:Nat)(w:World):Prop:=nX a [.map (some gm)] w/\w.heap[gm]? =some (.map l.toArray c)
theorem W7{ν:Type}{ve:ν->Value}(y gm:Nat)(l:List MapEntry)(c:Nat)(m:List (kV×ν))(d:tv sv ve m l c)(W:World):zx prog W 201 [.pointer (some ⟨y,0,none⟩)] (W6 y gm l c) (λs:kV=>[sv s]) (λpre=>∃rest,(pre++rest).Perm (m.map (·.1))) (λxs=>xs.Perm (m.map (·.1))):=by
 intro I K Kx a F J L z;refine enter func201 ?_;have M:∀pre X f,K pre X->oq W (X++f) (nX y [.map (some gm)]):=λpre X f h=>(F pre X f h).mono λ_ h=>h.1;have A:∀pre X f,K pre X->oq W (X++f) (λw=>w.heap[gm]? =some (.map l.toArray c)):=λpre X f h=>(F pre X f h).mono λ_ h=>h.2;have k1:=M _ _ a z;refine U ?_;refine TL rfl (A _ _ a z) rfl rfl (λgi=>?_);refine U ?_;refine mP (λn σ L'=>∃(pre rest:List kV) (X:List kM) (seen:Array Nat),n=rest.length/\(pre++rest).Perm (m.map (·.1))/\(∀(i:Nat) (e:MapEntry) (x:kV×ν),l[i]? =some e->m[i]? =some x->(e.born∈seen↔x.1∈pre))/\K pre X/\
  L'=xx gi gm c seen::(X++a)/\ml σ [(0,.func (.yield I) #[] #[]),(5,.pointer (some ⟨gi,0,none⟩))]) m.length
  _ (s1 _) ⟨[],m.map (·.1),L,#[],by simp,fW _,λi e x _ _=>by simp,z,rfl,rfl,rfl,trivial⟩ ?_
 rintro n σ _ ⟨pre,rest,X,seen,rfl,j,B,t,rfl,N⟩;obtain⟨kG,rfl⟩:=N.open;have O:(pre++rest).Nodup:=j.nodup_iff.2 d.nd;refine U ?_;refine TM (l:=l) (gm:=gm) (c:=c) rfl ((A _ _ a t).cons _) d.lt (λ_=>p0) rfl rfl (λP=>?_) (λe o Q=>?_)
 ·have R:rest=[]:=by
   cases rest with
   |nil=>rfl
   |cons r rest=>have S:r∈m.map (·.1):=j.mem_iff.1 (cZ _ (ay ..));obtain⟨x,p,rfl⟩:=aU.1 S;obtain⟨i,k⟩:=cL p;obtain⟨e,o,_,_⟩:=d.at k;have:=(B i e x o k).1 (P e (ar o));exact absurd rfl ((cC.1 O).2.2 _ this _ (ay ..))
  subst R;rw[aP] at j;refine U ?_;exact qD results201 (λw g=>g.tail) ⟨X,rfl,.inl ⟨pre,j,t⟩⟩
 ·obtain⟨i,k⟩:=cL o;obtain⟨x,p,T,V⟩:=d.IT k;have Y:x.1∉pre:=λh=>Q ((B i e x k p).2 h);have C:x.1∈rest:=by
   have:x.1∈pre++rest:=j.mem_iff.2 (aU.2 ⟨x,ar p,rfl⟩);rcases aQ.1 this with h|h
   ·exact absurd h Y
   ·exact h
  have D:(pre++[x.1]++rest.erase x.1).Perm (m.map (·.1)):=by refine List.Perm.trans ?_ j;rw[aV];exact jL pre (List.perm_cons_erase C).symm
  have kF:∀(u:Nat) (e':MapEntry) (v:kV×ν),l[u]? =some e'->m[u]? =some v->(e'.born∈seen.push e.born↔v.1∈pre++[x.1]):=λu e' v G H=>by rw[Array.mem_push,aQ,aE,B u e' v G H,Bm (·.born) d.ap G k,Bm (·.1) d.nd H p]
  have lL:(rest.erase x.1).length<rest.length:=by rw[gR C];have:=fK C;omega
  refine U ?_;refine TN (l:=l) (gm:=gm) (c:=c) (gi:=gi) (seen:=seen) (e:=e) rfl ((A _ _ a t).cons _) d.ap o m0 rfl rfl rfl ?_;rw[T,V];refine LZ (vs:=[sv x.1,ve x.2]) rfl rfl rfl rfl ?_;refine Iv rfl rfl rfl ?_;refine q8 ?_;refine sX (Gl ?_);refine rN rfl ?_;refine U ?_;refine rN rfl ?_;refine U ?_;refine yL.mL (L':=X++(xx gi gm c (seen.push e.born)::a)) (λw g=>g.ny dN.symm) ?_;refine ER rfl (J pre x.1 X (xx gi gm c (seen.push e.born)::a) ⟨_,D⟩ t) rfl rfl rfl (λ_ _ h=>h) ?_;rintro b _ ⟨q,rfl,⟨rfl,E⟩|⟨rfl,E⟩⟩;·refine SL.mL (L':=xx gi gm c (seen.push e.born)::(q++a)) (λw g=>g.ny dN) ?_;refine U ?_;exact⟨(rest.erase x.1).length,_,lL,s1 _,pre++[x.1],rest.erase x.1,q,seen.push e.born,rfl,D,kF,E,rfl,rfl,rfl,trivial⟩
  ·refine SL.mL (L':=q++a) (λw g=>g.sublist ((dI _ _).append_left q)) ?_;refine U ?_;refine kS ?_;exact AS results201 ⟨q,rfl,.inr ⟨_,⟨_,D⟩,E⟩⟩
theorem W8{e:Nat}{j:List Value}{p:World->Prop}{k S:List kV->Prop}(W:World)(n:zx prog W e j p (λs:kV=>[sv s]) k S)(sk:∀args w,(callFunc e args).run prog w=.ok (.enter e args) w)(o:∀pre,k pre->pre.length<=1000000) (a L:List kM) (hp:∀b,oq W (a++b) p):m3 prog W 246 #[.slice none 0 0,.func (.func e) #[] j.toArray] (a++L) (λv L'=>∃xs A c,S xs/\v=.slice A xs.length c/\L'=li 9 1 ni A c xs::(a++L)):=by
 refine EU func246 ?_;refine rj (sR ?_);refine U ?_;intro d;refine U ?_;refine rj ?_;refine rj (sR ?_);refine U ?_;refine ES ?_;refine uO.mL (λw q=>q.oA 9 1 ni none) ?_;refine ET (L:=L) n (λpre X=>∃A c,X=li 9 1 ni A c pre::k4 d 60 [.slice A pre.length c]::a) (λ_ _ _=>False)
  (λpre x r u=>∃A c,u=li 9 1 ni A c pre::k4 d 60 [.slice A pre.length c]::a/\ml r [(2,.pointer (some ⟨d,0,none⟩)),(5,sv x)])
  (li 9 1 ni none 0 ([]:List kV)::k4 d 60 [.slice none 0 0]::a) ⟨none,0,rfl⟩ (by rintro pre _ b ⟨A,c,rfl⟩;exact((hp b).cons _).cons _) ?_ ?_ ?_ (λ_ _ _ _ _ h=>h.elim) (sk:=sk)
 ·rintro y pre x _ b m ⟨A,c,rfl⟩;refine pA ?_;refine U ?_;exact⟨_,Sub.refl,A,c,rfl,rfl,rfl,trivial⟩
 ·rintro y pre x σ _ b m ⟨A,c,rfl,z⟩;obtain⟨E,rfl⟩:=z.open;have:=o _ m;rw[ak,dy] at this;refine pA ?_;refine U ?_;intro B;refine U ?_;refine ap (l:=pre) (news:=[x]) (oG (g:=B) (t:=9) (cs:=ni x) Zn rfl) Zl (λf i=>?_);refine U ?_;iterate 3 (refine pA ?_;refine U ?_)
  exact⟨li 9 1 ni f i (pre++[x])::k4 d 60 [.slice f (pre++[x]).length i]::a,.of Zu,f,i,rfl⟩
 ·rintro D xs _ C ⟨A,c,rfl⟩;refine U ?_;refine kS ?_;refine⟨_,o0,?_⟩;exact lj results246 Zt lv ⟨xs,A,c,C,rfl,rfl⟩
theorem W9{a:Nat}{d:List Value}{p:World->Prop}{e S:List kV->Prop}(W:World)(f:zx prog W a d p (λs:kV=>[sv s]) e S)(sk:∀args w,(callFunc a args).run prog w=.ok (.enter a args) w)(g:∀pre,e pre->pre.length<=1000000) (b L:List kM) (hp:∀h,oq W (b++h) p):m3 prog W 199 #[.func (.func a) #[] d.toArray] (b++L) (λv L'=>∃xs A c,S xs/\v=.slice A xs.length c/\L'=li 9 1 ni A c xs::(b++L)):=by refine enter func199 ?_;refine U ?_;refine nR (W8 W f sk g b L hp) ?_;rintro _ _ ⟨xs,A,c,i,rfl,rfl⟩;refine U ?_;refine kS ?_;exact lj results199 Zt lv ⟨xs,A,c,i,rfl,rfl⟩
theorem Xa{a:Nat}{d:List Value}{p:World->Prop}{e S:List kV->Prop}(W:World)(g:zx prog W a d p (λs:kV=>[sv s]) e S)(sk:∀args w,(callFunc a args).run prog w=.ok (.enter a args) w)(h:∀pre,e pre->pre.length<=1000000) (i:∀xs,S xs->xs.length<=1000000/\∀s∈xs,s.length<=1000000) (b L:List kM) (hp:∀j,oq W (b++j) p):m3 prog W 125 #[.func (.func a) #[] d.toArray,.func (.func 127) #[] #[]] (b++L) (λv L'=>∃xs A c,S xs/\v=.slice A (rising xs).length c/\L'=li 9 1 ni A c (rising xs)::(b++L)):=by refine enter func125 ?_;refine U ?_;refine nR (W9 W g sk h b L hp) ?_;rintro _ _ ⟨xs,A,c,f,rfl,rfl⟩;obtain⟨k,l⟩:=i xs f;refine U ?_;refine Fe z0 (W5 xs l k A c) ?_;refine U ?_;refine kS ?_;have:xs.length=(rising xs).length:=(x8 xs).length_eq.symm;exact lj results125 Zt lv ⟨xs,A,c,f,by rw[this]<;>rfl,rfl⟩
theorem Xb(g:Nat)(W:World)(L:List kM):m3 prog W 126 #[.map (some g)] L (λv L'=>∃a:Nat,v=.func (.func 201) #[] #[.pointer (some ⟨a,0,none⟩)]/\L'=k4 a 161 [.map (some g)]::L):=by refine enter func126 ?_;refine U ?_;intro a;refine U ?_;refine kS ?_;exact lj results126 Zt lv ⟨a,rfl,rfl⟩
theorem O5(g:Nat)(m:List (kV×la))(hl:m.length<=1000000)(f:∀x∈m,x.1.length<=1000000)(W:World)(L:List kM):m3 prog W 62 #[.map (some g)] (nG g sv qk m::L) (λv L'=>∃A c,v=.slice A (rising (m.map (·.1))).length c/\L'=li 9 1 ni A c (rising (m.map (·.1)))::nG g sv qk m::L):=by
 refine m3.IV (λ_ _=>p0) (As func62) (λl c b=>?_);refine enter func62 ?_;refine U ?_;refine nR (Xb g W _) ?_;rintro _ _ ⟨d,rfl,rfl⟩;refine U ?_;refine nR (Xa W (W7 d g l c m b W) (As func201) (λpre ⟨rest,hp⟩=>?_) (λxs hp=>?_) [k4 d 161 [.map (some g)],At g l c] L (λk=>?_)) ?_;·have:=hp.length_eq;simp at this;omega
 ·refine⟨by rw[hp.length_eq];simpa using hl,λs h=>?_⟩;obtain⟨x,i,rfl⟩:=aU.1 (hp.mem_iff.1 h);exact f x i
 ·intro w a;exact⟨Iz w (a.ok _ m0).holds,IU.1 (a.ok _ (m1 m0)).holds⟩
 ·rintro _ _ ⟨xs,A,e,hp,rfl,rfl⟩;have j:rising xs=rising (m.map (·.1)):=Ng ((x8 xs).trans hp) (I8 xs);rw[j];refine U ?_;refine kS ?_;exact lj results62 Zt (λw a=>(a.sublist (L':=li 9 1 ni A e (rising (m.map (·.1)))::At g l c::L) Zu).TK b (p1 p0)) ⟨A,e,rfl,rfl⟩
structure vP(l:List la):Prop where
 len:l.length<=10000
 name:∀n∈l,n.name.length<=10000
 data:∀n∈l,n.data.length<=10000
theorem O6(m:Nm)(s:kV)(n:la):(tq m s n).length<=m.length+1:=by unfold tq;split<;>simp
theorem O7{m:Nm}{s:kV}{n:la}{x:kV×la}(h:x∈tq m s n):x∈m\/x=(s,n):=by
 unfold tq at h;split at h
 ·obtain⟨y,a,rfl⟩:=aU.1 h;split;·exact .inr rfl
  ·exact .inl a
 ·rcases aQ.1 h with h|h;·exact .inl h
  ·exact .inr (by simpa using h)
theorem Xc(m:Nm)(n:la):(po m n).length<=m.length+1:=by
 unfold po;split;·exact O6 _ _ _
 ·split;·exact gC _
  ·exact O6 _ _ _
theorem Xd{m:Nm}{n:la}{x:kV×la}(h:x∈po m n):x∈m\/x=(n.name,n):=by
 unfold po at h;split at h;·exact O7 h
 ·split at h;·exact .inl h
  ·exact O7 h
theorem O8:∀(l:List la) (m:Nm),(l.foldl po m).length<=m.length+l.length
 |[],m=>aA _
 |n::l,m=>by have:=O8 l (po m n);have:=Xc m n;simp only[bU,aG];omega
theorem O9:∀(l:List la) (m:Nm) {x:kV×la},x∈l.foldl po m->x∈m\/∃n∈l,x=(n.name,n)
 |[],m,x,h=>.inl h
 |n::l,m,x,h=>by
  rcases O9 l (po m n) h with h|⟨a,b,c⟩
  ·rcases Xd h with h|h;·exact .inl h
   ·exact .inr ⟨n,ay ..,h⟩
  ·exact .inr ⟨a,aI _ b,c⟩
theorem JX(l:List la)(dir:Int):(rI l dir).length<=l.length:=by have:=O8 (l.filter λn=>n.lZ==dir&&ow n.pg) [];have:=bG (λn:la=>n.lZ==dir&&ow n.pg) l;unfold rI;simp only[bm] at*;omega
theorem Fj{l:List la}{dir:Int}{x:kV×la}(h:x∈rI l dir):x.1=x.2.name/\x.2∈l/\x.2.lZ=dir/\ow x.2.pg=true:=by
 unfold rI at h;rcases O9 _ _ h with h|⟨n,b,rfl⟩
 ·simp at h
 ·obtain⟨c,a⟩:=bp.1 b;rw[aF,ck] at a;exact⟨rfl,c,a.1,a.2⟩
theorem Fk{m:Nm}{s:kV}{n:la}(h:pR m s=some n):(s,n)∈m:=by
 unfold pR at h;obtain⟨x,a,rfl⟩:=cp.1 h;have b:=bF a;have c:=cP a;have d:x.1=s:=by simpa using c
 subst d;exact b
theorem JY{l:List la}{dir:Int}{s:kV}{id:Int}(h:oP l dir s=some id):∃n∈l,n.id=id/\n.lZ=dir/\n.name=s:=by
 unfold oP at h;split at h;·obtain⟨n,a,rfl⟩:=cp.1 h;obtain⟨b,c,d,_⟩:=Fj (Fk a);exact⟨n,c,rfl,d,b.symm⟩
 ·cases h
theorem Xe(H:kM)(v:Value)(l:List la)(b:pq H v l)(dir:Int)(s:kV):Fn prog 140 #[v,nI dir,sv s] H (λ_ r=>r=.tuple #[nI ((oP l dir s).getD 0),.bool (oP l dir s).isSome]):=λW L=>by
 obtain⟨A,c,rfl,f,h⟩:=b.sl;have d:rZ l=true:=ud.2 b.ok;refine enter func140 ?_;refine U ?_;refine mi (Cj H _ l b) ?_;refine U ?_;refine ov (JS H _ l b dir) ?_;rintro _ _ ⟨g,rfl,rfl⟩;simp only[aD];unfold oP;rw[aj d];generalize rI l dir=m;refine U ?_;refine yM (ke:=sv) (ve:=qk) (a:=s) (m:=m) rfl rfl Zn rfl rfl rfl ?_;rw[G6];cases pR m s with
 |none=>refine U ?_;intro e;refine U ?_;refine kS ?_;exact m7 (c1 (c1 c0)) results140 Zt Zt (λ_ _ _=>rfl)
 |some n=>refine U ?_;intro e;refine U ?_;refine kS ?_;exact m7 (c1 (c1 c0)) results140 Zt Zt (λ_ _ _=>rfl)
theorem G9(H:kM)(v:Value)(l:List la)(a:pq H v l)(dir:Int)(s:kV):Rf prog 140 #[v,nI dir,sv s] H (.tuple #[nI ((oP l dir s).getD 0),.bool (oP l dir s).isSome]):=(Xe H v l a dir s).rf
theorem Xf(H:kM)(v:Value)(l:List la)(a:pq H v l)(b:vP l)(dir:Int):Fn prog 148 #[v,nI dir] H (λd r=>Sl 1 ni d r (Ae l dir)):=λW L=>by obtain⟨A,c,rfl,j,k⟩:=a.sl;have h:rZ l=true:=ud.2 a.ok;have hl:=b.len;have n:=JX l dir;have e:=λx=>Fj (l:=l) (dir:=dir) (x:=x);refine enter func148 ?_;refine U ?_;refine mi (Cj H _ l a) ?_;refine U ?_;refine ov (JS H _ l a dir) ?_;rintro _ _ ⟨g,rfl,rfl⟩;simp only[aD];unfold Ae;rw[aj h];generalize rI l dir=m at*;refine U ?_;refine nR (O5 g m Zo (λx f=>by have:=e x f;have:=b.name _ this.2.1;rw[(e x f).1];omega) W _) ?_;rintro _ _ ⟨o,p,rfl,rfl⟩;refine U ?_;refine kS ?_;exact lX (c1 (c1 c0)) results148 Zt (λd hl i=>i.sl m0)
theorem Xg(H:kM)(v j:Value)(l:List la)(e:pq H v l)(ns:List kV)(f:Sl 1 ni H j ns)(lL:ns.length<=1000000):Fn prog 219 #[v,j] H (λ_ r=>r=.tuple #[nI (oQ l ns).1,nI (oQ l ns).2]):=λW L=>by
 obtain⟨A,c,rfl,b,w⟩:=e.sl;obtain⟨B,d,rfl,x,y⟩:=f;refine enter func219 ?_;refine U ?_;refine mP (λm σ L'=>∃(i:Nat) (a:Int),m=ns.length-i/\i<=ns.length/\od a/\oQ l ns=pk l a (ns.drop i)/\L'=fz H::L/\ml σ [(0,.slice A l.length c),(6,nI a),(11,.slice B ns.length d),(12,nN ns.length),(13,nN i)]) ns.length
  _ (s1 _) ⟨0,0,by omega,by omega,⟨by omega,by omega⟩,rfl,rfl,rfl,rfl,rfl,rfl,rfl,trivial⟩ ?_
 rintro m σ _ ⟨i,a,rfl,z,p,hf,rfl,q⟩;obtain⟨C,rfl⟩:=q.open;refine U ?_;refine mE rfl (λb=>?_) (λb=>?_)
 ·have g:i<ns.length:=by have:=am b;omega
  obtain⟨s,k⟩:∃s,ns[i]? =some s:=⟨_,ad g⟩;have D:(ni s)[0]? =some (sv s):=rfl;have oC:ns.drop i=s::ns.drop (i+1):=by rw[ad g] at k;cases k;exact(dp g).symm
  rw[oC,pk] at hf;refine U ?_;refine md (wW a p W _) ?_;cases o:nM a with
  |false=>rw[o] at hf;simp only[aM,bH] at hf;refine U ?_;refine kS ?_;rw[hf];exact m7 c0 results219 Zt Zt (λ_ _ _=>rfl)
  |true=>
   rw[o] at hf;simp only[cc] at hf;refine U ?_;refine mi (G9 H _ l e a s) ?_;cases h:oP l a s with
   |none=>rw[h] at hf;simp only at hf;refine U ?_;refine kS ?_;rw[hf];exact m7 c0 results219 Zt Zt (λ_ _ _=>rfl)
   |some id=>(rw[h] at hf;simp only at hf;have t:od id:=by obtain⟨n,f,rfl,_⟩:=JY h;have:=e.ok.bd n f;exact⟨by omega,by omega⟩);refine U ?_;exact⟨ns.length-(i+1),_,by omega,s1 _,i+1,id,rfl,by omega,t,hf,rfl,rfl,rfl,rfl,rfl,rfl,trivial⟩
 ·have u:i=ns.length:=by have:=av b;omega
  rw[u,dm,pk] at hf;refine U ?_;refine kS ?_;rw[hf];exact m7 c0 results219 Zt Zt (λ_ _ _=>rfl)
theorem Ct(H:kM)(v a:Value)(l:List la)(b:pq H v l)(ns:List kV)(c:Sl 1 ni H a ns)(lL:ns.length<=1000000):Rf prog 219 #[v,a] H (.tuple #[nI (oQ l ns).1,nI (oQ l ns).2]):=(Xg H v a l b ns c lL).rf
end
namespace Top
open YtkbifmngmocjnaaGreatDoor
def yW(l:List la)(out:List Int)(a:Int):List Int->Prop
 |[]=>True
 |x::r=>x∉out/\(∃n∈l,n.id=x/\n.lZ=r.headD a)/\yW l out a r
theorem yW.yX{l:List la}{out:List Int}{b:Int}:∀{a:List Int},yW l out b a->∀x∈a,x∈l.map (·.id)
 |[],_,x,h=>by simp at h
 |y::r,⟨_,⟨n,c,d,_⟩,e⟩,x,h=>by
  rcases aJ.1 h with rfl|h;·exact aU.2 ⟨n,c,d⟩
  ·exact e.yX x h
theorem yW.split{l:List la}{out:List Int}{b x:Int}:∀{a:List Int},yW l out b a->x∈a->∃pre post,a=pre++x::post/\∃n∈l,n.id=x/\n.lZ=post.headD b
 |[],_,h=>by simp at h
 |y::r,⟨_,c,d⟩,h=>by
  rcases aJ.1 h with rfl|h;·exact⟨[],r,rfl,c⟩
  ·obtain⟨pre,post,e,f⟩:=d.split h;exact⟨y::pre,post,by rw[e];rfl,f⟩
theorem DQ{l:List la}(h:nb l){a b:la}(d:a∈l)(e:b∈l)(k:a.id=b.id):a=b:=by
 obtain⟨i,f,rfl⟩:=cr d;obtain⟨j,g,rfl⟩:=cr e;rcases gX i j with c|c|c;·have:=h.at c g;omega
 ·subst c;rfl
 ·have:=h.at c f;omega
theorem yW.new{l:List la}{out:List Int}{c:Int}(i:nb l)(j:c∈out){d:List Int}(f:yW l out c d)(e:d.Nodup){n:la}(k:n∈l)(hp:n.lZ=d.headD c):n.id∉d:=by
 intro h;obtain⟨pre,post,m,q,o,p,b⟩:=f.split h;have:=DQ i k o p.symm;subst this;rw[hp] at b;subst m;cases post with
 |nil=>
  have g:(pre++[n.id]).headD c∉out:=by
   cases pre with
   |nil=>exact f.1
   |cons a pre=>exact f.1
  rw[b] at g;exact g j
 |cons y post=>
  simp only[iB] at b;cases pre with
  |nil=>simp only[aS,iB] at b;rw[aS,b] at e;exact(cU.1 e).1 (ay ..)
  |cons a pre=>simp only[bQ,iB] at b;rw[bQ,b] at e;exact(cU.1 e).1 Zs
theorem Cu{α:Type}[BEq α][LawfulBEq α]:∀{a b:List α},a.Nodup->(∀x∈a,x∈b)->a.length<=b.length
 |[],_,_,_=>aR _
 |x::a,b,f,c=>by obtain⟨g,h⟩:=cU.1 f;have d:=c x (ay ..);have:=Cu (b:=b.erase x) h (λy e=>(List.mem_erase_of_ne (by rintro rfl;exact g e)).2 (c y (aI _ e)));rw[gR d] at this;have:=fK d;simp only[aG];omega
theorem yW.len{l:List la}{out:List Int}{b:Int}{a:List Int}(c:yW l out b a)(d:a.Nodup):a.length<=l.length:=by have:=Cu d c.yX;simpa using this
theorem Xh(m:Nm)(n:la)(h:(m.map (·.1)).Nodup):((po m n).map (·.1)).Nodup:=by
 have a:=IR n.name n h;unfold po;split;·exact a
 ·split;·exact h
  ·exact a
theorem Pa:∀(l:List la) (m:Nm),(m.map (·.1)).Nodup->((l.foldl po m).map (·.1)).Nodup
 |[],_,h=>h
 |n::l,m,h=>Pa l (po m n) (Xh m n h)
theorem Pb(l:List la)(dir:Int):((rI l dir).map (·.1)).Nodup:=Pa _ _ Zs
def xc(l:List la)(out:List Int)(dir:Int):Nm:=(rI l dir).filter λx=>!(out.contains x.2.id)
theorem Pc(l:List la)(out:List Int)(dir:Int):((xc l out dir).map (·.1)).Nodup:=(Pb l dir).sublist (dJ.map _)
theorem Ha{l:List la}{out:List Int}{dir:Int}{x:kV×la}(h:x∈xc l out dir):x.1=x.2.name/\x.2∈l/\x.2.lZ=dir/\x.2.id∉out:=by obtain⟨a,b⟩:=bp.1 h;obtain⟨c,d,e,_⟩:=Fj a;exact⟨c,d,e,by simpa using b⟩
def zK(l:List la)(out:List Int)(d:Int×kV):List (la×kV):=(rising ((xc l out d.1).map (·.1))).filterMap λs=>(pR (xc l out d.1) s).map λn=>(n,d.2++47::s)
theorem Xi(l:List la)(out:List Int)(f:Nat)(d:Int)(p:kV):r5 l out (f+1) d p=(zK l out (d,p)).flatMap λk=>(⟨k.2,k.1.id,k.1.data⟩:oI)::(if nM k.1.id then r5 l out f k.1.id k.2 else[]):=by
 unfold zK;rw[r5];simp only;show(rising ((xc l out d).map (·.1))).flatMap _=_;generalize rising ((xc l out d).map (·.1))=ns;induction ns with
 |nil=>rfl
 |cons s ns a=>
  rw[bj,a,List.filterMap_cons];show(match pR (xc l out d) s with|none=>[]|some n=>_)++_=_;cases pR (xc l out d) s with
  |none=>simp
  |some n=>simp[bj]
theorem JZ{l:List la}{out:List Int}{d:Int×kV}{k:la×kV}(h:k∈zK l out d):k.1∈l/\k.1.lZ=d.1/\k.1.id∉out:=by unfold zK at h;obtain⟨s,g,a⟩:=iR.1 h;obtain⟨n,b,rfl⟩:=cp.1 a;obtain⟨_,c,e,f⟩:=Ha (Fk b);exact⟨c,e,f⟩
theorem Xj{l:List la}(g:nb l)(out:List Int)(d:Int×kV):((zK l out d).map (·.1.id)).Nodup:=by unfold zK;have c:(rising ((xc l out d.1).map (·.1))).Nodup:=(x8 _).nodup_iff.2 (Pc l out d.1);unfold List.Nodup at c⊢;rw[ey,jy];refine c.imp λ{a h} i b j q k=>?_;obtain⟨n,m,rfl⟩:=cp.1 j;obtain⟨r,o,rfl⟩:=cp.1 k;have e:=Ha (Fk m);have f:=Ha (Fk o);intro p;have:=DQ g e.2.1 f.2.1 p;subst this;exact i (by rw[show a=n.name from e.1,show h=n.name from f.1])
theorem Pd{α β:Type}(i:α->β)(c:α->Bool)(g:α->List β):∀a:List α,(a.flatMap λk=>i k::(if c k then g k else[])).length=a.length+((a.filter c).flatMap g).length
 |[]=>rfl
 |k::a=>by rw[bj,ak,Pd i c g a,cX];cases c k<;>simp[bj]<;>omega
theorem J0{l:List la}(e:nb l)(out:List Int):∀(f:Nat) (ds:List (Int×kV)),(ds.map (·.1)).Nodup->(ds.flatMap λd=>r5 l out f d.1 d.2).length<=f*l.length
 |0,ds,_=>by
  have:(ds.flatMap λd=>r5 l out 0 d.1 d.2)=[]:=by rw[List.flatMap_eq_nil_iff];intro d _;rfl
  rw[this];simp
 |f+1,ds,g=>by
  have m:(ds.flatMap λd=>r5 l out (f+1) d.1 d.2)=(ds.flatMap (zK l out)).flatMap λk=>(⟨k.2,k.1.id,k.1.data⟩:oI)::(if nM k.1.id then r5 l out f k.1.id k.2 else[]):=by rw[List.flatMap_assoc];congr 1;funext d;exact Xi l out f d.1 d.2
  have c:((ds.flatMap (zK l out)).map (·.1.id)).Nodup:=by
   unfold List.Nodup at g⊢;rw[ey] at g;rw[ey,jO];refine⟨λd _=>?_,g.imp λ{a b} n x h y o p=>?_⟩;·have:=Xj e out d;unfold List.Nodup at this;rwa [ey] at this
   ·have i:=JZ h;have j:=JZ o;have:=DQ e i.1 j.1 p;rw[this] at i;exact n (i.2.1.symm.trans j.2.1)
  have r:(ds.flatMap (zK l out)).length<=l.length:=by have:=Cu (b:=l.map (·.id)) c (λx h=>by obtain⟨k,c,rfl⟩:=aU.1 h;obtain⟨d,_,q⟩:=cW.1 c;exact aU.2 ⟨k.1,(JZ q).1,rfl⟩);simpa using this
  rw[m,Pd];have hf:=J0 e out f (((ds.flatMap (zK l out)).filter λk=>nM k.1.id).map λk=>(k.1.id,k.2)) (by rw[ex];exact c.sublist (dJ.map _));rw[List.flatMap_map] at hf;simp only at hf;rw[bW];omega
end Top
namespace Top
open YtkbifmngmocjnaaGreatDoor
theorem _root_.Go.Proofs.YtkbifmngmocjnaaGreatDoor.nb.DR{l:List la}(h:nb l){id:Int}{n:la}:nr l id=some n↔n∈l/\n.id=id:=by
 unfold nr;constructor;·intro hf;exact⟨bF hf,by simpa using cP hf⟩
 ·rintro⟨a,b⟩;cases hf:l.find? (λn=>n.id==id) with
  |none=>have:=bK.1 hf n a;simp[b] at this
  |some m=>
   have c:=bF hf;have d:m.id=id:=by simpa using cP hf
   rw[DQ h a c (by rw[b,d])]
theorem Cv{l:List la}{id:Int}:nr l id=none↔∀n∈l,n.id≠id:=by unfold nr;rw[bK];simp
theorem ur{l:List la}{id:Int}{n:la}(h:nr l id=some n):n∈l/\n.id=id:=by unfold nr at h;exact⟨bF h,by simpa using cP h⟩
theorem AD{l:List la}{n m:la}:m∈qR l n↔m=n\/(m∈l/\m.id≠n.id):=by
 unfold qR;simp only[aQ,aJ,bp,bz];constructor
 ·rintro(⟨h,a⟩|h|⟨h,a⟩);·exact .inr ⟨h,by omega⟩
  ·exact .inl h
  ·exact .inr ⟨h,by omega⟩
 ·rintro(h|⟨h,a⟩);·exact .inr (.inl h)
  ·rcases Int.lt_or_gt_of_ne a with b|b;·exact .inl ⟨h,b⟩
   ·exact .inr (.inr ⟨h,b⟩)
theorem Xk{l:List la}{k:Int}{m:la}:m∈BT l k↔m∈l/\m.id≠k:=by unfold BT;simp
theorem _root_.Go.Proofs.YtkbifmngmocjnaaGreatDoor.nb.ext{l m:List la}(hl:nb l)(g:nb m)(h:∀n,n∈l↔n∈m):l=m:=by
 induction l generalizing m with
 |nil=>
  cases m with
  |nil=>rfl
  |cons b m=>have:=(h b).2 (ay ..);simp at this
 |cons a l i=>
  cases m with
  |nil=>have:=(h a).1 (ay ..);simp at this
  |cons b m=>
   have d:=bJ.1 hl.1;have f:=bJ.1 g.1;have j:a=b:=by(rcases aJ.1 ((h a).1 (ay ..)) with e|e;·exact e);·(rcases aJ.1 ((h b).2 (ay ..)) with e'|e';·exact e'.symm);·have k:=d.1 b e';have o:=f.1 a e;omega
   subst j;rw[i (m:=m) ⟨d.2,λn c=>hl.2 n (aI _ c)⟩ ⟨f.2,λn c=>g.2 n (aI _ c)⟩ ?_];intro n;constructor
   ·intro c;rcases aJ.1 ((h n).1 (aI _ c)) with e|e
    ·subst e;have:=d.1 n c;omega
    ·exact e
   ·intro c;rcases aJ.1 ((h n).2 (aI _ c)) with e|e
    ·subst e;have:=f.1 n c;omega
    ·exact e
theorem _root_.Go.Proofs.YtkbifmngmocjnaaGreatDoor.nb.Pe{l:List la}(h:nb l){n:la}(b:(oO n.id).isSome=true)(id:Int):nr (qR l n) id=if id=n.id then some n else nr l id:=by
 split;·rename_i e;exact(h.put b).DR.2 ⟨AD.2 (.inl rfl),e.symm⟩
 ·rename_i e;cases hf:nr l id with
  |none=>
   rw[Cv] at hf⊢;intro m a;rcases AD.1 a with rfl|⟨a,_⟩
   ·exact λe'=>e e'.symm
   ·exact hf m a
  |some m=>obtain⟨a,c⟩:=ur hf;exact(h.put b).DR.2 ⟨AD.2 (.inr ⟨a,by omega⟩),c⟩
theorem DS{o:lQ}(h:nj o=true):(oO o.node).isSome=true:=by
 unfold nj at h;split at h;·simp only[aF] at h;exact h.2.1.1.1.1
 ·split at h
  ·simp only[aF] at h;cases a:oO o.node with
   |none=>rw[a] at h;simp at h
   |some x=>rfl
  ·cases h
def tO(l:List la)(o:lQ):la:=
 if o.kind=1 then{(nr l o.node).getD ⟨o.node,-1,[],mN.z,[],mN.z⟩ with lZ:=o.lZ,name:=o.name,pg:=o.tm}
 else{(nr l o.node).getD ⟨o.node,-1,[],mN.z,[],mN.z⟩ with data:=o.data,xP:=o.tm}
def Hb(l:List la)(o:lQ):Prop:=o.kind=1/\(o.lZ=o.node\/o.node∈oH l o.lZ)
theorem DT(l:List la)(o:lQ):(tO l o).id=o.node:=by
 have:((nr l o.node).getD ⟨o.node,-1,[],mN.z,[],mN.z⟩).id=o.node:=by
  cases hf:nr l o.node with
  |none=>rfl
  |some m=>exact(ur hf).2
 unfold tO;split<;>exact this
theorem Xl{l:List la}{o:lQ}(h:¬(rZ l=true/\nj o=true)\/Hb l o):oZ l o=(l,tL.z):=by
 unfold oZ;split;·rfl
 ·rename_i a;simp only[eO,cJ,not_or,kA] at a;split;·rfl
  ·rename_i b;rcases h with h|h
   ·exact absurd a h
   ·exact absurd h b
theorem Xm{l:List la}{o:lQ}(a:rZ l=true)(b:nj o=true)(c:¬Hb l o):oZ l o=(qR l (tO l o),⟨true,(nr l o.node).isSome,(nr l o.node).getD la.z⟩):=by unfold oZ;rw[ai (by simp[a,b]),ai (show¬(o.kind=1/\(o.lZ=o.node\/o.node∈oH l o.lZ)) from c)];unfold tO;rfl
theorem Cw(l:List la)(o:lQ)(hl:nb l)(a:nj o=true):oZ l o=(l,tL.z)\/(¬Hb l o/\oZ l o=(qR l (tO l o),⟨true,(nr l o.node).isSome,(nr l o.node).getD la.z⟩)):=by
 by_cases h:Hb l o;·exact .inl (Xl (.inr h))
 ·exact .inr ⟨h,Xm (ud.2 hl) a h⟩
theorem Xn{l:List la}{o:lQ}(hl:nb l)(g:nj o=true):wT (oZ l o).1 o (oZ l o).2=l:=by
 have d:=DS g;rcases Cw l o hl g with h|⟨_,h⟩
 ·rw[h];unfold wT;simp[tL.z]
 ·rw[h];have b:=DT l o;have hp:nb (qR l (tO l o)):=hl.put (by rw[b];exact d);unfold wT;rw[ai (by simp[ud.2 hp])];simp only[d,cE];cases hf:nr l o.node with
  |none=>
   simp only[cN,eC,aM,bH];refine(hp.cut _).ext hl (λm=>?_);rw[Xk,AD,b];rw[Cv] at hf;constructor
   ·rintro⟨rfl|h,f⟩;·exact absurd b f
    ·exact h.1
   ·intro a;exact⟨.inr ⟨a,hf m a⟩,hf m a⟩
  |some w=>
   obtain⟨i,c⟩:=ur hf;simp only[dR,cE,aN,c,gA,cc];refine(hp.put (by rw[c];exact d)).ext hl (λm=>?_);rw[AD,AD,b,c];constructor
   ·rintro(rfl|⟨rfl|h,f⟩);·exact i
    ·exact absurd b f
    ·exact h.1
   ·intro a;by_cases e:m.id=o.node;·exact .inl (DQ hl a i (by rw[e,c]))
    ·exact .inr ⟨.inr ⟨a,e⟩,e⟩
inductive p5:Lg->Prop
 |nil:p5 ⟨[],[]⟩
 |zL {g:Lg} {o:lQ} (h:p5 g) (a:nj o=true):p5 (qS g o)
theorem p5.ns{g:Lg}(h:p5 g):nb g.ns:=by
 induction h with
 |nil=>exact⟨jc,by simp⟩
 |zL h b a=>exact a.do _
theorem p5.ok{g:Lg}(h:p5 g):∀e∈g.es,nj e.op=true:=by
 induction h with
 |nil=>simp
 |zL h b c=>
  intro e a;rw[wB] at a;rcases aQ.1 a with a|a
  ·exact c e a
  ·rw[aE.1 a];exact b
theorem p5.Fb{g:Lg}(h:p5 g)(o:lQ):p5 ⟨(rH o g.es.reverse g.ns).1.reverse,(rH o g.es.reverse g.ns).2⟩:=by
 induction h with
 |nil=>exact .nil
 |@zL g p h a b=>
  rw[wB];simp only[kb,gZ,List.reverse_nil,aS,aD];unfold rH;split;·simp only;rw[Xn h.ns a];exact b
  ·simp only[gZ,fc];exact .zL h a
theorem p5.AE{g:Lg}(h:p5 g):∀(l:List lQ),(∀o∈l,nj o=true)->p5 (l.foldl qS g)
 |[],_=>h
 |o::l,hl=>p5.AE (.zL h (hl o (ay ..))) l (λp hp=>hl p (aI _ hp))
theorem p5.add{g:Lg}(h:p5 g)(o:lQ):p5 (oM g o).1:=by
 unfold oM;split;·exact h
 ·rename_i a;simp only[cJ,kA] at a;split;·exact h
  ·split;·exact h
   ·have b:=h.Fb o;generalize rH o g.es.reverse g.ns=y at*;obtain⟨r,ns⟩:=y;simp only;refine p5.AE (.zL b a) _ (λp hp=>?_);obtain⟨e,c,rfl⟩:=aU.1 hp;exact h.ok e (dV c)
theorem p5.all{g:Lg}(h:p5 g):∀(l:List lQ),p5 (uH g l)
 |[]=>h
 |o::l=>p5.all (h.add o) l
def uu(l:List la):Prop:=∃r:Int->Nat,∀n∈l,r n.lZ<r n.id
theorem J1{l:List la}{r:Int->Nat}(b:∀n∈l,r n.lZ<r n.id):∀(f:Nat) (p:Int),(l.filter λn=>decide (r n.id<=r p)).length<=f->qQ l (f+1) p=qQ l f p
 |0,p,h=>by
  have a:nr l p=none:=by rw[Cv];intro n a e;have:n∈l.filter λn=>decide (r n.id<=r p):=bp.2 ⟨a,by simp[e]⟩;rw[fD.1 (Nat.le_zero.1 h)] at this;simp at this
  unfold qQ;rw[a]
 |f+1,p,h=>by
  rw[qQ,qQ];cases hf:nr l p with
  |none=>rfl
  |some n=>
   simp only;split;·rfl
   ·(obtain⟨a,c⟩:=ur hf;have i:=b n a;rw[J1 b f n.lZ ?_];have j:(l.filter λm=>decide (r m.id<=r n.lZ)).length<(l.filter λm=>decide (r m.id<=r p)).length:=by(rw[<-fZ,<-fZ];have d:∀m:la,decide (r m.id<=r n.lZ)=true->decide (r m.id<=r p)=true:=by intro m g;have:=am g;rw[<-c];exact aZ Zo);obtain⟨s,t,rfl⟩:=d9 a;rw[iW,iW,ig,ig];have k:=jS (l:=s) (λm _=>d m);have o:=jS (l:=t) (λm _=>d m);rw[ai (by simp;omega),aj (by simp[c])];omega);omega
theorem uu.DU{l:List la}(h:uu l){x:Int}{n:la}(hf:nr l x=some n)(hp:n.lZ≠-1):oH l x=n.lZ::oH l n.lZ:=by
 obtain⟨r,c⟩:=h;obtain⟨a,e⟩:=ur hf;unfold oH;obtain⟨k,b⟩:∃k,l.length=k+1:=⟨l.length-1,by have:=fK a;omega⟩;rw[b,qQ,hf];simp only[ai hp];rw[J1 c k n.lZ ?_];have f:=c n a;rw[<-fZ];obtain⟨s,t,d⟩:=d9 a;have g:s.length+t.length=k:=by rw[d] at b;simp at b;omega
 rw[d,iW,ig,ai (by simp;omega)];have i:=jT (p:=λm:la=>decide (r m.id<=r n.lZ)) (l:=s);have j:=jT (p:=λm:la=>decide (r m.id<=r n.lZ)) (l:=t);omega
theorem Hc{l:List la}{x:Int}(hf:nr l x=none):oH l x=[]:=by
 unfold oH;cases l.length with
 |zero=>rfl
 |succ k=>rw[qQ,hf]
theorem Pg{l:List la}{x:Int}{n:la}(hf:nr l x=some n)(hp:n.lZ=-1):oH l x=[]:=by
 unfold oH;cases l.length with
 |zero=>rfl
 |succ k=>rw[qQ,hf];simp[hp]
theorem Cx{k:Int}(h:(oO k).isSome=true):0<=k:=by
 unfold oO at h;split at h;·cases h
 ·omega
theorem Fl{l:List la}{r:Int->Nat}(a:∀n∈l,r n.lZ<r n.id):∀(f:Nat) (x y:Int),y∈qQ l f x->r y<r x
 |0,x,y,h=>by simp[qQ] at h
 |f+1,x,y,h=>by
  rw[qQ] at h;cases hf:nr l x with
  |none=>rw[hf] at h;simp at h
  |some n=>
   rw[hf] at h;simp only at h;obtain⟨c,d⟩:=ur hf;have b:=a n c;rw[d] at b;split at h;·simp at h
   ·(rcases aJ.1 h with rfl|h;·exact b);·have:=Fl a f n.lZ y h;omega
theorem uu.put{l:List la}(h:uu l)(hl:nb l){n:la}(g:(oO n.id).isSome=true)(i:n.lZ≠n.id)(j:n.id∉oH l n.lZ):uu (qR l n):=by
 obtain⟨r,d⟩:=h;have o:uu l:=⟨r,d⟩;let D:Int->Prop:=λx=>x=n.id\/n.id∈oH l x;have p:∀m∈l,m.id≠n.id->(D m.lZ↔D m.id):=by
  intro m a c;have hf:=hl.DR.2 ⟨a,rfl⟩;by_cases hp:m.lZ=-1;·have q:=Pg hf hp;have s:oH l (-1)=[]:=Hc (Cv.2 λk t e=>by have:=Cx (hl.2 k t);omega);have:=Cx g;simp only[D,q,hp,s,cQ,eG];omega
  ·rw[show D m.id↔(m.id=n.id\/n.id∈oH l m.id) from gU,o.DU hf hp,aJ];constructor
   ·rintro(e|e);·exact .inr (.inl e.symm)
    ·exact .inr (.inr e)
   ·rintro(e|e|e);·exact absurd e c
    ·exact .inl e.symm
    ·exact .inr e
 have u:¬D n.lZ:=by
  rintro(e|e);·exact i e
  ·exact j e
 classical
 refine⟨λx=>if D x then r x+r n.lZ+1 else r x,λm a=>?_⟩;rcases AD.1 a with rfl|⟨a,c⟩
 ·dsimp only;rw[ai u,aj (show D m.id from .inl rfl)];omega
 ·have f:=p m a c;have v:=d m a;dsimp only;by_cases b:D m.id;·rw[aj b,aj (f.2 b)];omega
  ·rw[ai b,ai (λe=>b (f.1 e))];omega
theorem uu.do{l:List la}(h:uu l)(hl:nb l){o:lQ}(g:nj o=true):uu (oZ l o).1:=by
 have i:=DS g;rcases Cw l o hl g with e|⟨j,e⟩
 ·rw[e];exact h
 ·rw[e];have c:=DT l o;refine h.put hl (by rw[c];exact i) ?_ ?_
  ·rw[c];unfold tO;split;·rename_i a;exact λe=>j ⟨a,.inl e⟩
   ·simp only;cases hf:nr l o.node with
    |none=>simp only[bI];have:=Cx i;omega
    |some m=>obtain⟨r,b⟩:=h;obtain⟨d,f⟩:=ur hf;simp only[aN];intro e';have:=b m d;rw[e',f] at this;omega
  ·rw[c];unfold tO;split;·rename_i a;exact λe=>j ⟨a,.inr e⟩
   ·simp only;cases hf:nr l o.node with
    |none=>simp only[bI];rw[Hc (Cv.2 λk a e=>by have:=Cx (hl.2 k a);omega)];simp
    |some m=>obtain⟨r,b⟩:=h;obtain⟨d,f⟩:=ur hf;simp only[aN];intro e';have p:=Fl b _ _ _ e';have n:=b m d;rw[f] at n;omega
theorem p5.Hd{g:Lg}(h:p5 g):uu g.ns:=by
 induction h with
 |nil=>exact⟨λ_=>0,by simp⟩
 |zL h a b=>exact b.do h.ns a
end Top
namespace Top
open YtkbifmngmocjnaaGreatDoor
abbrev Kn:=Int×Int×kV×mN
def kn(n:la):Kn:=(n.id,n.lZ,n.name,n.pg)
def uv(m:Nm):List (kV×Kn):=m.map λx=>(x.1,kn x.2)
theorem He(m:Nm)(s:kV):(pR m s).map kn=((uv m).find? λx=>x.1==s).map (·.2):=by unfold pR uv;rw[List.find?_map,di,di];rfl
theorem Pi(m:Nm)(s:kV)(n:la):uv (tq m s n)=if(uv m).any (λx=>x.1==s) then(uv m).map (λx=>if x.1==s then(s,kn n) else x) else uv m++[(s,kn n)]:=by
 unfold tq uv;rw[List.any_map];show _=if m.any (λx=>x.1==s)=true then _ else _;split;·rw[ex,ex];refine gD (λx _=>?_);simp only[Function.comp];split<;>rfl
 ·rw[bA];rfl
theorem Xo{m e:Nm}{n c:la}(h:uv m=uv e)(g:kn n=kn c):uv (po m n)=uv (po e c):=by
 have i:n.name=c.name:=congrArg (·.2.2.1) g;have l:n.pg=c.pg:=congrArg (·.2.2.2) g;have d:(pR m n.name).map kn=(pR e c.name).map kn:=by rw[He,He,h,i]
 have j:uv (tq m n.name n)=uv (tq e c.name c):=by rw[Pi,Pi,h,g,i]
 unfold po;cases k:pR m n.name with
 |none=>
  rw[k] at d;cases f:pR e c.name with
  |none=>simpa using j
  |some b=>rw[f] at d;simp at d
 |some a=>
  rw[k] at d;cases f:pR e c.name with
  |none=>rw[f] at d;simp at d
  |some b=>
   rw[f] at d;have o:a.pg=b.pg:=congrArg (·.2.2.2) (dB d);simp only[l,o];split;·exact h
   ·exact j
theorem Pj:∀(l l':List la) (m c:Nm),l.map kn=l'.map kn->uv m=uv c->uv (l.foldl po m)=uv (l'.foldl po c)
 |[],[],_,_,_,h=>h
 |[],_::_,_,_,h,_=>by simp at h
 |_::_,[],_,_,h,_=>by simp at h
 |a::l,b::l',m,c,h,d=>by simp only[bk,cH] at h;exact Pj l l' _ _ h.2 (Xo d h.1)
theorem Xp{l l':List la}(h:l.map kn=l'.map kn)(d:Int):(l.filter λn=>n.lZ==d&&ow n.pg).map kn=(l'.filter λn=>n.lZ==d&&ow n.pg).map kn:=by
 have e:∀l:List la,(l.filter λn=>n.lZ==d&&ow n.pg).map kn=(l.map kn).filter λk=>k.2.1==d&&ow k.2.2.2:=by intro l;rw[List.filter_map];rfl
 rw[e,e,h]
theorem Xq{l l':List la}(h:l.map kn=l'.map kn)(d:Int):uv (rI l d)=uv (rI l' d):=Pj _ _ _ _ (Xp h d) rfl
theorem Pk{l l':List la}(h:l.map kn=l'.map kn):nb l->nb l':=by
 have e:∀l:List la,nb l↔(l.map kn).Pairwise (λa b=>a.1<b.1)/\∀k∈l.map kn,(oO k.1).isSome=true:=by intro l;unfold nb;rw[ey];simp[kn]
 rw[e,e,h];exact id
theorem Pm{l l':List la}(h:l.map kn=l'.map kn):rZ l=rZ l':=by rw[eS,ud,ud];exact⟨Pk h,Pk h.symm⟩
theorem Xr{l l':List la}(h:l.map kn=l'.map kn)(d:Int)(s:kV):oP l d s=oP l' d s:=by
 unfold oP;rw[Pm h];have e:∀l:List la,(pR (rI l d) s).map (·.id)=((pR (rI l d) s).map kn).map (·.1):=by intro l;rw[di];rfl
 rw[e,e,He,He,Xq h]
theorem Pn{l l':List la}(h:l.map kn=l'.map kn)(x:Int):(nr l x).map (·.lZ)=(nr l' x).map (·.lZ):=by
 have e:∀l:List la,(nr l x).map (·.lZ)=((l.map kn).find? λk=>k.1==x).map (·.2.1):=by intro l;unfold nr;rw[List.find?_map,di];rfl
 rw[e,e,h]
theorem Po{l l':List la}{x0:Int}(h:∀x,x≠x0->(nr l x).map (·.lZ)=(nr l' x).map (·.lZ))(hp:∀n∈l,n.lZ≠x0):∀(f:Nat) (x:Int),x≠x0->qQ l f x=qQ l' f x
 |0,_,_=>rfl
 |f+1,x,g=>by
  have:=h x g;rw[qQ,qQ];cases d:nr l x with
  |none=>
   rw[d] at this;cases c:nr l' x with
   |none=>rfl
   |some b=>rw[c] at this;simp at this
  |some a=>
   rw[d] at this;cases c:nr l' x with
   |none=>rw[c] at this;simp at this
   |some b=>rw[c] at this;have e:a.lZ=b.lZ:=dB this;simp only[e];rw[Po h hp f b.lZ (by rw[<-e];exact hp a (ur d).1)]
theorem Xs{l l':List la}(h:l.map kn=l'.map kn)(x:Int):oH l x=oH l' x:=by
 have lL:l.length=l'.length:=by have:=congrArg List.length h;simpa using this
 unfold oH;rw[lL];have g:∀(f:Nat) (x:Int),qQ l f x=qQ l' f x:=by
  intro f;induction f with
  |zero=>intro x;rfl
  |succ f i=>
   intro x;have:=Pn h x;rw[qQ,qQ];cases d:nr l x with
   |none=>
    rw[d] at this;cases c:nr l' x with
    |none=>rfl
    |some b=>rw[c] at this;simp at this
   |some a=>
    rw[d] at this;cases c:nr l' x with
    |none=>rw[c] at this;simp at this
    |some b=>rw[c] at this;have e:a.lZ=b.lZ:=dB this;simp only[e,i]
 exact g _ _
theorem Pp{l l':List la}(h:∀d s,oP l d s=oP l' d s):∀(ns:List kV) (a:Int),pk l a ns=pk l' a ns
 |[],_=>rfl
 |s::ns,a=>by
  rw[pk,pk,h];split
  ·split;·rename_i id _;rw[Pp h ns id]
   ·rfl
  ·rfl
theorem Pq{l l':List la}(h:l.map kn=l'.map kn)(a b:Int):wi l a b=wi l' a b:=by unfold wi;rw[Pm h,Xs h]
theorem Xt{l l':List la}(h:∀d s,oP l d s=oP l' d s)(ds:List Int)(p:kV):u5 l ds p=u5 l' ds p:=by
 unfold u5 oQ;split;·rfl
 ·rw[Pp h]
theorem Xu{l l':List la}(h:l.map kn=l'.map kn)(c:mo):ry l c=ry l' c:=by
 have e:u5 l=u5 l':=by funext ds p;exact Xt (Xr h) ds p
 unfold ry;rw[e];congr 1;unfold sZ;split;·rw[Pq h,Pq h]
 ·rfl
theorem Bx{l:List la}{d:Int}{s:kV}{id:Int}(h:oP l d s=some id):∃n∈l,n.id=id/\n.lZ=d:=by
 unfold oP at h;split at h
 ·cases a:pR (rI l d) s with
  |none=>rw[a] at h;simp at h
  |some n=>
   rw[a] at h;have e:n.id=id:=by simpa using h
   unfold pR at a;cases hf:(rI l d).find? (λx=>x.1==s) with
   |none=>rw[hf] at a;simp at a
   |some x=>(rw[hf] at a;have f:x.2=n:=by simpa using a);obtain⟨_,b,c,_⟩:=Fj (bF hf);rw[f] at b c;exact⟨n,b,e,c⟩
 ·cases h
theorem Xv{l:List la}(hl:nb l){d:Int}{s:kV}{id:Int}(h:oP l d s=some id):(nr l id).map (·.lZ)=some d:=by obtain⟨n,a,b,c⟩:=Bx h;rw[hl.DR.2 ⟨a,b⟩];simp[c]
theorem Pr{l:List la}:∀(ns:List kV) (a:Int) (s:kV),pk l a (ns++[s])=(match pk l a ns with
 |(d,e)=>if e=0 then pk l d [s] else(0,e))
 |[],a,s=>by rw[aS];show _=if(0:Int)=0 then pk l a [s] else(0,0);rw[aj rfl]
 |t::ns,a,s=>by
  rw[bQ,pk,pk];split
  ·split;·rename_i id _;rw[Pr ns id s]
   ·simp
  ·simp
theorem Hf{l:List la}{ns:List kV}{id:Int}(a:ns≠[])(h:oQ l ns=(id,0)):∃d,oQ l ns.dropLast=(d,0)/\nM d=true/\oP l d (ns.getLast a)=some id:=by
 unfold oQ at*;rw[<-List.dropLast_concat_getLast a,Pr] at h;generalize pk l 0 ns.dropLast=y at*;obtain⟨d,e⟩:=y;simp only at h;split at h
 ·rename_i b;subst b;refine⟨d,rfl,?_⟩;simp only[pk] at h;split at h
  ·rename_i f;refine⟨f,?_⟩;cases c:oP l d (ns.getLast a) with
   |none=>rw[c] at h;simp at h
   |some i=>rw[c] at h;simp only[bE,fu] at h;rw[h]
  ·simp at h
 ·rename_i b;simp only[bE] at h;exact absurd h.2 b
structure q5(l:List la)(n:la):Prop where
 yX:∀m∈l,m.id<n.id/\m.lZ≠n.id
 id:(oO n.id).isSome=true
 DV:n.lZ≠n.id
 neg:n.lZ≠-1
 no:oP l n.lZ n.name=none
theorem q5.put{l:List la}{n:la}(h:q5 l n):qR l n=l++[n]:=by unfold qR;rw[du.2 (λm a=>aZ (h.yX m a).1),cT.2 (λm a=>by have:=(h.yX m a).1;simp;omega)]
theorem q5.Ps{l:List la}{n:la}(h:q5 l n)(hl:nb l):nb (l++[n]):=by rw[<-h.put];exact hl.put h.id
theorem Xw{m:Nm}{s:kV}(h:pR m s=none):m.any (λx=>x.1==s)=false:=by unfold pR at h;rw[fL,bK] at h;rw[fQ];exact h
theorem Xx{m:Nm}{k:kV}{n:la}(h:pR m k=none)(s:kV):pR (tq m k n) s=if s=k then some n else pR m s:=by
 unfold tq;rw[Xw h];simp only[aM,bH];unfold pR at*;rw[hY];split;·rename_i e;subst e;rw[fL] at h;rw[h];simp
 ·rename_i e;simp[fE e]
theorem q5.Pt{l:List la}{n:la}(h:q5 l n)(hl:nb l)(d:Int)(s:kV):oP (l++[n]) d s=if ow n.pg=true/\d=n.lZ/\s=n.name then some n.id else oP l d s:=by
 have g:=h.Ps hl;have b:=h.no;unfold oP at*;rw[aj (ud.2 g)];rw[aj (ud.2 hl)] at b⊢;unfold rI at*;rw[cm,bV];by_cases a:n.lZ=d
 ·subst a;by_cases c:ow n.pg=true
  ·simp only[gA,cE,cX,c,cc,jF,bU,iM,gS];have f:pR ((l.filter λm=>m.lZ==n.lZ&&ow m.pg).foldl po []) n.name=none:=by simpa using b
   have e:∀m:Nm,pR m n.name=none->po m n=tq m n.name n:=by intro m i;unfold po;rw[i]
   rw[e _ f,Xx f];split<;>simp
  ·simp only[cX,c,jQ,aM,bH,jF,iM,false_and]
 ·rw[ai (λj=>a j.2.1.symm)];simp[a]
theorem q5.Pu{l:List la}{n:la}(h:q5 l n)(hl:nb l)(x:Int):nr (l++[n]) x=if x=n.id then some n else nr l x:=by rw[<-h.put];exact hl.Pe h.id x
theorem q5.Xy{l:List la}{n:la}(h:q5 l n)(s:kV):oP (l++[n]) n.id s=none:=by
 cases c:oP (l++[n]) n.id s with
 |none=>rfl
 |some id=>
  obtain⟨m,a,_,b⟩:=Bx c;rcases aQ.1 a with a|a;·exact absurd b (h.yX m a).2
  ·rw[aE.1 a] at b;exact absurd b h.DV
theorem q5.nP{l:List la}{n:la}(h:q5 l n)(hl:nb l){d:Int}{s:kV}{id:Int}(a:oP l d s=some id):oP (l++[n]) d s=some id:=by rw[h.Pt hl,ai,a];rintro⟨_,rfl,rfl⟩;rw[h.no] at a;cases a
theorem q5.Pv{l:List la}{n:la}(h:q5 l n)(hl:nb l):∀(ns:List kV) (a id:Int),pk l a ns=(id,0)->pk (l++[n]) a ns=(id,0)
 |[],_,_,b=>b
 |s::ns,a,id,b=>by
  rw[pk] at*;split at b
  ·rename_i d;rw[aj d];cases c:oP l a s with
   |none=>rw[c] at b;simp at b
   |some k=>rw[c] at b;rw[h.nP hl c];exact h.Pv hl ns k id b
  ·simp at b
theorem q5.Pw{l:List la}{n:la}(h:q5 l n)(hl:nb l):∀(ns:List kV) (a id:Int),pk (l++[n]) a ns=(id,0)->pk l a ns=(id,0)\/id=n.id
 |[],_,_,b=>.inl b
 |s::ns,a,id,b=>by
  rw[pk] at*;split at b
  ·rename_i d;rw[aj d];cases c:oP (l++[n]) a s with
   |none=>rw[c] at b;simp at b
   |some k=>
    rw[c] at b;simp only at b;rw[h.Pt hl] at c;split at c
    ·(have e:n.id=k:=by simpa using c);subst e;cases ns with
     |nil=>simp only[pk,bE,fu] at b;exact .inr b.symm
     |cons t ns=>rw[pk,h.Xy] at b;split at b<;>simp at b
    ·rw[c];exact h.Pw hl ns k id b
  ·simp at b
theorem q5.DU{l:List la}{n:la}(h:q5 l n)(hl:nb l)(a:uu l){x:Int}(b:x≠n.id):oH (l++[n]) x=oH l x:=by unfold oH;rw[ak];have e:=Po (l:=l) (l':=l++[n]) (x0:=n.id) (λy c=>by rw[h.Pu hl,ai c]) (λm d=>(h.yX m d).2);rw[<-e _ _ b];obtain⟨r,f⟩:=a;exact J1 f _ _ (bG ..)
theorem q5.Xz{l:List la}{n:la}(h:q5 l n)(x:Int):n.id∉oH (l++[n]) x:=by
 have:∀(
  f:Nat) (x:Int),n.id∉qQ (l++[n]) f x:=by
  intro f;induction f with
  |zero=>intro x;simp[qQ]
  |succ f b=>
   intro x;rw[qQ];cases hf:nr (l++[n]) x with
   |none=>simp
   |some m=>(simp only;split;·simp);·(rw[aJ];rintro(e|e);·(rcases aQ.1 (ur hf).1 with a|a;·exact(h.yX m a).2 e.symm);·rw[aE.1 a] at e;exact h.DV e.symm);·exact b _ e
 exact this _ _
def pB(l:List la)(p:kV):Option Int:=match oy p with
 |none=>none
 |some ll=>if ll=[] then none else match oQ l ll.dropLast with
  |(dir,e)=>if e=0/\nM dir=true then some dir else none
theorem Fm(l:List la)(ds:List Int)(p:kV):u5 l ds p=match pB l p with
 |none=>ds
 |some d=>if d∈ds then ds else ds++[d]:=by
 unfold u5 pB;cases oy p with
 |none=>rfl
 |some ll=>
  simp only;split;·rfl
  ·generalize oQ l ll.dropLast=y;obtain⟨d,e⟩:=y;simp only;by_cases a:e=0
   ·cases b:nM d with
    |false=>simp[a]
    |true=>simp[a]
   ·simp[a]
theorem Px{l:List la}{p:kV}{d:Int}(h:pB l p=some d):nM d=true:=by
 unfold pB at h;split at h;·cases h
 ·split at h;·cases h
  ·split at h;split at h;·rename_i a;cases h;exact a.2
   ·cases h
theorem XA:nM 1=false:=by decide
def zN(l:List la)(c:mo):List Int:=(zp c).foldl (u5 l) []
def tx:Option Int->Option Int->List Int
 |none,none=>[]
 |some a,none=>[a]
 |none,some b=>[b]
 |some a,some b=>if b=a then[a] else[a,b]
theorem DW(l:List la)(c:mo):zN l c=if c.kind=5 then tx (pB l c.path) (pB l c.to) else if c.kind=6 then tx (pB l c.path) none else[]:=by
 unfold zN zp;split;·simp only[bU,iM,Fm];cases pB l c.path<;>cases pB l c.to<;>simp[tx]
 ·split;·simp only[bU,iM,Fm];cases pB l c.path<;>simp[tx]
  ·rfl
theorem zO(l:List la)(c:mo):ry l c=1::sZ l (zN l c):=rfl
theorem Fo(l:List la)(ds:List Int):(sZ l ds).Perm ds:=by
 unfold sZ;split
 ·split;·exact bX ..
  ·exact fW _
 ·exact fW _
theorem Py(a b:Option Int):(tx a b).Nodup:=by
 unfold tx;split<;>try simp
 split;·simp
 ·rename_i h;simp;exact λe=>h e.symm
theorem XB(l:List la)(c:mo):(zN l c).Nodup:=by
 rw[DW];split;·exact Py _ _
 ·split;·exact Py _ _
  ·exact jU
theorem Pz{a b:Option Int}{x:Int}(h:x∈tx a b):a=some x\/b=some x:=by
 unfold tx at h;split at h;·simp at h
 ·simp at h;exact .inl (by rw[h])
 ·simp at h;exact .inr (by rw[h])
 ·split at h;·simp at h;exact .inl (by rw[h])
  ·simp at h;rcases h with h|h
   ·exact .inl (by rw[h])
   ·exact .inr (by rw[h])
theorem XC{l:List la}{c:mo}{d:Int}(h:d∈zN l c):nM d=true:=by
 rw[DW] at h;split at h;·rcases Pz h with e|e<;>exact Px e
 ·split at h
  ·rcases Pz h with e|e;·exact Px e
   ·cases e
  ·simp at h
theorem J2(l:List la)(c:mo):(ry l c).Nodup:=by rw[zO,cU];refine⟨λh=>?_,(Fo l _).nodup_iff.2 (XB l c)⟩;have:=XC ((Fo l _).subset h);rw[XA] at this;cases this
theorem PA(a b:Option Int):(tx a b).length<=2:=by
 unfold tx;split<;>try simp
 split<;>simp
theorem J3(l:List la)(c:mo):(ry l c).length<=3:=by
 rw[zO,aG,(Fo l _).length_eq,DW];have:=PA (pB l c.path) (pB l c.to);have:=PA (pB l c.path) none;split;·omega
 ·split;·omega
  ·simp
theorem XD{l:List la}(hl:nb l)(g:uu l){a b x y:Int}(h:sZ l [a,b]=[x,y]):y∉oH l x:=by
 have i:∀u v:Int,u∈oH l v->v∈oH l u->False:=by intro u v j d;obtain⟨r,e⟩:=g;have:=Fl e _ _ _ j;have:=Fl e _ _ _ d;omega
 unfold sZ wi at h;rw[ud.2 hl] at h;simp only[cE] at h;split at h;·rename_i c;simp only[cH,fu] at h;obtain⟨rfl,rfl⟩:=h;simp only[aF,cJ,iC,eA] at c;exact c.1
 ·rename_i c;simp only[cH,fu] at h;obtain⟨rfl,rfl⟩:=h;intro f;refine c ?_;simp only[iC,f,iO,fT,Bool.and_true,cJ,eA];exact λd=>i _ _ d f
theorem q5.pB{l:List la}{n:la}(h:q5 l n)(hl:nb l)(p:kV):pB (l++[n]) p=Top.pB l p\/(Top.pB l p=none/\Top.pB (l++[n]) p=some n.id):=by
 unfold Top.pB;cases oy p with
 |none=>exact .inl rfl
 |some ll=>
  simp only;split;·exact .inl rfl
  ·cases hf:oQ l ll.dropLast with
   |mk d e=>
    simp only;by_cases a:e=0;·subst a;rw[show oQ (l++[n]) ll.dropLast=(d,0) from h.Pv hl _ _ _ hf];exact .inl rfl
    ·rw[ai (show¬(e=0/\nM d=true) from λb=>a b.1)];cases f:oQ (l++[n]) ll.dropLast with
     |mk g e'=>
      simp only;split
      ·rename_i b;obtain⟨rfl,i⟩:=b;rcases h.Pw hl _ _ _ f with c|c
       ·rw[show oQ l ll.dropLast=(g,0) from c] at hf;cases hf;exact absurd rfl a
       ·exact .inr ⟨trivial,by rw[c]⟩
      ·exact .inl rfl
theorem q5.ru{l:List la}{n:la}(h:q5 l n){p:kV}{d:Int}(a:Top.pB l p=some d):d≠n.id:=by
 unfold Top.pB at a;split at a;·cases a
 ·split at a;·cases a
  ·rename_i ll _ _;split at a;rename_i i e hf;split at a
   ·rename_i c;obtain⟨rfl,j⟩:=c;cases a;intro e;by_cases b:ll.dropLast=[];·rw[b] at hf;simp only[oQ,pk,bE,fu] at hf;subst hf;have:=h.id;rw[<-e] at this;exact absurd this Zd
    ·obtain⟨k,_,_,f⟩:=Hf b hf;obtain⟨m,g,o,_⟩:=Bx f;have:=(h.yX m g).1;omega
   ·cases a
theorem q5.Fp{l:List la}{n:la}(h:q5 l n)(hl:nb l)(s:uu l)(c:mo):ry l c<+:ry (l++[n]) c:=by
 rw[zO,zO,eT];refine⟨rfl,?_⟩;have t:=h.Ps hl;have A:∀{p:kV} {d:Int},Top.pB l p=some d->d<n.id\/d=0:=by
  intro p d f;unfold Top.pB at f;split at f;·cases f
  ·split at f;·cases f
   ·rename_i ll _ _;split at f;rename_i J e hf;split at f
    ·rename_i B;obtain⟨rfl,K⟩:=B;cases f;by_cases i:ll.dropLast=[];·rw[i] at hf;simp only[oQ,pk,bE,fu] at hf;exact .inr hf.symm
     ·obtain⟨L,_,_,C⟩:=Hf i hf;obtain⟨m,D,g,_⟩:=Bx C;have:=(h.yX m D).1;exact .inl Zo
    ·cases f
 have M:(0:Int)<n.id:=by
  have g:=Cx h.id;rcases Int.lt_or_eq_of_le g with j|j
  ·exact j
  ·have:=h.id;rw[<-j] at this;exact absurd this Zd
 have E:∀a b:Int,a≠n.id->b≠n.id->sZ l [a,b]=sZ (l++[n]) [a,b]:=by intro a b g j;unfold sZ wi;simp only[ud.2 hl,ud.2 t,h.DU hl s g,h.DU hl s j]
 have u:∀x,wi (l++[n]) n.id x=false:=by intro x;unfold wi;simp only[ud.2 t,cE,iC,eA];exact h.Xz x
 have F:∀a:Int,a<n.id->sZ (l++[n]) [a,n.id]=[a,n.id]:=by intro a g;unfold sZ;simp only[u];rw[ai];simp;intro _;omega
 have G:∀a:Int,a<n.id->sZ (l++[n]) [n.id,a]=[a,n.id]:=by intro a g;unfold sZ;simp only[u];rw[aj];simp;exact .inr g
 have v:∀d:Int,sZ l [d]=[d]:=λ_=>rfl;have N:∀d:Int,sZ (l++[n]) [d]=[d]:=λ_=>rfl;have w:∀p q:kV,sZ l (tx (Top.pB l p) (Top.pB l q))<+:sZ (l++[n]) (tx (Top.pB (l++[n]) p) (Top.pB (l++[n]) q)):=by
  intro p q;have y:∀{p:kV} {d:Int},Top.pB l p=some d->d<n.id:=by
   intro p d f;rcases A f with g|g
   ·exact g
   ·omega
  have i:∀{p:kV} {d:Int},Top.pB l p=some d->d≠n.id:=λf=>h.ru f;rcases h.pB hl p with k|⟨k,H⟩<;>rcases h.pB hl q with o|⟨o,I⟩
  ·rw[k,o];cases hp:Top.pB l p<;>cases r:Top.pB l q<;>simp only[tx];·exact fv _
   ·exact fv _
   ·exact fv _
   ·split;·exact fv _
    ·rw[E _ _ (i hp) (i r)];exact fv _
  ·rw[k,o,I];cases hp:Top.pB l p with
   |none=>simp only[tx];exact fH
   |some a=>simp only[tx];rw[ai (fE (i hp)),F a (y hp),v];exact⟨[n.id],rfl⟩
  ·rw[k,H,o];cases r:Top.pB l q with
   |none=>simp only[tx];exact fH
   |some b=>simp only[tx];rw[ai (i r),G b (y r),v];exact⟨[n.id],rfl⟩
  ·rw[k,o];simp only[tx];exact fH
 rw[DW,DW];split;·exact w _ _
 ·split;·have z:=w c.path [];rw[show Top.pB l []=none from rfl,show Top.pB (l++[n]) []=none from rfl] at z;exact z
  ·exact fv _
end Top
end Go.Proofs.YtkbifmngmocjnaaGreatDoor
