/- Proved here, packed: what the parts Mod Stamp Vlq Vtake Sums prove (rules of the walk, contracts of functions, plain laws). Conditions: in each statement. -/
import Derived.Test.YtkbifmngmocjnaaGreatDoorPAD
namespace Go.Proofs.YtkbifmngmocjnaaGreatDoor
set_option maxRecDepth 100000
set_option maxHeartbeats 8000000
set_option linter.all false
namespace Top
structure mN where
 c:Int
 r:Int
deriving DecidableEq,Inhabited
def mN.z:mN:=⟨0,0⟩
def ow(s:mN):Bool:=decide (1<=s.c)&&decide (s.c<=1048576)&&decide (0<=s.r)&&decide (s.r<=63)
def xO(a b:mN):Bool:=if a=b then false else if a.c≠b.c then decide (a.c<b.c) else decide (a.r<b.r)
def xn(seen mC:Int):Option mN:=if seen<0\/seen>=1048576 then none else if ow ⟨seen+1,mC⟩ then some ⟨seen+1,mC⟩ else none
def tj(seen:Int)(s:mN):Int:=if ow s then max seen s.c else seen
def rb(seen:Int)(l:List mN):Int:=l.foldl tj seen
def yH(s:mN)(file:Bool):Int:=if ow s then 128*s.c+2*s.r+(if file then 1 else 0) else -1
def oO(id:Int):Option (mN×Bool):=if id<0 then none else if ow ⟨id.tdiv 128,(id.tmod 128).tdiv 2⟩ then some (⟨id.tdiv 128,(id.tmod 128).tdiv 2⟩,id.tmod 2==1) else none
def nM(id:Int):Bool:=if id=0\/id=2 then true else match oO id with
 |some (_,f)=>!f
 |none=>false
def vZ:Nat->Nat->Nat
 |0,_=>1
 |f+1,n=>if n>127 then vZ f (n/128)+1 else 1
def v7(n:Nat):Nat:=vZ 10 n
def v8(n size i:Nat):UInt8:=UInt8.ofNat (n/128^ (size-1-i)%128+if i<size-1 then 128 else 0)
def rY(n:Nat):kV:=(List.range (v7 n)).map (v8 n (v7 n))
def pI(b:kV):List Int->Option kV
 |[]=>some b
 |n::r=>if n<0 then none else pI (b++rY n.toNat) r
def wc:kV->Nat->Nat->Option (Nat×kV)
 |[],_,_=>none
 |d::b,i,n=>
  if(i=0/\d.toNat=128)\/n>72057594037927935 then none
  else if d.toNat<128 then some (n*128+d.toNat,b)
  else wc b (i+1) (n*128+d.toNat%128)
def pY(b:kV):Option (Nat×kV):=wc b 0 0
def pJ(b t:kV):kV:=b++rY t.length++t
def sq(b:kV):Option (kV×kV):=match pY b with
 |none=>none
 |some (n,rest)=>if n>rest.length then none else some (rest.take n,rest.drop n)
def wQ(n:Nat):Nat:=(n*2%4294967296)^^^(if n>=2147483648 then 0x04c11db7 else 0)
def yI(n:Nat)(c:UInt8):Nat:=let m:=n^^^(c.toNat*16777216);wQ (wQ (wQ (wQ (wQ (wQ (wQ (wQ m)))))))
def C6(s:kV):Nat:=s.foldl yI 0xffffffff
def zj(n:Nat):kV:=[UInt8.ofNat (n/16777216),UInt8.ofNat (n/65536%256),UInt8.ofNat (n/256%256),UInt8.ofNat (n%256)]
def zk(s:kV):kV:=s++zj (C6 s)
def Ba(s:kV):Option kV:=if s.length<4 then none else if zj (C6 (s.take (s.length-4)))=s.drop (s.length-4) then some (s.take (s.length-4)) else none
structure lQ where
 tm:mN
 kind:Int
 node:Int
 lZ:Int
 name:kV
 data:kV
deriving DecidableEq,Inhabited
def lQ.z:lQ:=⟨mN.z,0,0,0,[],[]⟩
def uX(a:mN)(id:Int):Bool:=match oO id with
 |some (s,_)=>xO a s
 |none=>false
def wR:Nat:=65533
def Bb(c:Nat):Bool:=decide (c<55296)||(decide (57344<=c)&&decide (c<=1114111))
def sM(l:kV):Nat×Nat:=
 let b (k:Nat):Nat:=(l.getD k 0).toNat;let a (k:Nat):Bool:=decide (k<l.length)&&b k/64==2
 if b 0<128 then(b 0,1)
 else if b 0/32==6&&a 1 then(if(b 0%32)*64+b 1%64>=128 then((b 0%32)*64+b 1%64,2) else(wR,1))
 else if b 0/16==14&&a 1&&a 2 then(if(b 0%16)*4096+(b 1%64)*64+b 2%64>=2048&&Bb ((b 0%16)*4096+(b 1%64)*64+b 2%64) then((b 0%16)*4096+(b 1%64)*64+b 2%64,3) else(wR,1))
 else if b 0/8==30&&a 1&&a 2&&a 3 then(if(b 0%8)*262144+(b 1%64)*4096+(b 2%64)*64+b 3%64>=65536&&Bb ((b 0%8)*262144+(b 1%64)*4096+(b 2%64)*64+b 3%64) then((b 0%8)*262144+(b 1%64)*4096+(b 2%64)*64+b 3%64,4) else(wR,1))
 else(wR,1)
def vE:Nat->kV->Option (List Nat)
 |0,_=>some []
 |f+1,l=>if l=[] then some [] else
  let(c,w):=sM l
  if c≠wR\/[239,191,189].isPrefixOf l then(vE f (l.drop w)).map (c::·) else none
def tk(l:kV):Option (List Nat):=vE l.length l
def vF(l:kV):List Nat:=match tk l with
 |some r=>r
 |none=>l.map λb=>1114112+b.toNat
def C7(r:Nat):Bool:=decide (r<32)||r==47||r==127
def wS(s:kV):Bool:=match tk s with
 |none=>false
 |some r=>decide (1<=r.length)&&decide (r.length<=20)&&!(s==[46])&&!(s==[46,46])&&!(r.any C7)
def qv:List Nat->List Nat->Int
 |[],[]=>0
 |[],_::_=>-1
 |_::_,[]=>1
 |a::l,b::m=>if a<b then -1 else if b<a then 1 else qv l m
def re(a b:kV):Bool:=decide (qv (vF a) (vF b)<0)
def Bc(l:List kV):Bool:=decide (l.length<=16)&&l.all wS
def qf:kV->List kV
 |[]=>[[]]
 |c::l=>match qf l with
  |[]=>[[c]]
  |p::r=>if c=47 then[]::p::r else(c::p)::r
def oy(p:kV):Option (List kV):=if p=[47] then some [] else match p with
 |47::rest=>if Bc (qf rest) then some (qf rest) else none
 |_=>none
def nj(o:lQ):Bool:=
 if o.kind=1 then ow o.tm&&!(uX o.tm o.node)&&((oO o.node).isSome&&nM o.lZ&&!(uX o.tm o.lZ)&&wS o.name&&o.data==[])
 else if o.kind=2 then ow o.tm&&!(uX o.tm o.node)&&(match oO o.node with
  |some (_,f)=>f&&decide (o.data.length<=64)&&o.lZ==0&&o.name==[]
  |none=>false)
 else false
def Bd(b:kV)(o:lQ):kV:=if o.kind=1 then pJ ((pI b [o.lZ]).getD []) o.name else pJ b o.data
def vG(b:kV)(o:lQ):Option kV:=if nj o then some (Bd ((pI b [o.tm.c,o.tm.r,o.kind,o.node]).getD []) o) else none
def sY:Nat->kV->Option (List Nat×kV)
 |0,b=>some ([],b)
 |k+1,b=>match pY b with
  |none=>none
  |some (n,r)=>(sY k r).map λx=>(n::x.1,x.2)
def uG(b:kV):Option (lQ×kV):=match sY 4 b with
 |some ([c,r,k,n],rest)=>
  if k=1 then match sY 1 rest with
   |some ([p],d)=>match sq d with
    |some (t,a)=>if nj ⟨⟨c,r⟩,k,n,p,t,[]⟩ then some (⟨⟨c,r⟩,k,n,p,t,[]⟩,a) else none
    |none=>none
   |_=>none
  else match sq rest with
   |some (t,a)=>if nj ⟨⟨c,r⟩,k,n,0,[],t⟩ then some (⟨⟨c,r⟩,k,n,0,[],t⟩,a) else none
   |none=>none
 |_=>none
def tp:List lQ->Option kV
 |[]=>some []
 |o::l=>match vG [] o with
  |none=>none
  |some s=>(tp l).map (s++·)
def sr:Nat->kV->Option (List lQ)
 |0,b=>if b=[] then some [] else none
 |f+1,b=>if b=[] then some [] else match uG b with
  |none=>none
  |some (o,r)=>(sr f r).map (o::·)
def qI(b:kV):Option (List lQ):=sr b.length b
structure la where
 id:Int
 lZ:Int
 name:kV
 pg:mN
 data:kV
 xP:mN
deriving DecidableEq,Inhabited
def la.z:la:=⟨0,0,[],mN.z,[],mN.z⟩
structure tL where
 EI:Bool
 C8:Bool
 my:la
deriving DecidableEq,Inhabited
def tL.z:tL:=⟨false,false,la.z⟩
def rZ:List la->Bool
 |[]=>true
 |[n]=>(oO n.id).isSome
 |n::m::l=>(oO n.id).isSome&&decide (n.id<m.id)&&rZ (m::l)
def m8(l:List la)(id:Int):Nat:=l.countP λn=>decide (n.id<id)
def nr(l:List la)(id:Int):Option la:=l.find? λn=>n.id==id
def qQ(l:List la):Nat->Int->List Int
 |0,_=>[]
 |f+1,id=>match nr l id with
  |none=>[]
  |some n=>if n.lZ=-1 then[] else n.lZ::qQ l f n.lZ
def oH(l:List la)(id:Int):List Int:=qQ l l.length id
def qR(l:List la)(n:la):List la:=(l.filter λm=>decide (m.id<n.id))++n::l.filter λm=>decide (n.id<m.id)
def BT(l:List la)(id:Int):List la:=l.filter λm=>!(m.id==id)
def oZ(l:List la)(o:lQ):List la×tL:=
 if !(rZ l)||!(nj o) then(l,tL.z)
 else if o.kind=1/\(o.lZ=o.node\/o.node∈oH l o.lZ) then(l,tL.z)
 else
  let ru:=nr l o.node;let n:=ru.getD ⟨o.node,-1,[],mN.z,[],mN.z⟩;let a:la:=if o.kind=1 then{n with lZ:=o.lZ,name:=o.name,pg:=o.tm} else{n with data:=o.data,xP:=o.tm}
  (qR l a,⟨true,ru.isSome,ru.getD la.z⟩)
def wT(l:List la)(o:lQ)(u:tL):List la:=
 if !(rZ l)||!u.EI then l
 else if(oO o.node).isSome&&u.C8&&u.my.id==o.node then qR l u.my else BT l o.node
structure rg where
 op:lQ
 t7:tL
deriving DecidableEq,Inhabited
structure Lg where
 es:List rg
 ns:List la
deriving DecidableEq,Inhabited
def vH(g:Lg)(s:mN):Bool:=g.es.any λe=>e.op.tm==s
def rH(o:lQ):List rg->List la->List rg×List la
 |[],ns=>([],ns)
 |e::r,ns=>if xO o.tm e.op.tm then rH o r (wT ns e.op e.t7) else(e::r,ns)
def qS(g:Lg)(o:lQ):Lg:=let(ns,u):=oZ g.ns o;⟨g.es++[⟨o,u⟩],ns⟩
def oM(g:Lg)(o:lQ):Lg×Int:=
 if !(nj o) then(g,50)
 else if vH g o.tm then(g,0)
 else if g.es.length>=200 then(g,193)
 else
  let(r,ns):=rH o g.es.reverse g.ns
  (((g.es.drop r.length).map (·.op)).foldl qS (qS ⟨r.reverse,ns⟩ o),0)
def uH(g:Lg)(l:List lQ):Lg:=l.foldl (λg o=>(oM g o).1) g
structure oI where
 path:kV
 id:Int
 data:kV
deriving DecidableEq,Inhabited
abbrev Nm:=List (kV×la)
def pR(m:Nm)(s:kV):Option la:=(m.find? λx=>x.1==s).map (·.2)
def tq(m:Nm)(s:kV)(n:la):Nm:=if m.any (λx=>x.1==s) then m.map (λx=>if x.1==s then(s,n) else x) else m++[(s,n)]
def po(m:Nm)(n:la):Nm:=match pR m n.name with
 |none=>tq m n.name n
 |some ru=>if xO n.pg ru.pg then m else tq m n.name n
def rI(l:List la)(dir:Int):Nm:=(l.filter λn=>n.lZ==dir&&ow n.pg).foldl po []
def BU(s:kV):List kV->List kV
 |[]=>[s]
 |t::l=>if re s t then s::t::l else t::BU s l
def rising(l:List kV):List kV:=l.foldr BU []
def oP(l:List la)(dir:Int)(s:kV):Option Int:=if rZ l then(pR (rI l dir) s).map (·.id) else none
def Ae(l:List la)(dir:Int):List kV:=if rZ l then rising ((rI l dir).map (·.1)) else[]
def pk(l:List la):Int->List kV->Int×Int
 |a,[]=>(a,0)
 |a,s::r=>if nM a then(match oP l a s with
  |some id=>pk l id r
  |none=>(0,80)) else(0,81)
def oQ(l:List la)(ll:List kV):Int×Int:=pk l 0 ll
def r5(l:List la)(out:List Int):Nat->Int->kV->List oI
 |0,_,_=>[]
 |f+1,dir,path=>
  let m:=(rI l dir).filter λx=>!(out.contains x.2.id)
  (rising (m.map (·.1))).flatMap λs=>match pR m s with
   |none=>[]
   |some n=>⟨path++47::s,n.id,n.data⟩::(if nM n.id then r5 l out f n.id (path++47::s) else[])
def sN(l:List la)(dir:Int):List oI:=if rZ l then r5 l (dir::oH l dir) (l.length+1) dir [] else[]
structure nk where
 kind:Int
 path:kV
deriving DecidableEq,Inhabited
def wU(l:List oI)(p:kV):Option oI:=l.reverse.find? λt=>t.path==p
def ph(a:List oI)(t:oI):Bool:=match wU a t.path with
 |none=>true
 |some n=>n.id != t.id
def uY(my:List oI)(t:oI):Bool:=match wU my t.path with
 |none=>false
 |some n=>n.id==t.id&&n.data != t.data
def ss(a b:List la)(dir:Int):List nk:=
 let my:=sN a dir;let c:=sN b dir
 (my.reverse.filter (ph c)).map (λt=>⟨1,t.path⟩)++(c.filter (ph my)).map (λt=>⟨2,t.path⟩)++(c.filter (uY my)).map (λt=>⟨3,t.path⟩)
abbrev xp:=List nk×Bool
def rJ(q:xp)(l:List nk):xp:=if q.2 then q else if 8-q.1.length<l.length then(q.1++l.take (8-q.1.length)++[⟨9,[]⟩],true) else(q.1++l,false)
structure mo where
 kind:Int
 path:kV
 to:kV
 data:kV
 n:Int
deriving DecidableEq,Inhabited
def BV(k:Int):Option (Bool×Bool×Bool×Bool):=
 if k=1\/k=2\/k=6\/k=10 then some (true,false,false,false)
 else if k=3 then some (true,false,true,false)
 else if k=4\/k=7 then some (true,false,false,true)
 else if k=5 then some (true,true,false,false)
 else if k=9\/k=11 then some (false,false,false,true)
 else if k=13 then some (false,false,true,false)
 else if k=8\/k=12 then some (false,false,false,false)
 else none
def uZ(c:mo):Bool:=match BV c.kind with
 |none=>false
 |some (p,t,d,n)=>(if p then(oy c.path).isSome else c.path==[])&&(if t then(oy c.to).isSome else c.to==[])&&
  (if d then decide (c.data.length<=if c.kind=13 then 4000 else 64) else c.data==[])&&(if n then decide (0<=c.n) else c.n==0)
structure lU where
 err:Int
 data:kV
 ll:List kV
 n:Int
 l9:List nk
deriving DecidableEq,Inhabited
def lU.z:lU:=⟨0,[],[],0,[]⟩
structure zm where
 n:Int
 dir:Int
 q:xp
deriving DecidableEq,Inhabited
structure mQ where
 kP:Lg
 seen:Int
 mC:Int
 l3:List (Int×List la)
 lN:List zm
 next:Int
deriving DecidableEq,Inhabited
def r6(r:Int):mQ:=⟨⟨[],[]⟩,0,r,[],[],1⟩
def o5(l:List la)(p:kV):Int×Int:=match oy p with
 |none=>(0,10)
 |some ll=>oQ l ll
def rv(l:List la)(p:kV):Int×kV×Int:=match oy p with
 |none=>(0,[],10)
 |some ll=>if ll=[] then(0,[],194) else match oQ l ll.dropLast with
  |(dir,e)=>if e≠0 then(0,[],e) else if nM dir then(dir,ll.getLast?.getD [],0) else(0,[],81)
def su(m:mQ):mN×Int:=match xn m.seen m.mC with
 |none=>(mN.z,20)
 |some s=>if m.kP.es.length>=200 then(mN.z,193) else(s,0)
abbrev sw:=mQ×lU×List lQ
def qU(m:mQ)(o:lQ):mQ×Int:=match oM m.kP o with
 |(g,e)=>if e≠0 then(m,e) else({m with kP:=g},0)
def rh(m:mQ)(o:lQ):(mQ×List lQ)×Int:=match su m with
 |(s,e)=>if e≠0 then((m,[]),e) else match qU m {o with tm:=s} with
  |(a,e')=>if e'≠0 then((m,[]),e') else(({a with seen:=s.c},[{o with tm:=s}]),0)
def yJ(m:mQ)(h:Int):Option (List la):=if h=0 then some m.kP.ns else(m.l3.find? λs=>s.1==h).map (·.2)
def nJ(m:mQ)(e:Int):sw×Int:=((m,lU.z,[]),e)
def tt(x:(mQ×List lQ)×Int):sw×Int:=((x.1.1,lU.z,x.1.2),x.2)
def Af(m:mQ)(c:mo):sw×Int:=
 if c.path=[47] then nJ m 194 else match rv m.kP.ns c.path with
 |(dir,a,e)=>if e≠0 then nJ m e else if(oP m.kP.ns dir a).isSome then nJ m 190 else match su m with
  |(s,e)=>if e≠0 then nJ m e else tt (rh m ⟨mN.z,1,yH s (c.kind==1),dir,a,[]⟩)
def Be(m:mQ)(c:mo):sw×Int:=match o5 m.kP.ns c.path with
 |(id,e)=>if e≠0 then nJ m e else if nM id then nJ m 82 else tt (rh m ⟨mN.z,2,id,0,[],c.data⟩)
def BW(m:mQ)(c:mo):sw×Int:=match yJ m c.n with
 |none=>nJ m 191
 |some l=>match o5 l c.path with
  |(id,e)=>if e≠0 then nJ m e else if nM id then nJ m 82 else((m,{lU.z with data:=if rZ l then((nr l id).getD la.z).data else[]},[]),0)
def BX(m:mQ)(c:mo):sw×Int:=match yJ m c.n with
 |none=>nJ m 191
 |some l=>match o5 l c.path with
  |(id,e)=>if e≠0 then nJ m e else if nM id then((m,{lU.z with ll:=Ae l id},[]),0) else nJ m 81
def Bf(m:mQ)(c:mo):sw×Int:=
 if c.path=[47]\/c.to=[47] then nJ m 194 else match o5 m.kP.ns c.path with
 |(id,e)=>if e≠0 then nJ m e else match rv m.kP.ns c.to with
  |(dir,a,e)=>if e≠0 then nJ m e else if(oP m.kP.ns dir a).isSome then nJ m 190
   else if dir=id\/(rZ m.kP.ns=true/\id∈oH m.kP.ns dir) then nJ m 192 else tt (rh m ⟨mN.z,1,id,dir,a,[]⟩)
def Bg(m:mQ)(c:mo):sw×Int:=
 if c.path=[47] then nJ m 194 else match o5 m.kP.ns c.path with
 |(id,e)=>if e≠0 then nJ m e else match oy c.path with
  |none=>nJ m 194
  |some ll=>if ll=[] then nJ m 194 else tt (rh m ⟨mN.z,1,id,2,ll.getLast?.getD [],[]⟩)
def BY(m:mQ):sw×Int:=if m.l3.length>=8 then nJ m 193 else(({m with l3:=m.l3++[(m.next,m.kP.ns)],next:=m.next+1},{lU.z with n:=m.next},[]),0)
def C9(m:mQ)(c:mo):sw×Int:=
 if !(m.l3.any λs=>s.1==c.n)&&!(m.lN.any λw=>w.n==c.n) then nJ m 191
 else(({m with l3:=m.l3.filter λs=>!(s.1==c.n),lN:=m.lN.filter λw=>!(w.n==c.n)},lU.z,[]),0)
def BZ(m:mQ)(c:mo):sw×Int:=match o5 m.kP.ns c.path with
 |(id,e)=>if e≠0 then nJ m e else if !(nM id) then nJ m 81 else if m.lN.length>=8 then nJ m 193
  else(({m with lN:=m.lN++[⟨m.next,id,([],false)⟩],next:=m.next+1},{lU.z with n:=m.next},[]),0)
def Bh(m:mQ)(c:mo):sw×Int:=match m.lN.findIdx? λw=>w.n==c.n with
 |none=>nJ m 191
 |some i=>(({m with lN:=m.lN.modify i λw=>{w with q:=([],w.q.2)}},{lU.z with l9:=((m.lN[i]?).map λw=>w.q.1).getD []},[]),0)
def rx(g:Lg)(f:List lQ)(o:lQ):List lQ:=if !(vH g o.tm)&&!(f.any λx=>x.tm==o.tm) then f++[o] else f
def uI:mQ->List lQ->mQ×Int
 |m,[]=>(m,0)
 |m,o::l=>match qU m o with
  |(a,e)=>if e≠0 then(a,e) else uI a l
def Ag(m:mQ)(c:mo):sw×Int:=match qI c.data with
 |none=>nJ m 50
 |some l=>
  let fresh:=l.foldl (rx m.kP) []
  if m.kP.es.length+fresh.length>200 then nJ m 193 else match uI m fresh with
  |(a,e)=>if e≠0 then nJ m e else(({a with seen:=rb m.seen (l.map (·.tm))},{lU.z with n:=fresh.length},fresh),0)
def pS(m:mQ)(c:mo):sw×Int:=
 if c.kind=1\/c.kind=2 then Af m c else if c.kind=3 then Be m c else if c.kind=4 then BW m c else if c.kind=5 then Bf m c
 else if c.kind=6 then Bg m c else if c.kind=7 then BX m c else if c.kind=8 then BY m else if c.kind=9 then C9 m c
 else if c.kind=10 then BZ m c else if c.kind=11 then Bh m c else if c.kind=12 then((m,lU.z,[]),0) else Ag m c
def Ah(my:List la)(m:mQ):mQ:={m with lN:=m.lN.map λw=>{w with q:=rJ w.q (ss my m.kP.ns w.dir)}}
def py(m:mQ)(c:mo):sw:=
 if !(uZ c) then(m,{lU.z with err:=180},[]) else match pS m c with
 |((b,a,Z),e)=>if e≠0 then(m,{lU.z with err:=e},[]) else if Z=[] then(b,a,Z) else(Ah m.kP.ns b,a,Z)
def xQ(m:mQ)(l:List lQ):mQ:={m with kP:=uH m.kP l,seen:=(l.filter nj).foldl (λs o=>tj s o.tm) m.seen}
structure lr where
 call:mo
 lA:List Int
 pos:Int
 done:Bool
 mS:Bool
 mV:Int
 IB:Int
 mark:Int
 mK:Int
 lM:lU
deriving DecidableEq,Inhabited
inductive Way where
 |U (ll:List kV)
 |pT
 |plain
deriving DecidableEq,Inhabited
def nf(c:mo):Way:=
 if(c.kind=4\/c.kind=7)/\c.n≠0 then .plain
 else if c.kind=1\/c.kind=2\/c.kind=3\/c.kind=4\/c.kind=7\/c.kind=10 then match oy c.path with
  |none=>.U []
  |some ll=>.U (if c.kind=7\/c.kind=10 then ll else ll.dropLast)
 else if c.kind=5\/c.kind=6\/c.kind=13 then .pT
 else .plain
def qi(c:mo):Bool:=match nf c with
 |.U _=>true
 |_=>false
def zp(c:mo):List kV:=if c.kind=5 then[c.path,c.to] else if c.kind=6 then[c.path] else[]
def u5(l:List la)(a:List Int)(p:kV):List Int:=match oy p with
 |none=>a
 |some ll=>if ll=[] then a else match oQ l ll.dropLast with
  |(dir,e)=>if e≠0\/nM dir=false\/dir∈a then a else a++[dir]
def wi(l:List la)(a b:Int):Bool:=rZ l&&(oH l b).contains a
def sZ(l:List la):List Int->List Int
 |[a,b]=>if !(wi l a b)&&(wi l b a||decide (b<a)) then[b,a] else[a,b]
 |d=>d
def ry(l:List la)(c:mo):List Int:=1::sZ l ((zp c).foldl (u5 l) [])
def pZ(l:List la)(t:lr):Int×Int:=
 if t.mS then(0,0)
 else if t.done/\t.lA≠[] then(2,t.lA.headD 0)
 else if t.done/\t.call.kind=12 then(4,0)
 else if t.done then(5,0)
 else match nf t.call with
  |.plain=>(3,0)
  |.pT=>match(ry l t.call).find? λk=>!(t.lA.contains k) with
   |some k=>(1,k)
   |none=>(3,0)
  |.U ll=>
   match t.lA with
   |[]=>(1,0)
   |oL::_::_=>(2,oL)
   |[oL]=>
    let next:=if 0<=t.pos/\t.pos<ll.length then(oP l oL (ll.getD t.pos.toNat [])).bind (λid=>if nM id then some id else none) else none
    match next with
    |some id=>(1,id)
    |none=>match oQ l ll with
     |(id,e)=>if e=0/\nM id=true/\id≠oL then(2,oL) else(3,0)
def mO(t:lr)(u:Int×Int):lr:=
 if u.1=1 then{t with lA:=t.lA++[u.2],pos:=if t.lA.length=1/\qi t.call=true then t.pos+1 else t.pos}
 else if u.1=2 then
  let lA:=t.lA.filter λk=>!(k==u.2)
  {t with lA:=lA,pos:=if lA=[]/\t.done=false/\qi t.call=true then 0 else t.pos}
 else if u.1=3 then{t with done:=true}
 else if u.1=5 then{t with mS:=true}
 else t
def pD(t:lr):lr:={t with lA:=[],pos:=0}
abbrev nt:=List (Int×Int)×List (Int×Int)
def Ai(t:nt)(nU:Int):Option Int:=(t.1.find? λh=>h.1==nU).map (·.2)
def pl(t:nt)(a:Int):Option Int:=(t.2.find? λh=>h.2==a).map (·.1)
def qV(t:nt)(a nU:Int):nt×Bool:=match Ai t nU with
 |some h=>if h=a then(t,true) else((t.1,if t.2.any (λw=>w==(nU,a)) then t.2 else t.2++[(nU,a)]),false)
 |none=>((t.1++[(nU,a)],t.2),true)
def pw(t:nt)(a nU:Int):nt×Option Int:=
 if(nU,a)∈t.1 then
  match t.2.find? λw=>w.1==nU with
  |none=>((t.1.erase (nU,a),t.2),none)
  |some w=>((t.1.erase (nU,a)++[w],t.2.eraseP λx=>x.1==nU),some w.2)
 else(t,none)
def vI(a:Int)(s:nt×List (Int×Int))(h:Int×Int):nt×List (Int×Int):=
 if h.2=a then match pw s.1 a h.1 with
  |(t,some n)=>(t,s.2++[(h.1,n)])
  |(t,none)=>(t,s.2)
 else s
def u6(t:nt)(a:Int):nt×List (Int×Int):=t.1.foldl (vI a) ((t.1,t.2.filter λw=>!(w.2==a)),[])
abbrev wj:=Int×List (Int×Int)
def oU(g:wj)(a:Int):Bool:=g.2.any λw=>w.1==a
def wk(g:wj)(a mV:Int):wj×Bool:=
 if mV<=g.1 then(g,true)
 else match g.2.findIdx? λw=>w.1==a with
  |none=>((g.1,g.2++[(a,mV)]),false)
  |some i=>((g.1,g.2.modify i λw=>(w.1,max w.2 mV)),false)
def wm(g:wj)(mD:Int):wj×List Int:=((max g.1 mD,g.2.filter λw=>!(decide (w.2<=max g.1 mD))),(g.2.filter λw=>decide (w.2<=max g.1 mD)).map (·.1))
structure lD where
 kR:mQ
 kW:nt
 k6:wj
 kK:List lr
 lp:Int
 Z:List lQ
deriving DecidableEq,Inhabited
def n4(r:Int):lD:=⟨r6 r,([],[]),(0,[]),[],0,[]⟩
def rz(c:mo)(lp:Int):lr:=⟨c,[],0,false,false,0,lp,0,0,lU.z⟩
def rA(x:lD)(c:mo):Option (lD×Int):=if x.kK.length>=40 then none else some ({x with lp:=x.lp+1,kK:=x.kK++[rz c (x.lp+1)]},x.kK.length)
def uJ(x:lD)(n:Nat):Bool:=match x.kK[n]? with
 |none=>false
 |some t=>!t.mS&&(pl x.kW n).isNone&&(!(oU x.k6 n)||(match x.k6.2 with
  |[]=>false
  |w::_=>w.1==(n:Int)))
def pa(x:lD):List Nat:=(List.range x.kK.length).filter (uJ x)
def B9(p n:Int):Int:=(p.tmod n+n).tmod n
def tM(x:lD)(p:Int):Option (Nat×Bool):=if pa x=[] then none else some ((pa x).getD (B9 p (pa x).length).toNat 0,oU x.k6 ((pa x).getD (B9 p (pa x).length).toNat 0:Nat))
def r8(l:List lr)(n:Int)(f:lr->lr):List lr:=if 0<=n then l.modify n.toNat f else l
def ri(s:lD)(h:Int×Int):lD:={s with kK:=r8 s.kK h.2 λt=>mO t (1,h.1)}
def pE(s:lD)(n:Int):lD:={s with kK:=r8 s.kK n λt=>{t with mS:=true,mK:=s.lp}}
def ob(s:lD)(kU:Nat)(ng:Bool):lD:=
 if ng then pE {s with k6:=(s.k6.1,s.k6.2.filter λw=>!(w.1==(kU:Int))),kK:=s.kK.modify kU λt=>{t with lM:={lU.z with err:=120}}} kU
 else match wm s.k6 s.Z.length with
  |(g,gone)=>gone.foldl pE {s with k6:=g}
def Ak(s:lD)(kU n:Nat):Bool:=n != kU&&(match s.kK[n]? with
 |some t=>qi t.call&&!t.done
 |none=>false)
def rB(kU:Nat)(s:lD)(n:Nat):lD:=
 if Ak s kU n then match u6 s.kW n with
  |(t,a)=>a.foldl ri {s with kW:=t,kK:=s.kK.modify n pD}
 else s
def qJ(s:lD)(kU:Nat)(u:Int×Int):lD:=match s.kK[kU]? with
 |none=>s
 |some t=>match py s.kR t.call with
  |(m,a,Z)=>
   let b:lD:={s with kR:=m,Z:=s.Z++Z,kK:=s.kK.modify kU λt=>mO {t with lM:=a,mark:=s.lp,mV:=(s.Z++Z).length} u}
   if t.call.kind=13/\a.err=0 then(List.range s.kK.length).foldl (rB kU) b else b
def pz(s:lD)(kU:Nat)(u:Int×Int):lD:=
 if u.1=1 then match qV s.kW kU u.2 with
  |(t,lA)=>{s with kW:=t,kK:=if lA then s.kK.modify kU λt=>mO t u else s.kK}
 else if u.1=2 then match pw s.kW kU u.2 with
  |(t,next)=>
   let a:lD:={s with kW:=t,kK:=s.kK.modify kU λt=>mO t u};match next with
   |some n=>ri a (u.2,n)
   |none=>a
 else if u.1=3 then qJ s kU u
 else if u.1=4 then match wk s.k6 kU ((s.kK[kU]?).map (·.mV)|>.getD 0) with
  |(g,mD)=>if mD then pE {s with k6:=g} kU else{s with k6:=g}
 else if u.1=5 then{s with kK:=s.kK.modify kU λt=>{mO t u with mK:=s.lp}}
 else s
def nm(x:lD)(p:Int)(ng:Bool):lD:=match tM x p with
 |none=>x
 |some (kU,waits)=>
  let s:lD:={x with lp:=x.lp+1}
  if waits then ob s kU ng else match s.kK[kU]? with
   |none=>s
   |some t=>pz s kU (pZ s.kR.kP.ns t)
def tN(x:lD):Bool:=x.kK.all (·.mS)
structure Dk where
 size:Nat
 pU:kV
 ld:List (Nat×kV)
deriving DecidableEq,Inhabited
def nO(s:kV):Nat:=(s.length+15)/16
def oV(n:Nat):kV:=List.replicate n 0
def F9:Nat->kV->List kV
 |0,_=>[]
 |k+1,s=>(s.take 16++oV (16-(s.take 16).length))::F9 k (s.drop 16)
def cut(s:kV):List kV:=F9 (nO s) s
def r9(l:kV)(k:Nat)(p:kV):kV:=l.take k++p.take (l.length-k)++l.drop (k+p.length)
def Al(d:Dk)(pos n:Nat):kV:=d.ld.foldl (λo p=>if pos<=p.1/\p.1<pos+n then r9 o ((p.1-pos)*16) p.2 else o) ((d.pU.drop (pos*16)).take (n*16))
def uK(size:Int):Dk:=let n:=(min (max size 0) 65536).toNat;⟨n,oV (n*16),[]⟩
def sy(d:Dk):Bool:=decide (d.size<=65536)&&decide (d.pU.length=d.size*16)&&d.ld.all λp=>decide (p.1<d.size)&&decide (p.2.length=16)
def vJ(d:Dk)(pos:Nat)(s:kV):Option Dk:=if sy d/\pos+nO s<=d.size then some {d with ld:=d.ld++(cut s).mapIdx λi c=>(pos+i,c)} else none
def rC(d:Dk)(pos n:Nat):Option kV:=if sy d/\pos+n<=d.size then some (Al d pos n) else none
def sO(d:Dk):Dk:=if sy d then⟨d.size,Al d 0 d.size,[]⟩ else d
def EJ(mT:kV)(i:Nat)(f:kV)(p:Nat×kV):kV:=
 let k:=match mT[i]? with
  |some b=>b.toNat%3
  |none=>0
 let a:=p.1*16
 if k=1 then r9 (r9 f (a+8) (p.2.drop 8)) a (p.2.take 8) else if k=2 then r9 f a (p.2.take 8) else f
def zr(mT:kV):Nat->kV->List (Nat×kV)->kV
 |_,f,[]=>f
 |i,f,p::l=>zr mT (i+1) (EJ mT i f p) l
def t8(d:Dk)(mT:kV):Dk:=if sy d then⟨d.size,zr mT 0 d.pU d.ld,[]⟩ else d
def sP(a:Nat):UInt8:=UInt8.ofNat (a%250+1)
def Da(m:UInt8):Nat->kV->kV
 |0,_=>[]
 |f+1,b=>if b=[] then[] else(m::(b.take 14++oV (14-(b.take 14).length))++[m])++Da m f (b.drop 14)
def uL(a:Nat)(p:kV):kV:=pJ [] (zk (pJ (rY a) p))
def u7(a:Int)(p:kV):Option kV:=if a<1\/a>1000000\/p.length>40000 then none else some (Da (sP a.toNat) (uL a.toNat p).length (uL a.toNat p))
def uM(m:UInt8):Nat->kV->List kV
 |0,_=>[]
 |f+1,s=>if 16<=s.length/\s.headD 0=m/\(s.drop 15).headD 0=m then((s.drop 1).take 14)::uM m f (s.drop 16) else[]
def sQ(len:Nat):List kV->kV->Nat->kV×Nat
 |[],b,c=>(b,c)
 |p::l,b,c=>
  let a:=b++p
  if c=0 then match pY p with
   |none=>(a,0)
   |some (n,rest)=>if n>len then(a,0) else
    let d:=p.length-rest.length+n
    if a.length>=d then(a,d) else sQ len l a d
  else if a.length>=c then(a,c) else sQ len l a c
def Db(s:kV)(m:UInt8):kV:=match sQ s.length (uM m (s.length/16+1) s) [] 0 with
 |(b,a)=>if a=0\/b.length<a then[] else b
def xR(s:kV)(a:Int):Option (kV×Nat):=
 if a<1\/a>1000000 then none else match sq (Db s (sP a.toNat)) with
 |none=>none
 |some (
  d,_)=>match Ba d with
  |none=>none
  |some b=>match pY b with
   |none=>none
   |some (_,b2)=>match sq b2 with
    |none=>none
    |some (p,_)=>match u7 a p with
     |none=>none
     |some c=>if c.isPrefixOf s then some (p,c.length/16) else none
def wr:Nat->kV->Int->List kV×Nat
 |0,_,_=>([],0)
 |f+1,s,a=>match xR s a with
  |none=>([],0)
  |some (p,n)=>let(l,k):=wr f (s.drop (n*16)) (a+1);(p::l,n+k)
def Bi(s:kV)(a:Int):List kV×Nat:=wr (s.length/16+1) s a
structure Wl where
 ln:Dk
 seq:Int
 mR:Int
 next:Int
 mK:Nat
 nu:Int
 mD:Int
 waits:List kV
 tu:Bool
 n7:Int
 oW:Int
 pV:Int
deriving DecidableEq,Inhabited
def pp(size:Nat)(seq:Int):Nat:=if seq.tmod 2≠0 then size/4 else 0
def nv(size:Nat):Nat:=2*(size/4)
def xq(mR:Int)(state:kV):Option kV:=match pI [] [mR] with
 |none=>none
 |some head=>if(pJ head state).length>40000 then none else some (pJ head state)
def Ca(s:kV)(seq:Int):Option (Int×kV):=match xR s seq with
 |none=>none
 |some (text,_)=>match pY text with
  |none=>none
  |some (mR,rest)=>if mR<1\/mR>1000001 then none else match sq rest with
   |none=>none
   |some (state,a)=>if a=[] then some (mR,state) else none
def xr(s:kV):Nat->Int->Option (Int×Int×kV)
 |0,_=>none
 |f+1,seq=>match Ca s seq with
  |some (b,t)=>some (seq,b,t)
  |none=>xr s f (seq+2)
def sA(d:Dk):Int×Int×kV:=
 let a:=xr ((rC d (pp d.size 0) (d.size/4)).getD []) 100 2;let b:=xr ((rC d (pp d.size 1) (d.size/4)).getD []) 100 1;match a,b with
 |none,none=>(0,0,[])
 |some x,none=>x
 |none,some y=>y
 |some x,some y=>if y.1>x.1 then y else x
def s5(w:Wl):Wl:={w with ln:=sO w.ln,tu:=false}
def sa(w:Wl):Wl:=if w.tu then s5 w else w
def xu(w:Wl)(pos:Nat)(s:kV):Option Wl:=(vJ w.ln pos s).map λd=>{w with ln:=d}
def sB(w:Wl)(pos:Nat)(s:kV):Wl:=(xu w pos s).getD w
def Bk(size:Int):Option Wl:=
 let d:=uK size;let s:=(u7 1 ((xq 1 []).getD [])).getD []
 if s.length/16>d.size/4 then none else some (s5 (sB ⟨d,1,1,1,nv d.size,0,0,[],false,0,0,0⟩ (pp d.size 1) s))
def wu(d:Dk):Option (Wl×kV×List kV):=
 if !(sy d) then none else match sA d with
 |(seq,mR,state)=>if seq=0 then none else
  let b:=nv d.size;match Bi ((rC d b (d.size-b)).getD []) mR with
  |(a,k)=>
   let w:Wl:=⟨d,seq,mR,mR+a.length,b+k,mR+a.length-1,mR+a.length-1,[],true,0,0,0⟩
   some (sB (sB w w.mK (oV ((d.size-w.mK)*16))) (pp d.size (seq+1)) (oV (d.size/4*16)),state,a)
def zu(w:Wl)(p:kV):Option Wl:=if p.length>40000\/w.next>1000000 then none else some {w with waits:=w.waits++[p],next:=w.next+1}
def xS:Int->List kV->Option kV
 |_,[]=>some []
 |n,p::l=>match u7 n p with
  |none=>none
  |some s=>(xS (n+1) l).map (s++·)
def xU(w:Wl):Option Wl:=
 if w.n7≠0 then none else match xS (w.nu+1) w.waits with
 |none=>none
 |some all=>if(all.length/16:Nat)>(w.ln.size:Int)-w.mK then none else if w.waits=[] then some w else
  match xu (sa w) w.mK all with
  |none=>none
  |some l=>some {l with mK:=l.mK+all.length/16,nu:=l.next-1,waits:=[]}
def wv(w:Wl):Wl:=
 let l:={s5 w with mD:=w.nu}
 if w.n7≠0 then{l with n7:=2,mD:=max w.nu (w.oW-1)} else l
def wV(w:Wl)(state:kV):Option Wl:=
 if w.n7≠0\/w.seq>=200 then none else match xq w.next state with
 |none=>none
 |some text=>match u7 (w.seq+1) text with
  |none=>none
  |some s=>if s.length/16>w.ln.size/4 then none else match xu (sa w) (pp w.ln.size (w.seq+1)) s with
   |none=>none
   |some l=>some {l with n7:=1,oW:=l.next,pV:=l.waits.length}
def Dc(w:Wl):Option Wl:=
 if w.n7≠2\/sy w.ln=false then none else
 let l:Wl:={w with seq:=w.seq+1,mR:=w.oW,mK:=nv w.ln.size,nu:=max w.nu (w.oW-1),waits:=w.waits.drop (min (max w.pV 0) w.waits.length).toNat}
 some {sB l l.mK (oV ((l.ln.size-l.mK)*16)) with tu:=true,n7:=0,oW:=0,pV:=0}
structure nh where
 kN:lD
 lw:Wl
 oX:Int
deriving DecidableEq,Inhabited
def xV(w:Wl)(o:lQ):Option Wl:=match vG [] o with
 |none=>none
 |some s=>zu w s
def rK:Wl->List lQ->Wl
 |w,[]=>w
 |w,o::l=>match xV w o with
  |none=>w
  |some w'=>rK w' l
def xW(w:Wl)(l:List lQ):Option Wl:=match tp l with
 |none=>none
 |some state=>match wV w state with
  |none=>none
  |some w'=>Dc (wv w')
def xX(w:Wl)(l:List lQ):Option Wl:=match xU w with
 |none=>xW w l
 |some w'=>some (wv w')
def xv(mC size:Int):Option nh:=if mC<0\/mC>63 then none else(Bk size).map λw=>⟨n4 mC,w,0⟩
def rL(d:nh)(c:mo):Option (nh×Int):=(rA d.kN c).map λx=>({d with kN:=x.1},x.2)
def xw(d:nh)(p:Int):nh:=match tM d.kN p with
 |none=>d
 |some (_,nP)=>
  if nP then match xX d.lw d.kN.Z with
   |none=>{d with kN:=nm d.kN p true}
   |some w=>{d with kN:=nm d.kN p false,lw:=w}
  else
   let x:=nm d.kN p false
   {kN:=x,lw:=rK d.lw (x.Z.drop (min (max d.oX 0) x.Z.length).toNat),oX:=x.Z.length}
def xY(d:nh):Option nh:=(xW d.lw d.kN.Z).map λw=>{d with lw:=w}
def sC:List kV->Option (List lQ)
 |[]=>some []
 |r::l=>match uG r with
  |some (o,[])=>(sC l).map (o::·)
  |_=>none
def Cb(mC:Int)(d:Dk):Option nh:=
 if mC<0\/mC>63 then none else match wu d with
 |none=>none
 |some (w,state,a)=>match qI state with
  |none=>none
  |some Z=>match sC a with
   |none=>none
   |some oB=>
    let l:=Z++oB
    some ⟨{n4 mC with kR:=xQ (r6 mC) l,Z:=l,k6:=(l.length,[])},w,l.length⟩
def uN(d:nh)(mT:kV):Option nh:=Cb d.kN.kR.mC (t8 d.lw.ln mT)
end Top
section
open Top Proofs.Tryz
def sb(s:mN):List Value:=[.int .i64 s.c,.int .i64 s.r]
instance:m6 sb 2:=⟨λ_=>rfl,λx v a=>by simp[sb] at a;rcases a with rfl|rfl<;>rfl⟩
abbrev Am(s:mN):Value:=.agg (sb s).toArray
instance:Ew prog 164 sb where
 guard:=λop X Y x y w=>by apply gH;kernel_rfl
 eql:=λx y w=>by obtain⟨a,s⟩:=x;obtain⟨b,t⟩:=y;simp only[sb];simp[go_sem];by_cases c:a=b<;>by_cases d:s=t<;>simp[c,d]
 neq:=λx y w=>by obtain⟨a,s⟩:=x;obtain⟨b,t⟩:=y;simp only[sb];simp[go_sem];by_cases c:a=b<;>by_cases d:s=t<;>simp[c,d]
abbrev od(n:Int):Prop:=-9223372036854775808<=n/\n<=9223372036854775807
theorem zv(s:mN):Pf prog 196 #[Am s] (.bool (ow s)):=λW L=>by
 refine enter func196 ?_;refine U ?_;intro g;refine U ?_;have a:ow s=(decide (1<=s.c)&&decide (s.c<=1048576)&&decide (0<=s.r)&&decide (s.r<=63)):=rfl;generalize decide (1<=s.c)=b1 at*;cases b1 with
 |false=>refine U ?_;refine kS ?_;exact lj results196 Zt lv ⟨by rw[a]<;>rfl,rfl⟩
 |true=>
  refine U ?_;generalize decide (s.c<=1048576)=b2 at*;cases b2 with
  |false=>refine U ?_;refine kS ?_;exact lj results196 Zt lv ⟨by rw[a]<;>rfl,rfl⟩
  |true=>
   refine U ?_;generalize decide (0<=s.r)=b3 at*;cases b3 with
   |false=>refine U ?_;refine kS ?_;exact lj results196 Zt lv ⟨by rw[a]<;>rfl,rfl⟩
   |true=>refine U ?_;refine kS ?_;exact lj results196 Zt lv ⟨by rw[a]<;>rfl,rfl⟩
theorem IC(a b:mN):Pf prog 124 #[Am a,Am b] (.bool (xO a b)):=λW L=>by
 refine enter func124 ?_;refine U ?_;intro f;refine U ?_;intro g;refine U ?_;refine Ex a b rfl rfl rfl rfl ?_;refine U ?_;have d:xO a b=if a=b then false else if a.c≠b.c then decide (a.c<b.c) else decide (a.r<b.r):=rfl;refine mE rfl (λe=>?_) (λe=>?_);·rw[aj (am e)] at d;refine U ?_;refine kS ?_;exact lj results124 Zt lv ⟨by rw[d]<;>rfl,rfl⟩
 ·rw[ai (av e)] at d;refine U ?_;refine mE rfl (λe=>?_) (λe=>?_);·rw[aj (by simpa using e)] at d;refine U ?_;refine kS ?_;exact lj results124 Zt lv ⟨by rw[d]<;>rfl,rfl⟩
  ·rw[ai (by simpa using e)] at d;refine U ?_;refine kS ?_;exact lj results124 Zt lv ⟨by rw[d]<;>rfl,rfl⟩
abbrev S2(o:Option mN):mN:=o.getD mN.z
theorem L7(seen mC:Int):Pf prog 220 #[.int .i64 seen,.int .i64 mC] (.tuple #[Am (S2 (xn seen mC)),.int .i64 (if(xn seen mC).isSome then 0 else 20)]):=λW L=>by
 refine enter func220 ?_;have a:xn seen mC=if seen<0\/seen>=1048576 then none else if ow ⟨seen+1,mC⟩ then some ⟨seen+1,mC⟩ else none:=rfl;refine U ?_;intro e;refine U ?_;by_cases c:seen<0;·rw[aZ c];rw[aj (.inl c)] at a;refine U ?_;refine U ?_;refine kS ?_;exact og results220 (.agg (cs:=sb mN.z) inferInstance rfl lW rfl) Zt lv ⟨by rw[a]<;>rfl,rfl⟩
 ·rw[bx c];refine U ?_;by_cases d:1048576<=seen;·rw[aZ d];rw[aj (.inr d)] at a;refine U ?_;refine U ?_;refine kS ?_;exact og results220 (.agg (cs:=sb mN.z) inferInstance rfl lW rfl) Zt lv ⟨by rw[a]<;>rfl,rfl⟩
  ·rw[bx d];rw[ai Zo] at a;refine U ?_;refine U ?_;intro f;refine U ?_;refine md (zv ⟨seen+1,mC⟩ W _) ?_;generalize ow ⟨seen+1,mC⟩=b at*;refine U ?_;cases b with
   |false=>refine U ?_;refine kS ?_;exact og results220 (.agg (cs:=sb mN.z) inferInstance rfl lW rfl) Zt lv ⟨by rw[a]<;>rfl,rfl⟩
   |true=>refine U ?_;refine kS ?_;exact og results220 (.agg (cs:=sb ⟨seen+1,mC⟩) inferInstance rfl lW rfl) Zt lv ⟨by rw[a]<;>rfl,rfl⟩
theorem S3(s:mN)(f:Bool):Pf prog 142 #[Am s,.bool f] (.int .i64 (yH s f)):=λW L=>by
 refine enter func142 ?_;have b:yH s f=if ow s then 128*s.c+2*s.r+(if f then 1 else 0) else -1:=rfl;refine U ?_;intro e;refine U ?_;refine md (zv s W _) ?_;cases a:ow s with
 |false=>refine U ?_;refine kS ?_;exact lj results142 Zt lv ⟨by rw[b,a]<;>rfl,rfl⟩
 |true=>
  have d:=a;unfold ow at d;simp only[aF,bz] at d;refine U ?_;cases f with
  |false=>refine U ?_;refine kS ?_;exact lj results142 Zt lv ⟨by rw[b,a];simp<;>rfl,rfl⟩
  |true=>refine U ?_;refine kS ?_;exact lj results142 Zt lv ⟨by rw[b,a]<;>rfl,rfl⟩
abbrev S4(o:Option (mN×Bool)):mN:=(o.map (·.1)).getD mN.z
abbrev S5(o:Option (mN×Bool)):Bool:=(o.map (·.2)).getD false
theorem Cc(id:Int)(e:od id):Pf prog 121 #[.int .i64 id] (.tuple #[Am (S4 (oO id)),.bool (S5 (oO id)),.bool (oO id).isSome]):=λW L=>by
 refine enter func121 ?_;have a:oO id=if id<0 then none else if ow ⟨id.tdiv 128,(id.tmod 128).tdiv 2⟩ then some (⟨id.tdiv 128,(id.tmod 128).tdiv 2⟩,id.tmod 2==1) else none:=rfl;refine U ?_;intro f;refine U ?_;refine mE rfl (λc=>?_) (λc=>?_);·rw[aj (am c)] at a;refine U ?_;refine kS ?_;exact pd results121 (.agg (cs:=sb mN.z) inferInstance rfl lW rfl) Zt Zt lv ⟨by rw[a]<;>rfl,rfl⟩
 ·have c:=av c;rw[ai c] at a;refine U ?_;refine AW rfl rfl Zd (by rw[eY Zo];omega) rfl rfl ?_;refine U ?_;refine z6 rfl rfl Zd rfl rfl ?_;have d:0<=id.tmod 128/\id.tmod 128<128:=⟨jD _ Zo,by rw[Int.tmod_eq_emod_of_nonneg Zo];omega⟩;refine AW rfl rfl Zd (by rw[eY d.1];omega) rfl rfl ?_;refine U ?_;intro g;refine U ?_;refine md (zv ⟨id.tdiv 128,(id.tmod 128).tdiv 2⟩ W _) ?_;generalize ow ⟨id.tdiv 128,(id.tmod 128).tdiv 2⟩=b at*;cases b with
  |false=>refine U ?_;refine kS ?_;exact pd results121 (.agg (cs:=sb mN.z) inferInstance rfl lW rfl) Zt Zt lv ⟨by rw[a]<;>rfl,rfl⟩
  |true=>refine U ?_;refine z6 rfl rfl Zd rfl rfl ?_;refine U ?_;refine kS ?_;exact pd results121 (.agg (cs:=sb ⟨id.tdiv 128,(id.tmod 128).tdiv 2⟩) inferInstance rfl lW rfl) Zt Zt lv ⟨by rw[a]<;>rfl,rfl⟩
theorem wW(id:Int)(e:od id):Pf prog 63 #[.int .i64 id] (.bool (nM id)):=λW L=>by
 refine enter func63 ?_;have a:nM id=if id=0\/id=2 then true else match oO id with
  |some (_,f)=>!f
  |none=>false:=rfl
 refine U ?_;by_cases b:id=0;·rw[show(id==0)=true from by simp[b]];rw[aj (.inl b)] at a;refine U ?_;refine kS ?_;exact lj results63 Zt lv ⟨by rw[a]<;>rfl,rfl⟩
 ·rw[show(id==0)=false from by simp[b]];refine U ?_;by_cases c:id=2;·rw[show(id==2)=true from by simp[c]];rw[aj (.inr c)] at a;refine U ?_;refine kS ?_;exact lj results63 Zt lv ⟨by rw[a]<;>rfl,rfl⟩
  ·rw[show(id==2)=false from by simp[c]];rw[ai (by simp[b,c])] at a;refine U ?_;refine md (Cc id e W _) ?_;cases d:oO id with
   |none=>rw[d] at a;refine U ?_;intro g;refine U ?_;refine kS ?_;exact lj results63 Zt lv ⟨by rw[a]<;>rfl,rfl⟩
   |some x=>obtain⟨x,f⟩:=x;rw[d] at a;refine U ?_;intro g;refine U ?_;refine kS ?_;exact lj results63 Zt lv ⟨by rw[a]<;>rfl,rfl⟩
theorem L8(H:kM)(seen:Int)(v:Value)(l:List mN)(e:Sl 2 sb H v l):Rf prog 160 #[.int .i64 seen,v] H (.int .i64 (rb seen l)):=λW L=>by
 obtain⟨A,c,rfl,h,hl⟩:=e;refine enter func160 ?_;refine U ?_;refine mP (λm σ L'=>∃i:Nat,m=l.length-i/\i<=l.length/\L'=fz H::L/\ml σ [(0,.int .i64 (rb seen (l.take i))),(7,.slice A l.length c),(8,.int .i64 l.length),(9,.int .i64 i)]) l.length (fz H::L) (s1 _) ⟨0,by simp,by simp,rfl,rfl,rfl,rfl,rfl,trivial⟩ ?_;rintro m σ L' ⟨i,rfl,j,rfl,f⟩;obtain⟨k,rfl⟩:=f.open;refine U ?_;refine mE rfl (λa=>?_) (λa=>?_)
 ·have a:=am a;have g:l[i]? =some l[i]:=ad Zo;refine U ?_;intro n;refine U ?_;refine md (zv l[i] W _) ?_;have d:rb seen (l.take (i+1))=if ow l[i] then max (rb seen (l.take i)) l[i].c else rb seen (l.take i):=by rw[aT,g];unfold rb;rw[bV];rfl
  generalize ow l[i]=b at*;cases b with
  |true=>refine U ?_;exact⟨l.length-(i+1),fz H::L,by omega,Zu,i+1,rfl,by omega,rfl,by rw[d]<;>rfl,rfl,rfl,rfl,trivial⟩
  |false=>refine U ?_;exact⟨l.length-(i+1),fz H::L,by omega,Zu,i+1,rfl,by omega,rfl,by rw[d]<;>rfl,rfl,rfl,rfl,trivial⟩
 ·have a:=av a;refine U ?_;refine kS ?_;exact lj results160 Zt lv ⟨by rw[show i=l.length from by omega,bf]<;>rfl,rfl⟩
def ID(n:Int):List Value:=[.int .i64 n]
instance:m6 ID 1:=⟨λ_=>rfl,λx v a=>by simp[ID] at a;subst a;rfl⟩
theorem S6{f n:Nat}(h:n<=127):vZ f n=1:=by
 cases f with
 |zero=>rfl
 |succ f=>unfold vZ;rw[ai Zo]
theorem L9{f n:Nat}(h:127<n):vZ (f+1) n=vZ f (n/128)+1:=by rw[vZ,aj h]
theorem Ma:∀(f n:Nat),vZ f n<=f+1
 |0,_=>aA _
 |f+1,n=>by
  unfold vZ;split;·have:=Ma f (n/128);omega
  ·omega
theorem IE:∀(f n:Nat),1<=vZ f n
 |0,_=>aA _
 |f+1,n=>by unfold vZ;split<;>omega
theorem Mb:∀(f n k:Nat),n<128^ k->1<=k->vZ f n<=k
 |0,_,_,_,a=>a
 |f+1,n,k,h,a=>by
  unfold vZ;split
  ·obtain⟨k,rfl⟩:∃j,k=j+1:=⟨k-1,by omega⟩;have c:n/128<128^ k:=by rw[ij Zd];rw[Nat.pow_succ] at h;omega
   have d:1<=k:=by(rcases cM k with b|b;·subst b;simp at h;omega);·exact b
   have:=Mb f (n/128) k c d;omega
  ·exact a
theorem wx{n:Nat}(h:n<=9223372036854775807):v7 n<=9:=Mb 10 n 9 Zo Zd
theorem S7(n:Nat)(c:n<=9223372036854775807):Pf prog 227 #[.int .i64 (n:Int)] (.int .i64 (v7 n:Int)):=λW L=>by
 refine enter func227 ?_;refine U ?_;refine mP (λr σ L'=>L'=L/\∃m k:Nat,vZ r m+k=v7 n+1/\m<128^ r/\m<=9223372036854775807/\k<=11/\ml σ [(0,.int .i64 (m:Int)),(3,.int .i64 (k:Int))]) 10 L (s1 _)
  ⟨rfl,n,1,rfl,iP c Zd,c,by decide,rfl,rfl,trivial⟩ ?_
 rintro f σ _ ⟨rfl,m,k,b,d,g,h,e⟩;obtain⟨i,rfl⟩:=e.open;refine U ?_;refine mE rfl (λa=>?_) (λa=>?_)
 ·have a:127<m:=by have:=am a;omega
  obtain⟨f,rfl⟩:=Nat.exists_eq_succ_of_ne_zero (show f≠0 by rintro rfl;simp at d;omega);rw[Nat.succ_eq_add_one] at*;have j:k<=10:=by have l:=IE f (m/128);have o:v7 n<=11:=Ma 10 n;rw[L9 a] at b;omega
  refine U ?_;refine LN (s:=7) rfl rfl Zd rfl rfl ?_;refine U ?_;refine⟨f,_,by omega,s1 _,rfl,m/128,k+1,by rw[L9 a] at b;omega,?_,by omega,by omega,rfl,rfl,trivial⟩;rw[ij Zd];rw[Nat.pow_succ] at d;omega
 ·have a:m<=127:=by have:=av a;omega
  rw[S6 a] at b;refine U ?_;refine kS ?_;exact lj results227 Zt lv ⟨by rw[show v7 n=k from by omega]<;>rfl,rfl⟩
abbrev oS(o:Option kV):Value:=sv (o.getD [])
abbrev oE{α:Type}(o:Option α)(e:Int):Value:=.int .i64 (if o.isSome then 0 else e)
theorem Mc{m:Nat}(h:m<256):IntKind.u8.wrap (m:Int)=((UInt8.ofNat m).toNat:Int):=by
 have a:(UInt8.ofNat m).toNat=m:=by simp[gP];omega
 rw[a];unfold IntKind.wrap;simp[IntKind.bits,IntKind.signed];omega
theorem S8(n k:Nat):n/2^ (7*k)=n/128^ k:=by rw[Nat.pow_mul]
theorem IF(n:Nat):n&&& 127=n%128:=Nat.and_two_pow_sub_one_eq_mod n 7
theorem S9{d:Nat}(h:d<128):d|||128=d+128:=by
 have a:2^ 7*1+d=2^ 7*1|||d:=iU Zo 1
 rw[Nat.or_comm,show(128:Nat)=2^ 7*1 from rfl,<-a];omega
theorem EK(H:kM)(b:kV)(v:Value)(l:List Int)(f:Sl 1 ID H v l)(hl:∀x∈l,x<=9223372036854775807)(J:b.length+9*l.length<=140737488355328):Rf prog 167 #[sv b,v] H (.tuple #[oS (pI b l),oE (pI b l) 40]):=λW L=>by
 obtain⟨A,c,rfl,K,M⟩:=f;refine enter func167 ?_;refine U ?_;refine F8 (s:=b) (e:=5) rfl rfl Zo rfl rfl (λw c0=>?_);refine U ?_;refine mP (λm σ L'=>∃(i:Nat) (a:kV) (g cap:Nat),m=l.length-i/\i<=l.length/\pI b l=pI a (l.drop i)/\a.length<=b.length+9*i/\L'=so 5 g cap a::fz H::L/\
  ml σ [(6,.slice (some ⟨g,0,none⟩) a.length cap),(14,.slice A l.length c),(15,.int .i64 l.length),(16,.int .i64 i)]) l.length _ (s1 _) ⟨0,b,w,c0,by simp,by simp,rfl,by omega,rfl,rfl,rfl,rfl,rfl,trivial⟩ ?_
 rintro m σ L' ⟨i,a,g,cap,rfl,N,h,O,rfl,p⟩;obtain⟨y,rfl⟩:=p.open;refine U ?_;refine mE rfl (λk=>?_) (λk=>?_)
 ·have k:=am k;have P:l[i]? =some l[i]:=ad Zo;have B:l.drop i=l[i]::l.drop (i+1):=br Zo;rw[B] at h;have Q:=hl l[i] (bv ..);generalize l[i]=x at*;refine U ?_;refine mE rfl (λd=>?_) (λd=>?_)
  ·have d:=am d;have q:pI b l=none:=by rw[h,pI,aj d]
   refine U ?_;refine kS ?_;exact og results167 Zt Zt lv ⟨by rw[q]<;>rfl,rfl⟩
  ·have d:=av d;obtain⟨n,rfl⟩:∃n:Nat,x=n:=⟨x.toNat,by omega⟩;have C:=IE 10 n;have R:=wx (n:=n) Zo;rw[show vZ 10 n=v7 n from rfl] at C;have q:pI b l=pI (a++rY n) (l.drop (i+1)):=by rw[h,pI,ai d];rfl
   refine U ?_;refine md (S7 n Zo W _) ?_;have D:rY n=(List.range (v7 n)).map (v8 n (v7 n)):=rfl;generalize v7 n=z at*;refine U ?_;refine mP (λm σ L'=>∃(j g cap:Nat),m=z-j/\j<=z/\L'=so 5 g cap (a++(List.range j).map (v8 n z))::fz H::L/\
    ml σ [(6,.slice (some ⟨g,0,none⟩) (a++(List.range j).map (v8 n z)).length cap),(8,.int .i64 n),(9,.int .i64 z),(14,.slice A l.length c),(15,.int .i64 l.length),(16,.int .i64 i),(24,.int .i64 z),(25,.int .i64 j)]) z _ (s1 _)
    ⟨0,g,cap,by omega,by omega,by simp,by simp;rfl,rfl,rfl,rfl,rfl,rfl,rfl,rfl,trivial⟩ ?_
   rintro m σ L' ⟨j,g,cap,rfl,S,rfl,p⟩;obtain⟨y,rfl⟩:=p.open;refine U ?_;refine mE rfl (λo=>?_) (λo=>?_)
   ·have o:=am o;have E:=io (n/128^ (z-1-j)) (show 0<128 by decide);refine U ?_;rw[show(7*((z:Int)-1-j))=((7*(z-1-j):Nat):Int) from by omega];refine LN rfl rfl Zo rfl rfl ?_;rw[S8];refine U ?_;refine FY (b:=127) rfl rfl (cR (Nat.div_le_self _ _) Zo) Zd rfl rfl ?_;rw[IF];refine U ?_;by_cases u:j<z-1;·(rw[show decide ((j:Int)<(z:Int)-1)=true from by simp;omega];refine U ?_;refine EE (b:=128) rfl rfl Zo Zd rfl rfl ?_;rw[S9 E];have f:v8 n z j=UInt8.ofNat (n/128^ (z-1-j)%128+128):=by unfold v8;rw[aj u]);refine U ?_;refine xN rfl rfl rfl (Mc (m:=n/128^ (z-1-j)%128+128) Zo) rfl rfl ?_;refine U ?_;intro F;refine U ?_;refine L4 (bs:=a++(List.range j).map (v8 n z)) (news:=[v8 n z j]) (oG (l:=[v8 n z j]) Zn (by rw[f];rfl)) (by simp;omega) (λr t=>?_);refine U ?_;refine⟨z-(j+1),_,by omega,?_,j+1,r,t,rfl,by omega,rfl,by rw[dz,bA,<-aV];rfl,rfl,rfl,rfl,rfl,rfl,rfl,rfl,trivial⟩;rw[dz,bA,<-aV];exact Zu
    ·(rw[show decide ((j:Int)<(z:Int)-1)=false from by simp;omega];refine U ?_;have f:v8 n z j=UInt8.ofNat (n/128^ (z-1-j)%128):=by unfold v8;rw[ai u,eu]);refine U ?_;refine xN rfl rfl rfl (Mc (m:=n/128^ (z-1-j)%128) Zo) rfl rfl ?_;refine U ?_;intro F;refine U ?_;refine L4 (bs:=a++(List.range j).map (v8 n z)) (news:=[v8 n z j]) (oG (l:=[v8 n z j]) Zn (by rw[f];rfl)) (by simp;omega) (λr t=>?_);refine U ?_;refine⟨z-(j+1),_,by omega,?_,j+1,r,t,rfl,by omega,rfl,by rw[dz,bA,<-aV];rfl,rfl,rfl,rfl,rfl,rfl,rfl,rfl,trivial⟩;rw[dz,bA,<-aV];exact Zu
   ·(have o:=av o;have G:j=z:=by omega);subst G;refine U ?_;refine⟨l.length-(i+1),_,by omega,s1 _,i+1,a++(List.range j).map (v8 n j),g,cap,rfl,by omega,by rw[q,D],by simp;omega,rfl,rfl,rfl,rfl,rfl,trivial⟩
 ·have k:=av k;have I:i=l.length:=by omega
  subst I;rw[dm,pI] at h;refine U ?_;refine zi (s:=a) rfl (F7 Zn) rfl rfl rfl ?_;refine U ?_;refine kS ?_;exact og results167 Zt Zt lv ⟨by rw[h]<;>rfl,rfl⟩
abbrev Me(o:Option (Nat×kV)):Value:=.tuple #[.int .i64 ((o.map (·.1)).getD 0:Nat),sv ((o.map (·.2)).getD []),oE o 40]
theorem Ga{n d:Nat}(h:d<128):n*2^ 7|||d=n*128+d:=by
 have a:2^ 7*n+d=2^ 7*n|||d:=iU Zo n
 rw[fp n (2^ 7),<-a,fp]
theorem Bl(s:kV)(r:s.length<=9223372036854775807):Pf prog 240 #[sv s] (Me (pY s)):=λW L=>by
 refine enter func240 ?_;refine U ?_;refine CW ?_;refine U ?_;refine mP (λm σ L'=>∃(i n:Nat),m=s.length-i/\i<=s.length/\pY s=wc (s.drop i) i n/\n<=9223372036854775807/\L'=L/\
  ml σ [(0,sv s),(5,.int .i64 n),(6,.int .i64 0),(10,.int .i64 s.length),(11,.int .i64 i)]) s.length L (s1 _) ⟨0,0,by simp,by simp,rfl,by decide,rfl,rfl,rfl,rfl,rfl,rfl,trivial⟩ ?_
 rintro m σ _ ⟨i,n,rfl,t,d,u,rfl,k⟩;obtain⟨v,rfl⟩:=k.open;refine U ?_;refine mE rfl (λf=>?_) (λf=>?_)
 ·have f:=am f;have o:s[i]? =some s[i]:=ad Zo;have p:s.drop i=s[i]::s.drop (i+1):=br Zo;rw[p,wc] at d;generalize s[i]=b at*;have w:=b.toNat_lt;refine U ?_;refine CX rfl rfl o rfl rfl ?_;refine U ?_;by_cases j:i=0
  ·rw[show((i:Int)==0)=true from by simp[j]];refine U ?_;by_cases q:b.toNat=128;·rw[show((b.toNat:Int)==128)=true from by simp;omega];rw[aj (.inl ⟨j,q⟩)] at d;refine U ?_;refine kS ?_;exact pd results240 Zt Zt Zt lv ⟨by rw[d]<;>rfl,rfl⟩
   ·(rw[show((b.toNat:Int)==128)=false from by simp;omega];refine U ?_;by_cases g:72057594037927935<n;·rw[show decide (72057594037927935<(n:Int))=true from by simp;omega];rw[aj (.inr g)] at d;refine U ?_;refine kS ?_;exact pd results240 Zt Zt Zt lv ⟨by rw[d]<;>rfl,rfl⟩);·(rw[show decide (72057594037927935<(n:Int))=false from by simp;omega];rw[ai (by rintro(⟨a,c⟩|h)<;>omega)] at d;refine U ?_;by_cases e:b.toNat<128;·rw[show decide ((b.toNat:Int)<128)=true from by simp;omega];rw[aj e] at d;refine U ?_;refine FZ (s:=7) rfl rfl Zd Zo rfl rfl ?_;refine U ?_;refine EE rfl rfl Zo Zo rfl rfl ?_;rw[Ga e];refine U ?_;rw[show((i:Int)+1==0)=false from by simp;omega];refine U ?_;refine Et Zk Zk ?_;refine U ?_;refine zd (l:=i+1) rfl rfl Zo rfl rfl ?_;refine U ?_;refine kS ?_;exact pd results240 Zt Zt Zt lv ⟨by rw[d]<;>rfl,rfl⟩);·rw[show decide ((b.toNat:Int)<128)=false from by simp;omega];rw[ai e] at d;refine U ?_;refine FZ (s:=7) rfl rfl Zd Zo rfl rfl ?_;refine U ?_;refine FY (b:=127) rfl rfl Zo Zd rfl rfl ?_;rw[IF];refine U ?_;refine EE rfl rfl Zo Zo rfl rfl ?_;rw[Ga (io _ Zd)];refine U ?_;exact⟨s.length-(i+1),_,by omega,s1 _,i+1,n*128+b.toNat%128,rfl,by omega,d,by omega,rfl,rfl,rfl,rfl,rfl,rfl,trivial⟩
  ·rw[show((i:Int)==0)=false from by simp;omega];refine U ?_;by_cases g:72057594037927935<n;·rw[show decide (72057594037927935<(n:Int))=true from by simp;omega];rw[aj (.inr g)] at d;refine U ?_;refine kS ?_;exact pd results240 Zt Zt Zt lv ⟨by rw[d]<;>rfl,rfl⟩
   ·(rw[show decide (72057594037927935<(n:Int))=false from by simp;omega];rw[ai (by rintro(⟨a,c⟩|h)<;>omega)] at d;refine U ?_;by_cases e:b.toNat<128;·rw[show decide ((b.toNat:Int)<128)=true from by simp;omega];rw[aj e] at d;refine U ?_;refine FZ (s:=7) rfl rfl Zd Zo rfl rfl ?_;refine U ?_;refine EE rfl rfl Zo Zo rfl rfl ?_;rw[Ga e];refine U ?_;rw[show((i:Int)+1==0)=false from by simp;omega];refine U ?_;refine Et Zk Zk ?_;refine U ?_;refine zd (l:=i+1) rfl rfl Zo rfl rfl ?_;refine U ?_;refine kS ?_;exact pd results240 Zt Zt Zt lv ⟨by rw[d]<;>rfl,rfl⟩);·rw[show decide ((b.toNat:Int)<128)=false from by simp;omega];rw[ai e] at d;refine U ?_;refine FZ (s:=7) rfl rfl Zd Zo rfl rfl ?_;refine U ?_;refine FY (b:=127) rfl rfl Zo Zd rfl rfl ?_;rw[IF];refine U ?_;refine EE rfl rfl Zo Zo rfl rfl ?_;rw[Ga (io _ Zd)];refine U ?_;exact⟨s.length-(i+1),_,by omega,s1 _,i+1,n*128+b.toNat%128,rfl,by omega,d,by omega,rfl,rfl,rfl,rfl,rfl,rfl,trivial⟩
 ·have f:=av f;rw[show s.drop i=[] from aX Zo,wc] at d;refine U ?_;refine kS ?_;exact pd results240 Zt Zt Zt lv ⟨by rw[d]<;>rfl,rfl⟩
theorem x3(n:Nat):(rY n).length=v7 n:=by simp[rY]
theorem Gb(b:kV)(n:Nat):pI b [(n:Int)]=some (b++rY n):=by rw[pI,ai Zo,pI];rfl
theorem EL(b t:kV)(e:b.length+9+t.length<=140737488355328):Pf prog 168 #[sv b,sv t] (sv (pJ b t)):=λW L=>by
 refine enter func168 ?_;refine U ?_;intro f;refine U ?_;refine BP (k1 k0) (λa d _=>?_);refine mi ((EK a b _ [(t.length:Int)] (z8 (c:=1) (d _ m0) rfl ⟨aA _,by decide⟩) (by simp;omega) (by simp;omega)).eq (v':=.tuple #[sv (b++rY t.length),.int .i64 0]) (by rw[Gb];rfl)) ?_;refine U ?_;refine F4 rfl rfl ?_ rfl rfl ?_;·have:=wx (n:=t.length) Zo;rw[ak,x3];omega
 refine U ?_;refine kS ?_;exact lj results168 Zt lv ⟨rfl,rfl⟩
theorem x4(s:kV)(c:s.length<=9223372036854775807):Pf prog 190 #[sv s] (.tuple #[oS ((sq s).map (·.1)),oS ((sq s).map (·.2)),oE (sq s) 40]):=λW L=>by
 refine enter func190 ?_;have a:sq s=match pY s with
  |none=>none
  |some (n,rest)=>if n>rest.length then none else some (rest.take n,rest.drop n):=rfl
 refine U ?_;cases b:pY s with
 |none=>rw[b] at a;refine md ((Bl s c).eq (v':=.tuple #[.int .i64 0,sv [],.int .i64 40]) (by rw[b];rfl) W _) ?_;refine U ?_;refine U ?_;refine kS ?_;exact pd results190 Zt Zt Zt lv ⟨by rw[a]<;>rfl,rfl⟩
 |some x=>
  obtain⟨n,rest⟩:=x;rw[b] at a;refine md ((Bl s c).eq (v':=.tuple #[.int .i64 n,sv rest,.int .i64 0]) (by rw[b];rfl) W _) ?_;refine U ?_;by_cases d:rest.length<n;·rw[show decide ((rest.length:Int)<(n:Int))=true from by simp;omega];simp only[aj d] at a;refine U ?_;refine U ?_;refine kS ?_;exact pd results190 Zt Zt Zt lv ⟨by rw[a]<;>rfl,rfl⟩
  ·rw[show decide ((rest.length:Int)<(n:Int))=false from by simp;omega];simp only[ai d] at a;refine U ?_;refine Et Zk Zk ?_;refine U ?_;refine CY (h:=n) rfl rfl Zo rfl rfl ?_;refine U ?_;refine zd (l:=n) rfl rfl Zo rfl rfl ?_;refine U ?_;refine kS ?_;exact pd results190 Zt Zt Zt lv ⟨by rw[a]<;>rfl,rfl⟩
def Steps(H:kM):Prop:=H.kn (λw=>w.cell? ⟨0,0,none⟩=some (.int .u32 0))/\H.kn (λw=>w.cell? ⟨0,1,none⟩=some (.int .u32 79764919))
theorem Steps.up{H a:kM}(h:Steps H)(hl:H.le a):Steps a:=⟨h.1.up hl,h.2.up hl⟩
theorem Mf(n:Nat):wQ n<2^ 32:=by unfold wQ;exact iT (io _ Zd) (by split<;>decide)
def IG:Nat->Nat->Nat
 |0,n=>n
 |k+1,n=>IG k (wQ n)
theorem Ta(n:Nat)(c:UInt8):yI n c=IG 8 (n^^^(c.toNat*16777216)):=rfl
theorem Tb(n:Nat)(c:UInt8):yI n c<2^ 32:=Mf _
theorem Tc(H:kM)(e:Steps H)(n:Nat)(f:n<2^ 32)(c:UInt8):Rf prog 269 #[.int .u32 (n:Int),.int .u8 (c.toNat:Int)] H (.int .u32 (yI n c:Int)):=λW L=>by
 refine enter func269 ?_;have y:=c.toNat_lt;have l:n^^^(c.toNat*16777216)<2^ 32:=iT f Zo;refine U ?_;refine LG ?_;refine SR 0 (λm σ L'=>L'=fz H::L/\∃x:Nat,1<=m/\m<=8/\x<2^ 32/\IG m x=yI n c/\ml σ [(0,.int .u32 x),(5,.int .i64 m)]) ?_ ?_;·refine U ?_;refine xN (b:=(c.toNat:Int)) rfl rfl rfl (by rw[Iu,dZ Zo]) rfl rfl ?_;refine U ?_;refine LO (s:=24) rfl rfl Zd rfl rfl ?_;rw[show c.toNat*2^ 24%4294967296=c.toNat*16777216 from by omega];refine LQ rfl rfl f Zo rfl rfl ?_;refine U ?_;exact⟨8,_,s1 _,rfl,_,by decide,by decide,l,(Ta n c).symm,rfl,rfl,trivial⟩
 ·rintro k σ _ ⟨rfl,x,z,A,B,i,o⟩;obtain⟨C,rfl⟩:=o.open;have p:=Mf x;have d:wQ x=x*2%4294967296^^^(if x>=2147483648 then 79764919 else 0):=rfl;refine U ?_;refine LO (s:=1) rfl rfl Zd rfl rfl ?_;refine U ?_;refine F0 (s:=31) rfl rfl Zd rfl rfl ?_;refine SQ (g:=0) (k:=0) rfl rfl Zo rfl rfl ?_;have q:∃t:Nat,t<2^ 32/\wQ x=x*2^ 1%4294967296^^^t/\H.kn (λw=>w.cell? ⟨0,0+x/2^ 31*1,none⟩=some (.int .u32 (t:Int))):=by
   by_cases h:x>=2147483648;·refine⟨79764919,by decide,by rw[d,aj h,Nat.pow_one],?_⟩;rw[show 0+x/2^ 31*1=1 from by omega];exact e.2
   ·refine⟨0,by decide,by rw[d,ai h,Nat.pow_one],?_⟩;rw[show 0+x/2^ 31*1=0 from by omega];exact e.1
  obtain⟨t,r,d,u⟩:=q;refine LR rfl (nS Zn u (le_refl _)) rfl rfl ?_;refine LQ rfl rfl (io _ Zd) r rfl rfl ?_;rw[<-d];obtain⟨k,rfl⟩:∃j,k=j+1:=⟨k-1,by omega⟩;refine U ?_;refine mE rfl (λa=>?_) (λa=>?_);·have a:=am a;refine U ?_;refine RM ?_;exact⟨rfl,k,_,by omega,s1 _,rfl,wQ x,by omega,by omega,p,i,rfl,by rw[show((k+1:Nat):Int)-1=k from by omega]<;>rfl,trivial⟩
  ·have a:=av a;have v:k=0:=by omega
   subst v;refine U ?_;refine kS ?_;exact lj results269 Zt lv ⟨by rw[<-i]<;>rfl,rfl⟩
def ni(s:kV):List Value:=[sv s]
instance:m6 ni 1:=⟨λ_=>rfl,λx v a=>by simp[ni] at a;subst a;exact t6 x⟩
theorem Mg(H:kM)(k:Steps H)(v:Value)(l:List kV)(o:Sl 1 ni H v l)(hl:∀s∈l,s.length<=9223372036854775807):Rf prog 229 #[v] H (.int .u32 ((l.foldl (λn s=>s.foldl yI n) 0xffffffff:Nat):Int)):=λW L=>by
 obtain⟨A,c,rfl,z,B⟩:=o;refine enter func229 ?_;refine U ?_;refine mP (λm σ L'=>∃(i n:Nat),m=l.length-i/\i<=l.length/\n<2^ 32/\l.foldl (λn s=>s.foldl yI n) 0xffffffff=(l.drop i).foldl (λn s=>s.foldl yI n) n/\L'=fz H::L/\
  ml σ [(3,.int .u32 n),(7,.slice A l.length c),(8,.int .i64 l.length),(9,.int .i64 i)]) l.length _ (s1 _) ⟨0,0xffffffff,by simp,by simp,by decide,rfl,rfl,rfl,rfl,rfl,rfl,trivial⟩ ?_
 rintro m σ L' ⟨i,n,rfl,C,p,e,rfl,g⟩;obtain⟨q,rfl⟩:=g.open;refine U ?_;refine mE rfl (λa=>?_) (λa=>?_)
 ·have a:=am a;have D:l[i]? =some l[i]:=ad Zo;have r:l.drop i=l[i]::l.drop (i+1):=br Zo;have E:=hl l[i] (bv ..);rw[r,bU] at e;generalize l[i]=s at*;refine U ?_;refine mP (λm σ L'=>∃(j x:Nat),m=s.length-j/\j<=s.length/\x<2^ 32/\s.foldl yI n=(s.drop j).foldl yI x/\L'=fz H::L/\
   ml σ [(3,.int .u32 x),(5,sv s),(7,.slice A l.length c),(8,.int .i64 l.length),(9,.int .i64 i),(14,.int .i64 s.length),(15,.int .i64 j)]) s.length _ (s1 _) ⟨0,n,by simp,by simp,p,rfl,rfl,rfl,rfl,rfl,rfl,rfl,rfl,rfl,trivial⟩ ?_
  rintro m σ L' ⟨j,x,rfl,F,h,f,rfl,g⟩;obtain⟨q,rfl⟩:=g.open;refine U ?_;refine mE rfl (λd=>?_) (λd=>?_);·have d:=am d;have t:s[j]? =some s[j]:=ad Zo;have u:s.drop j=s[j]::s.drop (j+1):=br Zo;rw[u,bU] at f;generalize s[j]=b at*;refine U ?_;refine CX rfl rfl t rfl rfl ?_;refine mi (Tc H k x h b) ?_;refine U ?_;exact⟨s.length-(j+1),_,by omega,s1 _,j+1,yI x b,rfl,by omega,Tb x b,f,rfl,rfl,rfl,rfl,rfl,rfl,rfl,rfl,trivial⟩
  ·have d:=av d;have w:j=s.length:=by omega
   subst w;rw[dm] at f;refine U ?_;exact⟨l.length-(i+1),_,by omega,s1 _,i+1,x,rfl,by omega,h,by rw[e,f];rfl,rfl,rfl,rfl,rfl,rfl,trivial⟩
 ·have a:=av a;have y:i=l.length:=by omega
  subst y;rw[dm] at e;refine U ?_;refine kS ?_;exact lj results229 Zt lv ⟨by rw[e]<;>rfl,rfl⟩
theorem Gc(m:Nat):IntKind.u8.wrap (m:Int)=((UInt8.ofNat m).toNat:Int):=by
 have a:(UInt8.ofNat m).toNat=m%256:=by simp[gP]
 rw[a];unfold IntKind.wrap;simp[IntKind.bits,IntKind.signed]
theorem IH(m:Nat):UInt8.ofNat (m%256)=UInt8.ofNat m:=by apply iw.1;simp[gP]
theorem Mi(n:Nat):Pf prog 228 #[.int .u32 (n:Int)] (sv (zj n)):=λW L=>by
 refine enter func228 ?_;refine U ?_;refine F0 (s:=24) rfl rfl Zd rfl rfl ?_;refine xN rfl rfl rfl (Gc (n/2^ 24)) rfl rfl ?_;refine U ?_;refine F0 (s:=16) rfl rfl Zd rfl rfl ?_;refine xN rfl rfl rfl (Gc (n/2^ 16)) rfl rfl ?_;refine U ?_;refine F0 (s:=8) rfl rfl Zd rfl rfl ?_;refine xN rfl rfl rfl (Gc (n/2^ 8)) rfl rfl ?_;refine U ?_;refine xN rfl rfl rfl (Gc n) rfl rfl ?_;refine U ?_;intro b;refine U ?_;have a:zj n=[UInt8.ofNat (n/2^ 24),UInt8.ofNat (n/2^ 16),UInt8.ofNat (n/2^ 8),UInt8.ofNat n]:=by unfold zj;rw[IH,IH,IH]
 refine zi (s:=zj n) rfl (oG (l:=zj n) Zn (by rw[a];rfl)) rfl rfl rfl ?_;refine U ?_;refine kS ?_;exact lj results228 Zt lv ⟨rfl,rfl⟩
theorem Mj(n:Nat):(zj n).length=4:=rfl
theorem Td(H:kM)(a:Steps H)(s:kV)(e:s.length<=140737488355328):Rf prog 169 #[sv s] H (sv (zk s)):=λW L=>by refine enter func169 ?_;refine U ?_;intro f;refine U ?_;refine sm (k1 (k1 k0)) (λb d hl=>Mg b (a.up (hl _ (m1 m0))) _ [s] (z8 (c:=1) (d _ m0) rfl ⟨aA _,by decide⟩) (by simp;omega)) ?_;refine md (Mi (C6 s) W _) ?_;refine U ?_;refine F4 rfl rfl (by rw[Mj];omega) rfl rfl ?_;refine U ?_;refine kS ?_;exact lj results169 Zt lv ⟨rfl,rfl⟩
theorem Ml(H:kM)(e:Steps H)(s:kV)(g:s.length<=140737488355328):Rf prog 272 #[sv s] H (.tuple #[oS (Ba s),.bool (Ba s).isSome]):=λW L=>by
 refine enter func272 ?_;have a:Ba s=if s.length<4 then none else if zj (C6 (s.take (s.length-4)))=s.drop (s.length-4) then some (s.take (s.length-4)) else none:=rfl;refine U ?_;refine mE rfl (λb=>?_) (λb=>?_);·have b:=am b;rw[aj Zo] at a;refine U ?_;refine kS ?_;exact og results272 Zt Zt lv ⟨by rw[a]<;>rfl,rfl⟩
 ·have b:=av b;rw[ai Zo] at a;refine U ?_;rw[show(s.length:Int)-4=((s.length-4:Nat):Int) from by omega];refine CY rfl rfl Zo rfl rfl ?_;refine U ?_;refine nq [0,4,5,6,7,8,1,2,3,9] Zk Zk Zk Zk Zk (λ_ _ _ h=>h) ?_;refine U ?_;rw[show(s.length:Int)-4=((s.length-4:Nat):Int) from by omega];refine zd rfl rfl Zo rfl rfl ?_;refine U ?_;intro i;refine U ?_;refine sm (k1 (k1 k0)) (λf a hl=>Mg f (e.up (hl _ (m1 m0))) _ [s.take (s.length-4)] (z8 (c:=1) (a _ m0) rfl ⟨aA _,by decide⟩) (by simp;omega)) ?_;refine md (Mi (C6 (s.take (s.length-4))) W _) ?_;refine U ?_;refine mE rfl (λd=>?_) (λd=>?_);·rw[ai (by simpa using d)] at a;refine U ?_;refine kS ?_;exact og results272 Zt Zt lv ⟨by rw[a]<;>rfl,rfl⟩
  ·rw[aj (by simpa using d)] at a;refine U ?_;refine kS ?_;exact og results272 Zt Zt lv ⟨by rw[a]<;>rfl,rfl⟩
end
end Go.Proofs.YtkbifmngmocjnaaGreatDoor
