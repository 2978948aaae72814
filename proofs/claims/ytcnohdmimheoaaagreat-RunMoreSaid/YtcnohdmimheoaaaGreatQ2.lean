/- Texts of this seat, joined: part 2. -/
import Derived.Test.YtcnohdmimheoaaaGreatQ1
set_option linter.all false
set_option maxRecDepth 4000
namespace Go.Proofs.YtcnohdmimheoaaaGreat
open E Go.Proofs.Tryz
inductive Slot where
 |cg (k:Int) (vs:List Int)
 |cell (v:Int)
 deriving DecidableEq,Inhabited
structure Ar where
 room:Int
 sl:List Slot
 steps:Int
 deriving DecidableEq,Inhabited
namespace Ar
def has (A:Ar) (id:Int):Bool:=decide (1<=id)&&decide (id<=(A.sl.length:Int))
def bP (A:Ar) (id:Int):Option Slot:=if A.has id then A.sl[(id-1).toNat]? else none
def kind (A:Ar) (id:Int):Int:=match A.bP id with
 |some (.cg k _)=>k
 |_=>0
def val (A:Ar) (id i:Int):Int:=match A.bP id with
 |some (.cg _ vs)=>if 0<=i/\i<(vs.length:Int)then vs.getD i.toNat 0 else 0
 |_=>0
def aB (A:Ar) (id:Int):Bool:=match A.bP id with
 |some (.cell _)=>true
 |_=>false
def holds (A:Ar) (id:Int):Int:=match A.bP id with
 |some (.cell v)=>v
 |_=>0
def step (A:Ar):Ar:={A with steps:=IntKind.i64.wrap (A.steps+1)}
def put (A:Ar) (id v:Int):Ar:={A with sl:=A.sl.set (id-1).toNat (.cell v)}
def load (A:Ar) (id:Int):Int×Ar:=if A.aB id then(A.holds id,A.step)else(0,A)
def swap (A:Ar) (id bZ now:Int):Bool×Ar:=if A.aB id then(if A.holds id=bZ then(true,A.step.put id now)else(false,A.step))else(false,A)
def once (A:Ar) (id v:Int):Bool×Ar:=if A.aB id then(if A.holds id=0/\v≠0 then(true,A.step.put id v)else(false,A.step))else(false,A)
def add (A:Ar) (s:Slot):Int×Int×Ar:=if A.room-(A.sl.length:Int)=0 then(0,2,A)else((A.sl.length:Int)+1,0,{A with sl:=A.sl++[s]})
def make (A:Ar) (k:Int) (vs:List Int):Int×Int×Ar:=if k<1\/12<vs.length then(0,1,A)else A.add (.cg k vs)
def aH (A:Ar) (v:Int):Int×Int×Ar:=A.add (.cell v)
end Ar
def u64 (n:Int):Int:=IntKind.u64.wrap n
def xa (x:Int) (k:Nat):Int:=IntKind.u64.wrap ((BitVec.ofInt 64 x^^^BitVec.ofInt 64 (x/2^k)).toNat)
def prio (key:Int):Int:=
 xa (u64 (xa (u64 (xa (u64 (u64 key+11400714819323198485)) 30*13787848793156543929)) 27*10723151780598845931)) 31
def bh (a b:Int):Bool:=if prio a≠prio b then decide (prio b<prio a)else decide (a<b)
structure No where
 p:Pr
 left:Int
 right:Int
 size:Int
 high:Int
 deriving DecidableEq,Inhabited
def No.zero:No:=⟨⟨0,0⟩,0,0,0,0⟩
namespace Ar
def isNode (A:Ar) (id:Int):Bool:=decide (A.kind id=1)
def node (A:Ar) (id:Int):No:=if A.isNode id then⟨⟨A.val id 0,A.val id 1⟩,A.val id 2,A.val id 3,A.val id 4,A.val id 5⟩else .zero
def mkNode (A:Ar) (p:Pr) (l r:Int):Int×Int×Ar:=
 if(l≠0/\A.isNode l=false)\/(r≠0/\A.isNode r=false)then(0,1,A)
 else A.make 1 [p.k,p.v,l,r,IntKind.i64.wrap (IntKind.i64.wrap ((A.node l).size+(A.node r).size)+1),IntKind.i64.wrap (max (A.node l).high (A.node r).high+1)]
def aK (A:Ar) (from_ to:Int):Int:=if A.isNode to=false\/from_<=to then 0 else to
def look (A:Ar) (t:Int):No:={A.node t with left:=A.aK t (A.node t).left,right:=A.aK t (A.node t).right}
def pT (A:Ar) (key:Int):Nat->Int->Int×Bool
 |0,_=>(0,false)
 |n+1,t=>if A.isNode t then(if(A.look t).p.k=key then((A.look t).p.v,true)else if key<(A.look t).p.k then pT A key n (A.look t).left else pT A key n (A.look t).right)else(0,false)
def fuel (t:Int):Nat:=t.toNat+1
def get (A:Ar) (t key:Int):Int×Bool:=A.pT key (fuel t) t
def sizeOf (A:Ar) (t:Int):Int:=(A.node t).size
def kO (A:Ar):Nat->Int->Pr
 |0,t=>(A.look t).p
 |n+1,t=>if A.isNode t/\(A.look t).left≠0 then kO A n (A.look t).left else(A.look t).p
def lq (A:Ar):Nat->Int->Pr
 |0,t=>(A.look t).p
 |n+1,t=>if A.isNode t/\(A.look t).right≠0 then lq A n (A.look t).right else(A.look t).p
def ig (A:Ar) (t:Int):Pr×Bool:=(A.kO (fuel t) t,A.isNode t)
def g6 (A:Ar) (t:Int):Pr×Bool:=(A.lq (fuel t) t,A.isNode t)
def kP (A:Ar):Nat->Int->Int->Pr×Bool
 |0,_,_=>(⟨0,0⟩,false)
 |n+1,t,i=>if A.isNode t then(if i=A.sizeOf (A.look t).left then((A.look t).p,true)else if i<A.sizeOf (A.look t).left then kP A n (A.look t).left i
   else kP A n (A.look t).right (IntKind.i64.wrap (IntKind.i64.wrap (i-A.sizeOf (A.look t).left)-1)))else(⟨0,0⟩,false)
def nth (A:Ar) (t i:Int):Pr×Bool:=if i<0\/A.sizeOf t<=i then(⟨0,0⟩,false)else A.kP (fuel t) t i
def db (key:Int):Nat->Ar->Int->Int×Int×Int×Ar
 |0,A,_=>(0,0,0,A)
 |n+1,A,t=>
  if A.isNode t=false then(0,0,0,A)
  else if(A.node t).p.k<key then
   let(l,r,e,B):=db key n A (A.aK t (A.node t).right)
   if e=0 then let(i,e2,C):=B.mkNode (A.node t).p (A.aK t (A.node t).left) l;(i,r,e2,C)else(l,r,e,B)
  else
   let(l,r,e,B):=db key n A (A.aK t (A.node t).left)
   if e=0 then let(i,e2,C):=B.mkNode (A.node t).p r (A.aK t (A.node t).right);(l,i,e2,C)else(l,r,e,B)
def gi (p:Pr):Nat->Ar->Int->Int×Int×Ar
 |0,A,_=>(0,0,A)
 |n+1,A,t=>
  if A.isNode t=false then A.mkNode p 0 0
  else if(A.node t).p.k=p.k then A.mkNode p (A.aK t (A.node t).left) (A.aK t (A.node t).right)
  else if bh p.k (A.node t).p.k then
   let(l,r,e,B):=db p.k (fuel t) A t
   if e≠0 then(0,e,B)else B.mkNode p l r
  else if p.k<(A.node t).p.k then
   let(l,e,B):=gi p n A (A.aK t (A.node t).left)
   if e≠0 then(0,e,B)else B.mkNode (A.node t).p l (A.aK t (A.node t).right)
  else
   let(r,e,B):=gi p n A (A.aK t (A.node t).right)
   if e≠0 then(0,e,B)else B.mkNode (A.node t).p (A.aK t (A.node t).left) r
def fL (A:Ar) (t:Int):Bool:=decide (t=0)||A.isNode t
def jO (A:Ar) (t:Int) (p:Pr):Int×Int×Bool×Int×Ar:=
 if A.fL t=false then(0,0,false,1,A)
 else let(u,e,B):=gi p (fuel t) A t
  if e≠0 then(0,0,false,e,B)else(u,(A.get t p.k).1,(A.get t p.k).2,0,B)
def pU (A:Ar) (t:Int) (p:Pr):Int×Int×Bool×Int×Ar:=
 if A.fL t=false then(0,0,false,1,A)
 else if(A.get t p.k).2 then(t,(A.get t p.k).1,true,0,A)else A.jO t p
def dA:Nat->Ar->Int->Int->Int×Int×Ar
 |0,A,_,_=>(0,0,A)
 |n+1,A,l,r=>
  if A.isNode l=false then(r,0,A)
  else if A.isNode r=false then(l,0,A)
  else if bh (A.node l).p.k (A.node r).p.k then
   let(t,e,B):=dA n A (A.aK l (A.node l).right) r
   if e≠0 then(0,e,B)else B.mkNode (A.node l).p (B.aK l (A.node l).left) t
  else
   let(t,e,B):=dA n A l (A.aK r (A.node r).left)
   if e≠0 then(0,e,B)else B.mkNode (A.node r).p t (B.aK r (A.node r).right)
def mZ (l r:Int):Nat:=l.toNat+r.toNat+1
def gK (key:Int):Nat->Ar->Int->Int×Int×Ar
 |0,A,_=>(0,0,A)
 |n+1,A,t=>
  if A.isNode t=false then(0,0,A)
  else if(A.node t).p.k=key then dA (mZ (A.aK t (A.node t).left) (A.aK t (A.node t).right)) A (A.aK t (A.node t).left) (A.aK t (A.node t).right)
  else if key<(A.node t).p.k then
   let(l,e,B):=gK key n A (A.aK t (A.node t).left)
   if e≠0 then(0,e,B)else B.mkNode (A.node t).p l (A.aK t (A.node t).right)
  else
   let(r,e,B):=gK key n A (A.aK t (A.node t).right)
   if e≠0 then(0,e,B)else B.mkNode (A.node t).p (A.aK t (A.node t).left) r
def oC (A:Ar) (t key:Int):Int×Int×Bool×Int×Ar:=
 if A.fL t=false then(0,0,false,1,A)
 else if(A.get t key).2=false then(t,0,false,0,A)
 else let(u,e,B):=gK key (fuel t) A t
  if e≠0 then(0,0,false,e,B)else(u,(A.get t key).1,true,0,B)
def two (A:Ar) (l r:Int):Int×Int×Ar:=
 if A.fL l=false\/A.fL r=false\/((A.g6 l).2=true/\(A.ig r).2=true/\(A.ig r).1.k<=(A.g6 l).1.k)then(0,1,A)
 else dA (mZ l r) A l r
def cQ (key:Int):Nat->Ar->Int->Int×Int×Int×Ar
 |0,A,_=>(0,0,0,A)
 |n+1,A,t=>
  if A.isNode t=false then(0,0,0,A)
  else if(A.node t).p.k<key then
   let(l,r,e,B):=cQ key n A (A.aK t (A.node t).right)
   if e≠0 then(0,0,e,B)else let(i,e2,C):=B.mkNode (A.node t).p (A.aK t (A.node t).left) l;(i,r,e2,C)
  else
   let(l,r,e,B):=cQ key n A (A.aK t (A.node t).left)
   if e≠0 then(0,0,e,B)else let(i,e2,C):=B.mkNode (A.node t).p r (A.aK t (A.node t).right);(l,i,e2,C)
def vW (A:Ar) (t key:Int):Int×Int×Int×Ar:=
 if A.fL t=false then(0,0,1,A)
 else let(l,r,e,B):=cQ key (fuel t) A t
  if e≠0 then(0,0,e,B)else(l,r,0,B)
def middle (A:Ar) (t:Int):Int×Bool:=
 if A.sizeOf t<2 then(0,false)else((A.nth t (IntKind.i64.wrap (Int.tdiv (A.sizeOf t) 2))).1.k,(A.nth t (IntKind.i64.wrap (Int.tdiv (A.sizeOf t) 2))).2)
def half (A:Ar) (t:Int):Int×Int×Int×Int×Ar:=
 if A.fL t=false then(0,0,0,1,A)
 else if(A.middle t).2=false then(0,0,0,3,A)
 else let(l,r,e,B):=A.vW t (A.middle t).1
  if e≠0 then(0,0,0,e,B)else((A.middle t).1,l,r,0,B)
def fg (A:Ar) (lo hi:Int):Nat->Int->Int->Int->List Pr×Int
 |0,left,_,_=>([],left)
 |n+1,left,t,bound=>
  if A.isNode t=false\/bound<=t\/left=0 then([],left)
  else
   let(a,l1):=if lo<(A.node t).p.k then fg A lo hi n (left-1) (A.node t).left t else([],left-1)
   let(b,l2):=if(A.node t).p.k<hi then fg A lo hi n l1 (A.node t).right t else([],l1)
   (a++((if lo<=(A.node t).p.k/\(A.node t).p.k<=hi then[(A.node t).p]else[])++b),l2)
def range (A:Ar) (t lo hi:Int):List Pr:=if lo<=hi then(A.fg lo hi (fuel t) 60000 t 9223372036854775807).1 else[]
def jP:Int:= -9223372036854775808
def jf:Int:=9223372036854775807
def all (A:Ar) (t:Int):List Pr:=A.range t jP jf
end Ar
structure Bs where
 id:Int
 kind:Int
 af:Int
 stat:Int
 home:Int
 deriving DecidableEq,Inhabited
structure MB where
 b:Bs
 state:Int
 deriving DecidableEq,Inhabited
structure N9 where
 id:Int
 lo:Int
 hi:Int
 result:Int
 quiet:Bool
 call:Int
 deriving DecidableEq,Inhabited
structure Ro where
 id:Int
 key:Int
 left:Int
 right:Int
 join:Int
 deriving DecidableEq,Inhabited
structure Pl where
 id:Int
 dZ:Int
 ai:Int
 parent:Int
 cell:Int
 lock:Int
 fu:Int
 deriving DecidableEq,Inhabited
structure Fo where
 b:Bs
 cell:Int
 up:Int
 dW:Int
 cY:Bool
 deriving DecidableEq,Inhabited
structure Jb where
 store:N9
 au:List Int
 full:Bool
 deriving DecidableEq,Inhabited
structure Jo where
 main:MB
 ai:Bs
 up:Ro
 right:Bool
 aU:List Int
 cell:Int
 cR:An
def Bs.zero:Bs:=⟨0,0,0,0,0⟩
def MB.zero:MB:=⟨.zero,0⟩
namespace Ar
def base (A:Ar) (id:Int):Bs:=⟨id,A.kind id,A.val id 0,A.val id 1,A.val id 2⟩
def main (A:Ar) (id:Int):MB:=⟨A.base id,A.val id 3⟩
def store (A:Ar) (id:Int):N9:=⟨id,A.val id 0,A.val id 1,A.val id 2,decide (A.val id 3=1),A.val id 4⟩
def aj (A:Ar) (id:Int):Ro:=⟨id,A.val id 0,A.val id 1,A.val id 2,A.val id 3⟩
def aa (A:Ar) (id:Int):Pl:=⟨id,A.val id 0,A.val id 1,A.val id 2,A.val id 3,A.val id 4,A.val id 5⟩
def lr (A:Ar) (r:Int):List Int:=((List.range 10).map fun(i:Nat)=>A.val r (2+(i:Int))).filter fun b=>decide (b≠0)
def ij (A:Ar):Nat->Int->Option (List Int)
 |0,_=>none
 |n+1,r=>if r=0 then some []else(ij A n (A.val r 1)).map (A.lr r++·)
def au (A:Ar) (r:Int):Option (List Int):=A.ij (A.sl.length+2) r
def aZ (several:Int):Nat->Ar->List Int->Int×Int×Ar
 |0,A,_=>(0,0,A)
 |n+1,A,l=>
  if 10<l.length then
   let(next,e,B):=aZ several n A (l.drop 10)
   if e≠0 then(0,e,B)else B.make 9 (several::next::l.take 10)
  else A.make 9 (several::0::l)
end Ar
inductive KG where|qV|ends|dL
 deriving DecidableEq
inductive KW where|ends|dL
 deriving DecidableEq
inductive KR where
 |whole (lo hi quiet:Int) (w:KW)
 |looks (key:Int) (g:KG)
 |update
 |leaf (j:Jb) (key:Int) (r:KR)
 deriving DecidableEq
inductive KU where
 |looks (key:Int) (g:KG)
 |update
 |leaf (j:Jb) (key:Int) (r:KR)
 deriving DecidableEq
def KU.BO:KU->KR
 | .looks k g=>.looks k g
 | .update=>.update
 | .leaf j k r=>.leaf j k r
inductive KT where
 |ret (a:An)
 |u (u:KU)
inductive KF where
 |looks (key:Int) (g:KG)
 |update
 |aA (b:Bs) (a:An)
 |leaf (j:Jb) (key:Int) (r:KR)
inductive KO where
 |update (f:Fo)
 |aA (j:Jo) (n:Bs)
 |leaf (j:Jb) (key:Int) (f:Fo) (r:KR)
inductive KV where
 |down (f:Fo) (key:Int) (k:KF)
 |cd (f:Fo) (key:Int) (g:KG)
 |cB (f:Fo) (key:Int) (g:KG)
 |dm (b:Bs) (o:KO)
 |cN (b:Bs) (o:KO)
 |cU (b:Bs) (o:KO)
 |cE (m:MB) (u:KU)
 |mf (right:Bool) (j:Jo)
 |bh (j:Jo) (up cell:Int)
 |bH (j:Jo) (lock:Int)
 |leaf (j:Jb) (key:Int) (f:Fo) (r:KR)
 |res (j:Jb) (r:KR)
inductive KB where
 |marks (j:Jb) (key:Int) (f:Fo) (id:Int) (r:KR)
 |results (j:Jb) (res:Int) (r:KR)
 |update (id:Int) (a:An)
 |split (a:An)
 |aL (j:Jo) (n:Bs) (id:Int)
 |aG (j:Jo) (id:Int)
 |bS (j:Jo) (cell:Int)
 |bO (j:Jo) (cell lock:Int)
 |bW (j:Jo) (last:Int)
 |cK (t:KT)
 |bH (j:Jo) (id:Int)
 |fQ (m:MB) (p:Pl) (t:KT)
 |e8 (m:MB) (p:Pl) (t:KT)
 |cZ (m:MB) (p:Pl) (t:KT)
 |cL (t:KT)
inductive Nx where
 |load (cell:Int) (k:KV)
 |swap (cell bZ now:Int) (k:KB)
 |once (cell v:Int) (k:KB)
 |zero
structure Th where
 busy:Bool
 op:bA
 call:Int
 late:Bool
 next:Option Nx
 iR:Bool
 cR:An
structure Sy where
 th:Th
 ar:Ar
 cF:iH
 root:Int
 ord:List Int
 splits:Int
 aA:Int
def inc (n:Int):Int:=IntKind.i64.wrap (n+1)
def An.full:An:=⟨2,false,⟨0,0⟩,0,[]⟩
def tX (key v:Int) (ok:Bool):An:=if ok then⟨0,true,⟨key,v⟩,0,[]⟩else .zero
namespace Sy
def go (s:Sy) (n:Nx):Sy:={s with th:={s.th with next:=some n}}
def ret (s:Sy) (a:An):Sy:={s with th:={s.th with busy:=false,iR:=true,cR:=a}}
def cV (s:Sy) (c:Int):Sy:={s with ord:=s.ord++[c]}
def gU (s:Sy) (a:An):Sy:=(s.cV s.th.call).ret a
def full (s:Sy):Sy:=s.ret .full
def late (s:Sy):Sy:={s with th:={s.th with late:=true}}
def bq (s:Sy) (A:Ar):Sy:={s with ar:=A}
def fp (s:Sy) (b:Bs) (r:Int):Int:=if r= -1\/s.ar.val r 0=0 then b.stat else cS s.cF b.stat 3
def down (s:Sy) (f:Fo) (key:Int) (k:KF):Sy:=s.go (.load f.cell (.down f key k))
def find (s:Sy) (key:Int) (k:KF):Sy:=s.down ⟨.zero,s.root,0,0,false⟩ key k
def looks (s:Sy) (key:Int) (g:KG):Sy:=s.find key (.looks key g)
def dx (s:Sy) (j:Jb) (key:Int) (r:KR):Sy:=s.find key (.leaf j key r)
def update (s:Sy):Sy:=s.find s.th.op.key .update
def mJ (s:Sy):KU->Sy
 | .looks k g=>s.looks k g
 | .update=>s.update
 | .leaf j k r=>s.dx j k r
def runT (s:Sy):KT->Sy
 | .ret a=>s.ret a
 | .u u=>s.mJ u
def iI (s:Sy) (b:Bs) (u:KU):Sy:=
 if b.kind=4 then s.go (.load (s.ar.main b.id).state (.cE (s.ar.main b.id) u))
 else if b.kind=5 then s.go (.load (s.ar.main (s.ar.val b.id 3)).state (.cE (s.ar.main (s.ar.val b.id 3)) u))
 else if b.kind=6 then s.dx ⟨s.ar.store (s.ar.val b.id 3),[],false⟩ (s.ar.store (s.ar.val b.id 3)).lo u.BO
 else s.mJ u
def results (s:Sy) (j:Jb) (r:Int) (k:KR):Sy:=s.go (.once j.store.result r (.results j r k))
def marked (s:Sy) (j:Jb) (f:Fo) (k:KR):Sy:=
 let j1:Jb:=if j.au.getLast?=some f.b.id then j else{j with au:=j.au++[f.b.id]}
 if f.cY=true/\f.dW<=j1.store.hi then s.dx j1 f.dW k
 else
  let(r,e,B):=Ar.aZ (if 1<j1.au.length/\j1.store.quiet=false then 1 else 0) (j1.au.length+1) s.ar j1.au
  if e≠0 then(s.bq B).results {j1 with full:=true} (-1) k else(s.bq B).results j1 r k
def marks (s:Sy) (j:Jb) (key:Int) (f:Fo) (fp:Int) (k:KR):Sy:=
 let(id,e,B):=s.ar.make 6 [f.b.af,fp,f.b.home,j.store.id]
 if e≠0 then(s.bq B).results {j with full:=true} (-1) k else(s.bq B).go (.swap f.b.home f.b.id id (.marks j key f id k))
def whole (s:Sy) (lo hi quiet:Int) (w:KW):Sy:=
 let(cell,e,B):=s.ar.aH 0
 let(id,f,C):=B.make 7 [lo,hi,cell,quiet,s.th.call]
 if e≠0\/f≠0 then(s.bq C).full else(s.bq C).dx ⟨C.store id,[],false⟩ lo (.whole lo hi quiet w)
def cy (s:Sy) (l:List Int):An:=
 l.foldl (fun a id=>if s.th.op.kind=6 then{a with n:=IntKind.i64.wrap (a.n+((s.ar.range (s.ar.base id).af s.th.op.key s.th.op.hi).length:Int))}
  else{a with l:=a.l++s.ar.range (s.ar.base id).af s.th.op.key s.th.op.hi,n:=((a.l++s.ar.range (s.ar.base id).af s.th.op.key s.th.op.hi).length:Int)}) .zero
def tY (s:Sy) (a:An) (id:Int):An:=
 let q:=if s.th.op.kind=8 then s.ar.g6 (s.ar.base id).af else s.ar.ig (s.ar.base id).af
 if q.2=true/\(a.ok=false\/s.th.op.kind=8)then⟨0,true,q.1,0,[]⟩else a
def gC (s:Sy) (l:List Int):An:=l.foldl s.tY .zero
def split (s:Sy) (b:Bs) (a:An):Sy:=
 let(key,l,r,e,B):=s.ar.half b.af
 if e≠0 then(s.bq B).ret a
 else
  let(left,_,e1,C):=cellOf B l
  let(right,_,e2,D):=cellOf C r
  let(lock,e3,E):=D.aH 0
  let(id,e4,F):=E.make 2 [key,left,right,lock]
  if e1≠0\/e2≠0\/e3≠0\/e4≠0 then(s.bq F).ret a else(s.bq F).go (.swap b.home b.id id (.split a))
where
 cellOf (A:Ar) (af:Int):Int×Int×Int×Ar:=
  let(cell,e,B):=A.aH 0
  if e≠0 then(0,0,e,B)
  else
   let(id,e2,C):=B.make 3 [af,0,cell]
   if e2≠0 then(0,0,e2,C)else(cell,id,0,(C.once cell id).2)
def kQ (s:Sy) (b:Bs) (key:Int) (a:An):Sy:=
 if gg s.cF b.stat=1 then s.split b a else if gg s.cF b.stat=2 then s.find key (.aA b a)else s.ret a
def kf (s:Sy) (l:List Int) (r:Int):KW->Sy
 | .ends=>s.ret (s.gC l)
 | .dL=>
  let b:=s.ar.base (l.headD 0)
  if s.ar.val r 0=0 then s.ret (s.cy l)else s.kQ {b with stat:=s.fp b r} s.th.op.key (s.cy l)
def iV (s:Sy) (j:Jb) (v:Int):KR->Sy
 | .whole lo hi quiet w=>if v≠-1 then s.kf ((s.ar.au v).getD []) v w else if j.full then s.full else s.whole lo hi quiet w
 | .looks k g=>s.looks k g
 | .update=>s.update
 | .leaf j k r=>s.dx j k r
def made (s:Sy) (b:Bs) (fp:Int):Int×An×Int×Ar:=
 let(af,v,ok,e,B):=if s.th.op.kind=1 then s.ar.jO b.af ⟨s.th.op.key,s.th.op.v⟩else if s.th.op.kind=2 then s.ar.pU b.af ⟨s.th.op.key,s.th.op.v⟩else s.ar.oC b.af s.th.op.key
 if e≠0 then(0,.zero,e,B)
 else
  let(id,e2,C):=B.make 3 [af,cS s.cF fp (if s.th.late then 1 else 2),b.home]
  (id,tX s.th.op.key v ok,e2,C)
def Jo.other (j:Jo):Int:=if j.right then j.up.left else j.up.right
def cK (s:Sy) (m:MB) (t:KT):Sy:=s.go (.swap m.state (-1) (-2) (.cK t))
def bW (s:Sy) (j:Jo):Sy:=
 match j.aU.getLast? with
 |none=>s.cK j.main (.ret j.cR)
 |some c=>s.go (.swap c j.main.b.id 0 (.bW j ((j.aU.length:Int)-1)))
def bh (s:Sy) (j:Jo) (cell up:Int):Sy:=s.go (.load cell (.bh j up cell))
def bH (s:Sy) (j:Jo) (lock:Int):Sy:=s.go (.load (Jo.other j) (.bH j lock))
def aG (s:Sy) (j:Jo) (n:Bs):Sy:=
 let(id,e,B):=s.ar.make 5 [n.af,n.stat,n.home,j.main.b.id]
 if e≠0 then(s.bq B).cK j.main (.ret j.cR)else(s.bq B).go (.swap n.home n.id id (.aG j id))
def aL (s:Sy) (j:Jo) (n:Bs):Sy:=
 let(state,e,B):=s.ar.aH (-1)
 let(id,f,C):=B.make 4 [j.main.b.af,j.main.b.stat,j.main.b.home,state]
 if e≠0\/f≠0 then(s.bq C).ret j.cR else(s.bq C).go (.swap j.main.b.home j.main.b.id id (.aL j n id))
def eD (s:Sy) (m:MB) (p:Pl) (t:KT):Sy:=s.go (.swap (s.ar.base p.ai).home p.ai p.dZ (.fQ m p t))
def bI (s:Sy) (j:Jo) (other lock:Int):Int×Int×Ar:=
 let low:=if j.right then j.ai.af else j.main.b.af
 let high:=if j.right then j.main.b.af else j.ai.af
 let(af,e,B):=s.ar.two low high
 if e≠0 then(0,e,B)
 else
  let(dZ,e2,C):=B.make 5 [af,0,if other=j.ai.id then j.cell else j.ai.home,j.main.b.id]
  if e2≠0 then(0,e2,C)
  else C.make 8 [dZ,j.ai.id,j.up.id,j.cell,lock,if other=j.ai.id then dZ else other]
def fv (s:Sy) (ok:Bool) (fp:Int):KO->Sy
 | .update f=>
  if ok=false then s.late.iI f.b .update
  else
   let(id,a,e,B):=s.made f.b fp
   if e≠0 then(s.bq B).full else(s.bq B).go (.swap f.b.home f.b.id id (.update id a))
 | .aA j n=>if ok then s.aL j {n with stat:=fp}else s.ret j.cR
 | .leaf j key f r=>if ok=false then s.iI f.b (.leaf j key r)else s.marks j key f fp r
def free (s:Sy) (b:Bs) (o:KO):Sy:=
 if b.kind=4 then s.go (.load (s.ar.main b.id).state (.dm b o))
 else if b.kind=5 then s.go (.load (s.ar.main (s.ar.val b.id 3)).state (.cN b o))
 else if b.kind=6 then s.go (.load (s.ar.store (s.ar.val b.id 3)).result (.cU b o))
 else s.fv true b.stat o
def gD (s:Sy) (f:Fo):KG->Sy
 | .qV=>s.gU (tX s.th.op.key (s.ar.get f.b.af s.th.op.key).1 (s.ar.get f.b.af s.th.op.key).2)
 | .ends=>if(s.gC [f.b.id]).ok=true\/f.up=0 then s.gU (s.gC [f.b.id])else s.whole Ar.jP Ar.jf 1 .ends
 | .dL=>if f.cY=false\/s.th.op.hi<f.dW then s.gU (s.cy [f.b.id])else s.whole s.th.op.key s.th.op.hi 0 .dL
def iJ (s:Sy) (f:Fo):KF->Sy
 | .looks key g=>
  if f.cell≠f.b.home then s.iI f.b (.looks key g)
  else if f.b.kind=4 then s.go (.load (s.ar.main f.b.id).state (.cd f key g))
  else s.gD f g
 | .update=>s.free f.b (.update f)
 | .aA b a=>
  if f.b.id≠b.id\/f.up=0 then s.ret a
  else
   let j:Jo:=⟨⟨b,0⟩,.zero,s.ar.aj f.up,decide (f.cell=(s.ar.aj f.up).right),[],0,a⟩
   s.go (.load (Jo.other j) (.mf j.right j))
 | .leaf j key r=>if f.b.kind=6/\(s.ar.store (s.ar.val f.b.id 3)).id=j.store.id then s.marked j f r else s.go (.load j.store.result (.leaf j key f r))
def df (s:Sy) (v:Int):KV->Sy
 | .down f key k=>
  if s.ar.kind v≠2 then s.iJ {f with b:=s.ar.base v} k
  else
   let r:=s.ar.aj v
   s.down (if key<r.key then{f with up:=v,cell:=r.left,dW:=r.key,cY:=true}else{f with up:=v,cell:=r.right}) key k
 | .cd f key g=>if v= -3 then s.looks key g else if v= -2 then s.go (.load f.cell (.cB f key g))else s.gD f g
 | .cB f key g=>if v=f.b.id then s.gD f g else s.looks key g
 | .dm b o=>s.fv (decide (v= -2)) b.stat o
 | .cN b o=>s.fv (decide (v= -2)||decide (v= -3)) b.stat o
 | .cU b o=>s.fv (decide (v≠0)) (s.fp b v) o
 | .cE m u=>if v= -1 then s.cK m (.u u)else if s.ar.kind v=8 then s.eD m (s.ar.aa v) (.u u)else s.mJ u
 | .mf right j=>if s.ar.kind v≠2 then s.free (s.ar.base v) (.aA j (s.ar.base v))else s.go (.load (if right then(s.ar.aj v).right else(s.ar.aj v).left) (.mf right j))
 | .bh j up cell=>
  let r:=s.ar.aj v
  if v=j.up.id/\up=0 then s.bH {j with cell:=cell} 0
  else if v=j.up.id then
   let j1:Jo:={j with cell:=cell}
   s.go (.swap (s.ar.aj up).join 0 j.main.b.id (.bO j1 (s.ar.aj up).join (s.ar.aj up).join))
  else if s.ar.kind v≠2 then s.bW j
  else if j.up.key<r.key then s.bh j r.left v
  else s.bh j r.right v
 | .bH j lock=>
  let(id,e,B):=s.bI j v lock
  if e≠0 then(s.bq B).bW j else(s.bq B).go (.swap j.main.state (-1) id (.bH j id))
 | .leaf j key f r=>if v≠0 then s.iV j v r else s.free f.b (.leaf j key f r)
 | .res j r=>s.iV j v r
def cj (s:Sy) (ok:Bool):KB->Sy
 | .marks j key f id r=>if ok=false then s.dx j key r else s.marked j {f with b:=s.ar.base id} r
 | .results j res r=>
  if ok=false then s.go (.load j.store.result (.res j r))
  else if res≠-1 then(s.cV j.store.call).iV j res r else s.iV j res r
 | .update id a=>if ok=false then s.late.update else let s1:=s.cV s.th.call;s1.kQ (s1.ar.base id) s1.th.op.key a
 | .split a=>(if ok then{s with splits:=inc s.splits}else s).ret a
 | .aL j n id=>if ok=false then s.ret j.cR else s.aG {j with main:=s.ar.main id} n
 | .aG j id=>if ok=false then s.cK j.main (.ret j.cR)else s.go (.swap j.up.join 0 j.main.b.id (.bS {j with ai:=s.ar.base id} j.up.join))
 | .bS j cell=>if ok=false then s.bW j else s.bh {j with aU:=j.aU++[cell]} s.root 0
 | .bO j cell lock=>if ok=false then s.bW j else s.bH {j with aU:=j.aU++[cell]} lock
 | .bW j last=>s.bW {j with aU:=j.aU.take last.toNat}
 | .cK t=>s.runT t
 | .bH j id=>if ok=false then s.bW j else s.eD j.main (s.ar.aa id) (.ret j.cR)
 | .fQ m p t=>s.go (.swap p.cell p.parent p.fu (.e8 m p t))
 | .e8 m p t=>if p.lock=0 then s.go (.swap m.state p.id (-3) (.cL t))else s.go (.swap p.lock m.b.id 0 (.cZ m p t))
 | .cZ m p t=>s.go (.swap m.state p.id (-3) (.cL t))
 | .cL t=>(if ok then{s with aA:=inc s.aA}else s).runT t
def runN (s:Sy):Nx->Sy
 | .load c k=>(s.bq (s.ar.load c).2).df (s.ar.load c).1 k
 | .swap c bZ now k=>(s.bq (s.ar.swap c bZ now).2).cj (s.ar.swap c bZ now).1 k
 | .once c v k=>(s.bq (s.ar.once c v).2).cj (s.ar.once c v).1 k
 | .zero=>s.gU .zero
def dB (s:Sy):Sy:=
 if s.th.op.kind=1\/s.th.op.kind=2\/s.th.op.kind=3 then s.update
 else if s.th.op.kind=4 then s.looks s.th.op.key .qV
 else if s.th.op.kind=7 then s.looks Ar.jP .ends
 else if s.th.op.kind=8 then s.looks Ar.jf .ends
 else if s.th.op.hi<s.th.op.key then s.go .zero
 else s.looks s.th.op.key .dL
end Sy
inductive sJ where
 |cg (k:Int) (vs:Sl Int)
 |cell (b:Nat) (v:Int)
def sJ.p:sJ->Slot
 | .cg k vs=>.cg k vs.l
 | .cell _ v=>.cell v
def jk:sJ->List Value
 | .cg k vs=>[.int .i64 k,vs.val]
 | .cell b _=>[.int .i64 0,.slice (some ⟨b,0,none⟩) 1 1]
def vX (b:Nat) (v:Int):Nat×Obj:=(b,.cells #[.int .i64 v] 3 (0,0))
def tZ:sJ->aO
 | .cg _ _=>[]
 | .cell b v=>[vX b v]
def fH (l:List sJ):aO:=l.flatMap tZ
def ak (l:List sJ):ag:=⟨fun H=>∀k vs,.cg k vs∈l->(cw vs).holds H,fun _ _ h p k vs hm=>(cw vs).mono _ _ h (p k vs hm)⟩
structure cX where
 room:Int
 rows:List sJ
 steps:Int
 a:Option Addr
 c:Nat
def cX.p (r:cX):Ar:=⟨r.room,r.rows.map sJ.p,r.steps⟩
def cX.step (r:cX):cX:={r with steps:=IntKind.i64.wrap (r.steps+1)}
def m0 (ba:Nat) (r:cX):aO:=[(ba,.cells #[.int .i64 r.room,.slice r.a r.rows.length r.c,.int .i64 r.steps] 187 (0,0))]
def aR (ba:Nat) (r:cX) (M:aO):Prop:=
 (∀k vs,.cg k vs∈r.rows->1<=k)/\((r.rows.length:Int)<=r.room/\r.room<=60000)/\∃Ms,bR 222 2 (r.rows.map jk) r.a r.c Ms/\M=m0 ba r++(Ms++fH r.rows)
section
variable {H:Hp} {l:List sJ}
include H l
theorem Fb {i:Nat} {k:Int} {vs:Sl Int} (h:(ak l).holds H) (hx:l[i]? =some (.cg k vs)):(cw vs).holds H:=h k vs (List.mem_of_getElem? hx)
theorem Fc {k:Int} {vs:Sl Int} (h:(ak l).holds H) (hv:(cw vs).holds H):(ak (l++[.cg k vs])).holds H:=fun k' vs' hm=>by
 rcases List.mem_append.1 hm with hm|hm;exact h k' vs' hm
 cases List.mem_singleton.1 hm;exact hv
theorem Dd {b:Nat} {v:Int} (h:(ak l).holds H):(ak (l++[.cell b v])).holds H:=fun k' vs' hm=>by
 rcases List.mem_append.1 hm with hm|hm;exact h k' vs' hm
 cases List.mem_singleton.1 hm
theorem yU {i b:Nat} {v:Int} (h:(ak l).holds H):(ak (l.set i (.cell b v))).holds H:=fun k' vs' hm=>by
 rcases List.mem_or_eq_of_mem_set hm with hm|hm;exact h k' vs' hm
 cases hm
end
theorem m8 {l:List sJ} {i b:Nat} {v:Int} (h:l[i]? =some (.cell b v)):∃S T:aO,fH l=S++([vX b v]++T)/\∀w,fH (l.set i (.cell b w))=S++([vX b w]++T):=by
 obtain⟨hi,he⟩:=List.getElem?_eq_some_iff.1 h;refine⟨fH (l.take i),fH (l.drop (i+1)),?_,fun w=>?_⟩;have e:l=l.take i++l[i]::l.drop (i+1):=by rw[List.getElem_cons_drop,List.take_append_drop]
 rw[he]at e
 conv=>lhs;rw[e]
 simp[fH,tZ];rw[List.set_eq_take_append_cons_drop,if_pos hi];simp[fH,tZ]
theorem Fe (l:List sJ) (x:sJ):(l++[x]).map jk=l.map jk++[jk x]:=by simp
theorem cX.r8 (r:cX):r.p.sl.length=r.rows.length:=by simp[cX.p]
theorem yV {r:cX} {id:Int}:r.p.has id=true<->1<=id/\id<=(r.rows.length:Int):=by
 simp[Ar.has,cX.r8]
theorem qW {A:Ar} {id:Int} (h:A.has id=false):A.bP id=none:=by simp[Ar.bP,h]
theorem lx {r:cX} {id:Int} (h:r.p.has id=true):∃(i:Nat) (x:sJ),id=(i:Int)+1/\r.rows[i]? =some x/\r.p.bP id=some x.p:=by
 obtain⟨h1,h2⟩:=yV.1 h;obtain⟨i,rfl⟩:∃i:Nat,id=(i:Int)+1:=⟨(id-1).toNat,by omega⟩;obtain⟨x,hx⟩:=aD (l:=r.rows) (i:=i) (by omega);refine⟨i,x,rfl,hx,?_⟩;unfold Ar.bP;rw[if_pos h,show((i:Int)+1-1).toNat=i by omega];simp[cX.p,hx]
theorem xc {A:Ar} {id:Int} (h:A.has id=false):A.kind id=0:=by simp[Ar.kind,qW h]
theorem Lz {A:Ar} {id i:Int} (h:A.has id=false):A.val id i=0:=by simp[Ar.val,qW h]
theorem De {A:Ar} {id:Int} (h:A.has id=false):A.aB id=false:=by simp[Ar.aB,qW h]
theorem mixed:prog.follows .mixedOrders=true:=by kernel_rfl
theorem t3:dg prog 3=some (true,1,8,.int .i64 0):=by kernel_rfl
theorem t4:dg prog 4=some (true,1,1,.bool false):=by kernel_rfl
theorem t24:dg prog 24=some (true,1,24,.slice none 0 0):=by kernel_rfl
theorem t104:dg prog 104=some (false,6,64,.agg #[.bool false,.int .i64 0,.int .i64 0,.int .i64 0,.slice none 0 0,.int .i64 0]):=by kernel_rfl
theorem t43:dg prog 43=some (false,2,16,.agg #[.int .i64 0,.int .i64 0]):=by kernel_rfl
theorem t143:dg prog 143=some (false,4,24,.agg #[.int .i64 0,.int .i64 0,.bool false,.bool false]):=by kernel_rfl
theorem iB:kW prog 104=some [(0,1,true),(1,1,true),(2,1,true),(3,1,true),(4,1,true),(5,1,true)]:=by kernel_rfl
theorem mg:kW prog 143=some [(0,1,true),(1,1,true),(2,1,true),(3,1,true)]:=by kernel_rfl
theorem W0:iF prog 43 2=true:=by kernel_rfl
theorem Oa:ah prog 119:=ah.mk' func119 rfl rfl
theorem Ob:ah prog 120:=ah.mk' func120 rfl rfl
theorem Oc:ah prog 144:=ah.mk' func144 rfl rfl
theorem Ff (k:Kb) (key:Int):aN prog 120 [k.val,.int .i64 key] [] [] (fun v Γ M=>v= .bool (k.has key)/\Γ=[]/\M=[]):=by
 refine cb fun X H₀ L₀=>?_;refine bx fun b1=>?_;refine mc ?_;refine At.split (d:=8) rfl (fun h1=>?_) (fun h1=>?_);refine mc ?_;refine At.split (d:=18) rfl (fun h2=>?_) (fun h2=>?_);refine re ?_;exact rs ⟨congrArg Value.bool (by simp_all [Kb.has]<;>omega),rfl,rfl⟩;refine re ?_;exact rs ⟨congrArg Value.bool (by simp_all [Kb.has]<;>omega),rfl,rfl⟩;refine sp 14 (fun h3=>?_) (fun h3=>?_);refine mc ?_;refine At.split (d:=18) rfl (fun h4=>?_) (fun h4=>?_);refine re ?_;exact rs ⟨congrArg Value.bool (by simp_all [Kb.has]<;>omega),rfl,rfl⟩;refine re ?_;exact rs ⟨congrArg Value.bool (by simp_all [Kb.has]<;>omega),rfl,rfl⟩;refine re ?_;exact rs ⟨congrArg Value.bool (by simp_all [Kb.has]<;>omega),rfl,rfl⟩
theorem LA (k:Kb) (x:Pr) (b:Nat):aN prog 119 [x.val,.pointer (some ⟨b,0,none⟩)] [aW b k.val.cells] [] (fun v Γ M=>v= .bool (!k.has x.k)/\Γ=[]/\M=[]):=by
 refine cb fun X H₀ L₀=>?_;refine bx fun b1=>?_;refine ca (Ff k _) ?_;refine re ?_;exact rs ⟨rfl,rfl,rfl⟩
section
variable (l:Sl Pr) (f:FuncId) (cap:List Value) (p:Pr->Bool) (φ:ag) (hen:ah prog f) (hcon:∀x,aN prog f (x.val::cap) [φ] [] (fun v Γ M=>v= .bool (p x)/\Γ=[]/\M=[]))
include l f cap p φ hen hcon
theorem ua:aN prog 144 [l.val,.func (.func f) #[] cap.toArray] [aC l,φ] [] (fun v Γ M=>v= .int .i64 (mU p l.l)/\Γ=[]/\M=[]):=by
 refine cb fun X H₀ L₀=>?_;refine At.lenOf (hs:=(ix 1 rfl)) fun hlen=>?_;rw[List.length_map]at hlen;refine mc ?_;refine At.dP (ι:=Nat) [4,5,8,9,10,11,12,13,14,15,16,17,18] (fun k=>[(8,.int .i64 (k:Int))]) (fun k=>[]) (fun k=>[]) _ (fun k=>k<=l.l.length/\∀y∈l.l.take k,p y=false) (fun k=>l.l.length-k) 0 ⟨Nat.zero_le _,by simp⟩ ⟨rfl,trivial⟩ (fun _ _=>trivial) r_ ?_;intro k hI;refine fi (fun hk=>?_) (fun hk=>?_);obtain⟨x,hx⟩:=aD (l:=l.l) (i:=k) (by omega);have hk1:=ae hx;refine mc ?_;refine qt (bD underlying24 t43 rfl (.tail _ (.head _)) (by simp) rfl rfl (ae hx)) ?_;refine qt (bU t43 rfl (fc.kK (.tail _ (.head _)) (aI hx)) rfl) ?_;refine At.rS hen rfl rfl (by simp[Pr.val,js]) (hcon x) (fun _ h=>⟨h.2.2.1,trivial⟩) (List.Perm.refl _) rfl ?_;refine cv (fun hp=>?_) (fun hp=>?_);refine re ?_;exact rs ⟨congrArg (Value.int .i64) (EG hx hp hI.2).symm,rfl,rfl⟩;refine mc ?_;exact At.bX (k+1) ⟨hk1,yK hx hp hI.2⟩ (by(try dsimp only);omega) (bc.end 12 ⟨rfl,trivial⟩ rfl rfl) (fun _ h=>h) r_;refine re ?_;exact rs ⟨congrArg (Value.int .i64) (EH (by have h:=hI.2;rwa [List.take_of_length_le (by omega)]at h)).symm,rfl,rfl⟩
theorem II:aN prog 118 [l.val,.func (.func f) #[] cap.toArray] [aC l,φ] [] (fun v Γ M=>v= .bool (l.l.any p)/\Γ=[]/\M=[]):=by
 refine cb fun X H₀ L₀=>?_;refine ca (ua l f cap p φ hen hcon) ?_;refine re ?_;exact rs ⟨congrArg Value.bool (Iw p l.l),rfl,rfl⟩
end
theorem Fg (l:Sl Pr):aN prog 57 [l.val] [aC l] [] (fun v Γ M=>v= .bool (dV l.l)/\Γ=[]/\M=[]):=by
 refine cb fun X H₀ L₀=>?_;refine At.lenOf (hs:=(ix 1 rfl)) fun hlen=>?_;rw[List.length_map]at hlen;refine mc ?_;refine At.dP (ι:=Nat) [2,3,4,5,6,7,8,9,10,11,12,13,14,15,16,17,18,19,20,21] (fun k=>[(3,.int .i64 (k:Int))]) (fun k=>[]) (fun k=>[]) _ (fun k=>1<=k/\∀(i:Nat) (a b:Pr),i+1<k->l.l[i]? =some a->l.l[i+1]? =some b->a.k<b.k) (fun k=>l.l.length-k) 1 ⟨Nat.le_refl _,fun i a b h=>by omega⟩ ⟨rfl,trivial⟩ (fun _ _=>trivial) r_ ?_;intro k hI;obtain⟨hk0,hI⟩:=hI;refine fi (fun hk=>?_) (fun hk=>?_);obtain⟨j,rfl⟩:∃j,k=j+1:=⟨k-1,by omega⟩;obtain⟨x,hx⟩:=aD (l:=l.l) (i:=j) (by omega);obtain⟨y,hy⟩:=aD (l:=l.l) (i:=j+1) (by omega);have hj1:=ae hy;refine dw 11 [] r_ ?_;refine mc ?_;refine aQ.quiet rfl (bD underlying24 t43 rfl (ix 1 rfl) (by simp) rfl (by omega) (ae hx)) rfl (Calm.then (Calm.inBlock (Calm.then (Calm.then (Calm.inBlock (Calm.then bG.calm)))))) ?_;refine mc ?_;refine aQ.quiet rfl (aY t3 rfl (Rd.sl (ix 1 rfl) (aI hx) rfl)) rfl (Calm.then (Calm.inBlock (Calm.then (Calm.then (Calm.inBlock (Calm.then bG.calm)))))) ?_;refine mc ?_;refine aQ.quiet rfl (bD underlying24 t43 rfl (ix 1 rfl) (by simp) rfl rfl (ae hy)) rfl (Calm.then (Calm.inBlock (Calm.then (Calm.then (Calm.inBlock (Calm.then bG.calm)))))) ?_;refine mc ?_;refine aQ.quiet rfl (aY t3 rfl (Rd.sl (ix 1 rfl) (aI hy) rfl)) rfl (Calm.then (Calm.inBlock (Calm.then (Calm.then (Calm.inBlock (Calm.then bG.calm)))))) ?_;refine fi (fun hc=>?_) (fun hc=>?_);refine re ?_;exact rs ⟨congrArg Value.bool ((ED hx hy (by omega)).symm),rfl,rfl⟩;refine mc ?_;exact At.bX (j+2) ⟨by omega,EF hI hx hy (by omega)⟩ (by(try dsimp only);omega) (bc.end 20 ⟨rfl,trivial⟩ rfl rfl) (fun _ h=>h) r_;refine re ?_;exact rs ⟨congrArg Value.bool ((gT.2 fun i a b ha hb=>hI i a b (by have:=ae hb;omega) ha hb).symm),rfl,rfl⟩
theorem Fh (a b:Sl Pr):aN prog 25 [a.val,b.val] [aC a,aC b] [] (fun v Γ M=>v= .bool (decide (a.l=b.l))/\Γ=[]/\M=[]):=by
 refine cb fun X H₀ L₀=>?_;refine At.lenOf (hs:=(ix 1 rfl)) fun ha=>?_;rw[List.length_map]at ha;refine At.lenOf (hs:=(ix 2 rfl)) fun hb=>?_;rw[List.length_map]at hb;refine fi (fun hn=>?_) (fun hn=>?_);refine re ?_;exact rs ⟨congrArg Value.bool ((decide_eq_false (EC (by simpa using hn))).symm),rfl,rfl⟩;have hab:a.l.length=b.l.length:=by omega
 refine mc ?_;refine At.dP (ι:=Nat) [4,5,13,14,15,16,17,18,19,20,21,22,23,24,25] (fun k=>[(13,.int .i64 (k:Int))]) (fun k=>[]) (fun k=>[]) _ (fun k=>k<=a.l.length/\a.l.take k=b.l.take k) (fun k=>a.l.length-k) 0 ⟨Nat.zero_le _,by simp⟩ ⟨rfl,trivial⟩ (fun _ _=>trivial) r_ ?_;intro k hI;refine fi (fun hk=>?_) (fun hk=>?_);obtain⟨x,hx⟩:=aD (l:=a.l) (i:=k) (by omega);obtain⟨y,hy⟩:=aD (l:=b.l) (i:=k) (by omega);have hk1:=ae hx;refine dw 8 [] r_ ?_;refine mc ?_;refine aQ.quiet rfl (bD underlying24 t43 rfl (ix 1 rfl) (by simp) rfl rfl (ae hx)) rfl (Calm.then (Calm.inBlock (Calm.then (Calm.then (Calm.inBlock (Calm.then bG.calm)))))) ?_;refine aQ.quiet rfl (bU t43 rfl (fc.kK (ix 1 rfl) (aI hx)) rfl) rfl (Calm.then (Calm.inBlock (Calm.then (Calm.then (Calm.inBlock (Calm.then bG.calm)))))) ?_;refine mc ?_;refine aQ.quiet rfl (bD underlying24 t43 rfl (ix 2 rfl) (by simp) rfl rfl (ae hy)) rfl (Calm.then (Calm.inBlock (Calm.then (Calm.then (Calm.inBlock (Calm.then bG.calm)))))) ?_;refine aQ.quiet rfl (bU t43 rfl (fc.kK (ix 2 rfl) (aI hy)) rfl) rfl (Calm.then (Calm.inBlock (Calm.then (Calm.then (Calm.inBlock (Calm.then bG.calm)))))) ?_;refine mc ?_;refine qt (rV W0 rfl rfl rfl rfl rfl rfl) ?_;refine cv (fun hxy=>?_) (fun hxy=>?_);refine re ?_;exact rs ⟨congrArg Value.bool ((decide_eq_false (KC hx hy (fun e=>by simp[e]at hxy))).symm),rfl,rfl⟩;refine mc ?_;exact At.bX (k+1) ⟨hk1,vO hx ((Pr.eq_iff.1 (by simpa using hxy)).symm▸hy) hI.2⟩ (by(try dsimp only);omega) (bc.end 15 ⟨rfl,trivial⟩ rfl rfl) (fun _ h=>h) r_;refine re ?_;exact rs ⟨congrArg Value.bool ((decide_eq_true (rY hab (by omega) hI.2)).symm),rfl,rfl⟩
theorem BP (l:Sl Pr) (hl:l.l.length<=1000000):aN prog 58 [l.val] [aC l] [] (fun v Γ M=>∃s:Sl Pr,v=s.val/\s.l=l.l/\Γ=[aC s]/\M=[]):=by
 refine cb fun X H₀ L₀=>?_;refine mc ?_;refine qt (gb underlying24 rfl rfl) ?_;refine cv (fun hn=>?_) (fun hn=>?_);refine At.vN (hs:=(ix 1 rfl)) (by simpa using hn) fun hnil=>?_;refine At.aJ (aC ⟨none,0,[]⟩) (fun _ _=>dh _ _ _ (Nat.zero_le _)) ?_;refine re ?_;exact rs ⟨⟨none,0,[]⟩,rfl,hnil.symm,rfl,rfl⟩;refine mc ?_;refine lM (kN underlying24 t43) ?_;rintro _ _ _ ⟨e1,rfl,rfl,rfl⟩;refine mc ?_;refine lM (mT rfl underlying24 t43 rfl rfl (.tail _ (.head _)) (by simp) rfl (by omega) (by unfold maxLen;omega) rfl) ?_;rintro _ _ _ ⟨a2,c2,rfl,rfl,rfl⟩;refine re ?_;exact rs ⟨⟨a2,c2,l.l⟩,rfl,rfl,rfl,rfl⟩
theorem LB (a b:Nd):aN prog 99 [a.val,b.val] [aC a.ps,aC b.ps] [] (fun v Γ M=>v= .bool (decide (a.p=b.p))/\Γ=[]/\M=[]):=by
 refine cb fun X H₀ L₀=>?_;refine bx fun b1=>?_;refine bx fun b2=>?_;refine mc ?_;refine qt (yB underlying4 rfl rfl) ?_;refine mc ?_;refine At.split (d:=10) rfl (fun h1=>?_) (fun h1=>?_);refine sp 17 (fun h2=>?_) (fun h2=>?_);refine sp 24 (fun h3=>?_) (fun h3=>?_);refine sp 31 (fun h4=>?_) (fun h4=>?_);refine sp 38 (fun h5=>?_) (fun h5=>?_);refine ca (Fh _ _) ?_;refine re ?_;exact rs ⟨congrArg Value.bool (by cases a;cases b;simp_all [Nd.p]),rfl,rfl⟩;refine re ?_;exact rs ⟨congrArg Value.bool (by cases a;cases b;simp_all [Nd.p]),rfl,rfl⟩;refine re ?_;exact rs ⟨congrArg Value.bool (by cases a;cases b;simp_all [Nd.p]),rfl,rfl⟩;refine re ?_;exact rs ⟨congrArg Value.bool (by cases a;cases b;simp_all [Nd.p]),rfl,rfl⟩;refine re ?_;exact rs ⟨congrArg Value.bool (by cases a;cases b;simp_all [Nd.p]),rfl,rfl⟩;refine re ?_;exact rs ⟨congrArg Value.bool (by cases a;cases b;simp_all [Nd.p]),rfl,rfl⟩
theorem t34:dg prog 34=some (true,1,24,.slice none 0 0):=by kernel_rfl
theorem t36:dg prog 36=some (false,2,32,.agg #[.int .i64 0,.slice none 0 0]):=by kernel_rfl
theorem t138:dg prog 138=some (true,1,24,.slice none 0 0):=by kernel_rfl
theorem t140:dg prog 140=some (false,4,64,.agg #[.int .i64 0,.slice none 0 0,.slice none 0 0,.int .i64 0]):=by kernel_rfl
theorem Df:kW prog 36=some [(0,1,true),(1,1,true)]:=by kernel_rfl
theorem yW:kW prog 140=some [(0,2,false),(2,1,true),(3,1,true)]:=by kernel_rfl
theorem pV:ah prog 101:=ah.mk' func101 rfl rfl
theorem Vc:ah prog 57:=ah.mk' func57 rfl rfl
theorem Vd:ah prog 99:=ah.mk' func99 rfl rfl
theorem Od:ah prog 118:=ah.mk' func118 rfl rfl
theorem LD (a b:Tr):aN prog 62 [a.val,b.val] [pN a.ns,pO a.ns.l,pN b.ns,pO b.ns.l] [] (fun v Γ M=>v= .bool (decide (a.p=b.p))/\Γ=[]/\M=[]):=by
 refine aN.body 39 func62 rfl ntmps62 rfl fun X H₀ L₀=>?_;refine At.lenOf (hs:=(ix 1 rfl)) fun ha=>?_;rw[List.length_map]at ha;refine At.lenOf (hs:=(ix 3 rfl)) fun hb=>?_;rw[List.length_map]at hb;refine At.seq ?_;refine At.region ?_;refine At.eJ (tE rfl) rfl ?_;rintro _ _ _ ⟨b1,rfl,rfl,rfl⟩;refine At.freeze 0 (φ:=aW b1 _) rfl (fun _ h=>cO.2 ⟨_,_,h⟩) ?_;refine At.eJ (tE rfl) rfl ?_;rintro _ _ _ ⟨b2,rfl,rfl,rfl⟩;refine At.freeze 0 (φ:=aW b2 _) rfl (fun _ h=>cO.2 ⟨_,_,h⟩) ?_;refine At.bu 1 rfl rfl ?_;refine At.nil ?_;refine At.then ?_;refine At.seq ?_;refine At.seq ?_;refine At.region ?_;refine At.sF Df t3 rfl rfl rfl (Rd.aW (ix 1 rfl) rfl) rfl rfl ?_;refine At.sF Df t3 rfl rfl rfl (Rd.aW (.head _) rfl) rfl rfl ?_;refine At.bu 2 rfl rfl ?_;refine At.eV (d:=11) rfl (fun hr=>?_) (fun hr=>?_);refine At.bu 8 rfl rfl ?_;refine At.nil ?_;refine At.then ?_;refine At.pG rfl ?_;refine At.seq ?_;refine At.region ?_;refine At.bu 1 rfl rfl ?_;refine At.nil ?_;refine At.then ?_;refine At.ret ?_;refine At.dq ?_;exact At.results (Γr:=[]) (M:=[]) rfl (aT.cons (dU.tmp rfl) aT.nil) (ix 2 rfl) (fun _ _=>trivial) r_ ⟨congrArg Value.bool ((decide_eq_false fun e=>hr (congrArg PT.root e)).symm),rfl,rfl⟩;refine At.open rfl rfl ?_;refine At.quiet (aq Df rfl rfl rfl) rfl ?_;refine At.open rfl rfl ?_;refine At.quiet (aY t34 rfl (Rd.aW (ix 1 rfl) rfl)) rfl ?_;refine At.open rfl rfl ?_;refine At.quiet (kY underlying34 rfl) rfl ?_;refine At.open rfl rfl ?_;refine At.quiet (aq Df rfl rfl rfl) rfl ?_;refine At.open rfl rfl ?_;refine At.quiet (aY t34 rfl (Rd.aW (.head _) rfl)) rfl ?_;refine At.open rfl rfl ?_;refine At.quiet (kY underlying34 rfl) rfl ?_;refine At.bu 2 rfl rfl ?_;refine At.nil ?_;refine At.then ?_;refine At.if rfl (fun hn=>?_) (fun hn=>?_);refine At.seq ?_;refine At.region ?_;refine At.bu 1 rfl rfl ?_;refine At.nil ?_;refine At.then ?_;refine At.ret ?_;refine At.dq ?_;exact At.results (Γr:=[]) (M:=[]) rfl (aT.cons (dU.tmp rfl) aT.nil) (ix 2 rfl) (fun _ _=>trivial) r_ ⟨congrArg Value.bool ((decide_eq_false fun e=>(EC (by simpa[Tr.p]using hn)) (congrArg PT.ns e)).symm),rfl,rfl⟩;have hab:a.ns.l.length=b.ns.l.length:=by omega
 refine At.skip ?_;refine At.then ?_;refine At.seq ?_;refine At.seq ?_;refine At.region ?_;refine At.sF Df t34 rfl rfl rfl (Rd.aW (ix 1 rfl) rfl) rfl rfl ?_;refine At.quiet (kY underlying34 rfl) rfl ?_;refine At.bu 1 rfl rfl ?_;refine At.nil ?_;refine At.then ?_;refine At.block ?_;refine At.dP (ι:=Nat) [4,5,23,24,25,26,27,28,29,30,31,32,33,34,35,36,37,38] (fun k=>[(23,.int .i64 (k:Int))]) (fun k=>[]) (fun k=>[]) _ (fun k=>k<=a.ns.l.length/\(a.ns.l.map Nd.p).take k=(b.ns.l.map Nd.p).take k) (fun k=>a.ns.l.length-k) 0 ⟨Nat.zero_le _,by simp⟩ ⟨rfl,trivial⟩ (fun _ _=>trivial) r_ ?_;intro k hI;refine At.seq ?_;refine At.region ?_;refine At.bu 1 rfl rfl ?_;refine At.nil ?_;refine At.then ?_;refine At.seq ?_;refine At.if rfl (fun hk=>?_) (fun hk=>?_);obtain⟨x,hx⟩:=aD (l:=a.ns.l) (i:=k) (by omega);obtain⟨y,hy⟩:=aD (l:=b.ns.l) (i:=k) (by omega);have hk1:=ae hx;refine At.aJ (aC x.ps) (fun _ h=>pQ h.2.2.2.2.1 hx) ?_;refine At.aJ (aC y.ps) (fun _ h=>pQ h.2.2.2.2.2.2.2.1 hy) ?_;refine At.skip ?_;refine At.then ?_;refine At.seq ?_;refine At.block ?_;refine At.seq ?_;refine At.region ?_;refine At.bu 2 rfl rfl ?_;refine At.nil ?_;refine At.then ?_;refine At.seq ?_;refine At.draw 10 (.q 0 (.q 1 (.q 2 (.q 3 (.q 4 (.q 5 (.q 6 (.q 7 (.q 8 (.q 9 (.e))))))))))) _ (List.Sublist.refl _) mixed (by kernel_rfl) rfl ?_;refine aQ.quiet rfl (aq Df rfl rfl rfl) rfl (Calm.then (Calm.inBlock (Calm.then (Calm.then (Calm.inBlock (Calm.then bG.calm)))))) ?_;refine aQ.quiet rfl (aY t34 rfl (Rd.aW (ix 3 rfl) rfl)) rfl (Calm.then (Calm.inBlock (Calm.then (Calm.then (Calm.inBlock (Calm.then bG.calm)))))) ?_;refine aQ.quiet rfl (oS rfl) rfl (Calm.then (Calm.inBlock (Calm.then (Calm.then (Calm.inBlock (Calm.then bG.calm)))))) ?_;refine aQ.quiet rfl (bD underlying34 t104 rfl (ix 5 rfl) (by simp) rfl rfl (ae hx)) rfl (Calm.then (Calm.inBlock (Calm.then (Calm.then (Calm.inBlock (Calm.then bG.calm)))))) ?_;refine aQ.quiet rfl (bU t104 rfl (fc.kK (ix 5 rfl) (aI hx)) rfl) rfl (Calm.then (Calm.inBlock (Calm.then (Calm.then (Calm.inBlock (Calm.then bG.calm)))))) ?_;refine aQ.quiet rfl (aq Df rfl rfl rfl) rfl (Calm.then (Calm.inBlock (Calm.then (Calm.then (Calm.inBlock (Calm.then bG.calm)))))) ?_;refine aQ.quiet rfl (aY t34 rfl (Rd.aW (ix 2 rfl) rfl)) rfl (Calm.then (Calm.inBlock (Calm.then (Calm.then (Calm.inBlock (Calm.then bG.calm)))))) ?_;refine aQ.quiet rfl (oS rfl) rfl (Calm.then (Calm.inBlock (Calm.then (Calm.then (Calm.inBlock (Calm.then bG.calm)))))) ?_;refine aQ.quiet rfl (bD underlying34 t104 rfl (ix 7 rfl) (by simp) rfl rfl (ae hy)) rfl (Calm.then (Calm.inBlock (Calm.then (Calm.then (Calm.inBlock (Calm.then bG.calm)))))) ?_;refine aQ.quiet rfl (bU t104 rfl (fc.kK (ix 7 rfl) (aI hy)) rfl) rfl (Calm.then (Calm.inBlock (Calm.then (Calm.then (Calm.inBlock (Calm.then bG.calm)))))) ?_
 refine aQ.done ?_;refine At.call Vd rfl (LB x y) (fun _ h=>⟨h.2.1,h.1,trivial⟩) (List.Perm.refl _) rfl ?_;rintro _ _ _ ⟨rfl,rfl,rfl⟩;refine At.bu 1 rfl rfl ?_;refine At.nil ?_;refine At.then ?_;refine At.cond rfl (fun hxy=>?_) (fun hxy=>?_);refine At.seq ?_;refine At.region ?_;refine At.bu 1 rfl rfl ?_;refine At.nil ?_;refine At.then ?_;refine At.ret ?_;refine At.yt ?_;refine At.dq ?_;refine At.dq ?_;refine At.yt ?_;refine At.dq ?_;exact At.results (Γr:=[]) (M:=[]) rfl (aT.cons (dU.tmp rfl) aT.nil) (ix 4 rfl) (fun _ _=>trivial) r_ ⟨congrArg Value.bool ((decide_eq_false fun e=>(KC (aI hx) (aI hy) (by simpa using hxy)) (congrArg PT.ns e)).symm),rfl,rfl⟩;refine At.skip ?_;refine At.kV ?_;refine At.then ?_;refine At.region ?_;refine At.quiet (BI rfl rfl (by omega) (by omega)) rfl ?_;refine At.bu 1 rfl rfl ?_;refine At.nil ?_;refine At.then ?_;exact At.bX (k+1) ⟨hk1,vO (aI hx) (by rw[show x.p=y.p by simpa using hxy];exact aI hy) hI.2⟩ (by(try dsimp only);omega) (bc.end 18 ⟨rfl,trivial⟩ rfl rfl) (fun _ h=>h.2.2) r_;refine At.exit ?_;refine At.jI ?_;refine At.jI ?_;refine At.tq rfl ?_;refine At.then ?_;refine At.seq ?_;refine At.region ?_;refine At.bu 1 rfl rfl ?_;refine At.nil ?_;refine At.then ?_;refine At.ret ?_;exact At.results (Γr:=[]) (M:=[]) rfl (aT.cons (dU.tmp rfl) aT.nil) (ix 2 rfl) (fun _ _=>trivial) r_ ⟨congrArg Value.bool ((decide_eq_true (NT (show a.root=b.root by omega) (rY (by simpa[Tr.p]using hab) (by simp[Tr.p];omega) hI.2))).symm),rfl,rfl⟩
theorem AG (t:Tr) (f:Nat) (ih:EP t f):EP t (f+1):=by
 intro met at_ k b a c Mm hb hO;refine aN.body 139 func101 rfl ntmps101 rfl fun X H₀ L₀=>?_;refine At.lenOf (hs:=(ix 1 rfl)) fun hlen=>?_;rw[List.length_map]at hlen;refine At.seq ?_;refine At.region ?_;refine At.eJ (tE rfl) rfl ?_;rintro _ _ _ ⟨b1,rfl,rfl,rfl⟩;refine At.freeze 0 (φ:=aW b1 _) rfl (fun _ h=>cO.2 ⟨_,_,h⟩) ?_;refine At.bu 1 rfl rfl ?_;refine At.nil ?_;refine At.then ?_;refine At.seq ?_;refine At.seq ?_;refine At.region ?_;refine At.bu 3 rfl rfl ?_;refine At.eV (d:=12) rfl (fun hneg=>?_) (fun hneg=>?_);refine At.bu 18 rfl rfl ?_;refine At.nil ?_;refine At.then ?_;refine At.pG rfl ?_;refine At.seq ?_;refine At.region ?_;refine At.bu 1 rfl rfl ?_;refine At.nil ?_;refine At.then ?_;refine At.ret ?_;refine At.dq ?_;exact At.results (Γr:=[]) (M:=[[(b,.cells #[.int .i64 t.root,t.ns.val,.slice a t.ns.l.length c,.int .i64 ((bits t.ns.l.length met).count true:Nat)] 140 (0,0))],Mm]) rfl (aT.cons (dU.tmp rfl) aT.nil) (ix 1 rfl) (fun _ _=>trivial) (k_ (k_ r_)) ⟨_,_,congrArg Value.bool (by rw[EJ hneg];rfl),rfl,rfl,.no (EJ hneg)⟩;obtain⟨i,rfl⟩:=Int.eq_ofNat_of_zero_le (show 0<=at_ by omega);refine At.bu 3 rfl rfl ?_;refine At.open rfl rfl ?_;refine At.quiet (aq yW rfl rfl rfl) rfl ?_;refine At.open rfl rfl ?_;refine At.quiet (aq Df rfl rfl rfl) rfl ?_;refine At.open rfl rfl ?_;refine At.quiet (aY t34 rfl (Rd.loc (i:=0) rfl rfl)) rfl ?_;refine At.open rfl rfl ?_;refine At.quiet (kY underlying34 rfl) rfl ?_;refine At.bu 3 rfl rfl ?_;refine At.eV (d:=22) rfl (fun hout=>?_) (fun hout=>?_);refine At.bu 8 rfl rfl ?_;refine At.nil ?_;refine At.then ?_;refine At.pG rfl ?_;refine At.seq ?_;refine At.region ?_;refine At.bu 1 rfl rfl ?_;refine At.nil ?_;refine At.then ?_;refine At.ret ?_;refine At.dq ?_;exact At.results (Γr:=[]) (M:=[[(b,.cells #[.int .i64 t.root,t.ns.val,.slice a t.ns.l.length c,.int .i64 ((bits t.ns.l.length met).count true:Nat)] 140 (0,0))],Mm]) rfl (aT.cons (dU.tmp rfl) aT.nil) (ix 1 rfl) (fun _ _=>trivial) (k_ (k_ r_)) ⟨_,_,congrArg Value.bool (by rw[EK (by simp[Tr.p];omega)];rfl),rfl,rfl,.no (EK (by simp[Tr.p];omega))⟩;have hi:i<t.ns.l.length:=by omega
 obtain⟨x,hx⟩:=aD hi;have hxp:t.p.ns[i]? =some x.p:=aI hx;have hcl:=count_le t.ns.l.length met;refine At.bu 2 rfl rfl ?_;refine At.open rfl rfl ?_;refine At.quiet (aq yW rfl rfl rfl) rfl ?_;refine At.open rfl rfl ?_;refine At.quiet (aY t138 rfl (Rd.loc (i:=0) rfl rfl)) rfl ?_;refine At.bu 1 rfl rfl ?_;refine At.open rfl rfl ?_;refine At.quiet (cA underlying138 t4 rfl hO (by simp[eQ]) rfl rfl hi) rfl ?_;refine At.open rfl rfl ?_;refine At.quiet (aY t4 rfl (Rd.tG hO (i:=1) rfl (aI (kZ hi)) rfl)) rfl ?_;refine At.bu 1 rfl rfl ?_;refine At.nil ?_;refine At.then ?_;refine At.cond rfl (fun hmet=>?_) (fun hmet=>?_);refine At.seq ?_;refine At.region ?_;refine At.bu 1 rfl rfl ?_;refine At.nil ?_;refine At.then ?_;refine At.ret ?_;refine At.dq ?_;exact At.results (Γr:=[]) (M:=[[(b,.cells #[.int .i64 t.root,t.ns.val,.slice a t.ns.l.length c,.int .i64 ((bits t.ns.l.length met).count true:Nat)] 140 (0,0))],Mm]) rfl (aT.cons (dU.tmp rfl) aT.nil) (ix 1 rfl) (fun _ _=>trivial) (k_ (k_ r_)) ⟨_,_,congrArg Value.bool (by rw[EL hmet];rfl),rfl,rfl,.no (EL hmet)⟩;have hcs:=AA hi hmet;have hcl2:=count_le t.ns.l.length (i::met);refine At.skip ?_;refine At.then ?_;refine At.seq ?_;refine At.region ?_;refine At.bu 2 rfl rfl ?_;refine At.sF yW t138 rfl rfl rfl (Rd.loc (i:=0) rfl rfl) rfl rfl ?_;refine At.bu 1 rfl rfl ?_;refine At.quiet (cA underlying138 t4 rfl hO (by simp[eQ]) rfl rfl hi) rfl ?_;refine At.bC (iU t4 rfl rfl hO (i:=1) rfl (aI (kZ hi)) rfl rfl rfl) ?_;rintro _ _ _ ⟨Mow1,ow1,rfl,rfl⟩;refine At.nil ?_;refine At.then ?_;refine At.seq ?_;refine At.region ?_;have hO2:bR 4 1 ((bits t.ns.l.length (i::met)).map wW) a c Mow1:=by rw[<-EM _ _ _ (met.contains i)];exact ow1
 refine At.bu 2 rfl rfl ?_;refine At.sF yW t3 rfl rfl rfl (Rd.loc (i:=0) rfl rfl) rfl rfl ?_;refine At.quiet (BI rfl rfl (by omega) (by omega)) rfl ?_;refine At.fZ 41 (.int .i64 ((bits t.ns.l.length (i::met)).count true:Nat)) rfl (congrArg (Value.int .i64) (by omega)) ?_;refine At.aJ (aC x.ps) (fun _ h=>pQ h.2.2.2.1 hx) ?_;refine At.bu 1 rfl rfl ?_;refine At.quiet (aq yW rfl rfl rfl) rfl ?_;refine At.bC (aw t3 rfl rfl (i:=0) rfl rfl rfl rfl) ?_;rintro _ _ _ ⟨rfl,rfl⟩;refine At.nil ?_;refine At.then ?_;refine At.seq ?_;refine At.region ?_;refine At.bu 2 rfl rfl ?_;refine At.quiet (aq yW rfl rfl rfl) rfl ?_;refine At.sF Df t34 rfl rfl rfl (Rd.loc (i:=0) rfl rfl) rfl rfl ?_;refine At.bu 1 rfl rfl ?_;refine At.quiet (bD underlying34 t104 rfl (ix 3 rfl) (by simp) rfl rfl (ae hx)) rfl ?_;refine At.quiet (bU t104 rfl (fc.kK (ix 3 rfl) (aI hx)) rfl) rfl ?_;refine At.eJ (iP t104) rfl ?_;rintro _ _ _ ⟨b2,rfl,rfl,rfl⟩;refine At.bC (aw t104 rfl rfl (i:=0) rfl rfl rfl rfl) ?_;rintro _ _ _ ⟨rfl,rfl⟩;refine At.nil ?_;refine At.then ?_;refine At.seq ?_;refine At.seq ?_;refine At.region ?_;refine At.sF iB t4 rfl rfl rfl (Rd.loc (i:=0) rfl rfl) rfl rfl ?_;refine At.bu 1 rfl rfl ?_;refine At.nil ?_;refine At.then ?_;refine At.cond rfl (fun hleaf=>?_) (fun hleaf=>?_);refine At.seq ?_;refine At.region ?_;refine At.sF iB t3 rfl rfl rfl (Rd.loc (i:=0) rfl rfl) rfl rfl ?_;refine At.bu 2 rfl rfl ?_;refine At.eV (d:=58) rfl (fun h2=>?_) (fun h2=>?_);refine At.open rfl rfl ?_;refine At.quiet (aq iB rfl rfl rfl) rfl ?_;refine At.open rfl rfl ?_;refine At.quiet (aY t3 rfl (Rd.loc (i:=0) rfl rfl)) rfl ?_;refine At.bu 3 rfl rfl ?_;refine At.eV (d:=63) rfl (fun h3=>?_) (fun h3=>?_);refine At.open rfl rfl ?_;refine At.quiet (aq iB rfl rfl rfl) rfl ?_;refine At.open rfl rfl ?_;refine At.quiet (aY t3 rfl (Rd.loc (i:=0) rfl rfl)) rfl ?_;refine At.bu 3 rfl rfl ?_;refine At.eV (d:=68) rfl (fun h4=>?_) (fun h4=>?_);refine At.open rfl rfl ?_;refine At.quiet (aq iB rfl rfl rfl) rfl ?_;refine At.open rfl rfl ?_;refine At.quiet (aY t24 rfl (Rd.loc (i:=0) rfl rfl)) rfl ?_;refine At.open rfl rfl ?_;refine At.call Vc rfl (Fg _) (fun _ h=>⟨h.1,trivial⟩) (List.Perm.refl _) rfl ?_;rintro _ _ _ ⟨rfl,rfl,rfl⟩;refine At.bu 2 rfl rfl ?_;refine At.split (d:=73) rfl (fun h5=>?_) (fun h5=>?_);refine At.open rfl rfl ?_;refine At.quiet (aq iB rfl rfl rfl) rfl ?_;refine At.open rfl rfl ?_;refine At.quiet (aY t3 rfl (Rd.loc (i:=0) rfl rfl)) rfl ?_;refine At.bu 3 rfl rfl ?_;refine At.eV (d:=78) rfl (fun h6=>?_) (fun h6=>?_);refine At.open rfl rfl ?_;refine At.quiet (aq iB rfl rfl rfl) rfl ?_;refine At.open rfl rfl ?_;refine At.quiet (aY t3 rfl (Rd.loc (i:=0) rfl rfl)) rfl ?_
 refine At.bu 3 rfl rfl ?_;refine At.eV (d:=83) rfl (fun h7=>?_) (fun h7=>?_);refine At.open rfl rfl ?_;refine At.quiet (aq iB rfl rfl rfl) rfl ?_;refine At.open rfl rfl ?_;refine At.quiet (aY t24 rfl (Rd.loc (i:=0) rfl rfl)) rfl ?_;refine At.open rfl rfl ?_;refine At.quiet (tH rfl rfl) rfl ?_;refine At.open rfl rfl ?_;refine At.call Od rfl (II _ 119 [_] (fun p=> !k.has p.k) _ Oa (fun y=>LA k y b1)) (fun _ h=>⟨h.1,h.2.1,trivial⟩) (List.Perm.refl _) rfl ?_;rintro _ _ _ ⟨rfl,rfl,rfl⟩;refine At.bu 3 rfl rfl ?_;refine At.nil ?_;refine At.then ?_;refine At.ret ?_;refine At.dq ?_;exact At.results (Γr:=[]) (M:=[[(b,.cells #[.int .i64 t.root,t.ns.val,.slice a t.ns.l.length c,.int .i64 ((bits t.ns.l.length (i::met)).count true:Nat)] 140 (0,0))],_]) rfl (aT.cons (dU.tmp rfl) aT.nil) (ix 2 rfl) (fun _ _=>trivial) (d_ (k_ (k_ r_))) ⟨_,_,congrArg Value.bool (by rw[fm hxp hmet (by simpa[Nd.p]using hleaf),isSome_ite];simp[iZ,Nd.p,lX,hneg,hout,hmet,hleaf,h2,h3,h4,h5,h6,h7]<;>omega),rfl,rfl,.leaf (fm hxp hmet (by simpa[Nd.p]using hleaf)) hO2⟩;refine At.bu 7 rfl rfl ?_;refine At.nil ?_;refine At.then ?_;refine At.ret ?_;refine At.dq ?_;exact At.results (Γr:=[]) (M:=[[(b,.cells #[.int .i64 t.root,t.ns.val,.slice a t.ns.l.length c,.int .i64 ((bits t.ns.l.length (i::met)).count true:Nat)] 140 (0,0))],_]) rfl (aT.cons (dU.tmp rfl) aT.nil) (ix 2 rfl) (fun _ _=>trivial) (d_ (k_ (k_ r_))) ⟨_,_,congrArg Value.bool (by rw[fm hxp hmet (by simpa[Nd.p]using hleaf),isSome_ite];simp[iZ,Nd.p,lX,hneg,hout,hmet,hleaf,h2,h3,h4,h5,h6,h7]<;>omega),rfl,rfl,.leaf (fm hxp hmet (by simpa[Nd.p]using hleaf)) hO2⟩;refine At.bu 12 rfl rfl ?_;refine At.nil ?_;refine At.then ?_;refine At.ret ?_;refine At.dq ?_;exact At.results (Γr:=[]) (M:=[[(b,.cells #[.int .i64 t.root,t.ns.val,.slice a t.ns.l.length c,.int .i64 ((bits t.ns.l.length (i::met)).count true:Nat)] 140 (0,0))],_]) rfl (aT.cons (dU.tmp rfl) aT.nil) (ix 2 rfl) (fun _ _=>trivial) (d_ (k_ (k_ r_))) ⟨_,_,congrArg Value.bool (by rw[fm hxp hmet (by simpa[Nd.p]using hleaf),isSome_ite];simp[iZ,Nd.p,lX,hneg,hout,hmet,hleaf,h2,h3,h4,h5,h6]<;>omega),rfl,rfl,.leaf (fm hxp hmet (by simpa[Nd.p]using hleaf)) hO2⟩;refine At.bu 17 rfl rfl ?_;refine At.nil ?_;refine At.then ?_;refine At.ret ?_;refine At.dq ?_;exact At.results (Γr:=[]) (M:=[[(b,.cells #[.int .i64 t.root,t.ns.val,.slice a t.ns.l.length c,.int .i64 ((bits t.ns.l.length (i::met)).count true:Nat)] 140 (0,0))],_]) rfl (aT.cons (dU.tmp rfl) aT.nil) (ix 2 rfl) (fun _ _=>trivial) (d_ (k_ (k_ r_))) ⟨_,_,congrArg Value.bool (by rw[fm hxp hmet (by simpa[Nd.p]using hleaf),isSome_ite];simp[iZ,Nd.p,lX,hneg,hout,hmet,hleaf,h2,h3,h4,h5]<;>omega),rfl,rfl,.leaf (fm hxp hmet (by simpa[Nd.p]using hleaf)) hO2⟩
 refine At.bu 22 rfl rfl ?_;refine At.nil ?_;refine At.then ?_;refine At.ret ?_;refine At.dq ?_;exact At.results (Γr:=[]) (M:=[[(b,.cells #[.int .i64 t.root,t.ns.val,.slice a t.ns.l.length c,.int .i64 ((bits t.ns.l.length (i::met)).count true:Nat)] 140 (0,0))],_]) rfl (aT.cons (dU.tmp rfl) aT.nil) (ix 2 rfl) (fun _ _=>trivial) (d_ (k_ (k_ r_))) ⟨_,_,congrArg Value.bool (by rw[fm hxp hmet (by simpa[Nd.p]using hleaf),isSome_ite];simp[iZ,Nd.p,lX,hneg,hout,hmet,hleaf,h2,h3,h4]<;>omega),rfl,rfl,.leaf (fm hxp hmet (by simpa[Nd.p]using hleaf)) hO2⟩;refine At.bu 27 rfl rfl ?_;refine At.nil ?_;refine At.then ?_;refine At.ret ?_;refine At.dq ?_;exact At.results (Γr:=[]) (M:=[[(b,.cells #[.int .i64 t.root,t.ns.val,.slice a t.ns.l.length c,.int .i64 ((bits t.ns.l.length (i::met)).count true:Nat)] 140 (0,0))],_]) rfl (aT.cons (dU.tmp rfl) aT.nil) (ix 2 rfl) (fun _ _=>trivial) (d_ (k_ (k_ r_))) ⟨_,_,congrArg Value.bool (by rw[fm hxp hmet (by simpa[Nd.p]using hleaf),isSome_ite];simp[iZ,Nd.p,lX,hneg,hout,hmet,hleaf,h2,h3]<;>omega),rfl,rfl,.leaf (fm hxp hmet (by simpa[Nd.p]using hleaf)) hO2⟩;refine At.bu 32 rfl rfl ?_;refine At.nil ?_;refine At.then ?_;refine At.ret ?_;refine At.dq ?_;exact At.results (Γr:=[]) (M:=[[(b,.cells #[.int .i64 t.root,t.ns.val,.slice a t.ns.l.length c,.int .i64 ((bits t.ns.l.length (i::met)).count true:Nat)] 140 (0,0))],_]) rfl (aT.cons (dU.tmp rfl) aT.nil) (ix 2 rfl) (fun _ _=>trivial) (d_ (k_ (k_ r_))) ⟨_,_,congrArg Value.bool (by rw[fm hxp hmet (by simpa[Nd.p]using hleaf),isSome_ite];simp[iZ,Nd.p,lX,hneg,hout,hmet,hleaf,h2]<;>omega),rfl,rfl,.leaf (fm hxp hmet (by simpa[Nd.p]using hleaf)) hO2⟩;have hroute:x.p.aj=true:=by simpa[Nd.p]using hleaf
 refine At.skip ?_;refine At.then ?_;refine At.seq ?_;refine At.seq ?_;refine At.region ?_;refine At.sF iB t24 rfl rfl rfl (Rd.loc (i:=0) rfl rfl) rfl rfl ?_;refine At.quiet (kY underlying24 rfl) rfl ?_;refine At.bu 2 rfl rfl ?_;refine At.eV (d:=94) rfl (fun hlen0=>?_) (fun hlen0=>?_);refine At.bu 22 rfl rfl ?_;refine At.nil ?_;refine At.then ?_;refine At.pG rfl ?_;refine At.seq ?_;refine At.region ?_;refine At.bu 1 rfl rfl ?_;refine At.nil ?_;refine At.then ?_;refine At.ret ?_;refine At.dq ?_;exact At.results (Γr:=[]) (M:=[[(b,.cells #[.int .i64 t.root,t.ns.val,.slice a t.ns.l.length c,.int .i64 ((bits t.ns.l.length (i::met)).count true:Nat)] 140 (0,0))],_]) rfl (aT.cons (dU.tmp rfl) aT.nil) (ix 2 rfl) (fun _ _=>trivial) (d_ (k_ (k_ r_))) ⟨_,_,congrArg Value.bool (by rw[mV hxp hroute (by cases hps:x.ps.l<;>simp_all [dQ,Nd.p])];rfl),rfl,rfl,.no (mV hxp hroute (by cases hps:x.ps.l<;>simp_all [dQ,Nd.p]))⟩;refine At.open rfl rfl ?_;refine At.quiet (aq iB rfl rfl rfl) rfl ?_;refine At.open rfl rfl ?_;refine At.quiet (aY t3 rfl (Rd.loc (i:=0) rfl rfl)) rfl ?_;refine At.bu 3 rfl rfl ?_;refine At.eV (d:=99) rfl (fun hstat=>?_) (fun hstat=>?_);refine At.bu 17 rfl rfl ?_;refine At.nil ?_;refine At.then ?_;refine At.pG rfl ?_;refine At.seq ?_;refine At.region ?_;refine At.bu 1 rfl rfl ?_;refine At.nil ?_;refine At.then ?_;refine At.ret ?_;refine At.dq ?_;exact At.results (Γr:=[]) (M:=[[(b,.cells #[.int .i64 t.root,t.ns.val,.slice a t.ns.l.length c,.int .i64 ((bits t.ns.l.length (i::met)).count true:Nat)] 140 (0,0))],_]) rfl (aT.cons (dU.tmp rfl) aT.nil) (ix 2 rfl) (fun _ _=>trivial) (d_ (k_ (k_ r_))) ⟨_,_,congrArg Value.bool (by rw[mV hxp hroute (by simp_all [dQ,Nd.p])];rfl),rfl,rfl,.no (mV hxp hroute (by simp_all [dQ,Nd.p]))⟩;refine At.open rfl rfl ?_;refine At.quiet (bU t143 rfl (fc.aW (ix 1 rfl) (m:=4) rfl) rfl) rfl ?_;refine At.open rfl rfl ?_;refine At.quiet (aq iB rfl rfl rfl) rfl ?_;refine At.open rfl rfl ?_;refine At.quiet (aY t3 rfl (Rd.loc (i:=0) rfl rfl)) rfl ?_;refine At.open rfl rfl ?_;refine At.call Ob rfl (Ff _ _) (fun _ _=>trivial) (List.Perm.refl _) rfl ?_;rintro _ _ _ ⟨rfl,rfl,rfl⟩;refine At.bu 3 rfl rfl ?_;refine At.split (d:=106) rfl (fun hhas=>?_) (fun hhas=>?_);refine At.bu 10 rfl rfl ?_;refine At.nil ?_;refine At.then ?_;refine At.pG rfl ?_;refine At.seq ?_;refine At.region ?_;refine At.bu 1 rfl rfl ?_;refine At.nil ?_;refine At.then ?_;refine At.ret ?_;refine At.dq ?_;exact At.results (Γr:=[]) (M:=[[(b,.cells #[.int .i64 t.root,t.ns.val,.slice a t.ns.l.length c,.int .i64 ((bits t.ns.l.length (i::met)).count true:Nat)] 140 (0,0))],_]) rfl (aT.cons (dU.tmp rfl) aT.nil) (ix 2 rfl) (fun _ _=>trivial) (d_ (k_ (k_ r_))) ⟨_,_,congrArg Value.bool (by rw[mV hxp hroute (by simp_all [dQ,Nd.p])];rfl),rfl,rfl,.no (mV hxp hroute (by simp_all [dQ,Nd.p]))⟩
 refine At.open rfl rfl ?_;refine At.quiet (aq mg rfl rfl rfl) rfl ?_;refine At.open rfl rfl ?_;refine At.quiet (aY t4 rfl (Rd.aW (ix 1 rfl) rfl)) rfl ?_;refine At.bu 1 rfl rfl ?_;refine At.split (d:=109) rfl (fun hil=>?_) (fun hil=>?_);refine At.open rfl rfl ?_;refine At.quiet (aq iB rfl rfl rfl) rfl ?_;refine At.open rfl rfl ?_;refine At.quiet (aY t3 rfl (Rd.loc (i:=0) rfl rfl)) rfl ?_;refine At.open rfl rfl ?_;refine At.quiet (aq mg rfl rfl rfl) rfl ?_;refine At.open rfl rfl ?_;refine At.quiet (aY t3 rfl (Rd.aW (ix 1 rfl) rfl)) rfl ?_;refine At.bu 3 rfl rfl ?_;refine At.nil ?_;refine At.then ?_;refine At.if rfl (fun hkl=>?_) (fun hkl=>?_);refine At.seq ?_;refine At.region ?_;refine At.bu 1 rfl rfl ?_;refine At.nil ?_;refine At.then ?_;refine At.ret ?_;refine At.dq ?_;exact At.results (Γr:=[]) (M:=[[(b,.cells #[.int .i64 t.root,t.ns.val,.slice a t.ns.l.length c,.int .i64 ((bits t.ns.l.length (i::met)).count true:Nat)] 140 (0,0))],_]) rfl (aT.cons (dU.tmp rfl) aT.nil) (ix 2 rfl) (fun _ _=>trivial) (d_ (k_ (k_ r_))) ⟨_,_,congrArg Value.bool (by rw[mV hxp hroute (by simp_all [dQ,Nd.p])];rfl),rfl,rfl,.no (mV hxp hroute (by simp_all [dQ,Nd.p]))⟩;have hgood:dQ x.p k=true:=by simp_all [dQ,Nd.p]
 have hfull:=iG;refine At.skip ?_;refine At.then ?_;refine At.seq ?_;refine At.draw 5 (.q 0 (.q 1 (.t 2 (.o 3 (.o 4 (.e))) 3 (.o 2 (.o 4 (.e)))))) _ (List.Sublist.refl _) mixed (by kernel_rfl) rfl ?_;refine aQ.quiet rfl (bU t143 rfl (fc.aW (ix 1 rfl) (m:=4) rfl) rfl) rfl (Calm.then bG.calm) ?_;refine aQ.quiet rfl (bU t143 rfl (fc.aW (ix 1 rfl) (m:=4) rfl) rfl) rfl (Calm.then bG.calm) ?_;refine aQ.two ?_ ?_;refine aQ.eJ rfl (iP t143) rfl (by rintro _ _ _ ⟨_,rfl,rfl,rfl⟩;exact⟨fun _ h=>h,d_ r_⟩) ?_;rintro _ _ _ ⟨b3,rfl,rfl,rfl⟩;refine aQ.eJ rfl (iP t143) rfl (by rintro _ _ _ ⟨_,rfl,rfl,rfl⟩;exact⟨fun _ h=>h,d_ (d_ (k_ (k_ (k_ r_))))⟩) ?_;rintro _ _ _ ⟨b4,rfl,rfl,rfl⟩;refine aQ.tK rfl (aw t143 rfl rfl (i:=1) rfl rfl rfl rfl) (by rintro _ _ _ ⟨rfl,rfl⟩;exact⟨fun _ h=>h,(d_ (d_ (k_ (k_ (k_ r_)))))⟩) ?_;rintro _ _ _ ⟨rfl,rfl⟩;refine aQ.done ?_;refine At.bC (aw t143 rfl rfl (i:=0) rfl rfl rfl rfl) ?_;rintro _ _ _ ⟨rfl,rfl⟩;refine At.nil ?_;refine At.then ?_;refine At.seq ?_;refine At.region ?_;refine At.sF iB t3 rfl rfl rfl (Rd.loc (i:=2) rfl rfl) rfl rfl ?_;refine At.quiet (aq mg rfl rfl rfl) rfl ?_;refine At.bC (aw t3 rfl rfl (i:=1) rfl rfl rfl rfl) ?_;rintro _ _ _ ⟨rfl,rfl⟩;refine At.quiet (aq mg rfl rfl rfl) rfl ?_;refine At.bC (aw t4 rfl rfl (i:=1) rfl rfl rfl rfl) ?_;rintro _ _ _ ⟨rfl,rfl⟩;refine At.nil ?_;refine At.then ?_;refine At.seq ?_;refine At.region ?_;refine At.sF iB t3 rfl rfl rfl (Rd.loc (i:=2) rfl rfl) rfl rfl ?_;refine At.quiet (aq mg rfl rfl rfl) rfl ?_;refine At.bC (aw t3 rfl rfl (i:=0) rfl rfl rfl rfl) ?_;rintro _ _ _ ⟨rfl,rfl⟩;refine At.quiet (aq mg rfl rfl rfl) rfl ?_;refine At.bC (aw t4 rfl rfl (i:=0) rfl rfl rfl rfl) ?_;rintro _ _ _ ⟨rfl,rfl⟩;refine At.nil ?_;refine At.then ?_;refine At.seq ?_;refine At.region ?_;refine At.bu 1 rfl rfl ?_;refine At.sF iB t3 rfl rfl rfl (Rd.loc (i:=2) rfl rfl) rfl rfl ?_;refine At.quiet (bU t143 rfl (fc.loc (i:=1) rfl (m:=4) rfl) rfl) rfl ?_;refine At.front 4 rfl ?_;refine At.front 4 rfl ?_;refine At.call pV rfl (ih (i::met) x.left (k.jL x.key) b a c _ (by omega) hO2) (fun _ h=>⟨h.2.2.2.1,h.2.2.2.2.1,trivial⟩) (List.Perm.refl _) rfl ?_;rintro _ _ _ ⟨n1,m2,rfl,rfl,rfl,he1⟩;refine At.bu 1 rfl rfl ?_;refine At.split (d:=132) rfl (fun hl=>?_) (fun hl=>?_);obtain⟨s1,hs1⟩:=Option.isSome_iff_exists.1 hl;obtain⟨rfl,hO3⟩:=he1 s1 hs1;have hcm:=iG t.ns.l.length s1.ay (i::met);refine At.bu 1 rfl rfl ?_;refine At.open rfl rfl ?_;refine At.quiet (aq iB rfl rfl rfl) rfl ?_;refine At.open rfl rfl ?_;refine At.quiet (aY t3 rfl (Rd.loc (i:=4) rfl rfl)) rfl ?_;refine At.open rfl rfl ?_;refine At.quiet (bU t143 rfl (fc.loc (i:=2) rfl (m:=4) rfl) rfl) rfl ?_;refine At.open rfl rfl ?_
 refine At.front 1 rfl ?_;refine At.front 1 rfl ?_;refine At.call pV rfl (ih (s1.ay++i::met) x.right (k.ff x.key) b a c _ (by omega) hO3) (fun _ h=>⟨h.2.2.2.1,h.2.2.2.2.1,trivial⟩) (List.Perm.refl _) rfl ?_;rintro _ _ _ ⟨n2,m3,rfl,rfl,rfl,he2⟩;refine At.bu 2 rfl rfl ?_;refine At.nil ?_;refine At.then ?_;refine At.ret ?_;exact At.results (Γr:=[]) (M:=[[(b,.cells #[.int .i64 t.root,t.ns.val,.slice a t.ns.l.length c,.int .i64 n2] 140 (0,0))],m3]) rfl (aT.cons (dU.tmp rfl) aT.nil) (ix 2 rfl) (fun _ _=>trivial) (k_ (k_ (d_ (d_ (d_ r_))))) ⟨_,_,congrArg Value.bool (by rw[hZ hxp hmet hroute hgood hs1,isSome_map];rfl),rfl,rfl,.node (hZ hxp hmet hroute hgood hs1) he2⟩;have hs1:shape t.p.ns f (i::met) x.p.left (k.jL x.p.key)=none:=nY hl;refine At.bu 7 rfl rfl ?_;refine At.nil ?_;refine At.then ?_;refine At.ret ?_;exact At.results (Γr:=[]) (M:=[[(b,.cells #[.int .i64 t.root,t.ns.val,.slice a t.ns.l.length c,.int .i64 n1] 140 (0,0))],m2]) rfl (aT.cons (dU.tmp rfl) aT.nil) (ix 2 rfl) (fun _ _=>trivial) (k_ (k_ (d_ (d_ (d_ r_))))) ⟨_,_,congrArg Value.bool (by rw[kA hxp hroute hgood hs1];rfl),rfl,rfl,.no (kA hxp hroute hgood hs1)⟩;refine aQ.eJ rfl (iP t143) rfl (by rintro _ _ _ ⟨_,rfl,rfl,rfl⟩;exact⟨fun _ h=>h,d_ r_⟩) ?_;rintro _ _ _ ⟨b5,rfl,rfl,rfl⟩;refine aQ.eJ rfl (iP t143) rfl (by rintro _ _ _ ⟨_,rfl,rfl,rfl⟩;exact⟨fun _ h=>h,d_ (d_ (k_ (k_ (k_ r_))))⟩) ?_;rintro _ _ _ ⟨b6,rfl,rfl,rfl⟩;refine aQ.tK rfl (aw t143 rfl rfl (i:=0) rfl rfl rfl rfl) (by rintro _ _ _ ⟨rfl,rfl⟩;exact⟨fun _ h=>h,(d_ (d_ (k_ (k_ (k_ r_)))))⟩) ?_;rintro _ _ _ ⟨rfl,rfl⟩;refine aQ.done ?_;refine At.bC (aw t143 rfl rfl (i:=1) rfl rfl rfl rfl) ?_;rintro _ _ _ ⟨rfl,rfl⟩;refine At.nil ?_;refine At.then ?_;refine At.seq ?_;refine At.region ?_;refine At.sF iB t3 rfl rfl rfl (Rd.loc (i:=2) rfl rfl) rfl rfl ?_;refine At.quiet (aq mg rfl rfl rfl) rfl ?_;refine At.bC (aw t3 rfl rfl (i:=0) rfl rfl rfl rfl) ?_;rintro _ _ _ ⟨rfl,rfl⟩;refine At.quiet (aq mg rfl rfl rfl) rfl ?_;refine At.bC (aw t4 rfl rfl (i:=0) rfl rfl rfl rfl) ?_;rintro _ _ _ ⟨rfl,rfl⟩;refine At.nil ?_;refine At.then ?_;refine At.seq ?_;refine At.region ?_;refine At.sF iB t3 rfl rfl rfl (Rd.loc (i:=2) rfl rfl) rfl rfl ?_;refine At.quiet (aq mg rfl rfl rfl) rfl ?_;refine At.bC (aw t3 rfl rfl (i:=1) rfl rfl rfl rfl) ?_;rintro _ _ _ ⟨rfl,rfl⟩;refine At.quiet (aq mg rfl rfl rfl) rfl ?_;refine At.bC (aw t4 rfl rfl (i:=1) rfl rfl rfl rfl) ?_;rintro _ _ _ ⟨rfl,rfl⟩;refine At.nil ?_;refine At.then ?_;refine At.seq ?_;refine At.region ?_;refine At.bu 1 rfl rfl ?_;refine At.sF iB t3 rfl rfl rfl (Rd.loc (i:=2) rfl rfl) rfl rfl ?_;refine At.quiet (bU t143 rfl (fc.loc (i:=0) rfl (m:=4) rfl) rfl) rfl ?_
 refine At.front 4 rfl ?_;refine At.front 4 rfl ?_;refine At.call pV rfl (ih (i::met) x.left (k.jL x.key) b a c _ (by omega) hO2) (fun _ h=>⟨h.2.2.2.1,h.2.2.2.2.1,trivial⟩) (List.Perm.refl _) rfl ?_;rintro _ _ _ ⟨n1,m2,rfl,rfl,rfl,he1⟩;refine At.bu 1 rfl rfl ?_;refine At.split (d:=132) rfl (fun hl=>?_) (fun hl=>?_);obtain⟨s1,hs1⟩:=Option.isSome_iff_exists.1 hl;obtain⟨rfl,hO3⟩:=he1 s1 hs1;have hcm:=iG t.ns.l.length s1.ay (i::met);refine At.bu 1 rfl rfl ?_;refine At.open rfl rfl ?_;refine At.quiet (aq iB rfl rfl rfl) rfl ?_;refine At.open rfl rfl ?_;refine At.quiet (aY t3 rfl (Rd.loc (i:=4) rfl rfl)) rfl ?_;refine At.open rfl rfl ?_;refine At.quiet (bU t143 rfl (fc.loc (i:=3) rfl (m:=4) rfl) rfl) rfl ?_;refine At.open rfl rfl ?_;refine At.front 1 rfl ?_;refine At.front 1 rfl ?_;refine At.call pV rfl (ih (s1.ay++i::met) x.right (k.ff x.key) b a c _ (by omega) hO3) (fun _ h=>⟨h.2.2.2.1,h.2.2.2.2.1,trivial⟩) (List.Perm.refl _) rfl ?_;rintro _ _ _ ⟨n2,m3,rfl,rfl,rfl,he2⟩;refine At.bu 2 rfl rfl ?_;refine At.nil ?_;refine At.then ?_;refine At.ret ?_;exact At.results (Γr:=[]) (M:=[[(b,.cells #[.int .i64 t.root,t.ns.val,.slice a t.ns.l.length c,.int .i64 n2] 140 (0,0))],m3]) rfl (aT.cons (dU.tmp rfl) aT.nil) (ix 2 rfl) (fun _ _=>trivial) (k_ (k_ (d_ (d_ (d_ r_))))) ⟨_,_,congrArg Value.bool (by rw[hZ hxp hmet hroute hgood hs1,isSome_map];rfl),rfl,rfl,.node (hZ hxp hmet hroute hgood hs1) he2⟩;have hs1:shape t.p.ns f (i::met) x.p.left (k.jL x.p.key)=none:=nY hl;refine At.bu 7 rfl rfl ?_;refine At.nil ?_;refine At.then ?_;refine At.ret ?_;exact At.results (Γr:=[]) (M:=[[(b,.cells #[.int .i64 t.root,t.ns.val,.slice a t.ns.l.length c,.int .i64 n1] 140 (0,0))],m2]) rfl (aT.cons (dU.tmp rfl) aT.nil) (ix 2 rfl) (fun _ _=>trivial) (k_ (k_ (d_ (d_ (d_ r_))))) ⟨_,_,congrArg Value.bool (by rw[kA hxp hroute hgood hs1];rfl),rfl,rfl,.no (kA hxp hroute hgood hs1)⟩;have hgood:dQ x.p k=true:=by simp_all [dQ,Nd.p]
 have hfull:=iG;refine At.bu 7 rfl rfl ?_;refine At.nil ?_;refine At.then ?_;refine At.vH rfl ?_;refine At.skip ?_;refine At.then ?_;refine At.seq ?_;refine At.draw 5 (.q 0 (.q 1 (.t 2 (.o 3 (.o 4 (.e))) 3 (.o 2 (.o 4 (.e)))))) _ (List.Sublist.refl _) mixed (by kernel_rfl) rfl ?_;refine aQ.quiet rfl (bU t143 rfl (fc.aW (ix 1 rfl) (m:=4) rfl) rfl) rfl (Calm.then bG.calm) ?_;refine aQ.quiet rfl (bU t143 rfl (fc.aW (ix 1 rfl) (m:=4) rfl) rfl) rfl (Calm.then bG.calm) ?_;refine aQ.two ?_ ?_;refine aQ.eJ rfl (iP t143) rfl (by rintro _ _ _ ⟨_,rfl,rfl,rfl⟩;exact⟨fun _ h=>h,d_ r_⟩) ?_;rintro _ _ _ ⟨b7,rfl,rfl,rfl⟩;refine aQ.eJ rfl (iP t143) rfl (by rintro _ _ _ ⟨_,rfl,rfl,rfl⟩;exact⟨fun _ h=>h,d_ (d_ (k_ (k_ (k_ r_))))⟩) ?_;rintro _ _ _ ⟨b8,rfl,rfl,rfl⟩;refine aQ.tK rfl (aw t143 rfl rfl (i:=1) rfl rfl rfl rfl) (by rintro _ _ _ ⟨rfl,rfl⟩;exact⟨fun _ h=>h,(d_ (d_ (k_ (k_ (k_ r_)))))⟩) ?_;rintro _ _ _ ⟨rfl,rfl⟩;refine aQ.done ?_;refine At.bC (aw t143 rfl rfl (i:=0) rfl rfl rfl rfl) ?_;rintro _ _ _ ⟨rfl,rfl⟩;refine At.nil ?_;refine At.then ?_;refine At.seq ?_;refine At.region ?_;refine At.sF iB t3 rfl rfl rfl (Rd.loc (i:=2) rfl rfl) rfl rfl ?_;refine At.quiet (aq mg rfl rfl rfl) rfl ?_;refine At.bC (aw t3 rfl rfl (i:=1) rfl rfl rfl rfl) ?_;rintro _ _ _ ⟨rfl,rfl⟩;refine At.quiet (aq mg rfl rfl rfl) rfl ?_;refine At.bC (aw t4 rfl rfl (i:=1) rfl rfl rfl rfl) ?_;rintro _ _ _ ⟨rfl,rfl⟩;refine At.nil ?_;refine At.then ?_;refine At.seq ?_;refine At.region ?_;refine At.sF iB t3 rfl rfl rfl (Rd.loc (i:=2) rfl rfl) rfl rfl ?_;refine At.quiet (aq mg rfl rfl rfl) rfl ?_;refine At.bC (aw t3 rfl rfl (i:=0) rfl rfl rfl rfl) ?_;rintro _ _ _ ⟨rfl,rfl⟩;refine At.quiet (aq mg rfl rfl rfl) rfl ?_;refine At.bC (aw t4 rfl rfl (i:=0) rfl rfl rfl rfl) ?_;rintro _ _ _ ⟨rfl,rfl⟩;refine At.nil ?_;refine At.then ?_;refine At.seq ?_;refine At.region ?_;refine At.bu 1 rfl rfl ?_;refine At.sF iB t3 rfl rfl rfl (Rd.loc (i:=2) rfl rfl) rfl rfl ?_;refine At.quiet (bU t143 rfl (fc.loc (i:=1) rfl (m:=4) rfl) rfl) rfl ?_;refine At.front 4 rfl ?_;refine At.front 4 rfl ?_;refine At.call pV rfl (ih (i::met) x.left (k.jL x.key) b a c _ (by omega) hO2) (fun _ h=>⟨h.2.2.2.1,h.2.2.2.2.1,trivial⟩) (List.Perm.refl _) rfl ?_;rintro _ _ _ ⟨n1,m2,rfl,rfl,rfl,he1⟩;refine At.bu 1 rfl rfl ?_;refine At.split (d:=132) rfl (fun hl=>?_) (fun hl=>?_);obtain⟨s1,hs1⟩:=Option.isSome_iff_exists.1 hl;obtain⟨rfl,hO3⟩:=he1 s1 hs1;have hcm:=iG t.ns.l.length s1.ay (i::met);refine At.bu 1 rfl rfl ?_;refine At.open rfl rfl ?_;refine At.quiet (aq iB rfl rfl rfl) rfl ?_;refine At.open rfl rfl ?_;refine At.quiet (aY t3 rfl (Rd.loc (i:=4) rfl rfl)) rfl ?_;refine At.open rfl rfl ?_
 refine At.quiet (bU t143 rfl (fc.loc (i:=2) rfl (m:=4) rfl) rfl) rfl ?_;refine At.open rfl rfl ?_;refine At.front 1 rfl ?_;refine At.front 1 rfl ?_;refine At.call pV rfl (ih (s1.ay++i::met) x.right (k.ff x.key) b a c _ (by omega) hO3) (fun _ h=>⟨h.2.2.2.1,h.2.2.2.2.1,trivial⟩) (List.Perm.refl _) rfl ?_;rintro _ _ _ ⟨n2,m3,rfl,rfl,rfl,he2⟩;refine At.bu 2 rfl rfl ?_;refine At.nil ?_;refine At.then ?_;refine At.ret ?_;exact At.results (Γr:=[]) (M:=[[(b,.cells #[.int .i64 t.root,t.ns.val,.slice a t.ns.l.length c,.int .i64 n2] 140 (0,0))],m3]) rfl (aT.cons (dU.tmp rfl) aT.nil) (ix 2 rfl) (fun _ _=>trivial) (k_ (k_ (d_ (d_ (d_ r_))))) ⟨_,_,congrArg Value.bool (by rw[hZ hxp hmet hroute hgood hs1,isSome_map];rfl),rfl,rfl,.node (hZ hxp hmet hroute hgood hs1) he2⟩;have hs1:shape t.p.ns f (i::met) x.p.left (k.jL x.p.key)=none:=nY hl;refine At.bu 7 rfl rfl ?_;refine At.nil ?_;refine At.then ?_;refine At.ret ?_;exact At.results (Γr:=[]) (M:=[[(b,.cells #[.int .i64 t.root,t.ns.val,.slice a t.ns.l.length c,.int .i64 n1] 140 (0,0))],m2]) rfl (aT.cons (dU.tmp rfl) aT.nil) (ix 2 rfl) (fun _ _=>trivial) (k_ (k_ (d_ (d_ (d_ r_))))) ⟨_,_,congrArg Value.bool (by rw[kA hxp hroute hgood hs1];rfl),rfl,rfl,.no (kA hxp hroute hgood hs1)⟩;refine aQ.eJ rfl (iP t143) rfl (by rintro _ _ _ ⟨_,rfl,rfl,rfl⟩;exact⟨fun _ h=>h,d_ r_⟩) ?_;rintro _ _ _ ⟨b9,rfl,rfl,rfl⟩;refine aQ.eJ rfl (iP t143) rfl (by rintro _ _ _ ⟨_,rfl,rfl,rfl⟩;exact⟨fun _ h=>h,d_ (d_ (k_ (k_ (k_ r_))))⟩) ?_;rintro _ _ _ ⟨b10,rfl,rfl,rfl⟩;refine aQ.tK rfl (aw t143 rfl rfl (i:=0) rfl rfl rfl rfl) (by rintro _ _ _ ⟨rfl,rfl⟩;exact⟨fun _ h=>h,(d_ (d_ (k_ (k_ (k_ r_)))))⟩) ?_;rintro _ _ _ ⟨rfl,rfl⟩;refine aQ.done ?_;refine At.bC (aw t143 rfl rfl (i:=1) rfl rfl rfl rfl) ?_;rintro _ _ _ ⟨rfl,rfl⟩;refine At.nil ?_;refine At.then ?_;refine At.seq ?_;refine At.region ?_;refine At.sF iB t3 rfl rfl rfl (Rd.loc (i:=2) rfl rfl) rfl rfl ?_;refine At.quiet (aq mg rfl rfl rfl) rfl ?_;refine At.bC (aw t3 rfl rfl (i:=0) rfl rfl rfl rfl) ?_;rintro _ _ _ ⟨rfl,rfl⟩;refine At.quiet (aq mg rfl rfl rfl) rfl ?_;refine At.bC (aw t4 rfl rfl (i:=0) rfl rfl rfl rfl) ?_;rintro _ _ _ ⟨rfl,rfl⟩;refine At.nil ?_;refine At.then ?_;refine At.seq ?_;refine At.region ?_;refine At.sF iB t3 rfl rfl rfl (Rd.loc (i:=2) rfl rfl) rfl rfl ?_;refine At.quiet (aq mg rfl rfl rfl) rfl ?_;refine At.bC (aw t3 rfl rfl (i:=1) rfl rfl rfl rfl) ?_;rintro _ _ _ ⟨rfl,rfl⟩;refine At.quiet (aq mg rfl rfl rfl) rfl ?_;refine At.bC (aw t4 rfl rfl (i:=1) rfl rfl rfl rfl) ?_;rintro _ _ _ ⟨rfl,rfl⟩;refine At.nil ?_;refine At.then ?_;refine At.seq ?_;refine At.region ?_;refine At.bu 1 rfl rfl ?_;refine At.sF iB t3 rfl rfl rfl (Rd.loc (i:=2) rfl rfl) rfl rfl ?_
 refine At.quiet (bU t143 rfl (fc.loc (i:=0) rfl (m:=4) rfl) rfl) rfl ?_;refine At.front 4 rfl ?_;refine At.front 4 rfl ?_;refine At.call pV rfl (ih (i::met) x.left (k.jL x.key) b a c _ (by omega) hO2) (fun _ h=>⟨h.2.2.2.1,h.2.2.2.2.1,trivial⟩) (List.Perm.refl _) rfl ?_;rintro _ _ _ ⟨n1,m2,rfl,rfl,rfl,he1⟩;refine At.bu 1 rfl rfl ?_;refine At.split (d:=132) rfl (fun hl=>?_) (fun hl=>?_);obtain⟨s1,hs1⟩:=Option.isSome_iff_exists.1 hl;obtain⟨rfl,hO3⟩:=he1 s1 hs1;have hcm:=iG t.ns.l.length s1.ay (i::met);refine At.bu 1 rfl rfl ?_;refine At.open rfl rfl ?_;refine At.quiet (aq iB rfl rfl rfl) rfl ?_;refine At.open rfl rfl ?_;refine At.quiet (aY t3 rfl (Rd.loc (i:=4) rfl rfl)) rfl ?_;refine At.open rfl rfl ?_;refine At.quiet (bU t143 rfl (fc.loc (i:=3) rfl (m:=4) rfl) rfl) rfl ?_;refine At.open rfl rfl ?_;refine At.front 1 rfl ?_;refine At.front 1 rfl ?_;refine At.call pV rfl (ih (s1.ay++i::met) x.right (k.ff x.key) b a c _ (by omega) hO3) (fun _ h=>⟨h.2.2.2.1,h.2.2.2.2.1,trivial⟩) (List.Perm.refl _) rfl ?_;rintro _ _ _ ⟨n2,m3,rfl,rfl,rfl,he2⟩;refine At.bu 2 rfl rfl ?_;refine At.nil ?_;refine At.then ?_;refine At.ret ?_;exact At.results (Γr:=[]) (M:=[[(b,.cells #[.int .i64 t.root,t.ns.val,.slice a t.ns.l.length c,.int .i64 n2] 140 (0,0))],m3]) rfl (aT.cons (dU.tmp rfl) aT.nil) (ix 2 rfl) (fun _ _=>trivial) (k_ (k_ (d_ (d_ (d_ r_))))) ⟨_,_,congrArg Value.bool (by rw[hZ hxp hmet hroute hgood hs1,isSome_map];rfl),rfl,rfl,.node (hZ hxp hmet hroute hgood hs1) he2⟩;have hs1:shape t.p.ns f (i::met) x.p.left (k.jL x.p.key)=none:=nY hl;refine At.bu 7 rfl rfl ?_;refine At.nil ?_;refine At.then ?_;refine At.ret ?_;exact At.results (Γr:=[]) (M:=[[(b,.cells #[.int .i64 t.root,t.ns.val,.slice a t.ns.l.length c,.int .i64 n1] 140 (0,0))],m2]) rfl (aT.cons (dU.tmp rfl) aT.nil) (ix 2 rfl) (fun _ _=>trivial) (k_ (k_ (d_ (d_ (d_ r_))))) ⟨_,_,congrArg Value.bool (by rw[kA hxp hroute hgood hs1];rfl),rfl,rfl,.no (kA hxp hroute hgood hs1)⟩
theorem KM (t:Tr):∀f,EP t f
 |0=>fun _ _ _ _ _ _ _ h=>absurd h (Nat.not_lt_zero _)
 |f+1=>AG t f (KM t f)
theorem Oe (t:Tr):aN prog 67 [t.val] [pN t.ns,pO t.ns.l] [] (fun v Γ M=>v= .bool (fl t.p).isSome/\Γ=[]/\M=[]):=by
 refine aN.body 30 func67 rfl ntmps67 rfl fun X H₀ L₀=>?_;refine At.seq ?_;refine At.region ?_;refine At.eJ (tE rfl) rfl ?_;rintro _ _ _ ⟨b1,rfl,rfl,rfl⟩;refine At.freeze 0 (φ:=aW b1 _) rfl (fun _ h=>cO.2 ⟨_,_,h⟩) ?_;refine At.bu 1 rfl rfl ?_;refine At.nil ?_;refine At.then ?_;refine At.seq ?_;refine At.seq ?_;refine At.region ?_;refine At.sF Df t34 rfl rfl rfl (Rd.aW (.head _) rfl) rfl rfl ?_;refine At.quiet (kY underlying34 rfl) rfl ?_;refine At.bu 1 rfl rfl ?_;refine At.nil ?_;refine At.then ?_;refine At.if rfl (fun hbig=>?_) (fun hbig=>?_);refine At.seq ?_;refine At.region ?_;refine At.bu 1 rfl rfl ?_;refine At.nil ?_;refine At.then ?_;refine At.ret ?_;refine At.dq ?_;exact At.results (Γr:=[]) (M:=[]) rfl (aT.cons (dU.tmp rfl) aT.nil) (ix 1 rfl) (fun _ _=>trivial) r_ ⟨congrArg Value.bool ((Iy (by simp[Tr.p];omega)).symm),rfl,rfl⟩;refine At.skip ?_;refine At.then ?_;refine At.seq ?_;refine At.draw 5 (.q 0 (.q 1 (.q 2 (.q 3 (.o 4 (.e)))))) _ (List.Sublist.refl _) mixed (by kernel_rfl) rfl ?_;refine aQ.quiet rfl (bU t36 rfl (fc.aW (.head _) (m:=2) rfl) rfl) rfl (Calm.then bG.calm) ?_;refine aQ.quiet rfl (aq Df rfl rfl rfl) rfl (Calm.then bG.calm) ?_;refine aQ.quiet rfl (aY t34 rfl (Rd.aW (.head _) rfl)) rfl (Calm.then bG.calm) ?_;refine aQ.quiet rfl (kY underlying34 rfl) rfl (Calm.then bG.calm) ?_;refine aQ.yH rfl (rW (m:=t.ns.l.length) underlying138 t4 rfl rfl rfl rfl rfl (by omega) (by unfold maxLen;omega)) rfl (by rintro _ _ _ ⟨_,_,rfl,_,rfl,rfl⟩;exact⟨fun _ h=>h,d_ r_⟩) ?_;rintro _ _ _ ⟨bm,m,rfl,hO,rfl,rfl⟩;refine aQ.done ?_;have hO2:bR 4 1 ((bits t.ns.l.length []).map wW) (some ⟨bm,0,none⟩) t.ns.l.length m:=by rw[ER];exact hO
 have hN:t.p.ns.length=t.ns.l.length:=by simp[Tr.p]
 have hc0:(bits t.ns.l.length []).count false<t.ns.l.length+1:=by have:=vP (bits t.ns.l.length []);rw[eQ]at this;omega
 have hc1:(bits t.ns.l.length []).count true=0:=List.count_eq_zero.2 (by simp[bits]);refine At.quiet (lW t140 yW rfl rfl) rfl ?_;refine At.eJ (tE rfl) rfl ?_;rintro _ _ _ ⟨b2,rfl,rfl,rfl⟩;refine At.bu 1 rfl rfl ?_;refine At.nil ?_;refine At.then ?_;refine At.seq ?_;refine At.pieces (L':=[(b2,.cells #[.int .i64 t.root,t.ns.val,.slice (some ⟨bm,0,none⟩) t.ns.l.length t.ns.l.length,.int .i64 ((bits t.ns.l.length []).count true:Nat)] 140 (0,0))]::m::L₀) (by rw[hc1];rfl) ?_;refine At.draw 13 (.q 0 (.q 1 (.q 2 (.q 3 (.o 4 (.q 5 (.q 6 (.q 7 (.q 8 (.q 9 (.q 10 (.q 11 (.q 12 (.e)))))))))))))) (L₀) (d_ (d_ r_)) mixed (by kernel_rfl) rfl ?_;refine aQ.quiet rfl (oS rfl) rfl (Calm.then bG.calm) ?_;refine aQ.quiet rfl (aq Df rfl rfl rfl) rfl (Calm.then bG.calm) ?_;refine aQ.quiet rfl (aY t3 rfl (Rd.aW (.head _) rfl)) rfl (Calm.then bG.calm) ?_;refine aQ.quiet rfl (lW t143 mg rfl rfl) rfl (Calm.then bG.calm) ?_;refine aQ.front 1 rfl ?_;refine aQ.front 1 rfl ?_;refine aQ.gA rfl pV rfl (KM t _ [] t.root Kb.all _ _ _ _ hc0 hO2) (fun _ h=>⟨h.2.2.1,h.2.2.2.1,trivial⟩) (List.Perm.refl _) rfl r_ ?_;rintro _ _ _ ⟨n1,m2,rfl,rfl,rfl,he⟩;refine aQ.quiet rfl (oS rfl) rfl (Calm.then bG.calm) ?_;refine aQ.split (d:=20) rfl (fun hm=>?_) (fun hm=>?_);obtain⟨s,hs⟩:=Option.isSome_iff_exists.1 hm;obtain⟨rfl,_⟩:=he s hs;refine aQ.dt rfl rfl rfl (oS rfl) rfl (Calm.then bG.calm) ?_;refine aQ.dt rfl rfl rfl (oT rfl) rfl (Calm.then bG.calm) ?_;refine aQ.dt rfl rfl rfl (aq yW rfl rfl rfl) rfl (Calm.then bG.calm) ?_;refine aQ.dt rfl rfl rfl (aY t3 rfl (Rd.loc (i:=0) rfl rfl)) rfl (Calm.then bG.calm) ?_;refine aQ.dt rfl rfl rfl (aq Df rfl rfl rfl) rfl (Calm.then bG.calm) ?_;refine aQ.dt rfl rfl rfl (aY t34 rfl (Rd.aW (.head _) rfl)) rfl (Calm.then bG.calm) ?_;refine aQ.dt rfl rfl rfl (kY underlying34 rfl) rfl (Calm.then bG.calm) ?_;refine aQ.done ?_;refine At.bu 3 rfl rfl ?_;refine At.nil ?_;refine At.then ?_;refine At.ret ?_;exact At.results (Γr:=[]) (M:=[]) rfl (aT.cons (dU.tmp rfl) aT.nil) (ix 1 rfl) (fun _ _=>trivial) (d_ (d_ r_)) ⟨congrArg Value.bool (by rw[ET (by omega) (by rw[hN];exact hs),hN]),rfl,rfl⟩;refine aQ.shut rfl rfl rfl rfl (Calm.then bG.calm) ?_;refine aQ.shut rfl rfl rfl rfl (Calm.then bG.calm) ?_;refine aQ.shut rfl rfl rfl rfl (Calm.then bG.calm) ?_;refine aQ.shut rfl rfl rfl rfl (Calm.then bG.calm) ?_;refine aQ.shut rfl rfl rfl rfl (Calm.then bG.calm) ?_;refine aQ.shut rfl rfl rfl rfl (Calm.then bG.calm) ?_;refine aQ.shut rfl rfl rfl rfl (Calm.then bG.calm) ?_;refine aQ.done ?_;refine At.bu 3 rfl rfl ?_;refine At.nil ?_;refine At.then ?_;refine At.ret ?_;exact At.results (Γr:=[]) (M:=[]) rfl (aT.cons (dU.tmp rfl) aT.nil) (ix 1 rfl) (fun _ _=>trivial) (d_ (d_ r_)) ⟨congrArg Value.bool ((ES (by rw[hN];exact hm)).symm),rfl,rfl⟩
theorem t26:dg prog 26=some (true,1,24,.slice none 0 0):=by kernel_rfl
theorem oJ (t:Tr) (s:Sh) (ih:∀i l r,s= .node i l r->Lv 98 t l/\Lv 98 t r):Lv 98 t s:=by
 intro at_ hH o a c Mo hO hb;refine cb fun X H₀ L₀=>?_;obtain⟨i,x,rfl,hx,hg,hc⟩:=hH.at;refine At.aJ (aC x.ps) (fun _ h=>pQ h.2.2.1 hx) ?_;refine bx fun b1=>?_;refine mc ?_;refine qt (bD underlying34 t104 rfl (.tail _ (.tail _ (.tail _ (.head _)))) (by simp) rfl rfl (ae hx)) ?_;refine qt (bU t104 rfl (fc.kK (.tail _ (.tail _ (.tail _ (.head _)))) (aI hx)) rfl) ?_;refine al fun b2=>?_;refine cv (fun hr=>?_) (fun hr=>?_)
 obtain rfl:s= .leaf i:=by
  rcases hc with⟨_,h⟩| ⟨h,_⟩;exact h;rw[show x.aj=false from bM hr]at h;cases h
 simp only[Sh.size]at hb;refine al fun b3=>?_;refine lM (dk rfl underlying26 t3 rfl rfl hO (by simp) (i:=2) rfl rfl (news:=[aM (i:Int)]) (by simp[aM]) (fc.loc (i:=0) rfl (m:=1) rfl) rfl rfl rfl (by omega) (by unfold maxLen;omega)) ?_;rintro _ _ _ ⟨a1,c1,M1,rfl,ow1,rfl,rfl⟩;refine re ?_;exact rs ⟨a1,c1,M1,by simp[Sh.leaves,vx,cP],rfl,rfl,by simpa[Sh.leaves,vx]using ow1⟩
 obtain⟨l,r,rfl,hl,hr2⟩:∃l r,s= .node i l r/\eR t.p.ns l x.left/\eR t.p.ns r x.right:=by
  rcases hc with⟨h,_⟩| ⟨_,h⟩;rw[show x.aj=true from bV hr]at h;cases h;exact h
 obtain⟨ih1,ih2⟩:=ih i l r rfl;simp only[Sh.size]at hb;have hll:=tO l;refine dw 8 [7] (k_ (d_ r_)) ?_;refine oA (ih1 x.left hl o a c _ hO (by omega)) ?_;rintro _ _ _ ⟨a1,c1,M1,rfl,rfl,rfl,hO1⟩;refine ca (ih2 x.right hr2 _ a1 c1 _ hO1 (by simp[vx];omega)) ?_;rintro _ _ _ ⟨a2,c2,M2,rfl,rfl,rfl,hO2⟩;refine re ?_;exact rs ⟨a2,c2,M2,by simp only[Sh.leaves,BN,List.append_assoc];rfl,rfl,rfl,by simpa only[Sh.leaves,BN,List.append_assoc]using hO2⟩
theorem Fi (t:Tr) (s:Sh):Lv 98 t s:=by
 induction s with
 |leaf i=>exact oJ t _ fun _ _ _ h=>by cases h
 |node i l r h1 h2=>exact oJ t _ fun _ _ _ h=>by cases h;exact⟨h1,h2⟩
theorem Dg (t:Tr):aN prog 61 [t.val] [pN t.ns,pO t.ns.l] [] (E0 (vx (dK t.p))):=by
 refine cb fun X H₀ L₀=>?_;refine bx fun b1=>?_;refine ca (Oe _) ?_;refine cv (fun hm=>?_) (fun hm=>?_);refine At.aJ (cw ⟨none,0,[]⟩) (fun _ h=>dh _ _ _ (Nat.zero_le _)) ?_;refine re ?_;exact rs ⟨⟨none,0,[]⟩,rfl,rfl,rfl,by rw[dK,nY (bM hm)];rfl⟩;obtain⟨s,hs⟩:=Option.isSome_iff_exists.1 (bV hm);have hg:=l6 hs;have hsz:s.size<=2000:=by have h1:=hg.size;have h2:=hg.gN;omega
 refine At.ck ?_;refine ca (Fi t s t.root hg.aK [] none 0 [] (bR.nil _ _) (by simp;omega)) ?_;rintro _ _ _ ⟨a1,c1,M1,rfl,rfl,rfl,hO⟩;refine At.da 0 (show bR 3 1 ((vx s.leaves).map aM) a1 c1 M1 by simpa using hO) rfl ?_;refine re ?_;exact rs ⟨⟨a1,c1,vx s.leaves⟩,by simp[Sl.val,cP],rfl,rfl,by rw[dK,hs]⟩
theorem LF (t:Tr) (hsm:EU t.ns.l):aN prog 26 [t.val] [pN t.ns,pO t.ns.l] [] (jB (sH t.p)):=by
 refine cb fun X H₀ L₀=>?_;refine At.lenOf (hs:=(ix 1 rfl)) fun hlen=>?_;rw[List.length_map]at hlen;refine bx fun b1=>?_;refine ca (Dg _) ?_;rintro _ _ _ ⟨u,rfl,rfl,rfl,hul⟩;refine mc ?_;have hll:=yM t.p;have hul2:u.l.length=(dK t.p).length:=by rw[hul,AD]
 refine At.ck ?_;refine mc ?_;refine At.dP (ι:=Nat×Option Addr×Nat×aO) [3,5,9,10,11,12,13,14,15,16,17,18,19,20,21] (fun⟨k,a,c,M⟩=>[(9,.int .i64 (k:Int)),(3,.slice a (outs t.p k).length c)]) (fun⟨k,a,c,M⟩=>[]) (fun⟨k,a,c,M⟩=>[M]) _ (fun⟨k,a,c,M⟩=>k<=u.l.length/\bR 43 2 ((outs t.p k).map js) a c M/\(outs t.p k).length<=k*1000000) (fun⟨k,a,c,M⟩=>u.l.length-k) (0,none,0,[]) ⟨Nat.zero_le _,bR.nil _ _,by simp[outs]⟩ ⟨rfl,rfl,trivial⟩ (fun _ _=>trivial) (k_ r_) ?_;intro i0 hI0;obtain⟨k,a,c,M⟩:=i0;obtain⟨hkl,hO,hob⟩:=hI0;refine fi (fun hk=>?_) (fun hk=>?_);obtain⟨i,hi⟩:=aD (l:=dK t.p) (i:=k) (by omega);have hui:u.l[k]? =some (i:Int):=by rw[hul];exact Iz hi
 obtain⟨x,hx,_,hxg⟩:=Tr.get (AB (List.mem_of_getElem? hi));have hxs:=hsm x (List.mem_of_getElem? hx);have hst:=C6 hi hxg;refine At.aJ (aC x.ps) (fun _ h=>pQ h.2.2.2.2.1 hx) ?_;refine mc ?_;refine qt (bD underlying26 t3 rfl (.tail _ (.head _)) (by simp) rfl rfl (ae hui)) ?_;refine ld (Rd.kK (.tail _ (.head _)) (aI hui) rfl) ?_;refine mc ?_;refine qt (bD underlying34 t104 rfl (.tail _ (.tail _ (.tail _ (.tail _ (.head _))))) (by simp) rfl rfl (ae hx)) ?_;refine mc ?_;refine ld (Rd.sl (.tail _ (.tail _ (.tail _ (.tail _ (.head _))))) (aI hx) rfl) ?_;refine lM (fO rfl underlying24 t43 rfl rfl hO (by simp) (i:=0) rfl (.head _) (by simp) (jt (fun _=>rfl) _) rfl rfl (by omega) (by unfold maxLen;omega)) ?_;rintro _ _ _ ⟨a2,c2,M2,rfl,ow,rfl,rfl⟩;refine sv 3 (.slice a2 (outs t.p (k+1)).length c2) ?_ (e:=by rw[hst,List.length_append];rfl);refine mc ?_;exact At.bX (k+1,a2,c2,M2) ⟨by omega,by rw[hst,List.map_append];exact ow,by rw[hst,List.length_append];show _+x.ps.l.length<=_;omega⟩ (by(try dsimp only);omega) (bc.end 18 ⟨rfl,rfl,trivial⟩ rfl rfl) (fun _ h=>h.2) (k_ r_);refine At.da 0 hO rfl ?_;refine re ?_;exact rs ⟨⟨a,c,outs t.p k⟩,rfl,rfl,rfl,EV (by omega)⟩
theorem pW (n lo hi:Int):aN prog 53 [.int .i64 n,.int .i64 lo,.int .i64 hi] [] [] (fun v Γ M=>v= .int .i64 (hold n lo hi)/\Γ=[]/\M=[]):=by
 refine cb fun X H₀ L₀=>?_;refine mc ?_;refine qt (pH rfl rfl) ?_;refine mc ?_;refine qt (rR rfl rfl) ?_;refine re ?_;exact rs ⟨rfl,rfl,rfl⟩
theorem nZ (n:Int):aN prog 139 [.int .i64 n] [] [] (fun v Γ M=>v= .int .i64 (jj n)/\Γ=[]/\M=[]):=by
 refine cb fun X H₀ L₀=>?_;refine mc ?_;refine qt (pH rfl rfl) ?_;refine qt (rR rfl rfl) ?_;refine re ?_;exact rs ⟨rfl,rfl,rfl⟩
theorem m9 (p:iH):aN prog 18 [p.val] [] [] (fun v Γ M=>v=p.cp.val/\Γ=[]/\M=[]):=by
 refine cb fun X H₀ L₀=>?_;refine bx fun b1=>?_;refine al fun b2=>?_;refine dv 14 [0,1,3,4,6,7,9,10,12,13,102,105,108,111] r_ ?_;refine oA (pW _ _ _) ?_;refine oA (pW _ _ _) ?_;refine oA (pW _ _ _) ?_;refine oA (pW _ _ _) ?_;refine ca (pW _ _ _) ?_;refine re ?_;exact rs ⟨rfl,rfl,rfl⟩
theorem Fj (p:iH) (s:Int):aN prog 141 [p.val,.int .i64 s] [] [] (fun v Γ M=>v= .int .i64 (gg p s)/\Γ=[]/\M=[]):=by
 refine cb fun X H₀ L₀=>?_;refine al fun b1=>?_;refine ca (m9 p) ?_;refine ca (nZ _) ?_;refine fi (fun h1=>?_) (fun h1=>?_);refine re ?_;exact rs ⟨by simp only[cP,gg,if_pos (show p.cp.high<jj s from h1)]<;>rfl,rfl,rfl⟩;refine fi (fun h2=>?_) (fun h2=>?_);refine re ?_;exact rs ⟨by simp only[cP,gg,if_neg (show¬p.cp.high<jj s from h1),if_pos (show jj s<p.cp.low from h2)]<;>rfl,rfl,rfl⟩;refine re ?_;exact rs ⟨by simp only[cP,gg,if_neg (show¬p.cp.high<jj s from h1),if_neg (show¬jj s<p.cp.low from h2)]<;>rfl,rfl,rfl⟩
theorem t41:dg prog 41=some (false,4,32,.agg #[.int .i64 0,.int .i64 0,.int .i64 0,.int .i64 0]):=by kernel_rfl
theorem Of:ah prog 135:=ah.mk' func135 rfl rfl
theorem Og:ah prog 186:=ah.mk' func186 rfl rfl
theorem xd (o:bA):aN prog 73 [o.val] [] [] (fun v Γ M=>v= .bool (fj o)/\Γ=[]/\M=[]):=by
 refine cb fun X H₀ L₀=>?_;refine bx fun b1=>?_;refine sp 6 (fun h1=>?_) (fun h1=>?_);refine re ?_;exact rs ⟨congrArg Value.bool (by simp[fj,h1]),rfl,rfl⟩;refine re ?_;exact rs ⟨congrArg Value.bool (by simp[fj,h1]),rfl,rfl⟩
section
variable (l:Sl Pr) (hl:l.l.length<=8796093022208)
include l hl
theorem fw:aN prog 58 [l.val] [aC l] [] (fun v Γ M=>∃s:Sl Pr,v=s.val/\s.l=l.l/\Γ=[aC s]/\M=[]):=by
 refine cb fun X H₀ L₀=>?_;refine mc ?_;refine qt (gb underlying24 rfl rfl) ?_;refine cv (fun hn=>?_) (fun hn=>?_);refine At.vN (hs:=(ix 1 rfl)) (by simpa using hn) fun hnil=>?_;refine At.aJ (aC ⟨none,0,[]⟩) (fun _ _=>dh _ _ _ (Nat.zero_le _)) ?_;refine re ?_;exact rs ⟨⟨none,0,[]⟩,rfl,hnil.symm,rfl,rfl⟩;refine mc ?_;refine lM (kN underlying24 t43) ?_;rintro _ _ _ ⟨e1,rfl,rfl,rfl⟩;refine mc ?_;refine lM (mT rfl underlying24 t43 rfl rfl (.tail _ (.head _)) (by simp) rfl (by omega) (by unfold maxLen;omega) rfl) ?_;rintro _ _ _ ⟨a2,c2,rfl,rfl,rfl⟩;refine re ?_;exact rs ⟨⟨a2,c2,l.l⟩,rfl,rfl,rfl,rfl⟩
theorem Fk:aN prog 58 [l.val] [aC l] [] (fun v Γ M=>∃(a:Option Addr) (c:Nat) (M1:aO),v= .slice a l.l.length c/\Γ=[]/\M=[M1]/\bR 43 2 (l.l.map js) a c M1):=by
 refine cb fun X H₀ L₀=>?_;refine mc ?_;refine qt (gb underlying24 rfl rfl) ?_;refine cv (fun hn=>?_) (fun hn=>?_);refine At.vN (hs:=(ix 1 rfl)) (by simpa using hn) fun hnil=>?_;refine At.ck ?_;refine re ?_;exact rs ⟨none,0,[],by rw[hnil];rfl,rfl,rfl,by rw[hnil];exact bR.nil _ _⟩;refine mc ?_;refine lM (jK underlying24 t43) ?_;rintro _ _ _ ⟨be,o,rfl,hoe,rfl,rfl⟩;refine mc ?_;refine lM (fO rfl underlying24 t43 rfl rfl hoe (by simp) (i:=0) rfl (.tail _ (.head _)) (by simp) (jt (fun _=>rfl) _) rfl rfl (by omega) (by unfold maxLen;omega)) ?_;rintro _ _ _ ⟨a2,c2,M2,rfl,ow2,rfl,rfl⟩;refine re ?_;exact rs ⟨a2,c2,M2,by simp[cP],rfl,rfl,by simpa using ow2⟩
end
theorem LG (key:Int) (x:Pr) (b:Nat):aN prog 186 [x.val,.pointer (some ⟨b,0,none⟩)] [aW b #[.int .i64 key]] [] (fun v Γ M=>v= .bool (pD key x)/\Γ=[]/\M=[]):=by
 refine cb fun X H₀ L₀=>?_;refine bx fun b1=>?_;refine re ?_;exact rs ⟨rfl,rfl,rfl⟩
theorem IJ (l:Sl Pr) (key:Int):aN prog 136 [l.val,.int .i64 key] [aC l] [] (fun v Γ M=>v= .int .i64 (mU (pD key) l.l)/\Γ=[]/\M=[]):=by
 refine cb fun X H₀ L₀=>?_;refine bx fun b1=>?_;refine ca (ua l 186 [_] (pD key) _ Og (fun y=>LG key y b1)) ?_;refine re ?_;exact rs ⟨rfl,rfl,rfl⟩
theorem Dh (l:List Pr) (a:Option Addr) (c:Nat) (Mo:aO) (hO0:bR 43 2 (l.map js) a c Mo) (f:FuncId) (cap:List Value) (p:Pr->Bool) (φ:ag) (hl9:l.length<=8796093022208) (hen:ah prog f) (hcon:∀x,aN prog f (x.val::cap) [φ] [] (fun v Γ M=>v= .bool (p x)/\Γ=[]/\M=[])):aN prog 134 [.slice a l.length c,.func (.func f) #[] cap.toArray] [φ] [Mo] (jB (l.filter fun x=> !p x)):=by
 refine cb fun X H₀ L₀=>?_;refine mc ?_;refine At.yG Oc rfl (ua ⟨a,c,l⟩ f cap p φ hen hcon) hO0 (i:=0) rfl (fun _ h=>⟨h.1,h.2.2.1,trivial⟩) (List.Perm.refl _) rfl ?_;refine fi (fun h1=>?_) (fun h1=>?_);have hno:∀y∈l,p y=false:=(w8 (p:=p) (l:=l) (by have h:=h1;dsimp only at h;omega)).2;refine At.da 0 hO0 rfl ?_;refine re ?_;exact rs ⟨⟨a,c,l⟩,rfl,rfl,rfl,(List.filter_eq_self.2 fun y hy=>by rw[hno y hy];rfl).symm⟩;obtain⟨j0,x0,hj0,hx0,hp0,hno⟩:=w7 (p:=p) (l:=l) (by have h:=h1;dsimp only at h;have h2:=E7 p l;omega);have hjl:=ae hx0;refine At.fZ 5 (.int .i64 (j0:Int)) rfl (congrArg (Value.int .i64) hj0) ?_;refine mc ?_;refine At.dP (ι:=Nat×Nat×List Pr×aO) [5,6,7,16,17,18,19,20,21,22,23,24,25,26,27,28,29,30,31,32,33,34,35] (fun⟨i,j,ls,M⟩=>[(5,.int .i64 (i:Int)),(6,.int .i64 (j:Int))]) (fun⟨i,j,ls,M⟩=>[]) (fun⟨i,j,ls,M⟩=>[M]) _ (fun⟨i,j,ls,M⟩=>je p l ls i j/\bR 43 2 (ls.map js) a c M) (fun⟨i,j,ls,M⟩=>l.length-j) (j0,j0+1,l,Mo) ⟨je.start hx0 hp0 hno,hO0⟩ ⟨rfl,rfl,trivial⟩ (fun _ _=>trivial) (k_ r_) ?_;intro i0 hI0;obtain⟨i,j,ls,M⟩:=i0;obtain⟨hD,hO⟩:=hI0;obtain⟨hD1,hD2,hD3,hD4,hD5⟩:=id hD;refine fi (fun hj=>?_) (fun hj=>?_);obtain⟨x,hx⟩:=aD (l:=ls) (i:=j) (by omega);obtain⟨z,hz⟩:=aD (l:=ls) (i:=i) (by omega);have hjl1:=ae hx;have hil1:=ae hz;refine mc ?_;refine qt (cA underlying24 t43 rfl hO (by simp[hD1]) rfl rfl (by omega)) ?_;refine qt (bU t43 rfl (fc.tG hO (i:=0) rfl (aI hx)) rfl) ?_;refine al fun b1=>?_;refine mc ?_;refine At.rS hen rfl rfl (by simp[Pr.val,js];exact⟨rfl,rfl⟩) (hcon x) (fun _ h=>⟨h.2.1,trivial⟩) (List.Perm.refl _) rfl ?_;refine cv (fun hp=>?_) (fun hp=>?_);refine mc ?_;refine qt (cA underlying24 t43 rfl hO (by simp[hD1]) rfl rfl (by omega)) ?_;refine At.bC (iU t43 rfl rfl hO (i:=1) rfl (aI hz) rfl rfl rfl) ?_;rintro _ _ _ ⟨Mow1,ow1,rfl,rfl⟩;refine mc ?_;have hO2:bR 43 2 ((ls.set i x).map js) a c Mow1:=by rw[List.map_set];exact ow1
 refine mc ?_;refine At.front 1 rfl ?_;refine mc ?_;exact At.bX (i+1,j+1,ls.set i x,_) ⟨hD.bE hx (by simpa using hp),hO2⟩ (by(try dsimp only);omega) (bc.end 25 ⟨rfl,rfl,trivial⟩ rfl rfl) (fun _ h=>h) (k_ (d_ r_));refine mc ?_;refine At.front 1 rfl ?_;refine mc ?_;exact At.bX (i,j+1,ls,M) ⟨hD.skip hx (by simpa using hp),hO⟩ (by(try dsimp only);omega) (bc.end 18 ⟨rfl,rfl,trivial⟩ rfl rfl) (fun _ h=>h) (k_ (d_ r_));have hdone:=hD.done (by omega);have hcap:=w9 hO;rw[List.length_map]at hcap;refine mc ?_;refine qt (ga underlying24 t43 rfl rfl rfl (by omega)) ?_;refine At.bC (BJ (p:=i) rfl underlying24 t43 rfl hO (by simp[hD1]) (by omega) (i:=0) rfl rfl rfl) ?_;rintro _ _ _ ⟨M5,ow5,rfl,rfl⟩;refine mc ?_;refine qt (dj underlying24 t43 rfl rfl (h:=i) rfl (by omega)) ?_;refine At.da 0 (show bR 43 2 ((ls.take i).map js) a c M5 by rw[List.map_take];exact ow5) rfl ?_;refine re ?_;exact rs ⟨⟨a,c,ls.take i⟩,by simp only[Sl.val,cP];rw[tW ow5,List.length_take,Nat.min_eq_left (show i<=ls.length by omega)],rfl,rfl,hdone⟩
theorem LH (lo hi:Int) (x:Pr) (b1 b2:Nat):aN prog 135 [x.val,.pointer (some ⟨b1,0,none⟩),.pointer (some ⟨b2,0,none⟩)] [N7 (aW b1 #[.int .i64 lo]) (aW b2 #[.int .i64 hi])] [] (fun v Γ M=>v= .bool (!Ef lo hi x)/\Γ=[]/\M=[]):=by
 refine cb fun X H₀ L₀=>?_;refine At.aJ (aW b1 #[.int .i64 lo]) (fun _ h=>h.2.1.1) ?_;refine At.aJ (aW b2 #[.int .i64 hi]) (fun _ h=>h.2.2.1.2) ?_;refine bx fun b1=>?_;refine sp 9 (fun hlo=>?_) (fun hlo=>?_);refine re ?_;exact rs ⟨congrArg Value.bool (by rw[Ef,decide_eq_false (show¬lo<=x.k by omega)];rfl),rfl,rfl⟩;refine re ?_;exact rs ⟨congrArg Value.bool (by rw[Ef,decide_eq_true (show lo<=x.k by omega)];by_cases h:x.k<=hi<;>simp[h]<;>omega),rfl,rfl⟩
theorem vY (l:Sl Pr) (lo hi:Int) (hl:l.l.length<=8796093022208):aN prog 109 [l.val,.int .i64 lo,.int .i64 hi] [aC l] [] (jB (dG l.l lo hi)):=by
 refine cb fun X H₀ L₀=>?_;refine bx fun b1=>?_;refine bx fun b2=>?_;refine ca (Fk l hl) ?_;rintro _ _ _ ⟨a,c,Mo,rfl,rfl,rfl,hO⟩;refine mc ?_;refine At.aJ (N7 (aW b1 #[.int .i64 lo]) (aW b2 #[.int .i64 hi])) (fun _ h=>⟨h.2.1,h.1⟩) ?_;refine ca (Dh l.l a c Mo hO 135 [.pointer (some ⟨b1,0,none⟩),.pointer (some ⟨b2,0,none⟩)] (fun y=> !Ef lo hi y) _ hl Of (fun y=>LH lo hi y b1 b2)) ?_;rintro _ _ _ ⟨u,rfl,rfl,rfl,hul⟩;refine re ?_;exact rs ⟨u,rfl,rfl,rfl,by rw[hul];simp[dG]⟩
theorem yX (m:Nat) (hm:m<=8796093022208):aN prog 187 [.slice none 0 0,.int .i64 (m:Int)] [] [] (fun v Γ M=>∃(a:Option Addr) (c:Nat) (M1:aO),v= .slice a 0 c/\Γ=[]/\M=[M1]/\bR 43 2 [] a c M1):=by
 refine cb fun X H₀ L₀=>?_;refine sv 6 (.bool false) ?_ (e:=by exact congrArg Value.bool (decide_eq_false (by omega)));refine mc ?_;refine qt (Ky underlying24 rfl) ?_;refine fi (fun hpos=>?_) (fun hpos=>?_);refine mc ?_;refine qt (Ky underlying24 rfl) ?_;refine qt (dj underlying24 t43 rfl rfl (h:=0) rfl (Nat.le_refl 0)) ?_;refine mc ?_;refine lM (vr (m:=m) rfl underlying24 underlying3 t43 rfl rfl (by omega) (by omega) rfl rfl (by omega) (by unfold maxLen;omega)) ?_;rintro _ _ _ ⟨bz,cz,gz,rfl,hOz,hmc,rfl,rfl⟩;refine mc ?_;refine qt (dj underlying24 t43 rfl rfl (h:=0) rfl (Nat.zero_le _)) ?_;refine sv 25 (.slice (some ⟨bz,0,none⟩) 0 cz) ?_ (e:=by rw[NK]);refine re ?_;exact rs ⟨some ⟨bz,0,none⟩,cz,gz,rfl,rfl,rfl,hOz⟩;refine At.ck ?_;refine re ?_;exact rs ⟨none,0,[],rfl,rfl,rfl,bR.nil _ _⟩
theorem AH (x y:Sl Pr) (b:Nat) (hlen:x.l.length+y.l.length<=8796093022208):aN prog 138 [.slice (some ⟨b,0,none⟩) 2 2] [aC x,aC y] [[(b,.cells #[x.val,y.val] 24 (0,0))]] (jB (x.l++y.l)):=by
 refine cb fun X H₀ L₀=>?_;refine At.freeze 0 (φ:=NY (⟨some ⟨b,0,none⟩,2,[x,y]⟩:Sl (Sl Pr))) rfl (fun _ h=>eP h rfl (by simp[Lx]) rfl (show(2:Nat)<=maxLen from by decide)) ?_;refine At.aJ (E5 [x,y]) (fun _ h=>NZ h.2.2.1 h.2.2.2.1) ?_;have hc2:ie [x,y] 2=x.l++y.l:=Va _ _;have hln:(ie [x,y] 2).length<=8796093022208:=by rw[hc2];simp;omega
 have hle:∀k,k<=2->(ie [x,y] k).length<=8796093022208:=fun k hk=>Nat.le_trans (yS (l:=[x,y]) hk) hln;have hl2:[x,y].length=2:=rfl;refine mc ?_;refine At.dP (ι:=Nat) [3,5,11,12,13,14,15,16,17,18,19,20,21,22] (fun k=>[(11,.int .i64 (k:Int)),(3,.int .i64 ((ie [x,y] k).length:Nat))]) (fun k=>[]) (fun k=>[]) _ (fun k=>k<=2) (fun k=>2-k) 0 (Nat.zero_le _) ⟨rfl,rfl,trivial⟩ (fun _ _=>trivial) r_ ?_;intro k hk0;refine fi (fun hk=>?_) (fun hk=>?_);obtain⟨z9,hz⟩:=aD (l:=[x,y]) (i:=k) (by omega);have hst:=pS hz;have hlk:=hle (k+1) (by omega);rw[hst,List.length_append]at hlk;have hk1:k+1<=2:=by omega
 refine At.aJ (aC z9) (fun _ h=>pR h.1 hz) ?_;refine mc ?_;refine qt (bD underlying237 t24 rfl (.tail _ (.tail _ (.head _))) (by simp) rfl rfl (ae hz)) ?_;refine ld (Rd.kK (.tail _ (.tail _ (.head _))) (aI hz) rfl) ?_;refine sv 20 (.bool false) ?_ (e:=by exact congrArg Value.bool (decide_eq_false (by omega)));refine mc ?_;refine At.fZ 3 (.int .i64 ((ie [x,y] (k+1)).length:Nat)) rfl (congrArg (Value.int .i64) (by rw[hst,List.length_append];simp)) ?_;refine mc ?_;exact At.bX (k+1) hk1 (by(try dsimp only);omega) (bc.end 17 ⟨rfl,rfl,trivial⟩ rfl rfl) (fun _ h=>h.2) r_;obtain rfl:k=2:=by omega
 have hl3:=hle 2 (by omega);refine ca (yX _ (by omega)) ?_;rintro _ _ _ ⟨a0,c0,M0,rfl,rfl,rfl,hO0⟩;refine mc ?_;refine At.dP (ι:=Nat×Option Addr×Nat×aO) [6,8,27,28,29,30,31,32,33,34] (fun⟨j,a,c,M⟩=>[(27,.int .i64 (j:Int)),(6,.slice a (ie [x,y] j).length c)]) (fun⟨j,a,c,M⟩=>[]) (fun⟨j,a,c,M⟩=>[M]) _ (fun⟨j,a,c,M⟩=>j<=2/\bR 43 2 ((ie [x,y] j).map js) a c M) (fun⟨j,a,c,M⟩=>2-j) (0,a0,c0,M0) ⟨Nat.zero_le _,hO0⟩ ⟨rfl,rfl,trivial⟩ (fun _ _=>trivial) (k_ r_) ?_;intro i0 hI0;obtain⟨j,a,c,M⟩:=i0;obtain⟨hj2,hO⟩:=hI0;refine fi (fun hjk=>?_) (fun hjk=>?_);obtain⟨z9,hz⟩:=aD (l:=[x,y]) (i:=j) (by omega);have hst:=pS hz;have hlk:=hle (j+1) (by omega);rw[hst,List.length_append]at hlk;have hj1:j+1<=2:=by omega
 refine At.aJ (aC z9) (fun _ h=>pR h.1 hz) ?_;refine mc ?_;refine qt (bD underlying237 t24 rfl (.tail _ (.tail _ (.head _))) (by simp) rfl rfl (ae hz)) ?_;refine ld (Rd.kK (.tail _ (.tail _ (.head _))) (aI hz) rfl) ?_;refine mc ?_;refine lM (fO rfl underlying24 t43 rfl rfl hO (by simp) (i:=0) rfl (.head _) (by simp) (jt (fun _=>rfl) _) rfl rfl (by omega) (by unfold maxLen;omega)) ?_;rintro _ _ _ ⟨a2,c2,M2,rfl,ow,rfl,rfl⟩;refine sv 6 (.slice a2 (ie [x,y] (j+1)).length c2) ?_ (e:=by rw[hst,List.length_append]);refine mc ?_;exact At.bX (j+1,a2,c2,M2) ⟨hj1,by rw[hst,List.map_append];exact ow⟩ (by(try dsimp only);omega) (bc.end 13 ⟨rfl,rfl,trivial⟩ rfl rfl) (fun _ h=>h.2) (k_ r_);obtain rfl:j=2:=by omega
 refine At.da 0 hO rfl ?_;refine re ?_;exact rs ⟨⟨a,c,ie [x,y] 2⟩,rfl,rfl,rfl,hc2⟩
theorem o4 (x z:Sl Pr) (p:Pr) (b b2:Nat) (hlen:x.l.length+z.l.length+1<=8796093022208):aN prog 138 [.slice (some ⟨b,0,none⟩) 3 3] [aC x,aC z] [[(b,.cells #[x.val,.slice (some ⟨b2,0,none⟩) 1 1,z.val] 24 (0,0))],[(b2,.cells #[.int .i64 p.k,.int .i64 p.v] 43 (0,0))]] (jB (x.l++p::z.l)):=by
 refine cb fun X H₀ L₀=>?_;refine At.freeze 1 (φ:=aC (⟨some ⟨b2,0,none⟩,1,[p]⟩:Sl Pr)) rfl (fun _ h=>eP h rfl (by simp[js]) rfl (show(1:Nat)<=maxLen from by decide)) ?_;refine At.freeze 0 (φ:=NY (⟨some ⟨b,0,none⟩,3,[x,(⟨some ⟨b2,0,none⟩,1,[p]⟩:Sl Pr),z]⟩:Sl (Sl Pr))) rfl (fun _ h=>eP h rfl (by simp[Lx]) rfl (show(3:Nat)<=maxLen from by decide)) ?_;refine At.aJ (E5 [x,(⟨some ⟨b2,0,none⟩,1,[p]⟩:Sl Pr),z]) (fun _ h=>N8 h.2.2.2.1 h.2.1 h.2.2.2.2.1) ?_;have hc2:ie [x,(⟨some ⟨b2,0,none⟩,1,[p]⟩:Sl Pr),z] 3=x.l++p::z.l:=Vb _ _ _;have hln:(ie [x,(⟨some ⟨b2,0,none⟩,1,[p]⟩:Sl Pr),z] 3).length<=8796093022208:=by rw[hc2];simp;omega
 have hle:∀k,k<=3->(ie [x,(⟨some ⟨b2,0,none⟩,1,[p]⟩:Sl Pr),z] k).length<=8796093022208:=fun k hk=>Nat.le_trans (yS (l:=[x,(⟨some ⟨b2,0,none⟩,1,[p]⟩:Sl Pr),z]) hk) hln;have hl2:[x,(⟨some ⟨b2,0,none⟩,1,[p]⟩:Sl Pr),z].length=3:=rfl;refine mc ?_;refine At.dP (ι:=Nat) [3,5,11,12,13,14,15,16,17,18,19,20,21,22] (fun k=>[(11,.int .i64 (k:Int)),(3,.int .i64 ((ie [x,(⟨some ⟨b2,0,none⟩,1,[p]⟩:Sl Pr),z] k).length:Nat))]) (fun k=>[]) (fun k=>[]) _ (fun k=>k<=3) (fun k=>3-k) 0 (Nat.zero_le _) ⟨rfl,rfl,trivial⟩ (fun _ _=>trivial) r_ ?_;intro k hk0;refine fi (fun hk=>?_) (fun hk=>?_);obtain⟨z9,hz⟩:=aD (l:=[x,(⟨some ⟨b2,0,none⟩,1,[p]⟩:Sl Pr),z]) (i:=k) (by omega);have hst:=pS hz;have hlk:=hle (k+1) (by omega);rw[hst,List.length_append]at hlk;have hk1:k+1<=3:=by omega
 refine At.aJ (aC z9) (fun _ h=>pR h.1 hz) ?_;refine mc ?_;refine qt (bD underlying237 t24 rfl (.tail _ (.tail _ (.head _))) (by simp) rfl rfl (ae hz)) ?_;refine ld (Rd.kK (.tail _ (.tail _ (.head _))) (aI hz) rfl) ?_;refine sv 20 (.bool false) ?_ (e:=by exact congrArg Value.bool (decide_eq_false (by omega)));refine mc ?_;refine At.fZ 3 (.int .i64 ((ie [x,(⟨some ⟨b2,0,none⟩,1,[p]⟩:Sl Pr),z] (k+1)).length:Nat)) rfl (congrArg (Value.int .i64) (by rw[hst,List.length_append];simp)) ?_;refine mc ?_;exact At.bX (k+1) hk1 (by(try dsimp only);omega) (bc.end 17 ⟨rfl,rfl,trivial⟩ rfl rfl) (fun _ h=>h.2) r_;obtain rfl:k=3:=by omega
 have hl3:=hle 3 (by omega);refine ca (yX _ (by omega)) ?_;rintro _ _ _ ⟨a0,c0,M0,rfl,rfl,rfl,hO0⟩;refine mc ?_;refine At.dP (ι:=Nat×Option Addr×Nat×aO) [6,8,27,28,29,30,31,32,33,34] (fun⟨j,a,c,M⟩=>[(27,.int .i64 (j:Int)),(6,.slice a (ie [x,(⟨some ⟨b2,0,none⟩,1,[p]⟩:Sl Pr),z] j).length c)]) (fun⟨j,a,c,M⟩=>[]) (fun⟨j,a,c,M⟩=>[M]) _ (fun⟨j,a,c,M⟩=>j<=3/\bR 43 2 ((ie [x,(⟨some ⟨b2,0,none⟩,1,[p]⟩:Sl Pr),z] j).map js) a c M) (fun⟨j,a,c,M⟩=>3-j) (0,a0,c0,M0) ⟨Nat.zero_le _,hO0⟩ ⟨rfl,rfl,trivial⟩ (fun _ _=>trivial) (k_ r_) ?_;intro i0 hI0;obtain⟨j,a,c,M⟩:=i0;obtain⟨hj2,hO⟩:=hI0;refine fi (fun hjk=>?_) (fun hjk=>?_);obtain⟨z9,hz⟩:=aD (l:=[x,(⟨some ⟨b2,0,none⟩,1,[p]⟩:Sl Pr),z]) (i:=j) (by omega);have hst:=pS hz;have hlk:=hle (j+1) (by omega);rw[hst,List.length_append]at hlk;have hj1:j+1<=3:=by omega
 refine At.aJ (aC z9) (fun _ h=>pR h.1 hz) ?_;refine mc ?_;refine qt (bD underlying237 t24 rfl (.tail _ (.tail _ (.head _))) (by simp) rfl rfl (ae hz)) ?_;refine ld (Rd.kK (.tail _ (.tail _ (.head _))) (aI hz) rfl) ?_;refine mc ?_;refine lM (fO rfl underlying24 t43 rfl rfl hO (by simp) (i:=0) rfl (.head _) (by simp) (jt (fun _=>rfl) _) rfl rfl (by omega) (by unfold maxLen;omega)) ?_;rintro _ _ _ ⟨a2,c2,M2,rfl,ow,rfl,rfl⟩;refine sv 6 (.slice a2 (ie [x,(⟨some ⟨b2,0,none⟩,1,[p]⟩:Sl Pr),z] (j+1)).length c2) ?_ (e:=by rw[hst,List.length_append]);refine mc ?_;exact At.bX (j+1,a2,c2,M2) ⟨hj1,by rw[hst,List.map_append];exact ow⟩ (by(try dsimp only);omega) (bc.end 13 ⟨rfl,rfl,trivial⟩ rfl rfl) (fun _ h=>h.2) (k_ r_);obtain rfl:j=3:=by omega
 refine At.da 0 hO rfl ?_;refine re ?_;exact rs ⟨⟨a,c,ie [x,(⟨some ⟨b2,0,none⟩,1,[p]⟩:Sl Pr),z] 3⟩,rfl,rfl,rfl,hc2⟩
set_option maxHeartbeats 1000000 in
theorem xe (l:Sl Pr) (p:Pr) (hr:dV l.l=true) (hl:l.l.length+1<=8796093022208):aN prog 137 [l.val,p.val] [aC l] [] (jB (eM l.l p)):=by
 refine cb fun X H₀ L₀=>?_;refine At.lenOf (hs:=(ix 1 rfl)) fun hlen=>?_;rw[List.length_map]at hlen;refine bx fun b1=>?_;refine mc ?_;refine At.dP (ι:=Nat) [5,7,8,9,10,11,12,13,14,15,16,17,18,19,20,21,22] (fun k=>[(5,.int .i64 (k:Int))]) (fun k=>[]) (fun k=>[]) _ (fun k=>k<=l.l.length/\∀y∈l.l.take k,y.k<p.k) (fun k=>l.l.length-k) 0 ⟨Nat.zero_le _,by simp⟩ ⟨rfl,trivial⟩ (fun _ _=>trivial) r_ ?_;intro k hI;refine dw 12 [] r_ ?_;refine mc ?_;refine aQ.eV (d:=11) rfl (fun hk=>?_) (fun hk=>?_);obtain⟨hk0,hno⟩:=hI;obtain⟨x,hx⟩:=aD (l:=l.l) (i:=k) (by omega);refine mc ?_;refine aQ.dt rfl rfl rfl (bD underlying24 t43 rfl (ix 2 rfl) (by simp) rfl rfl (ae hx)) rfl (Calm.then (Calm.then (Calm.then (Calm.inBlock (Calm.then bG.calm))))) ?_;refine mc ?_;refine aQ.dt rfl rfl rfl (aY t3 rfl (Rd.sl (ix 2 rfl) (aI hx) rfl)) rfl (Calm.then (Calm.then (Calm.then (Calm.inBlock (Calm.then bG.calm))))) ?_;refine fi (fun hlt=>?_) (fun hlt=>?_);refine mc ?_;exact At.bX (k+1) ⟨ae hx,IH hx hlt hno⟩ (by(try dsimp only);omega) (bc.end 19 ⟨rfl,trivial⟩ rfl rfl) (fun _ h=>h) r_;have hge:∀y,l.l[k]? =some y->p.k<=y.k:=fun y hy=>by rw[hx]at hy;cases hy;omega
 have hx0:(l.l.drop k)[0]? =some x:=by rw[List.getElem?_drop];exact hx
 have hk1:=ae hx;refine mc ?_;refine At.lenOf (hs:=(ix 2 rfl)) fun hlen2=>?_;rw[List.length_map]at hlen2;refine At.mS (hs:=(ix 2 rfl)) fun hcap=>?_;rw[List.length_map]at hcap;refine At.aJ (aC (⟨bQ l.a l.c 2 k,l.c-k,l.l.drop k⟩:Sl Pr)) (fun _ h=>mX h.2.2.1 (by omega)) ?_;refine mc ?_;refine qt (ga underlying24 t43 rfl rfl rfl (by omega)) ?_;refine sv 25 (Sl.val (⟨bQ l.a l.c 2 k,l.c-k,l.l.drop k⟩:Sl Pr)) ?_ (e:=by exact mY.symm);refine dw 10 [] r_ ?_;refine sv 29 (.bool true) ?_ (e:=by exact congrArg Value.bool (decide_eq_true (by simp;omega)));refine mc ?_;refine aQ.dt rfl rfl rfl (bD underlying24 t43 rfl (.head _) (by simp) rfl rfl (ae hx0)) rfl (Calm.then (Calm.then bG.calm)) ?_;refine mc ?_;refine aQ.dt rfl rfl rfl (aY t3 rfl (Rd.sl (.head _) (aI hx0) rfl)) rfl (Calm.then (Calm.then bG.calm)) ?_;refine fi (fun heq=>?_) (fun heq=>?_);refine At.aJ (aC (⟨bQ (bQ l.a l.c 2 k) (l.c-k) 2 1,l.c-k-1,(l.l.drop k).drop 1⟩:Sl Pr)) (fun _ h=>mX (s:=(⟨bQ l.a l.c 2 k,l.c-k,l.l.drop k⟩:Sl Pr)) h.1 (by simp;omega)) ?_;refine mc ?_;refine qt (ga underlying24 t43 rfl rfl (l:=1) rfl (by simp;omega)) ?_;refine sv 39 (Sl.val (⟨bQ (bQ l.a l.c 2 k) (l.c-k) 2 1,l.c-k-1,(l.l.drop k).drop 1⟩:Sl Pr)) ?_ (e:=by exact(mY (s:=(⟨bQ l.a l.c 2 k,l.c-k,l.l.drop k⟩:Sl Pr))).symm);refine mc ?_;refine At.aJ (aC (⟨bQ l.a l.c 2 0,l.c,l.l.take k⟩:Sl Pr)) (fun _ h=>lg h.2.2.2.2.1 (by omega)) ?_;refine dv 6 [0,1,2,3,5,104] r_ ?_;refine mc ?_;refine aQ.quiet rfl (dj underlying24 t43 rfl rfl (h:=k) rfl (by omega)) rfl (Calm.then bG.calm) ?_;refine sv 42 (Sl.val (⟨bQ l.a l.c 2 0,l.c,l.l.take k⟩:Sl Pr)) ?_ (e:=by exact(lj (by omega)).symm);refine nX fun b2=>?_;refine al fun b3=>?_;refine ca (o4 (⟨bQ l.a l.c 2 0,l.c,l.l.take k⟩:Sl Pr) (⟨bQ (bQ l.a l.c 2 k) (l.c-k) 2 1,l.c-k-1,(l.l.drop k).drop 1⟩:Sl Pr) p _ _ (by simp;omega)) ?_;rintro _ _ _ ⟨u,rfl,rfl,rfl,hul⟩;refine re ?_;exact rs ⟨u,rfl,rfl,rfl,by rw[hul];exact tV hr hno hge (by simp only[hx];rw[if_pos heq])⟩;refine mc ?_;refine At.aJ (aC (⟨bQ l.a l.c 2 0,l.c,l.l.take k⟩:Sl Pr)) (fun _ h=>lg h.2.2.2.1 (by omega)) ?_;refine dv 6 [0,1,2,3,5,104] r_ ?_;refine mc ?_;refine aQ.quiet rfl (dj underlying24 t43 rfl rfl (h:=k) rfl (by omega)) rfl (Calm.then bG.calm) ?_;refine sv 42 (Sl.val (⟨bQ l.a l.c 2 0,l.c,l.l.take k⟩:Sl Pr)) ?_ (e:=by exact(lj (by omega)).symm);refine nX fun b4=>?_;refine al fun b5=>?_;refine ca (o4 (⟨bQ l.a l.c 2 0,l.c,l.l.take k⟩:Sl Pr) (⟨bQ l.a l.c 2 k,l.c-k,l.l.drop k⟩:Sl Pr) p _ _ (by simp;omega)) ?_;rintro _ _ _ ⟨u,rfl,rfl,rfl,hul⟩;refine re ?_;exact rs ⟨u,rfl,rfl,rfl,by rw[hul];exact tV hr hno hge (by simp only[hx];rw[if_neg heq])⟩
 obtain⟨hk0,hno⟩:=hI;have hkl:k=l.l.length:=by omega
 have hge:∀y,l.l[k]? =some y->p.k<=y.k:=fun y hy=>by have:=ae hy;omega
 refine mc ?_;refine At.lenOf (hs:=(ix 2 rfl)) fun hlen2=>?_;rw[List.length_map]at hlen2;refine At.mS (hs:=(ix 2 rfl)) fun hcap=>?_;rw[List.length_map]at hcap;refine At.aJ (aC (⟨bQ l.a l.c 2 k,l.c-k,l.l.drop k⟩:Sl Pr)) (fun _ h=>mX h.2.2.1 (by omega)) ?_;refine mc ?_;refine qt (ga underlying24 t43 rfl rfl rfl (by omega)) ?_;refine sv 25 (Sl.val (⟨bQ l.a l.c 2 k,l.c-k,l.l.drop k⟩:Sl Pr)) ?_ (e:=by exact mY.symm);refine dw 10 [] r_ ?_;refine sv 29 (.bool false) ?_ (e:=by exact congrArg Value.bool (decide_eq_false (by simp;omega)));refine mc ?_;refine At.aJ (aC (⟨bQ l.a l.c 2 0,l.c,l.l.take k⟩:Sl Pr)) (fun _ h=>lg h.2.2.2.1 (by omega)) ?_;refine dv 6 [0,1,2,3,5,104] r_ ?_;refine mc ?_;refine aQ.quiet rfl (dj underlying24 t43 rfl rfl (h:=k) rfl (by omega)) rfl (Calm.then bG.calm) ?_;refine sv 42 (Sl.val (⟨bQ l.a l.c 2 0,l.c,l.l.take k⟩:Sl Pr)) ?_ (e:=by exact(lj (by omega)).symm);refine nX fun b6=>?_;refine al fun b7=>?_;refine ca (o4 (⟨bQ l.a l.c 2 0,l.c,l.l.take k⟩:Sl Pr) (⟨bQ l.a l.c 2 k,l.c-k,l.l.drop k⟩:Sl Pr) p _ _ (by simp;omega)) ?_;rintro _ _ _ ⟨u,rfl,rfl,rfl,hul⟩;refine re ?_;exact rs ⟨u,rfl,rfl,rfl,by rw[hul];exact tV hr hno hge (by rw[List.getElem?_eq_none (by omega)])⟩
theorem t45:dg prog 45=some (false,6,64,.agg #[.int .i64 0,.bool false,.int .i64 0,.int .i64 0,.int .i64 0,.slice none 0 0]):=by kernel_rfl
theorem KN:ah prog 109:=ah.mk' func109 rfl rfl
set_option maxHeartbeats 1000000 in
theorem LI (l:Sl Pr) (o:bA) (hr:dV l.l=true) (hmo:fj o=true) (hk:o.kind=1\/o.kind=2\/o.kind=3\/o.kind=4) (hl:l.l.length+1<=8796093022208):aN prog 110 [l.val,o.val] [aC l] [] (KK l.l o):=by
 refine cb fun X H₀ L₀=>?_;refine At.aJ (aC ⟨none,0,[]⟩) (fun _ h=>dh _ _ _ (Nat.zero_le _)) ?_;refine bx fun b1=>?_;refine al fun b2=>?_;refine al fun b3=>?_;refine ca (IJ _ _) ?_;refine fi (fun hge=>?_) (fun hge=>?_);obtain⟨j,x,hj,hx,hp,hno⟩:=w7 hge;have hjl:=ae hx;have hhit:vV l.l o.key=⟨0,true,x,0,[]⟩:=by rw[vV,ID hx hp hno];rfl
 refine At.fZ 7 (.int .i64 (j:Int)) rfl (congrArg (Value.int .i64) hj) ?_;refine mc ?_;refine qt (bD underlying24 t43 rfl (.tail _ (.tail _ (.tail _ (.head _)))) (by simp) rfl rfl (ae hx)) ?_;refine qt (bU t43 rfl (fc.kK (.tail _ (.tail _ (.tail _ (.head _)))) (aI hx)) rfl) ?_;refine sp 23 (fun h1=>?_) (fun h1=>?_);have hdo:eB l.l o=(eM l.l ⟨o.key,o.v⟩,⟨0,true,x,0,[]⟩):=by rw[fF hr hmo,if_pos h1,hhit]
 refine dv 9 [0,1,2,3,4,5,7,106,8] r_ ?_;refine oA (xe l ⟨o.key,o.v⟩ hr hl) ?_;rintro _ _ _ ⟨u,rfl,rfl,rfl,hul⟩;refine re ?_;exact rs ⟨u,⟨none,0,[]⟩,by rw[hdo];first|rfl| (simp only[An.val,cP,Sl.val];rfl),rfl,rfl,by rw[hdo]<;>exact hul,by rw[hdo]<;>rfl⟩;refine sp 27 (fun h2=>?_) (fun h2=>?_);refine sv 19 (.bool false) ?_ (e:=by exact congrArg Value.bool (decide_eq_false (by omega)));refine sv 44 (.bool false) ?_ (e:=by exact congrArg Value.bool (decide_eq_false (by omega)));refine mc ?_;have hdo:eB l.l o=(l.l,⟨0,true,x,0,[]⟩):=by rw[fF hr hmo,if_neg h1,if_pos h2,hhit]<;>rfl
 refine dv 4 [0,2,101,3] r_ ?_;refine oA (fw l (by omega)) ?_;rintro _ _ _ ⟨u,rfl,hu,rfl,rfl⟩;refine re ?_;exact rs ⟨u,⟨none,0,[]⟩,by rw[hdo];first|rfl| (simp only[An.val,cP,Sl.val];rfl),rfl,rfl,by rw[hdo]<;>exact hu,by rw[hdo]<;>rfl⟩;refine sp 44 (fun h3=>?_) (fun h3=>?_);refine sv 40 (.bool true) ?_ (e:=by exact congrArg Value.bool (decide_eq_true (by omega)));refine mc ?_;have hdo:eB l.l o=(cc l.l o.key,⟨0,true,x,0,[]⟩):=by rw[fF hr hmo,if_neg h1,if_neg h2,if_pos h3,hhit]
 refine mc ?_;refine At.lenOf (hs:=(ix 3 rfl)) fun hlen2=>?_;rw[List.length_map]at hlen2;refine At.mS (hs:=(ix 3 rfl)) fun hcap=>?_;rw[List.length_map]at hcap;refine At.aJ (aC (⟨bQ l.a l.c 2 0,l.c,l.l.take j⟩:Sl Pr)) (fun _ h=>lg h.2.2.2.1 (by omega)) ?_;refine At.aJ (aC (⟨bQ l.a l.c 2 (j+1),l.c-(j+1),l.l.drop (j+1)⟩:Sl Pr)) (fun _ h=>mX h.2.2.2.2.1 (by omega)) ?_;refine dv 11 [0,1,2,3,4,5,6,9,107,108,10] r_ ?_;refine mc ?_;refine aQ.quiet rfl (dj underlying24 t43 rfl rfl (h:=j) rfl (by omega)) rfl (Calm.then (Calm.inBlock (Calm.then bG.calm))) ?_;refine sv 50 (Sl.val (⟨bQ l.a l.c 2 0,l.c,l.l.take j⟩:Sl Pr)) ?_ (e:=by exact(lj (by omega)).symm);refine mc ?_;refine aQ.quiet rfl (ga underlying24 t43 rfl rfl (l:=j+1) (by omega) (by omega)) rfl (Calm.then (Calm.inBlock (Calm.then bG.calm))) ?_;refine sv 54 (Sl.val (⟨bQ l.a l.c 2 (j+1),l.c-(j+1),l.l.drop (j+1)⟩:Sl Pr)) ?_ (e:=by exact mY.symm);refine mO fun b4=>?_;refine oA (AH (⟨bQ l.a l.c 2 0,l.c,l.l.take j⟩:Sl Pr) (⟨bQ l.a l.c 2 (j+1),l.c-(j+1),l.l.drop (j+1)⟩:Sl Pr) _ (by simp;omega)) ?_;rintro _ _ _ ⟨u,rfl,rfl,rfl,hul⟩;refine re ?_;exact rs ⟨u,⟨none,0,[]⟩,by rw[hdo];first|rfl| (simp only[An.val,cP,Sl.val];rfl),rfl,rfl,by rw[hdo]<;>rw[hul];exact IG hr hx hp hno,by rw[hdo]<;>rfl⟩;refine mc ?_;have hdo:eB l.l o=(l.l,⟨0,true,x,0,[]⟩):=by rw[fF hr hmo,if_neg h1,if_neg h2,if_neg h3,if_neg (show¬o.kind=5 by omega),if_neg (show¬o.kind=6 by omega),if_neg (show¬o.kind=7 by omega),if_neg (show¬o.kind=8 by omega),hhit]
 refine dv 4 [0,2,101,3] r_ ?_;refine oA (fw l (by omega)) ?_;rintro _ _ _ ⟨u,rfl,hu,rfl,rfl⟩;refine re ?_;exact rs ⟨u,⟨none,0,[]⟩,by rw[hdo];first|rfl| (simp only[An.val,cP,Sl.val];rfl),rfl,rfl,by rw[hdo]<;>exact hu,by rw[hdo]<;>rfl⟩;obtain⟨hj,hno⟩:=w8 hge;have hhit:vV l.l o.key=⟨0,false,⟨0,0⟩,0,[]⟩:=by rw[vV,IE hno];rfl
 refine At.fZ 7 (.int .i64 (-1)) rfl (congrArg (Value.int .i64) hj) ?_;refine sp 23 (fun h1=>?_) (fun h1=>?_);have hdo:eB l.l o=(eM l.l ⟨o.key,o.v⟩,⟨0,false,⟨0,0⟩,0,[]⟩):=by rw[fF hr hmo,if_pos h1,hhit]
 refine dv 9 [0,1,2,3,4,5,7,106,8] r_ ?_;refine oA (xe l ⟨o.key,o.v⟩ hr hl) ?_;rintro _ _ _ ⟨u,rfl,rfl,rfl,hul⟩;refine re ?_;exact rs ⟨u,⟨none,0,[]⟩,by rw[hdo];first|rfl| (simp only[An.val,cP,Sl.val];rfl),rfl,rfl,by rw[hdo]<;>exact hul,by rw[hdo]<;>rfl⟩;refine sp 27 (fun h2=>?_) (fun h2=>?_);refine sv 19 (.bool true) ?_ (e:=by exact congrArg Value.bool (decide_eq_true (by omega)));refine mc ?_;have hdo:eB l.l o=(eM l.l ⟨o.key,o.v⟩,⟨0,false,⟨0,0⟩,0,[]⟩):=by rw[fF hr hmo,if_neg h1,if_pos h2,hhit]<;>rfl
 refine dv 9 [0,1,2,3,4,5,7,106,8] r_ ?_;refine oA (xe l ⟨o.key,o.v⟩ hr hl) ?_;rintro _ _ _ ⟨u,rfl,rfl,rfl,hul⟩;refine re ?_;exact rs ⟨u,⟨none,0,[]⟩,by rw[hdo];first|rfl| (simp only[An.val,cP,Sl.val];rfl),rfl,rfl,by rw[hdo]<;>exact hul,by rw[hdo]<;>rfl⟩;refine sp 44 (fun h3=>?_) (fun h3=>?_);refine sv 40 (.bool false) ?_ (e:=by exact congrArg Value.bool (decide_eq_false (by omega)));refine mc ?_;have hdo:eB l.l o=(l.l,⟨0,false,⟨0,0⟩,0,[]⟩):=by rw[fF hr hmo,if_neg h1,if_neg h2,if_pos h3,hhit,E8 hno]
 refine dv 4 [0,2,101,3] r_ ?_;refine oA (fw l (by omega)) ?_;rintro _ _ _ ⟨u,rfl,hu,rfl,rfl⟩;refine re ?_;exact rs ⟨u,⟨none,0,[]⟩,by rw[hdo];first|rfl| (simp only[An.val,cP,Sl.val];rfl),rfl,rfl,by rw[hdo]<;>exact hu,by rw[hdo]<;>rfl⟩;refine mc ?_;have hdo:eB l.l o=(l.l,⟨0,false,⟨0,0⟩,0,[]⟩):=by rw[fF hr hmo,if_neg h1,if_neg h2,if_neg h3,if_neg (show¬o.kind=5 by omega),if_neg (show¬o.kind=6 by omega),if_neg (show¬o.kind=7 by omega),if_neg (show¬o.kind=8 by omega),hhit]
 refine dv 4 [0,2,101,3] r_ ?_;refine oA (fw l (by omega)) ?_;rintro _ _ _ ⟨u,rfl,hu,rfl,rfl⟩;refine re ?_;exact rs ⟨u,⟨none,0,[]⟩,by rw[hdo];first|rfl| (simp only[An.val,cP,Sl.val];rfl),rfl,rfl,by rw[hdo]<;>exact hu,by rw[hdo]<;>rfl⟩
set_option maxHeartbeats 1000000 in
theorem Oh (l:Sl Pr) (o:bA) (hl:l.l.length+1<=8796093022208):aN prog 91 [l.val,o.val] [aC l] [] (KK l.l o):=by
 refine cb fun X H₀ L₀=>?_;refine At.aJ (aC ⟨none,0,[]⟩) (fun _ h=>dh _ _ _ (Nat.zero_le _)) ?_;refine bx fun b1=>?_;refine al fun b2=>?_;refine ca (Fg _) ?_;refine mc ?_;refine At.split (d:=10) rfl (fun hr0=>?_) (fun hr0=>?_);have hdo:eB l.l o=(l.l,⟨1,false,⟨0,0⟩,0,[]⟩):=KL (.inl (bM hr0));refine ca (fw l (by omega)) ?_;rintro _ _ _ ⟨u,rfl,hu,rfl,rfl⟩;refine re ?_;exact rs ⟨u,⟨none,0,[]⟩,by rw[hdo];first|rfl| (simp only[An.val,cP,Sl.val];rfl),rfl,rfl,by rw[hdo]<;>exact hu,by rw[hdo]<;>rfl⟩;have hr:dV l.l=true:=bV hr0;refine ca (xd _) ?_;refine cv (fun hm0=>?_) (fun hm0=>?_);have hdo:eB l.l o=(l.l,⟨1,false,⟨0,0⟩,0,[]⟩):=KL (.inr (bM hm0));refine ca (fw l (by omega)) ?_;rintro _ _ _ ⟨u,rfl,hu,rfl,rfl⟩;refine re ?_;exact rs ⟨u,⟨none,0,[]⟩,by rw[hdo];first|rfl| (simp only[An.val,cP,Sl.val];rfl),rfl,rfl,by rw[hdo]<;>exact hu,by rw[hdo]<;>rfl⟩;have hmo:fj o=true:=bV hm0;have hmk:1<=o.kind/\o.kind<=8:=by simpa[fj]using hmo
 have hbl:=Fa l.l o.key o.hi;refine al fun b3=>?_;refine fi (fun h5=>?_) (fun h5=>?_);have h1:¬o.kind=1:=by omega
 have h2:¬o.kind=2:=by omega
 have h3:¬o.kind=3:=by omega
 refine mc ?_;refine At.call KN rfl (vY _ _ _ (by omega)) (fun _ h=>⟨h.2.2.2.1,trivial⟩) (List.Perm.refl _) rfl ?_;rintro _ _ _ ⟨bw,rfl,rfl,rfl,hbw⟩;refine mc ?_;have hdo:eB l.l o=(l.l,⟨0,false,⟨0,0⟩,((dG l.l o.key o.hi).length:Int),dG l.l o.key o.hi⟩):=by rw[fF hr hmo,if_neg h1,if_neg h2,if_neg h3,if_pos h5]
 refine dv 4 [0,2,101,3] r_ ?_;refine oA (fw l (by omega)) ?_;rintro _ _ _ ⟨u,rfl,hu,rfl,rfl⟩;refine re ?_;exact rs ⟨u,bw,by rw[hdo];simp only[An.val,cP];rw[<-hbw];rfl,rfl,rfl,by rw[hdo];exact hu,by rw[hdo];exact hbw⟩;refine fi (fun h6=>?_) (fun h6=>?_);have h1:¬o.kind=1:=by omega
 have h2:¬o.kind=2:=by omega
 have h3:¬o.kind=3:=by omega
 refine mc ?_;refine At.call KN rfl (vY _ _ _ (by omega)) (fun _ h=>⟨h.2.2.2.1,trivial⟩) (List.Perm.refl _) rfl ?_;rintro _ _ _ ⟨bw,rfl,rfl,rfl,hbw⟩;refine mc ?_;have hdo:eB l.l o=(l.l,⟨0,false,⟨0,0⟩,((dG l.l o.key o.hi).length:Int),[]⟩):=by rw[fF hr hmo,if_neg h1,if_neg h2,if_neg h3,if_neg h5,if_pos h6]
 refine dv 4 [0,2,101,3] r_ ?_;refine oA (fw l (by omega)) ?_;rintro _ _ _ ⟨u,rfl,hu,rfl,rfl⟩;refine re ?_;exact rs ⟨u,⟨none,0,[]⟩,by rw[hdo];simp only[An.val,cP];rw[<-hbw];rfl,rfl,rfl,by rw[hdo];exact hu,by rw[hdo]⟩;refine fi (fun h7=>?_) (fun h7=>?_);have h1:¬o.kind=1:=by omega
 have h2:¬o.kind=2:=by omega
 have h3:¬o.kind=3:=by omega
 refine sv 48 (.bool true) ?_ (e:=by exact congrArg Value.bool (decide_eq_true h7));refine fi (fun hn=>?_) (fun hn=>?_);obtain⟨x,hx⟩:=aD (l:=l.l) (i:=0) (by omega);obtain⟨y,hy⟩:=aD (l:=l.l) (i:=l.l.length-1) (by omega);refine mc ?_;refine qt (bD underlying24 t43 rfl (.tail _ (.tail _ (.tail _ (.head _)))) (by simp) rfl rfl (ae hx)) ?_;refine qt (bU t43 rfl (fc.kK (.tail _ (.tail _ (.tail _ (.head _)))) (aI hx)) rfl) ?_;refine sv 61 (.bool true) ?_ (e:=by exact congrArg Value.bool (decide_eq_true hn));refine sv 65 (.bool false) ?_ (e:=by exact congrArg Value.bool (decide_eq_false (by omega)));refine mc ?_;have hdo:eB l.l o=(l.l,⟨0,true,x,0,[]⟩):=by rw[fF hr hmo,if_neg h1,if_neg h2,if_neg h3,if_neg h5,if_neg h6,if_pos h7,E9,hx]<;>rfl
 refine dv 4 [0,2,101,3] r_ ?_;refine oA (fw l (by omega)) ?_;rintro _ _ _ ⟨u,rfl,hu,rfl,rfl⟩;refine re ?_;exact rs ⟨u,⟨none,0,[]⟩,by rw[hdo];first|rfl| (simp only[An.val,cP,Sl.val];rfl),rfl,rfl,by rw[hdo]<;>exact hu,by rw[hdo]<;>rfl⟩;have hnil:l.l=[]:=List.eq_nil_of_length_eq_zero (by omega);refine sv 61 (.bool false) ?_ (e:=by exact congrArg Value.bool (decide_eq_false hn));refine mc ?_;have hdo:eB l.l o=(l.l,⟨0,false,⟨0,0⟩,0,[]⟩):=by rw[fF hr hmo,if_neg h1,if_neg h2,if_neg h3,if_neg h5,if_neg h6,if_pos h7,hnil]<;>rfl
 refine dv 4 [0,2,101,3] r_ ?_;refine oA (fw l (by omega)) ?_;rintro _ _ _ ⟨u,rfl,hu,rfl,rfl⟩;refine re ?_;exact rs ⟨u,⟨none,0,[]⟩,by rw[hdo];first|rfl| (simp only[An.val,cP,Sl.val];rfl),rfl,rfl,by rw[hdo]<;>exact hu,by rw[hdo]<;>rfl⟩;refine fi (fun h8=>?_) (fun h8=>?_);have h1:¬o.kind=1:=by omega
 have h2:¬o.kind=2:=by omega
 have h3:¬o.kind=3:=by omega
 refine fi (fun hn=>?_) (fun hn=>?_);obtain⟨x,hx⟩:=aD (l:=l.l) (i:=0) (by omega);obtain⟨y,hy⟩:=aD (l:=l.l) (i:=l.l.length-1) (by omega);refine mc ?_;refine qt (bD underlying24 t43 rfl (.tail _ (.tail _ (.tail _ (.head _)))) (by simp) rfl rfl (ae hx)) ?_;refine qt (bU t43 rfl (fc.kK (.tail _ (.tail _ (.tail _ (.head _)))) (aI hx)) rfl) ?_;refine sv 61 (.bool true) ?_ (e:=by exact congrArg Value.bool (decide_eq_true hn));refine sv 65 (.bool true) ?_ (e:=by exact congrArg Value.bool (decide_eq_true h8));refine mc ?_;refine qt (bD underlying24 t43 rfl (.tail _ (.tail _ (.tail _ (.head _)))) (by simp) rfl (by omega) (ae hy)) ?_;refine qt (bU t43 rfl (fc.kK (.tail _ (.tail _ (.tail _ (.head _)))) (aI hy)) rfl) ?_;refine mc ?_;have hdo:eB l.l o=(l.l,⟨0,true,y,0,[]⟩):=by rw[fF hr hmo,if_neg h1,if_neg h2,if_neg h3,if_neg h5,if_neg h6,if_neg h7,if_pos h8,Dc,hy]<;>rfl
 refine dv 4 [0,2,101,3] r_ ?_;refine oA (fw l (by omega)) ?_;rintro _ _ _ ⟨u,rfl,hu,rfl,rfl⟩;refine re ?_;exact rs ⟨u,⟨none,0,[]⟩,by rw[hdo];first|rfl| (simp only[An.val,cP,Sl.val];rfl),rfl,rfl,by rw[hdo]<;>exact hu,by rw[hdo]<;>rfl⟩;have hnil:l.l=[]:=List.eq_nil_of_length_eq_zero (by omega);refine sv 61 (.bool false) ?_ (e:=by exact congrArg Value.bool (decide_eq_false hn));refine mc ?_;have hdo:eB l.l o=(l.l,⟨0,false,⟨0,0⟩,0,[]⟩):=by rw[fF hr hmo,if_neg h1,if_neg h2,if_neg h3,if_neg h5,if_neg h6,if_neg h7,if_pos h8,hnil]<;>rfl
 refine dv 4 [0,2,101,3] r_ ?_;refine oA (fw l (by omega)) ?_;rintro _ _ _ ⟨u,rfl,hu,rfl,rfl⟩;refine re ?_;exact rs ⟨u,⟨none,0,[]⟩,by rw[hdo];first|rfl| (simp only[An.val,cP,Sl.val];rfl),rfl,rfl,by rw[hdo]<;>exact hu,by rw[hdo]<;>rfl⟩;refine ca (LI l o hr hmo (by omega) hl) ?_;rintro _ _ _ ⟨s,s2,rfl,rfl,rfl,hs,hs2⟩;refine re ?_;exact rs ⟨s,s2,rfl,rfl,rfl,hs,hs2⟩
def fh (m:List Pr) (l:List Pr):List Pr:=l.foldl (fun m p=>(eB m ⟨1,p.k,0,p.v⟩).1) m
theorem yY {l:List Pr} {k:Nat} {x:Pr} (h:l[k]? =some x):fh [] (l.take (k+1))=(eB (fh [] (l.take k)) ⟨1,x.k,0,x.v⟩).1:=by
 rw[List.take_succ_eq_append_getElem (ae h),fh,List.foldl_append,(List.getElem?_eq_some_iff.1 h).2];rfl
theorem IK (l:List Pr) (k:Nat):(fh [] (l.take k)).length<=k:=by
 induction k with
 |zero=>simp[fh]
 |succ k ih=>
  cases h:l[k]? with
  |none=>
   have h1:l.length<=k:=List.getElem?_eq_none_iff.1 h;rw[List.take_of_length_le (by omega)];rw[List.take_of_length_le h1]at ih;omega
  |some x=>
   have h2:=Ly (fh [] (l.take k)) ⟨1,x.k,0,x.v⟩;rw[yY h];omega
def LJ (l:List Pr) (o:bA) (b:Nat) (v:Value) (Γ:List ag) (M:E.Loc):Prop:=∃s s2:Sl Pr,v=(eB l o).2.val s2/\Γ=[aC s,aC s2]/\M=[[(b,.cells #[s.val] 95 (0,0))]]/\s.l=(eB l o).1/\s2.l=(eB l o).2.l
def LK (l:List Pr) (v:Value) (Γ:List ag) (M:E.Loc):Prop:=∃(b:Nat) (s:Sl Pr),v= .pointer (some ⟨b,0,none⟩)/\Γ=[aC s]/\M=[[(b,.cells #[s.val] 95 (0,0))]]/\s.l=fh [] l
def W3 (l:List Nat) (a:Nat):Nat:=l.findIdx fun x=>decide (x=a)
def Fl (t:PT) (o:bA):List Nat:=
 if(fl t).isSome&&(fj o&&decide (o.kind<7))then
  (if o.kind<=4 then[(findD t o.key).leaf]else if o.hi<o.key then[]else
   ((dK t).take (W3 (dK t) (findD t o.hi).leaf+1)).drop (W3 (dK t) (findD t o.key).leaf))
 else[]
set_option maxHeartbeats 1000000 in
theorem mi (p:iH) (s w:Int):aN prog 115 [p.val,.int .i64 s,.int .i64 w] [] [] (fun v Γ M=>v= .int .i64 (cS p s w)/\Γ=[]/\M=[]):=by
 refine cb fun X H₀ L₀=>?_;refine al fun b1=>?_;refine ca (m9 p) ?_;refine ca (nZ s) ?_;refine mc ?_;have hcb:=p.E6;have hsb:=yQ s;refine fi (fun h1=>?_) (fun h1=>?_);refine ca (nZ _) ?_;refine re ?_;exact rs ⟨by rw[cS,tU,if_pos h1];rfl,rfl,rfl⟩;refine fi (fun h2=>?_) (fun h2=>?_);refine ca (nZ _) ?_;refine re ?_;exact rs ⟨by rw[cS,tU,if_neg h1,if_pos h2];rfl,rfl,rfl⟩;refine fi (fun h3=>?_) (fun h3=>?_);refine ca (nZ _) ?_;refine re ?_;exact rs ⟨by rw[cS,tU,if_neg h1,if_neg h2,if_pos h3];rfl,rfl,rfl⟩;refine ca (nZ _) ?_;refine re ?_;exact rs ⟨by rw[cS,tU,if_neg h1,if_neg h2,if_neg h3];rfl,rfl,rfl⟩
theorem Oi (l:Sl Pr) (o:bA) (b:Nat) (hl:l.l.length+1<=8796093022208):aN prog 54 [.pointer (some ⟨b,0,none⟩),o.val] [aC l] [[(b,.cells #[l.val] 95 (0,0))]] (LJ l.l o b):=by
 refine cb fun X H₀ L₀=>?_;refine bx fun b1=>?_;refine al fun b2=>?_;refine al fun b3=>?_;refine dv 13 [0,1,2,3,5,104,106,7,8,9,10,11,112] (k_ (k_ (d_ r_))) ?_;refine mc ?_;refine oM rfl (bF.eJ (aY t24 rfl (Rd.loc (i:=2) rfl rfl))) ?_;refine gf (Oh l o hl) ?_;rintro _ _ _ ⟨s,s2,rfl,rfl,rfl,hs,hs2⟩;refine mc ?_;refine yn rfl (aw t24 rfl rfl (i:=2) rfl rfl rfl rfl) ?_;rintro _ _ _ ⟨rfl,rfl⟩;refine re ?_;exact rs ⟨s,s2,rfl,rfl,rfl,hs,hs2⟩
theorem Fm (l:Sl Pr) (hl:l.l.length+1<=8796093022208):aN prog 20 [l.val] [aC l] [] (LK l.l):=by
 refine cb fun X H₀ L₀=>?_;refine At.lenOf (hs:=(ix 1 rfl)) fun hlen=>?_;rw[List.length_map]at hlen;refine At.aJ (aC ⟨none,0,[]⟩) (fun _ h=>dh _ _ _ (Nat.zero_le _)) ?_;refine al fun b1=>?_;refine mc ?_;refine At.dP (ι:=Nat×Sl Pr) [5,10,11,12,13,14,15,16,17,18,19,20,21] (fun⟨k,s⟩=>[(10,.int .i64 (k:Int))]) (fun⟨k,s⟩=>[aC s]) (fun⟨k,s⟩=>[[(b1,.cells #[s.val] 95 (0,0))]]) _ (fun⟨k,s⟩=>k<=l.l.length/\s.l=fh [] (l.l.take k)) (fun⟨k,s⟩=>l.l.length-k) (0,⟨none,0,[]⟩) ⟨Nat.zero_le _,rfl⟩ ⟨rfl,trivial⟩ (fun _ h=>⟨h.1,trivial⟩) (k_ r_) ?_;intro i0 hI0;obtain⟨k,s⟩:=i0;obtain⟨hkl,hs⟩:=hI0;refine fi (fun hk=>?_) (fun hk=>?_);obtain⟨x,hx⟩:=aD (l:=l.l) (i:=k) (by omega);have hk1:=ae hx;have hpl:=IK l.l k;refine mc ?_;refine qt (bD underlying24 t43 rfl (.tail _ (.tail _ (.tail _ (.head _)))) (by simp) rfl rfl (ae hx)) ?_;refine qt (bU t43 rfl (fc.kK (.tail _ (.tail _ (.tail _ (.head _)))) (aI hx)) rfl) ?_;refine al fun b2=>?_;refine ca (Oi s ⟨1,x.k,0,x.v⟩ b1 (by rw[hs];omega)) ?_;rintro _ _ _ ⟨s3,s4,rfl,rfl,rfl,hs3,hs4⟩;refine mc ?_;exact At.bX (k+1,s3) ⟨hk1,by rw[hs3,hs,yY hx]⟩ (by(try dsimp only);omega) (bc.end 14 ⟨rfl,trivial⟩ rfl rfl) (fun _ h=>⟨h.1,h.2.2.2⟩) (k_ (d_ r_));refine re ?_;exact rs ⟨b1,s,rfl,rfl,rfl,by rw[hs,List.take_of_length_le (by omega)]⟩
theorem IL (l:Sl Int) (hl:l.l.length<=8796093022208):aN prog 106 [l.val] [cw l] [] (fun v Γ M=>∃s:Sl Int,v=s.val/\s.l=l.l/\Γ=[cw s]/\M=[]):=by
 refine cb fun X H₀ L₀=>?_;refine mc ?_;refine qt (gb underlying26 rfl rfl) ?_;refine cv (fun hn=>?_) (fun hn=>?_);refine At.vN (hs:=(ix 1 rfl)) (by simpa using hn) fun hnil=>?_;refine At.aJ (cw ⟨none,0,[]⟩) (fun _ _=>dh _ _ _ (Nat.zero_le _)) ?_;refine re ?_;exact rs ⟨⟨none,0,[]⟩,rfl,hnil.symm,rfl,rfl⟩;refine mc ?_;refine lM (kN underlying26 t3) ?_;rintro _ _ _ ⟨e1,rfl,rfl,rfl⟩;refine mc ?_;refine lM (mT rfl underlying26 t3 rfl rfl (.tail _ (.head _)) (by simp) rfl (by omega) (by unfold maxLen;omega) rfl) ?_;rintro _ _ _ ⟨a2,c2,rfl,rfl,rfl⟩;refine re ?_;exact rs ⟨⟨a2,c2,l.l⟩,rfl,rfl,rfl,rfl⟩
theorem Oj:ah prog 106:=ah.mk' func106 rfl rfl
theorem Fp {l:List Pr} {o:bA} (hr:dV l=true):dV (eB l o).1=true:=by
 unfold eB;have hw:=dF.2 (w6 (p:=⟨o.key,o.v⟩) (dF.1 hr));have hc:dV (cc l o.key)=true:=dF.2 ((dF.1 hr).filter _)
 repeat' split
 all_goals first|exact hr|exact hw|exact hc|skip
 all_goals (simp only[];split<;>assumption)
theorem IM {l:List Pr} {o:bA} {x:Pr} (hx:x∈(eB l o).1):x.k=o.key\/x∈l:=by
 have hw:∀x∈eM l ⟨o.key,o.v⟩,x.k=o.key\/x∈l:=fun x hx=>by
  rcases tR.1 hx with rfl| ⟨h,_⟩;exact .inl rfl;exact .inr h
 have hc:∀x∈cc l o.key,x.k=o.key\/x∈l:=fun x hx=>.inr (List.mem_filter.1 hx).1
 have key:∀q,(eB l o).1=q->(q=eM l ⟨o.key,o.v⟩\/q=cc l o.key\/q=l):=by
  intro q hq;subst hq;unfold eB
  repeat' split
  all_goals first|exact .inl rfl|exact .inr (.inl rfl)|exact .inr (.inr rfl)|skip
  all_goals (simp only[];split<;>first|exact .inl rfl|exact .inr (.inr rfl))
 rcases key _ rfl with e|e|e;rw[e]at hx;exact hw x hx;rw[e]at hx;exact hc x hx;rw[e]at hx;exact .inr hx
theorem vZ (l:List Pr):dV (fh [] l)=true:=by
 have:∀(l m:List Pr),dV m=true->dV (fh m l)=true:=by
  intro l
  induction l with
  |nil=>intro m h;exact h
  |cons x l ih=>intro m h;exact ih _ (Fp h)
 exact this l [] rfl
def Ve (t:PT) (p:iH) (o:bA):PT:=(KJ (NV t ((findD t o.key).leaf:Int) (eB (t.ns.getD (findD t o.key).leaf default).l o).1 (cS p (t.ns.getD (findD t o.key).leaf default).stat 2)) p ((findD t o.key).leaf:Int)).1
def Ol (p:iH) (t:PT) (a:Nat):PT:=NV t (a:Int) (t.ns.getD a default).l (cS p (t.ns.getD a default).stat 3)
def Vf (t:PT) (p:iH) (l:List Nat):PT:=(KJ (l.foldl (Ol p) t) p ((l.headD 0:Nat):Int)).1
def Om (t:PT) (p:iH) (o:bA):PT:=if eG o then Ve t p o else if 1<(Fl t o).length then Vf t p (Fl t o)else t
def mF (t:PT) (p:iH) (o:bA):PT×An:=
 if(fl t).isSome then(if fj o then(Om (dT t) p o,(eB (sH t) o).2)else(dT t,.bad))else(⟨0,[]⟩,.bad)
structure BQ where
 err:Int
 ok:Bool
 p:Pr
 n:Int
 ps:Sl Pr
def BQ.a (a:BQ):An:=⟨a.err,a.ok,a.p,a.n,a.ps.l⟩
def BQ.of (a:An) (s:Sl Pr):BQ:=⟨a.err,a.ok,a.p,a.n,s⟩
theorem BQ.Vg {a:An} {s:Sl Pr} (h:s.l=a.l):(BQ.of a s).a=a:=by simp[BQ.of,BQ.a,h]
def kR (o:bA):List Value:=[.int .i64 o.kind,.int .i64 o.key,.int .i64 o.hi,.int .i64 o.v]
def iW (s:Sl bA):ag:=sl s.a s.c 4 (s.l.map kR)
def o6 (p:iH) (t:PT) (l:List bA):PT×List An:=l.foldl (fun q o=>((mF q.1 p o).1,q.2++[(mF q.1 p o).2])) (t,[])
def runT (t:PT) (p:iH) (l:List bA):PT×List An:=if(fl t).isSome then o6 p (dT t) l else(⟨0,[]⟩,[])
theorem uc {p:iH} {t:PT} {l:List bA} {k:Nat} {o:bA} (h:l[k]? =some o):o6 p t (l.take (k+1))=((mF (o6 p t (l.take k)).1 p o).1,(o6 p t (l.take k)).2++[(mF (o6 p t (l.take k)).1 p o).2]):=by
 unfold o6;rw[List.take_succ_eq_append_getElem (ae h),List.foldl_append,(List.getElem?_eq_some_iff.1 h).2];rfl
theorem t32:dg prog 32=some (true,1,8,.int .i64 0):=by kernel_rfl
theorem LL (A B:An) (s u:Sl Pr):aN prog 19 [A.val s,B.val u] [aC s,aC u] [] (fun v Γ M=>v= .bool (decide (A.err=B.err/\A.ok=B.ok/\A.p=B.p/\A.n=B.n/\s.l=u.l))/\Γ=[]/\M=[]):=by
 refine cb fun X H₀ L₀=>?_;refine bx fun b1=>?_;refine bx fun b2=>?_;refine sp 10 (fun h1=>?_) (fun h1=>?_);refine mc ?_;refine qt (yB underlying4 rfl rfl) ?_;refine mc ?_;refine At.split (d:=17) rfl (fun h2=>?_) (fun h2=>?_);refine mc ?_;refine qt (Av W0 rfl rfl rfl rfl rfl rfl) ?_;refine sp 24 (fun h3=>?_) (fun h3=>?_);refine sp 31 (fun h4=>?_) (fun h4=>?_);refine ca (Fh _ _) ?_;refine re ?_;exact rs ⟨congrArg Value.bool (by simp_all [<-Pr.eq_iff]),rfl,rfl⟩;refine re ?_;exact rs ⟨congrArg Value.bool (by simp_all [<-Pr.eq_iff]),rfl,rfl⟩;refine re ?_;exact rs ⟨congrArg Value.bool (by simp_all [<-Pr.eq_iff]),rfl,rfl⟩;refine re ?_;exact rs ⟨congrArg Value.bool (by simp_all [<-Pr.eq_iff]),rfl,rfl⟩;refine re ?_;exact rs ⟨congrArg Value.bool (by simp_all [<-Pr.eq_iff]),rfl,rfl⟩
theorem yZ {t:PT} {p:iH} {o:bA} (h:(fl t).isSome=true):mF (dT t) p o=mF t p o:=by
 obtain⟨p1,_,p3,p4⟩:=yR h;unfold mF;rw[if_pos h,if_pos p1,p3,p4]
theorem run_get {p:iH} {t:PT} {l:List bA} {k:Nat} {o:bA} (h:l[k]? =some o):∀m,k<m->m<=l.length->(o6 p t (l.take m)).2[k]? =some (mF (o6 p t (l.take k)).1 p o).2/\(o6 p t (l.take m)).2.length=m:=by
 have hlen:∀m,m<=l.length->(o6 p t (l.take m)).2.length=m:=by
  intro m
  induction m with
  |zero=>intro _;rfl
  |succ m ih=>
   intro hm;obtain⟨o',ho'⟩:=aD (l:=l) (i:=m) (by omega);rw[uc ho',List.length_append,ih (by omega)];rfl
 intro m
 induction m with
 |zero=>intro hk;omega
 |succ m ih=>
  intro hk hm;refine⟨?_,hlen _ hm⟩;obtain⟨o',ho'⟩:=aD (l:=l) (i:=m) (by omega);rw[uc ho'];by_cases e:k=m;subst e;rw[h]at ho'
  cases ho'
  show((o6 p t (l.take k)).2++[_])[k]? =_;rw[List.getElem?_append_right (by rw[hlen _ (by omega)];exact Nat.le_refl _),hlen _ (by omega)];simp;show((o6 p t (l.take m)).2++[_])[k]? =_;rw[List.getElem?_append_left (by rw[hlen _ (by omega)];omega)];exact(ih (by omega) (by omega)).1
def y9 (t:PT) (p:iH) (l:List bA) (k:Nat) (v:PT):Prop:=(k=0/\v=t)\/(0<k/\(fl t).isSome=true/\v=(o6 p (dT t) (l.take k)).1)
section
variable {t:PT} {p:iH} {l:List bA} {k:Nat} {v:PT}
include t p l k v
theorem y9.may (h:y9 t p l k v) (hm:(fl v).isSome=true):(fl t).isSome=true:=by
 rcases h with⟨_,rfl⟩| ⟨_,h,_⟩;exact hm;exact h
theorem y9.next {o:bA} (h:y9 t p l k v) (hm:(fl v).isSome=true) (ho:l[k]? =some o):
  y9 t p l (k+1) (mF v p o).1/\(runT t p l).2[k]? =some (mF v p o).2/\(runT t p l).2.length=l.length:=by
 have ht:=h.may hm
 have e:mF v p o=mF (o6 p (dT t) (l.take k)).1 p o:=by
  rcases h with⟨rfl,rfl⟩| ⟨_,_,rfl⟩;exact(yZ ht).symm;rfl
 have hk:=ae ho;obtain⟨g1,g2⟩:=run_get (p:=p) (t:=dT t) ho l.length hk (Nat.le_refl _);rw[List.take_of_length_le (Nat.le_refl _)]at g1 g2;have er:runT t p l=o6 p (dT t) l:=by unfold runT;rw[if_pos ht]
 rw[er,e];exact⟨.inr ⟨by omega,ht,by rw[uc ho]⟩,g1,g2⟩
end
def ct (n:gG):List Pr×Int:=(n.l,n.stat)
theorem LM {l:List Pr} {k v:Int} (h:dV l=true):(eB l ⟨1,k,0,v⟩).1=eM l ⟨k,v⟩:=by
 rw[fF h rfl,if_pos rfl]
theorem Fq {r:cX} {id:Int} (h:r.p.kind id≠0):∃(i:Nat) (k:Int) (vs:Sl Int),id=(i:Int)+1/\r.rows[i]? =some (.cg k vs)/\r.p.bP id=some (.cg k vs.l)/\k≠0:=by
 cases hh:r.p.has id
 exact absurd (xc hh) h;obtain⟨i,x,rfl,hx,hs⟩:=lx hh
 cases x with
 |cg k vs=>exact⟨i,k,vs,rfl,hx,hs,fun e=>h (by rw[Ar.kind,hs];exact e)⟩
 |cell b v=>exact absurd (show r.p.kind _=0 by rw[Ar.kind,hs];rfl) h
theorem Di {r:cX} {id j:Int} (hk:∀k vs,.cg k vs∈r.rows->1<=k) (h:r.p.kind id=0):r.p.val id j=0:=by
 cases hh:r.p.has id
 exact Lz hh;obtain⟨i,x,rfl,hx,hs⟩:=lx hh
 cases x with
 |cg k vs=>
  have h1:=hk k vs (List.mem_of_getElem? hx);have h2:r.p.kind ((i:Int)+1)=k:=by rw[Ar.kind,hs];rfl
  omega
 |cell b v=>rw[Ar.val,hs];rfl
def cX.On (r:cX) (i b:Nat) (w:Int):cX:={r.step with rows:=r.rows.set i (.cell b w)}
theorem xf {r:cX} {i b:Nat} {x:Int} (hx:r.rows[i]? =some (.cell b x)):r.p.aB ((i:Int)+1)=true/\r.p.holds ((i:Int)+1)=x:=by
 have hil:=ae hx;have hh:r.p.has ((i:Int)+1)=true:=yV.2 ⟨by omega,by omega⟩;obtain⟨j,y,e,hy,hs⟩:=lx hh;obtain rfl:j=i:=by omega
 rw[hx]at hy
 cases hy
 exact⟨by rw[Ar.aB,hs];rfl,by rw[Ar.holds,hs];rfl⟩
theorem xg {r:cX} {id:Int} (hk:∀k vs,.cg k vs∈r.rows->1<=k) (hh:r.p.has id=true) (h:r.p.kind id=0):∃(i b:Nat) (x:Int),id=(i:Int)+1/\r.rows[i]? =some (.cell b x):=by
 obtain⟨i,x,rfl,hx,hs⟩:=lx hh
 cases x with
 |cg k vs=>
  have h1:=hk k vs (List.mem_of_getElem? hx);have h2:r.p.kind ((i:Int)+1)=k:=by rw[Ar.kind,hs];rfl
  omega
 |cell b v=>exact⟨i,b,v,rfl,hx⟩
theorem za {r:cX} {id:Int} (h:r.p.kind id≠0):r.p.aB id=false:=by
 obtain⟨i,k,vs,rfl,hx,hs,_⟩:=Fq h;rw[Ar.aB,hs]
theorem Dj {l:List sJ} {i b:Nat} {x:Int} (hx:l[i]? =some (.cell b x)) (w:Int):(l.set i (.cell b w)).map jk=l.map jk:=by
 apply List.ext_getElem?;intro j;by_cases e:i=j;subst e;rw[List.getElem?_map,List.getElem?_map,List.getElem?_set_self (ae hx),hx];rfl;simp[List.getElem?_set_ne e]
theorem Fs (r:cX) (i b:Nat) (w:Int):(r.On i b w).p=r.p.step.put ((i:Int)+1) w:=by
 simp[cX.On,cX.p,cX.step,Ar.step,Ar.put,List.map_set,sJ.p]
theorem IN {l:List sJ} {i b:Nat} {w k:Int} {vs:Sl Int} (h:sJ.cg k vs∈l.set i (.cell b w)):sJ.cg k vs∈l:=by
 rcases List.mem_or_eq_of_mem_set h with h|h;exact h
 cases h
theorem aR.pX {ba:Nat} {r:cX} {Ms:aO} (hk:∀k vs,.cg k vs∈r.rows->1<=k) (hl:(r.rows.length:Int)<=r.room) (hroom:r.room<=60000) (hO:bR 222 2 (r.rows.map jk) r.a r.c Ms):aR ba r.step (m0 ba r.step++(Ms++fH r.rows)):=
 ⟨hk,⟨hl,hroom⟩,Ms,hO,rfl⟩
theorem aR.Ft {ba:Nat} {r:cX} {Ms:aO} {i b:Nat} {x:Int} (w:Int) (hx:r.rows[i]? =some (.cell b x)) (hk:∀k vs,.cg k vs∈r.rows->1<=k) (hl:(r.rows.length:Int)<=r.room) (hroom:r.room<=60000) (hO:bR 222 2 (r.rows.map jk) r.a r.c Ms):
  aR ba {r with rows:=r.rows.set i (.cell b w)} (m0 ba r++(Ms++fH (r.rows.set i (.cell b w)))):=
 ⟨fun k vs hm=>hk k vs (IN hm),⟨by simpa using hl,hroom⟩,Ms,by show bR 222 2 ((r.rows.set i (.cell b w)).map jk) r.a r.c Ms;rw[Dj hx];exact hO,by simp[m0]⟩
section
variable {A:Ar}
include A
theorem BR {id:Int} (hc:A.aB id=false):A.load id=(0,A):=by simp[Ar.load,hc]
theorem zb {id x:Int} (hc:A.aB id=true) (hx:A.holds id=x):A.load id=(x,A.step):=by simp[Ar.load,hc,hx]
theorem v7 {id bZ now:Int} (hc:A.aB id=false):A.swap id bZ now=(false,A):=by simp[Ar.swap,hc]
theorem BS {id x bZ now:Int} (hc:A.aB id=true) (hx:A.holds id=x) (h:x≠bZ):A.swap id bZ now=(false,A.step):=by simp[Ar.swap,hc,hx,h]
theorem zd {id x bZ now:Int} (hc:A.aB id=true) (hx:A.holds id=x) (h:¬x≠bZ):A.swap id bZ now=(true,A.step.put id now):=by
 have h:x=bZ:=Decidable.not_not.1 h;simp[Ar.swap,hc,hx,h]
theorem v8 {id u:Int} (hc:A.aB id=false):A.once id u=(false,A):=by simp[Ar.once,hc]
theorem sR {id x u:Int} (hc:A.aB id=true) (hx:A.holds id=x) (h:x≠0\/u=0):A.once id u=(false,A.step):=by
 have:¬(x=0/\u≠0):=by omega
 simp only[Ar.once,hc,hx,if_true,if_neg this]
theorem ze {id x u:Int} (hc:A.aB id=true) (hx:A.holds id=x) (h:¬x≠0) (h2:¬u=0):A.once id u=(true,A.step.put id u):=by
 have:x=0/\u≠0:=by omega
 simp only[Ar.once,hc,hx,if_true,if_pos this]
theorem ly {s:Slot} (h:A.room-(A.sl.length:Int)=0):A.add s=(0,2,A):=by simp[Ar.add,h]
theorem qX {s:Slot} (h:¬A.room-(A.sl.length:Int)=0):A.add s=((A.sl.length:Int)+1,0,{A with sl:=A.sl++[s]}):=by simp[Ar.add,h]
theorem pY {k:Int} {vs:List Int} (h:k<1\/12<vs.length):A.make k vs=(0,1,A):=by simp[Ar.make,h]
theorem ud {k:Int} {vs:List Int} (h:¬k<1) (h2:¬12<vs.length):A.make k vs=A.add (.cg k vs):=by
 unfold Ar.make;rw[if_neg (by omega)]
end
theorem nf (r:cX):r.p.room-(r.p.sl.length:Int)=r.room-(r.rows.length:Int):=by simp[cX.p]
def cX.more (r:cX) (x:sJ) (a:Option Addr) (c:Nat):cX:={r with rows:=r.rows++[x],a:=a,c:=c}
theorem Fu (r:cX) (x:sJ) (a:Option Addr) (c:Nat):(r.more x a c).p={r.p with sl:=r.p.sl++[x.p]}:=by simp[cX.more,cX.p]
theorem zf (ba:Nat) (r:cX) (x:sJ) (a:Option Addr) (c:Nat):([(ba,.cells #[.int .i64 r.room,.slice a (r.rows.length+1) c,.int .i64 r.steps] 187 (0,0))]:aO)=m0 ba (r.more x a c):=by simp[m0,cX.more]
theorem aR.grown {ba:Nat} {r:cX} {Ms:aO} {x:sJ} {a:Option Addr} {c:Nat} (hx:∀k vs,x= .cg k vs->1<=k) (hk:∀k vs,.cg k vs∈r.rows->1<=k) (hl:(r.rows.length:Int)<=r.room) (hroom:r.room<=60000) (h0:¬r.room-(r.rows.length:Int)=0)
  (hO:bR 222 2 (r.rows.map jk++[jk x]) a c Ms):aR ba (r.more x a c) (m0 ba (r.more x a c)++(Ms++fH (r.rows++[x]))):=
 ⟨fun k vs hm=>by
  rcases List.mem_append.1 hm with hm|hm;exact hk k vs hm;exact hx k vs (List.mem_singleton.1 hm).symm,⟨by simp[cX.more];omega,hroom⟩,Ms,by show bR 222 2 ((r.rows++[x]).map jk) a c Ms;rw[Fe];exact hO,rfl⟩
def IP (ba:Nat) (r:cX) (M:aO) (id:Int) (v:Value) (Γ:List ag) (M':E.Loc):Prop:=
 Γ=[]/\((r.p.aB id=false/\v= .pointer none/\M'=[M])\/∃(i b:Nat) (x:Int) (N:aO),id=(i:Int)+1/\r.rows[i]? =some (.cell b x)/\v= .pointer (some ⟨b,0,none⟩)/\M'=[N]/\aR ba r.step N)
def gL (ba:Nat) (A:Ar) (val:Value) (v:Value) (Γ:List ag) (M':E.Loc):Prop:=
 v=val/\∃(r':cX) (N:aO),Γ=[ak r'.rows]/\M'=[N]/\aR ba r' N/\r'.p=A
end Go.Proofs.YtcnohdmimheoaaaGreat
namespace Go.Proofs.YtcnohdmimheoaaaGreat
open E Go Go.Proofs.Tryz
instance W4 {ba:Nat} {A:Ar} {val:Value}:El_ (gL ba A val) (fun K=>∀r N,aR ba r N->r.p=A->K val [ak r.rows] [N]):=⟨fun K k v Γ M h=>by
 obtain⟨rfl,r,N,rfl,rfl,h1,h2⟩:=h;exact k r N h1 h2⟩
end Go.Proofs.YtcnohdmimheoaaaGreat
namespace Go.Proofs.YtcnohdmimheoaaaGreat
open E Go.Proofs.Tryz
theorem t222:dg prog 222=some (false,2,32,.agg #[.int .i64 0,.slice none 0 0]):=by kernel_rfl
section
variable (ba:Nat) (r:cX) (M:aO) (hA:aR ba r M)
include ba r M hA
theorem Fv (id:Int):aN prog 181 [.pointer (some ⟨ba,0,none⟩),.int .i64 id] [] [M] (fun v Γ M'=>v= .bool (r.p.has id)/\Γ=[]/\M'=[M]):=by
 refine cb fun X H₀ L₀=>?_;obtain⟨hk,⟨hl,hroom⟩,Ms,hO,rfl⟩:=hA;refine At.ky ?_;refine sp 11 (fun h1=>?_) (fun h1=>?_);refine mc ?_;refine At.front 2 rfl ?_;refine At.front 2 rfl ?_;refine At.front 2 rfl ?_;refine At.fP ?_;refine re ?_;exact rs ⟨congrArg Value.bool (by simp[Ar.has,cX.r8,h1]),rfl,rfl⟩;refine mc ?_;refine At.front 2 rfl ?_;refine At.front 2 rfl ?_;refine At.front 2 rfl ?_;refine At.fP ?_;refine re ?_;exact rs ⟨congrArg Value.bool (by simp[Ar.has,cX.r8,h1]),rfl,rfl⟩
theorem ik (id:Int):aN prog 130 [.pointer (some ⟨ba,0,none⟩),.int .i64 id] [] [M] (fun v Γ M'=>v= .int .i64 (r.p.kind id)/\Γ=[]/\M'=[M]):=by
 refine cb fun X H₀ L₀=>?_;refine ca (Fv ba r _ hA id) ?_;refine cv (fun hh=>?_) (fun hh=>?_);refine re ?_;exact rs ⟨congrArg (Value.int .i64) ((xc (bM hh)).symm),rfl,rfl⟩;obtain⟨i,x,rfl,hx,hs⟩:=lx (bV hh);have hil:=ae hx;obtain⟨hk,⟨hl,hroom⟩,Ms,hO,rfl⟩:=hA;refine At.ky ?_;refine mc ?_;refine qt (cA underlying185 t222 rfl hO (by simp) rfl (show _=((i:Nat):Int)from by omega) (by omega)) ?_;rcases x with⟨k,vs⟩| ⟨b,v⟩;refine mc ?_;refine ld (Rd.own hO (i:=1) rfl (aI hx) rfl) ?_;refine mc ?_;refine At.front 2 rfl ?_;refine At.front 2 rfl ?_;refine At.front 2 rfl ?_;refine At.fP ?_;refine re ?_;exact rs ⟨congrArg (Value.int .i64) (by rw[Ar.kind,hs];rfl),rfl,rfl⟩;refine mc ?_;refine ld (Rd.own hO (i:=1) rfl (aI hx) rfl) ?_;refine mc ?_;refine At.front 2 rfl ?_;refine At.front 2 rfl ?_;refine At.front 2 rfl ?_;refine At.fP ?_;refine re ?_;exact rs ⟨congrArg (Value.int .i64) (by rw[Ar.kind,hs];rfl),rfl,rfl⟩
theorem c6 (id j:Int):aN prog 178 [.pointer (some ⟨ba,0,none⟩),.int .i64 id,.int .i64 j] [ak r.rows] [M] (fun v Γ M'=>v= .int .i64 (r.p.val id j)/\Γ=[]/\M'=[M]):=by
 refine cb fun X H₀ L₀=>?_;refine ca (ik ba r _ hA id) ?_;refine sp 11 (fun h0=>?_) (fun h0=>?_);refine re ?_;exact rs ⟨congrArg (Value.int .i64) ((Di hA.1 h0).symm),rfl,rfl⟩;have hkz:r.p.kind id≠0:=by omega
 obtain⟨i,k,vs,rfl,hx,hs,hk0⟩:=Fq hkz;have hil:=ae hx;refine At.aJ (cw vs) (fun _ h=>Fb h.2.1 hx) ?_;refine At.lenOf (hs:=(.head _)) fun hvl=>?_;rw[List.length_map]at hvl;refine sp 15 (fun h1=>?_) (fun h1=>?_);refine re ?_;exact rs ⟨congrArg (Value.int .i64) (show(0:Int)=r.p.val _ _ from by rw[Ar.val,hs];simp only[sJ.p];rw[if_neg (by omega)]),rfl,rfl⟩;obtain⟨hk,⟨hl,hroom⟩,Ms,hO,rfl⟩:=hA;refine At.ky ?_;refine mc ?_;refine qt (cA underlying185 t222 rfl hO (by simp) rfl (show _=((i:Nat):Int)from by omega) (by omega)) ?_;refine mc ?_;refine ld (Rd.own hO (i:=1) rfl (aI hx) rfl) ?_;refine fi (fun h2=>?_) (fun h2=>?_);refine mc ?_;refine At.front 2 rfl ?_;refine At.front 2 rfl ?_;refine At.front 2 rfl ?_;refine At.fP ?_;refine re ?_;exact rs ⟨congrArg (Value.int .i64) (show(0:Int)=r.p.val _ _ from by rw[Ar.val,hs];simp only[sJ.p];rw[if_neg (by omega)]),rfl,rfl⟩;refine mc ?_;refine qt (cA underlying185 t222 rfl hO (by simp) rfl (show _=((i:Nat):Int)from by omega) (by omega)) ?_;obtain⟨m,rfl⟩:=Int.eq_ofNat_of_zero_le (show 0<=j by omega);obtain⟨z,hz⟩:=aD (l:=vs.l) (i:=m) (by omega);refine mc ?_;refine ld (Rd.own hO (i:=1) rfl (aI hx) rfl) ?_;refine mc ?_;refine qt (bD underlying26 t3 rfl (.head _) (by simp) rfl rfl (ae hz)) ?_;refine ld (Rd.kK (.head _) (aI hz) rfl) ?_;refine mc ?_;refine At.front 2 rfl ?_;refine At.front 2 rfl ?_;refine At.front 2 rfl ?_;refine At.fP ?_;refine re ?_;exact rs ⟨congrArg (Value.int .i64) (by rw[Ar.val,hs];simp only[sJ.p];rw[if_pos (by omega)];simp[hz]),rfl,rfl⟩
end
section
variable (ba:Nat) (r:cX) (M:aO) (hA:aR ba r M)
include ba r M hA
theorem xh (id:Int):aN prog 180 [.pointer (some ⟨ba,0,none⟩),.int .i64 id] [] [M] (IP ba r M id):=by
 refine cb fun X H₀ L₀=>?_;refine ca (Fv ba r _ hA id) ?_;refine mc ?_;refine At.split (d:=9) rfl (fun hh=>?_) (fun hh=>?_);refine re ?_;exact rs ⟨rfl,.inl ⟨De (bM hh),rfl,rfl⟩⟩;refine ca (ik ba r _ hA id) ?_;refine fi (fun h0=>?_) (fun h0=>?_);refine re ?_;exact rs ⟨rfl,.inl ⟨za h0,rfl,rfl⟩⟩;obtain⟨i,b,x,rfl,hx⟩:=xg hA.1 (bV hh) (by omega);have hil:=ae hx;obtain⟨hk,⟨hl,hroom⟩,Ms,hO,rfl⟩:=hA;refine At.ky ?_;refine mc ?_;refine qt (dY rfl rfl) ?_;refine mc ?_;refine qt (cA underlying185 t222 rfl hO (by simp) rfl (show _=((i:Nat):Int)from by omega) (by omega)) ?_;refine mc ?_;refine ld (Rd.own hO (i:=1) rfl (aI hx) rfl) ?_;refine qt (oU underlying26 t3 rfl rfl (i:=0) rfl (by decide)) ?_;refine mc ?_;refine At.front 2 rfl ?_;refine At.front 2 rfl ?_;refine At.front 2 rfl ?_;refine At.fP ?_;refine re ?_;exact rs ⟨rfl,.inr ⟨i,b,x,_,rfl,hx,rfl,rfl,aR.pX hk hl hroom hO⟩⟩
theorem kE (id:Int):aN prog 129 [.pointer (some ⟨ba,0,none⟩),.int .i64 id] [ak r.rows] [M] (gL ba ((r.p.load id).2) (.int .i64 (r.p.load id).1)):=by
 refine cb fun X H₀ L₀=>?_;refine ca (xh ba r _ hA id) ?_;rintro v _ _ ⟨rfl,hce⟩;rcases hce with⟨hc,rfl,rfl⟩| ⟨i,b,x,N,rfl,hx,rfl,rfl,hA2⟩;refine mc ?_;refine qt (wV underlying219 rfl rfl) ?_;refine re ?_;exact rs ⟨by rw[BR hc];rfl,r,_,rfl,rfl,hA,by rw[BR hc]⟩;obtain⟨hc,hx0⟩:=xf hx;refine At.aJ (ak r.step.rows) (fun _ h=>h.2.1) ?_;obtain⟨hk,⟨hl,hroom⟩,Ms,hO,rfl⟩:=hA2;obtain⟨S,T,hST,hSTw⟩:=m8 hx;refine At.ky ?_;refine At.front 2 rfl ?_;refine At.piece hST ?_;refine At.ky ?_;refine mc ?_;refine At.front 2 rfl ?_;refine At.front 2 rfl ?_;refine At.front 2 rfl ?_;refine At.fP ?_;refine At.piece hST.symm ?_;refine At.front 0 rfl ?_;refine At.front 2 rfl ?_;refine At.front 2 rfl ?_;refine At.fP ?_;refine re ?_;exact rs ⟨by rw[zb hc hx0];rfl,r.step,_,rfl,rfl,aR.pX hk hl hroom hO,by rw[zb hc hx0];rfl⟩
theorem IQ (id bZ now:Int):aN prog 210 [.pointer (some ⟨ba,0,none⟩),.int .i64 id,.int .i64 bZ,.int .i64 now] [ak r.rows] [M] (gL ba ((r.p.swap id bZ now).2) (.bool (r.p.swap id bZ now).1)):=by
 refine cb fun X H₀ L₀=>?_;refine ca (xh ba r _ hA id) ?_;rintro v _ _ ⟨rfl,hce⟩;rcases hce with⟨hc,rfl,rfl⟩| ⟨i,b,x,N,rfl,hx,rfl,rfl,hA2⟩;refine mc ?_;refine qt (wV underlying219 rfl rfl) ?_;refine re ?_;exact rs ⟨by rw[v7 hc];rfl,r,_,rfl,rfl,hA,by rw[v7 hc]⟩;obtain⟨hc,hx0⟩:=xf hx;obtain⟨hk,⟨hl,hroom⟩,Ms,hO,rfl⟩:=hA2;obtain⟨S,T,hST,hSTw⟩:=m8 hx;refine At.ky ?_;refine At.front 2 rfl ?_;refine At.piece hST ?_;refine At.ky ?_;refine fi (fun h1=>?_) (fun h1=>?_);refine At.aJ (ak r.step.rows) (fun _ h=>h.2.1) ?_;refine mc ?_;refine At.front 2 rfl ?_;refine At.front 2 rfl ?_;refine At.front 2 rfl ?_;refine At.fP ?_;refine At.piece hST.symm ?_;refine At.front 0 rfl ?_;refine At.front 2 rfl ?_;refine At.front 2 rfl ?_;refine At.fP ?_;refine re ?_;exact rs ⟨by rw[BS hc hx0 h1];rfl,r.step,_,rfl,rfl,aR.pX hk hl hroom hO,by rw[BS hc hx0 h1];rfl⟩;refine At.aJ (ak (r.rows.set i (.cell b now))) (fun _ h=>yU h.2.1) ?_;refine mc ?_;refine At.front 2 rfl ?_;refine At.front 2 rfl ?_;refine At.front 2 rfl ?_;refine At.fP ?_;refine At.piece ((show _=S++([vX b now]++T)from rfl).trans (hSTw now).symm) ?_;refine At.front 0 rfl ?_;refine At.front 2 rfl ?_;refine At.front 2 rfl ?_;refine At.fP ?_;refine re ?_;exact rs ⟨by rw[zd hc hx0 h1];rfl,{r.step with rows:=r.rows.set i (.cell b now)},_,rfl,rfl,aR.Ft (r:=r.step) now hx hk hl hroom hO,by rw[zd hc hx0 h1];exact Fs r i b now⟩
theorem BT (id u:Int):aN prog 149 [.pointer (some ⟨ba,0,none⟩),.int .i64 id,.int .i64 u] [ak r.rows] [M] (gL ba ((r.p.once id u).2) (.bool (r.p.once id u).1)):=by
 refine cb fun X H₀ L₀=>?_;refine ca (xh ba r _ hA id) ?_;rintro v _ _ ⟨rfl,hce⟩;rcases hce with⟨hc,rfl,rfl⟩| ⟨i,b,x,N,rfl,hx,rfl,rfl,hA2⟩;refine mc ?_;refine qt (wV underlying219 rfl rfl) ?_;refine re ?_;exact rs ⟨by rw[v8 hc];rfl,r,_,rfl,rfl,hA,by rw[v8 hc]⟩;obtain⟨hc,hx0⟩:=xf hx;obtain⟨hk,⟨hl,hroom⟩,Ms,hO,rfl⟩:=hA2;obtain⟨S,T,hST,hSTw⟩:=m8 hx;refine At.ky ?_;refine At.front 2 rfl ?_;refine At.piece hST ?_;refine At.ky ?_;refine sp 19 (fun h1=>?_) (fun h1=>?_);refine At.aJ (ak r.step.rows) (fun _ h=>h.2.1) ?_;refine mc ?_;refine At.front 2 rfl ?_;refine At.front 2 rfl ?_;refine At.front 2 rfl ?_;refine At.fP ?_;refine At.piece hST.symm ?_;refine At.front 0 rfl ?_;refine At.front 2 rfl ?_;refine At.front 2 rfl ?_;refine At.fP ?_;refine re ?_;exact rs ⟨by rw[sR hc hx0 (.inl h1)];rfl,r.step,_,rfl,rfl,aR.pX hk hl hroom hO,by rw[sR hc hx0 (.inl h1)];rfl⟩;refine fi (fun h2=>?_) (fun h2=>?_);refine At.aJ (ak r.step.rows) (fun _ h=>h.2.1) ?_;refine mc ?_;refine At.front 2 rfl ?_;refine At.front 2 rfl ?_;refine At.front 2 rfl ?_;refine At.fP ?_;refine At.piece hST.symm ?_;refine At.front 0 rfl ?_;refine At.front 2 rfl ?_;refine At.front 2 rfl ?_;refine At.fP ?_;refine re ?_;exact rs ⟨by rw[sR hc hx0 (.inr h2)];rfl,r.step,_,rfl,rfl,aR.pX hk hl hroom hO,by rw[sR hc hx0 (.inr h2)];rfl⟩;refine At.aJ (ak (r.rows.set i (.cell b u))) (fun _ h=>yU h.2.1) ?_;refine mc ?_;refine At.front 2 rfl ?_;refine At.front 2 rfl ?_;refine At.front 2 rfl ?_;refine At.fP ?_;refine At.piece ((show _=S++([vX b u]++T)from rfl).trans (hSTw u).symm) ?_;refine At.front 0 rfl ?_;refine At.front 2 rfl ?_;refine At.front 2 rfl ?_;refine At.fP ?_;refine re ?_;exact rs ⟨by rw[ze hc hx0 h1 h2];rfl,{r.step with rows:=r.rows.set i (.cell b u)},_,rfl,rfl,aR.Ft (r:=r.step) u hx hk hl hroom hO,by rw[ze hc hx0 h1 h2];exact Fs r i b u⟩
end
section
variable (ba:Nat) (r:cX) (M:aO) (hA:aR ba r M)
include ba r M hA
theorem BU:aN prog 230 [.pointer (some ⟨ba,0,none⟩)] [] [M] (fun v Γ M'=>v= .int .i64 (r.room-(r.rows.length:Int))/\Γ=[]/\M'=[M]):=by
 refine cb fun X H₀ L₀=>?_;obtain⟨hk,⟨hl,hroom⟩,Ms,hO,rfl⟩:=hA;refine At.ky ?_;refine dw 9 [] r_ ?_;refine mc ?_;refine At.front 2 rfl ?_;refine At.front 2 rfl ?_;refine At.front 2 rfl ?_;refine At.fP ?_;refine re ?_;exact rs ⟨rfl,rfl,rfl⟩
theorem IS:aN prog 108 [.pointer (some ⟨ba,0,none⟩)] [] [M] (fun v Γ M'=>v= .int .i64 (r.p.sl.length:Int)/\Γ=[]/\M'=[M]):=by
 refine cb fun X H₀ L₀=>?_;obtain⟨hk,⟨hl,hroom⟩,Ms,hO,rfl⟩:=hA;refine At.ky ?_;refine mc ?_;refine At.front 2 rfl ?_;refine At.front 2 rfl ?_;refine At.front 2 rfl ?_;refine At.fP ?_;refine re ?_;exact rs ⟨congrArg (Value.int .i64) (by rw[cX.r8]),rfl,rfl⟩
theorem IT (k:Int) (vs:Sl Int) (hk1:1<=k):aN prog 196 [.pointer (some ⟨ba,0,none⟩),.agg #[.int .i64 k,vs.val]] [ak r.rows,cw vs] [M] (gL ba ((r.p.add (.cg k vs.l)).2.2) (.tuple #[.int .i64 (r.p.add (.cg k vs.l)).1,.int .i64 (r.p.add (.cg k vs.l)).2.1])):=by
 refine cb fun X H₀ L₀=>?_;refine bx fun b1=>?_;refine ca (BU ba r _ hA) ?_;refine fi (fun h0=>?_) (fun h0=>?_);refine re ?_;exact rs ⟨by rw[ly (by rw[nf];exact h0)];rfl,r,_,rfl,rfl,hA,by rw[ly (by rw[nf];exact h0)]⟩;obtain⟨hk,⟨hl,hroom⟩,Ms,hO,rfl⟩:=hA;refine At.ky ?_;refine dw 8 [6,7] (k_ (d_ (k_ r_))) ?_;refine mO fun b2=>?_;refine yI rfl (dk rfl underlying185 t222 rfl rfl hO (by simp) (i:=2) rfl rfl (news:=[jk (.cg k vs)]) (by simp[jk]) (fc.loc (i:=0) rfl (m:=2) rfl) rfl rfl rfl (by omega) (by unfold maxLen;omega)) ?_;rintro _ _ _ ⟨a2,c2,M2,rfl,ow,rfl,rfl⟩;refine mc ?_;refine At.aJ (ak (r.rows++[(.cg k vs)])) (fun _ h=>Fc h.2.2.1 h.2.2.2.1) ?_;refine mc ?_;refine At.front 1 rfl ?_;refine At.piece (zf ba r (.cg k vs) a2 c2) ?_;refine At.front 3 rfl ?_;refine At.piece (show _=fH (r.rows++[(.cg k vs)])from by simp[fH,tZ]) ?_;refine At.front 0 rfl ?_;refine At.front 3 rfl ?_;refine At.front 2 rfl ?_;refine At.fP ?_;refine re ?_;exact rs ⟨by rw[qX (by rw[nf];exact h0)];simp[cP,cX.r8],r.more (.cg k vs) a2 c2,_,rfl,rfl,aR.grown (by intro k2 v2 e;cases e;exact hk1) hk hl hroom h0 ow,by rw[qX (by rw[nf];exact h0)];exact Fu r (.cg k vs) a2 c2⟩
theorem IU (b:Nat) (u:Int):aN prog 196 [.pointer (some ⟨ba,0,none⟩),.agg #[.int .i64 0,.slice (some ⟨b,0,none⟩) 1 1]] [ak r.rows] [M,[vX b u]] (gL ba ((r.p.add (.cell u)).2.2) (.tuple #[.int .i64 (r.p.add (.cell u)).1,.int .i64 (r.p.add (.cell u)).2.1])):=by
 refine cb fun X H₀ L₀=>?_;refine bx fun b1=>?_;refine ca (BU ba r _ hA) ?_;refine fi (fun h0=>?_) (fun h0=>?_);refine re ?_;exact rs ⟨by rw[ly (by rw[nf];exact h0)];rfl,r,_,rfl,rfl,hA,by rw[ly (by rw[nf];exact h0)]⟩;obtain⟨hk,⟨hl,hroom⟩,Ms,hO,rfl⟩:=hA;refine At.ky ?_;refine dw 8 [6,7] (k_ (d_ (k_ (k_ r_)))) ?_;refine mO fun b2=>?_;refine yI rfl (dk rfl underlying185 t222 rfl rfl hO (by simp) (i:=2) rfl rfl (news:=[jk (.cell b u)]) (by simp[jk]) (fc.loc (i:=0) rfl (m:=2) rfl) rfl rfl rfl (by omega) (by unfold maxLen;omega)) ?_;rintro _ _ _ ⟨a2,c2,M2,rfl,ow,rfl,rfl⟩;refine mc ?_;refine At.aJ (ak (r.rows++[(.cell b u)])) (fun _ h=>Dd h.2.2.1) ?_;refine mc ?_;refine At.front 1 rfl ?_;refine At.piece (zf ba r (.cell b u) a2 c2) ?_;refine At.front 4 rfl ?_;refine At.front 4 rfl ?_;refine At.cH ?_;refine At.piece (show _=fH (r.rows++[(.cell b u)])from by simp[fH,tZ]) ?_;refine At.front 0 rfl ?_;refine At.front 3 rfl ?_;refine At.front 2 rfl ?_;refine At.fP ?_;refine re ?_;exact rs ⟨by rw[qX (by rw[nf];exact h0)];simp[cP,cX.r8],r.more (.cell b u) a2 c2,_,rfl,rfl,aR.grown (by intro k2 v2 e;cases e) hk hl hroom h0 ow,by rw[qX (by rw[nf];exact h0)];exact Fu r (.cell b u) a2 c2⟩
theorem cJ (k:Int) (vs:Sl Int):aN prog 148 [.pointer (some ⟨ba,0,none⟩),.int .i64 k,vs.val] [ak r.rows,cw vs] [M] (gL ba ((r.p.make k vs.l).2.2) (.tuple #[.int .i64 (r.p.make k vs.l).1,.int .i64 (r.p.make k vs.l).2.1])):=by
 refine cb fun X H₀ L₀=>?_;refine sp 14 (fun h1=>?_) (fun h1=>?_);refine re ?_;exact rs ⟨by rw[pY (.inl h1)];rfl,r,_,rfl,rfl,hA,by rw[pY (.inl h1)]⟩;refine At.lenOf (hs:=(ix 2 rfl)) fun hvl=>?_;rw[List.length_map]at hvl;refine fi (fun h2=>?_) (fun h2=>?_);refine re ?_;exact rs ⟨by rw[pY (.inr (by omega))];rfl,r,_,rfl,rfl,hA,by rw[pY (.inr (by omega))]⟩;refine ca (IL vs (by omega)) ?_;rintro _ _ _ ⟨ws,rfl,hws,rfl,rfl⟩;refine ca (IT ba r _ hA k ws (by omega)) ?_;intro r2 N2 hA2 hr2;refine re ?_;exact rs ⟨by rw[ud h1 (by omega),<-hws];rfl,r2,N2,rfl,rfl,hA2,by rw[ud h1 (by omega),<-hws];exact hr2⟩
theorem sS (u:Int):aN prog 147 [.pointer (some ⟨ba,0,none⟩),.int .i64 u] [ak r.rows] [M] (gL ba ((r.p.aH u).2.2) (.tuple #[.int .i64 (r.p.aH u).1,.int .i64 (r.p.aH u).2.1])):=by
 refine cb fun X H₀ L₀=>?_;refine al fun b1=>?_;refine ca (IU ba r _ hA _ u) ?_;intro r2 N2 hA2 hr2;refine re ?_;exact rs ⟨rfl,r2,N2,rfl,rfl,hA2,hr2⟩
end
def No.val (n:No):Value:=.agg #[.int .i64 n.p.k,.int .i64 n.p.v,.int .i64 n.left,.int .i64 n.right,.int .i64 n.size,.int .i64 n.high]
namespace Ar
section
variable {A:Ar}
include A
theorem IV {id:Int} (h:A.isNode id=false):A.node id= .zero:=by simp[node,h]
theorem Fw {id:Int} (h:A.isNode id=true):A.node id=⟨⟨A.val id 0,A.val id 1⟩,A.val id 2,A.val id 3,A.val id 4,A.val id 5⟩:=by simp[node,h]
theorem iq {id:Int} (h:A.isNode id=true):1<=id:=by
 cases hh:A.has id
 simp[isNode,xc hh]at h;simp[has]at hh;exact hh.1
theorem fR {f t:Int} (h:A.isNode t=false\/f<=t):A.aK f t=0:=by simp[aK,h]
theorem jD {f t:Int} (h:¬(A.isNode t=false\/f<=t)):A.aK f t=t:=by unfold aK;rw[if_neg h]
theorem jQ {f t:Int} (h:1<=f):(A.aK f t).toNat<f.toNat:=by
 by_cases h2:A.isNode t=false\/f<=t;rw[fR h2];omega;rw[jD h2]
 have h3:A.isNode t=true:=by
  cases h4:A.isNode t
  exact absurd (.inl h4) h2;rfl
 have:=iq h3;omega
theorem gO {t:Int} (h:A.isNode t=true):(A.look t).left.toNat<t.toNat/\(A.look t).right.toNat<t.toNat:=⟨jQ (iq h),jQ (iq h)⟩
end
theorem n9 {A:Ar} {key:Int}:∀(n m:Nat) (t:Int),t.toNat<n->t.toNat<m->A.pT key n t=A.pT key m t
 |0,_,t,h,_=>absurd h (Nat.not_lt_zero _)
 |n+1,0,t,_,h=>absurd h (Nat.not_lt_zero _)
 |n+1,m+1,t,h1,h2=>by
  unfold pT
  cases hn:A.isNode t
  rfl;obtain⟨l1,l2⟩:=gO hn;rw[if_pos rfl,if_pos rfl,n9 n m _ (by omega) (by omega),n9 n m (A.look t).right (by omega) (by omega)]
theorem get_eq {A:Ar} {key t:Int}:A.get t key=if A.isNode t then(if(A.look t).p.k=key then((A.look t).p.v,true)else if key<(A.look t).p.k then A.get (A.look t).left key else A.get (A.look t).right key)else(0,false):=by
 show A.pT key (t.toNat+1) t=_;unfold pT
 cases hn:A.isNode t
 rfl;obtain⟨l1,l2⟩:=gO hn;rw[if_pos rfl,if_pos rfl];unfold get fuel;rw[n9 t.toNat ((A.look t).left.toNat+1) _ (by omega) (by omega),n9 t.toNat ((A.look t).right.toNat+1) _ (by omega) (by omega)]
theorem v9 {A:Ar}:∀(n m:Nat) (t:Int),t.toNat<n->t.toNat<m->A.kO n t=A.kO m t
 |0,_,t,h,_=>absurd h (Nat.not_lt_zero _)
 |n+1,0,t,_,h=>absurd h (Nat.not_lt_zero _)
 |n+1,m+1,t,h1,h2=>by
  unfold kO;by_cases hn:A.isNode t/\(A.look t).left≠0;obtain⟨l1,l2⟩:=gO hn.1;rw[if_pos hn,if_pos hn,v9 n m _ (by omega) (by omega)];rw[if_neg hn,if_neg hn]
theorem wa {A:Ar}:∀(n m:Nat) (t:Int),t.toNat<n->t.toNat<m->A.lq n t=A.lq m t
 |0,_,t,h,_=>absurd h (Nat.not_lt_zero _)
 |n+1,0,t,_,h=>absurd h (Nat.not_lt_zero _)
 |n+1,m+1,t,h1,h2=>by
  unfold lq;by_cases hn:A.isNode t/\(A.look t).right≠0;obtain⟨l1,l2⟩:=gO hn.1;rw[if_pos hn,if_pos hn,wa n m _ (by omega) (by omega)];rw[if_neg hn,if_neg hn]
section
variable {A:Ar} {t:Int}
include A t
theorem Dk (h:(A.look t).left≠0):A.isNode (A.look t).left=true:=by
 unfold look aK at h⊢;simp only[]at h⊢;split at h;exact absurd rfl h;rename_i hn;rw[if_neg hn]
 cases h4:A.isNode (A.node t).left
 exact absurd (.inl h4) hn;rfl
theorem AI (h:(A.look t).right≠0):A.isNode (A.look t).right=true:=by
 unfold look aK at h⊢;simp only[]at h⊢;split at h;exact absurd rfl h;rename_i hn;rw[if_neg hn]
 cases h4:A.isNode (A.node t).right
 exact absurd (.inl h4) hn;rfl
theorem min_eq:A.kO (fuel t) t=if A.isNode t/\(A.look t).left≠0 then A.kO (fuel (A.look t).left) (A.look t).left else(A.look t).p:=by
 show A.kO (t.toNat+1) t=_;unfold kO;by_cases hn:A.isNode t/\(A.look t).left≠0;obtain⟨l1,l2⟩:=gO hn.1;rw[if_pos hn,if_pos hn];show _=A.kO ((A.look t).left.toNat+1) _;exact v9 _ _ _ (by omega) (by omega);rw[if_neg hn,if_neg hn]
theorem max_eq:A.lq (fuel t) t=if A.isNode t/\(A.look t).right≠0 then A.lq (fuel (A.look t).right) (A.look t).right else(A.look t).p:=by
 show A.lq (t.toNat+1) t=_;unfold lq;by_cases hn:A.isNode t/\(A.look t).right≠0;obtain⟨l1,l2⟩:=gO hn.1;rw[if_pos hn,if_pos hn];show _=A.lq ((A.look t).right.toNat+1) _;exact wa _ _ _ (by omega) (by omega);rw[if_neg hn,if_neg hn]
end
theorem ob {A:Ar}:∀(n m:Nat) (t i:Int),t.toNat<n->t.toNat<m->A.kP n t i=A.kP m t i
 |0,_,t,i,h,_=>absurd h (Nat.not_lt_zero _)
 |n+1,0,t,i,_,h=>absurd h (Nat.not_lt_zero _)
 |n+1,m+1,t,i,h1,h2=>by
  unfold kP
  cases hn:A.isNode t
  rfl;obtain⟨l1,l2⟩:=gO hn;rw[if_pos rfl,if_pos rfl,ob n m _ i (by omega) (by omega),ob n m (A.look t).right _ (by omega) (by omega)]
theorem xi {A:Ar} {t i:Int}:A.kP (fuel t) t i=if A.isNode t then(if i=A.sizeOf (A.look t).left then((A.look t).p,true)else if i<A.sizeOf (A.look t).left then A.kP (fuel (A.look t).left) (A.look t).left i
   else A.kP (fuel (A.look t).right) (A.look t).right (IntKind.i64.wrap (IntKind.i64.wrap (i-A.sizeOf (A.look t).left)-1)))else(⟨0,0⟩,false):=by
 show A.kP (t.toNat+1) t i=_
 conv=>lhs;unfold kP
 cases hn:A.isNode t
 rfl;obtain⟨l1,l2⟩:=gO hn;rw[if_pos rfl,if_pos rfl];unfold fuel;rw[ob t.toNat ((A.look t).left.toNat+1) _ i (by omega) (by omega),ob t.toNat ((A.look t).right.toNat+1) (A.look t).right _ (by omega) (by omega)]
end Ar
theorem qY {A:Ar} {p:Pr} {l r:Int} (h:(l≠0/\A.isNode l=false)\/(r≠0/\A.isNode r=false)):A.mkNode p l r=(0,1,A):=by unfold Ar.mkNode;rw[if_pos h]
theorem pZ {A:Ar} {p:Pr} {l r:Int} (h1:l=0\/A.isNode l=true) (h2:r=0\/A.isNode r=true):A.mkNode p l r=A.make 1 [p.k,p.v,l,r,IntKind.i64.wrap (IntKind.i64.wrap ((A.node l).size+(A.node r).size)+1),IntKind.i64.wrap (max (A.node l).high (A.node r).high+1)]:=by
 unfold Ar.mkNode;rw[if_neg];rintro(⟨a,b⟩| ⟨a,b⟩);rcases h1 with h1|h1;exact a h1;rw[h1]at b;cases b;rcases h2 with h2|h2;exact a h2;rw[h2]at b;cases b
theorem BV (key:Int):aN prog 194 [.int .i64 key] [] [] (fun v Γ M=>v= .int .u64 (prio key)/\Γ=[]/\M=[]):=by
 refine cb fun X H₀ L₀=>?_;refine mc ?_;refine qt (nV underlying3 underlying48 rfl) ?_;refine qt (dY rfl rfl) ?_;refine mc ?_;refine qt (EA rfl rfl (by decide) (by decide)) ?_;refine qt (Ez rfl rfl) ?_;refine qt (Au rfl rfl) ?_;refine mc ?_;refine qt (EA rfl rfl (by decide) (by decide)) ?_;refine qt (Ez rfl rfl) ?_;refine qt (Au rfl rfl) ?_;refine mc ?_;refine qt (EA rfl rfl (by decide) (by decide)) ?_;refine qt (Ez rfl rfl) ?_;refine re ?_;exact rs ⟨rfl,rfl,rfl⟩
theorem p6 (x y:Int):aN prog 145 [.int .i64 x,.int .i64 y] [] [] (fun v Γ M=>v= .bool (bh x y)/\Γ=[]/\M=[]):=by
 refine cb fun X H₀ L₀=>?_;refine ca (BV _) ?_;refine ca (BV _) ?_;refine fi (fun h1=>?_) (fun h1=>?_);refine re ?_;exact rs ⟨congrArg Value.bool (by rw[bh,if_pos h1]),rfl,rfl⟩;refine re ?_;exact rs ⟨congrArg Value.bool (by rw[bh,if_neg h1]),rfl,rfl⟩
section
variable (ba:Nat) (r:cX) (M:aO) (hA:aR ba r M)
include ba r M hA
theorem dD (id:Int):aN prog 195 [.pointer (some ⟨ba,0,none⟩),.int .i64 id] [ak r.rows] [M] (fun v Γ M'=>v= .tuple #[(r.p.node id).val,.bool (r.p.isNode id)]/\Γ=[]/\M'=[M]):=by
 refine cb fun X H₀ L₀=>?_;refine al fun b1=>?_;refine ca (ik ba r _ hA _) ?_;refine fi (fun h1=>?_) (fun h1=>?_);have hn:r.p.isNode id=false:=decide_eq_false (by omega);refine re ?_;exact rs ⟨by rw[hn,Ar.IV hn];rfl,rfl,rfl⟩;have hn:r.p.isNode id=true:=decide_eq_true (by omega);refine ca (c6 ba r _ hA _ _) ?_;refine ca (c6 ba r _ hA _ _) ?_;refine ca (c6 ba r _ hA _ _) ?_;refine ca (c6 ba r _ hA _ _) ?_;refine ca (c6 ba r _ hA _ _) ?_;refine ca (c6 ba r _ hA _ _) ?_;refine re ?_;exact rs ⟨by rw[hn,Ar.Fw hn];rfl,rfl,rfl⟩
theorem jq (p:Pr) (left right:Int):aN prog 146 [.pointer (some ⟨ba,0,none⟩),p.val,.int .i64 left,.int .i64 right] [ak r.rows] [M] (gL ba ((r.p.mkNode p left right).2.2) (.tuple #[.int .i64 (r.p.mkNode p left right).1,.int .i64 (r.p.mkNode p left right).2.1])):=by
 refine cb fun X H₀ L₀=>?_;refine bx fun b1=>?_;refine ca (dD ba r _ hA _) ?_;refine al fun b2=>?_;refine ca (dD ba r _ hA _) ?_;refine al fun b3=>?_;refine sp 31 (fun h1=>?_) (fun h1=>?_);refine mc ?_;refine At.split (d:=36) rfl (fun h2=>?_) (fun h2=>?_);refine re ?_;exact rs ⟨by rw[qY (.inl ⟨h1,bM h2⟩)];rfl,r,_,rfl,rfl,hA,by rw[qY (.inl ⟨h1,bM h2⟩)]⟩;refine sp 39 (fun h3=>?_) (fun h3=>?_);refine cv (fun h4=>?_) (fun h4=>?_);refine re ?_;exact rs ⟨by rw[qY (.inr ⟨h3,bM h4⟩)];rfl,r,_,rfl,rfl,hA,by rw[qY (.inr ⟨h3,bM h4⟩)]⟩;refine mc ?_;refine qt (dY rfl rfl) ?_;refine qt (dY rfl rfl) ?_;refine mc ?_;refine qt (pH rfl rfl) ?_;refine qt (dY rfl rfl) ?_;refine al fun b4=>?_;refine At.freeze 0 (φ:=cw ⟨some ⟨b4,0,none⟩,6,[p.k,p.v,left,right,IntKind.i64.wrap (IntKind.i64.wrap ((r.p.node left).size+(r.p.node right).size)+1),IntKind.i64.wrap (max (r.p.node left).high (r.p.node right).high+1)]⟩) rfl (fun _ h=>eP h rfl (by simp[aM]) rfl (show(6:Nat)<=maxLen from by decide)) ?_;refine ca (cJ ba r _ hA 1 ⟨some ⟨b4,0,none⟩,6,[p.k,p.v,left,right,IntKind.i64.wrap (IntKind.i64.wrap ((r.p.node left).size+(r.p.node right).size)+1),IntKind.i64.wrap (max (r.p.node left).high (r.p.node right).high+1)]⟩) ?_;intro r2 N2 hA2 hr2;refine re ?_;exact rs ⟨by rw[pZ (.inr (bV h2)) (.inr (bV h4))];rfl,r2,N2,rfl,rfl,hA2,by rw[pZ (.inr (bV h2)) (.inr (bV h4))];exact hr2⟩;refine mc ?_;refine qt (dY rfl rfl) ?_;refine qt (dY rfl rfl) ?_;refine mc ?_;refine qt (pH rfl rfl) ?_;refine qt (dY rfl rfl) ?_;refine al fun b5=>?_;refine At.freeze 0 (φ:=cw ⟨some ⟨b5,0,none⟩,6,[p.k,p.v,left,right,IntKind.i64.wrap (IntKind.i64.wrap ((r.p.node left).size+(r.p.node right).size)+1),IntKind.i64.wrap (max (r.p.node left).high (r.p.node right).high+1)]⟩) rfl (fun _ h=>eP h rfl (by simp[aM]) rfl (show(6:Nat)<=maxLen from by decide)) ?_;refine ca (cJ ba r _ hA 1 ⟨some ⟨b5,0,none⟩,6,[p.k,p.v,left,right,IntKind.i64.wrap (IntKind.i64.wrap ((r.p.node left).size+(r.p.node right).size)+1),IntKind.i64.wrap (max (r.p.node left).high (r.p.node right).high+1)]⟩) ?_;intro r2 N2 hA2 hr2;refine re ?_;exact rs ⟨by rw[pZ (.inr (bV h2)) (.inl (by omega))];rfl,r2,N2,rfl,rfl,hA2,by rw[pZ (.inr (bV h2)) (.inl (by omega))];exact hr2⟩;refine sp 39 (fun h3=>?_) (fun h3=>?_);refine cv (fun h4=>?_) (fun h4=>?_);refine re ?_;exact rs ⟨by rw[qY (.inr ⟨h3,bM h4⟩)];rfl,r,_,rfl,rfl,hA,by rw[qY (.inr ⟨h3,bM h4⟩)]⟩;refine mc ?_;refine qt (dY rfl rfl) ?_;refine qt (dY rfl rfl) ?_;refine mc ?_;refine qt (pH rfl rfl) ?_;refine qt (dY rfl rfl) ?_;refine al fun b6=>?_;refine At.freeze 0 (φ:=cw ⟨some ⟨b6,0,none⟩,6,[p.k,p.v,left,right,IntKind.i64.wrap (IntKind.i64.wrap ((r.p.node left).size+(r.p.node right).size)+1),IntKind.i64.wrap (max (r.p.node left).high (r.p.node right).high+1)]⟩) rfl (fun _ h=>eP h rfl (by simp[aM]) rfl (show(6:Nat)<=maxLen from by decide)) ?_
 refine ca (cJ ba r _ hA 1 ⟨some ⟨b6,0,none⟩,6,[p.k,p.v,left,right,IntKind.i64.wrap (IntKind.i64.wrap ((r.p.node left).size+(r.p.node right).size)+1),IntKind.i64.wrap (max (r.p.node left).high (r.p.node right).high+1)]⟩) ?_;intro r2 N2 hA2 hr2;refine re ?_;exact rs ⟨by rw[pZ (.inl (by omega)) (.inr (bV h4))];rfl,r2,N2,rfl,rfl,hA2,by rw[pZ (.inl (by omega)) (.inr (bV h4))];exact hr2⟩;refine mc ?_;refine qt (dY rfl rfl) ?_;refine qt (dY rfl rfl) ?_;refine mc ?_;refine qt (pH rfl rfl) ?_;refine qt (dY rfl rfl) ?_;refine al fun b7=>?_;refine At.freeze 0 (φ:=cw ⟨some ⟨b7,0,none⟩,6,[p.k,p.v,left,right,IntKind.i64.wrap (IntKind.i64.wrap ((r.p.node left).size+(r.p.node right).size)+1),IntKind.i64.wrap (max (r.p.node left).high (r.p.node right).high+1)]⟩) rfl (fun _ h=>eP h rfl (by simp[aM]) rfl (show(6:Nat)<=maxLen from by decide)) ?_;refine ca (cJ ba r _ hA 1 ⟨some ⟨b7,0,none⟩,6,[p.k,p.v,left,right,IntKind.i64.wrap (IntKind.i64.wrap ((r.p.node left).size+(r.p.node right).size)+1),IntKind.i64.wrap (max (r.p.node left).high (r.p.node right).high+1)]⟩) ?_;intro r2 N2 hA2 hr2;refine re ?_;exact rs ⟨by rw[pZ (.inl (by omega)) (.inl (by omega))];rfl,r2,N2,rfl,rfl,hA2,by rw[pZ (.inl (by omega)) (.inl (by omega))];exact hr2⟩
end
theorem ue (n:No) (key:Int):aN prog 216 [n.val,.int .i64 key] [] [] (fun v Γ M=>v= .bool (decide (n.p.k=key))/\Γ=[]/\M=[]):=by
 refine cb fun X H₀ L₀=>?_;refine bx fun b1=>?_;refine re ?_;exact rs ⟨rfl,rfl,rfl⟩
section
variable (ba:Nat) (r:cX) (M:aO) (hA:aR ba r M)
include ba r M hA
theorem zg (id j:Int):aN prog 253 [.pointer (some ⟨ba,0,none⟩),.int .i64 id,.int .i64 j] [ak r.rows] [M] (fun v Γ M'=>v= .int .i64 (r.p.aK id j)/\Γ=[]/\M'=[M]):=by
 refine cb fun X H₀ L₀=>?_;refine ca (dD ba r _ hA _) ?_;refine al fun b1=>?_;refine mc ?_;refine At.split (d:=17) rfl (fun h1=>?_) (fun h1=>?_);refine re ?_;exact rs ⟨congrArg (Value.int .i64) ((Ar.fR (.inl (bM h1))).symm),rfl,rfl⟩;refine fi (fun h2=>?_) (fun h2=>?_);refine re ?_;exact rs ⟨congrArg (Value.int .i64) ((Ar.fR (.inr (by omega))).symm),rfl,rfl⟩;refine re ?_;exact rs ⟨congrArg (Value.int .i64) ((Ar.jD (fun h=>h.elim (fun h=>by rw[bV h1]at h;cases h) (fun h=>by omega))).symm),rfl,rfl⟩
theorem p7 (id j:Int):aN prog 264 [.pointer (some ⟨ba,0,none⟩),.int .i64 id,.int .i64 j] [ak r.rows] [M] (fun v Γ M'=>v= .int .i64 (r.p.aK id j)/\Γ=[]/\M'=[M]):=by
 refine cb fun X H₀ L₀=>?_;refine ca (dD ba r _ hA _) ?_;refine al fun b1=>?_;refine mc ?_;refine At.split (d:=17) rfl (fun h1=>?_) (fun h1=>?_);refine re ?_;exact rs ⟨congrArg (Value.int .i64) ((Ar.fR (.inl (bM h1))).symm),rfl,rfl⟩;refine fi (fun h2=>?_) (fun h2=>?_);refine re ?_;exact rs ⟨congrArg (Value.int .i64) ((Ar.fR (.inr (by omega))).symm),rfl,rfl⟩;refine re ?_;exact rs ⟨congrArg (Value.int .i64) ((Ar.jD (fun h=>h.elim (fun h=>by rw[bV h1]at h;cases h) (fun h=>by omega))).symm),rfl,rfl⟩
theorem lz (id j:Int):aN prog 266 [.pointer (some ⟨ba,0,none⟩),.int .i64 id,.int .i64 j] [ak r.rows] [M] (fun v Γ M'=>v= .int .i64 (r.p.aK id j)/\Γ=[]/\M'=[M]):=by
 refine cb fun X H₀ L₀=>?_;refine ca (dD ba r _ hA _) ?_;refine al fun b1=>?_;refine mc ?_;refine At.split (d:=17) rfl (fun h1=>?_) (fun h1=>?_);refine re ?_;exact rs ⟨congrArg (Value.int .i64) ((Ar.fR (.inl (bM h1))).symm),rfl,rfl⟩;refine fi (fun h2=>?_) (fun h2=>?_);refine re ?_;exact rs ⟨congrArg (Value.int .i64) ((Ar.fR (.inr (by omega))).symm),rfl,rfl⟩;refine re ?_;exact rs ⟨congrArg (Value.int .i64) ((Ar.jD (fun h=>h.elim (fun h=>by rw[bV h1]at h;cases h) (fun h=>by omega))).symm),rfl,rfl⟩
theorem zi (id j:Int):aN prog 284 [.pointer (some ⟨ba,0,none⟩),.int .i64 id,.int .i64 j] [ak r.rows] [M] (fun v Γ M'=>v= .int .i64 (r.p.aK id j)/\Γ=[]/\M'=[M]):=by
 refine cb fun X H₀ L₀=>?_;refine ca (dD ba r _ hA _) ?_;refine al fun b1=>?_;refine mc ?_;refine At.split (d:=17) rfl (fun h1=>?_) (fun h1=>?_);refine re ?_;exact rs ⟨congrArg (Value.int .i64) ((Ar.fR (.inl (bM h1))).symm),rfl,rfl⟩;refine fi (fun h2=>?_) (fun h2=>?_);refine re ?_;exact rs ⟨congrArg (Value.int .i64) ((Ar.fR (.inr (by omega))).symm),rfl,rfl⟩;refine re ?_;exact rs ⟨congrArg (Value.int .i64) ((Ar.jD (fun h=>h.elim (fun h=>by rw[bV h1]at h;cases h) (fun h=>by omega))).symm),rfl,rfl⟩
theorem p8 (id j:Int):aN prog 297 [.pointer (some ⟨ba,0,none⟩),.int .i64 id,.int .i64 j] [ak r.rows] [M] (fun v Γ M'=>v= .int .i64 (r.p.aK id j)/\Γ=[]/\M'=[M]):=by
 refine cb fun X H₀ L₀=>?_;refine ca (dD ba r _ hA _) ?_;refine al fun b1=>?_;refine mc ?_;refine At.split (d:=17) rfl (fun h1=>?_) (fun h1=>?_);refine re ?_;exact rs ⟨congrArg (Value.int .i64) ((Ar.fR (.inl (bM h1))).symm),rfl,rfl⟩;refine fi (fun h2=>?_) (fun h2=>?_);refine re ?_;exact rs ⟨congrArg (Value.int .i64) ((Ar.fR (.inr (by omega))).symm),rfl,rfl⟩;refine re ?_;exact rs ⟨congrArg (Value.int .i64) ((Ar.jD (fun h=>h.elim (fun h=>by rw[bV h1]at h;cases h) (fun h=>by omega))).symm),rfl,rfl⟩
theorem od (id:Int):aN prog 215 [.pointer (some ⟨ba,0,none⟩),.int .i64 id] [ak r.rows] [M] (fun v Γ M'=>v= .tuple #[(r.p.look id).val,.bool (r.p.isNode id)]/\Γ=[]/\M'=[M]):=by
 refine cb fun X H₀ L₀=>?_;refine al fun b1=>?_;refine ca (dD ba r _ hA _) ?_;refine al fun b2=>?_;refine dv 11 [0,1,2,3,5,6,7,8,104,10,109] (k_ (d_ (k_ r_))) ?_;refine gf (zg ba r _ hA _ _) ?_;refine oA (zg ba r _ hA _ _) ?_;refine re ?_;exact rs ⟨rfl,rfl,rfl⟩
end
namespace Ar
abbrev Q3:=Int×Int×Int×Ar
abbrev Q2:=Int×Int×Ar
def BK (q:Q3) (p:Pr) (l:Int):Q3:=if q.2.2.1=0 then((q.2.2.2.mkNode p l q.1).1,q.2.1,(q.2.2.2.mkNode p l q.1).2.1,(q.2.2.2.mkNode p l q.1).2.2)else q
def Fy (q:Q3) (p:Pr) (r:Int):Q3:=if q.2.2.1=0 then(q.1,(q.2.2.2.mkNode p q.2.1 r).1,(q.2.2.2.mkNode p q.2.1 r).2.1,(q.2.2.2.mkNode p q.2.1 r).2.2)else q
section
variable {A:Ar} {key t:Int} {n:Nat}
include A key t n
theorem uf:db key (n+1) A t=
  if A.isNode t=false then(0,0,0,A)
  else if(A.node t).p.k<key then
   let(l,r,e,B):=db key n A (A.aK t (A.node t).right)
   if e=0 then let(i,e2,C):=B.mkNode (A.node t).p (A.aK t (A.node t).left) l;(i,r,e2,C)else(l,r,e,B)
  else
   let(l,r,e,B):=db key n A (A.aK t (A.node t).left)
   if e=0 then let(i,e2,C):=B.mkNode (A.node t).p r (A.aK t (A.node t).right);(l,i,e2,C)else(l,r,e,B):=by
 delta db
 rfl
theorem ug:cQ key (n+1) A t=
  if A.isNode t=false then(0,0,0,A)
  else if(A.node t).p.k<key then
   let(l,r,e,B):=cQ key n A (A.aK t (A.node t).right)
   if e≠0 then(0,0,e,B)else let(i,e2,C):=B.mkNode (A.node t).p (A.aK t (A.node t).left) l;(i,r,e2,C)
  else
   let(l,r,e,B):=cQ key n A (A.aK t (A.node t).left)
   if e≠0 then(0,0,e,B)else let(i,e2,C):=B.mkNode (A.node t).p r (A.aK t (A.node t).right);(l,i,e2,C):=by
 delta cQ
 rfl
theorem qZ (h:A.isNode t=false):db key (n+1) A t=(0,0,0,A):=by rw[uf,if_pos h]
theorem ng (h:A.isNode t=true) (h2:(A.node t).p.k<key):db key (n+1) A t=BK (db key n A (A.aK t (A.node t).right)) (A.node t).p (A.aK t (A.node t).left):=by
 rw[uf,if_neg (by rw[h];simp),if_pos h2];generalize db key n A (A.aK t (A.node t).right)=q;rcases q with⟨a,b,c,d⟩;rfl
theorem ni (h:A.isNode t=true) (h2:¬(A.node t).p.k<key):db key (n+1) A t=Fy (db key n A (A.aK t (A.node t).left)) (A.node t).p (A.aK t (A.node t).right):=by
 rw[uf,if_neg (by rw[h];simp),if_neg h2];generalize db key n A (A.aK t (A.node t).left)=q;rcases q with⟨a,b,c,d⟩;rfl
end
section
variable {q:Q3} {p:Pr} {l:Int}
include q p l
theorem AJ (h:q.2.2.1=0):BK q p l=((q.2.2.2.mkNode p l q.1).1,q.2.1,(q.2.2.2.mkNode p l q.1).2.1,(q.2.2.2.mkNode p l q.1).2.2):=by unfold BK;rw[if_pos h]
theorem AK (h:¬q.2.2.1=0):BK q p l=q:=by unfold BK;rw[if_neg h]
theorem xj (h:q.2.2.1=0):Fy q p l=(q.1,(q.2.2.2.mkNode p q.2.1 l).1,(q.2.2.2.mkNode p q.2.1 l).2.1,(q.2.2.2.mkNode p q.2.1 l).2.2):=by unfold Fy;rw[if_pos h]
theorem xk (h:¬q.2.2.1=0):Fy q p l=q:=by unfold Fy;rw[if_neg h]
end
def LN (q:Q2) (p:Pr) (r:Int):Q2:=if q.2.1≠0 then(0,q.2.1,q.2.2)else q.2.2.mkNode p q.1 r
def LO (q:Q2) (p:Pr) (l:Int):Q2:=if q.2.1≠0 then(0,q.2.1,q.2.2)else q.2.2.mkNode p l q.1
section
variable {q:Q2} {p:Pr} {r:Int}
include q p r
theorem jR (h:q.2.1≠0):LN q p r=(0,q.2.1,q.2.2):=by unfold LN;rw[if_pos h]
theorem jS (h:¬q.2.1≠0):LN q p r=q.2.2.mkNode p q.1 r:=by unfold LN;rw[if_neg h]
theorem jT (h:q.2.1≠0):LO q p r=(0,q.2.1,q.2.2):=by unfold LO;rw[if_pos h]
theorem jU (h:¬q.2.1≠0):LO q p r=q.2.2.mkNode p r q.1:=by unfold LO;rw[if_neg h]
end
theorem xm {A:Ar} {p:Pr} {t:Int} {n:Nat} (h:A.isNode t=false):gi p (n+1) A t=A.mkNode p 0 0:=by unfold gi;rw[if_pos h]
section
variable {A:Ar} {p:Pr} {t:Int} {n:Nat} (h:A.isNode t=true)
include A p t n h
theorem xn (h2:(A.node t).p.k=p.k):gi p (n+1) A t=A.mkNode p (A.aK t (A.node t).left) (A.aK t (A.node t).right):=by
 unfold gi;rw[if_neg (by rw[h];simp),if_pos h2]
theorem p9 (h2:¬(A.node t).p.k=p.k) (h3:bh p.k (A.node t).p.k=true):
  gi p (n+1) A t=if(db p.k (fuel t) A t).2.2.1≠0 then(0,(db p.k (fuel t) A t).2.2.1,(db p.k (fuel t) A t).2.2.2)else(db p.k (fuel t) A t).2.2.2.mkNode p (db p.k (fuel t) A t).1 (db p.k (fuel t) A t).2.1:=by
 conv=>lhs;unfold gi
 rw[if_neg (by rw[h];simp),if_neg h2,if_pos h3]
theorem uh (h2:¬(A.node t).p.k=p.k) (h3:bh p.k (A.node t).p.k=false) (h4:p.k<(A.node t).p.k):
  gi p (n+1) A t=LN (gi p n A (A.aK t (A.node t).left)) (A.node t).p (A.aK t (A.node t).right):=by
 conv=>lhs;unfold gi
 rw[if_neg (by rw[h];simp),if_neg h2,if_neg (by rw[h3];simp),if_pos h4];rfl
theorem ui (h2:¬(A.node t).p.k=p.k) (h3:bh p.k (A.node t).p.k=false) (h4:¬p.k<(A.node t).p.k):
  gi p (n+1) A t=LO (gi p n A (A.aK t (A.node t).right)) (A.node t).p (A.aK t (A.node t).left):=by
 conv=>lhs;unfold gi
 rw[if_neg (by rw[h];simp),if_neg h2,if_neg (by rw[h3];simp),if_neg h4];rfl
end
theorem nj {A:Ar} {l r:Int} {n:Nat} (h:A.isNode l=false):dA (n+1) A l r=(r,0,A):=by
 conv=>lhs;unfold dA
 rw[if_pos h]
section
variable {A:Ar} {l r:Int} {n:Nat} (h:A.isNode l=true)
include A l r n h
theorem nu (h2:A.isNode r=false):dA (n+1) A l r=(l,0,A):=by
 conv=>lhs;unfold dA
 rw[if_neg (by rw[h];simp),if_pos h2]
theorem gj (h2:A.isNode r=true) (h3:bh (A.node l).p.k (A.node r).p.k=true):
  dA (n+1) A l r=LO (dA n A (A.aK l (A.node l).right) r) (A.node l).p ((dA n A (A.aK l (A.node l).right) r).2.2.aK l (A.node l).left):=by
 conv=>lhs;unfold dA
 rw[if_neg (by rw[h];simp),if_neg (by rw[h2];simp),if_pos h3];rfl
theorem gk (h2:A.isNode r=true) (h3:bh (A.node l).p.k (A.node r).p.k=false):
  dA (n+1) A l r=LN (dA n A l (A.aK r (A.node r).left)) (A.node r).p ((dA n A l (A.aK r (A.node r).left)).2.2.aK r (A.node r).right):=by
 conv=>lhs;unfold dA
 rw[if_neg (by rw[h];simp),if_neg (by rw[h2];simp),if_neg (by rw[h3];simp)];rfl
end
theorem xo {A:Ar} {key t:Int} {n:Nat} (h:A.isNode t=false):gK key (n+1) A t=(0,0,A):=by unfold gK;rw[if_pos h]
section
variable {A:Ar} {key t:Int} {n:Nat} (h:A.isNode t=true)
include A key t n h
theorem xp (h2:(A.node t).p.k=key):
  gK key (n+1) A t=dA (mZ (A.aK t (A.node t).left) (A.aK t (A.node t).right)) A (A.aK t (A.node t).left) (A.aK t (A.node t).right):=by
 unfold gK;rw[if_neg (by rw[h];simp),if_pos h2]
theorem uj (h2:¬(A.node t).p.k=key) (h4:key<(A.node t).p.k):
  gK key (n+1) A t=LN (gK key n A (A.aK t (A.node t).left)) (A.node t).p (A.aK t (A.node t).right):=by
 conv=>lhs;unfold gK
 rw[if_neg (by rw[h];simp),if_neg h2,if_pos h4];rfl
theorem um (h2:¬(A.node t).p.k=key) (h4:¬key<(A.node t).p.k):
  gK key (n+1) A t=LO (gK key n A (A.aK t (A.node t).right)) (A.node t).p (A.aK t (A.node t).left):=by
 conv=>lhs;unfold gK
 rw[if_neg (by rw[h];simp),if_neg h2,if_neg h4];rfl
end
def Oo (q:Q3) (p:Pr) (l:Int):Q3:=if q.2.2.1≠0 then(0,0,q.2.2.1,q.2.2.2)else((q.2.2.2.mkNode p l q.1).1,q.2.1,(q.2.2.2.mkNode p l q.1).2.1,(q.2.2.2.mkNode p l q.1).2.2)
def Fz (q:Q3) (p:Pr) (r:Int):Q3:=if q.2.2.1≠0 then(0,0,q.2.2.1,q.2.2.2)else(q.1,(q.2.2.2.mkNode p q.2.1 r).1,(q.2.2.2.mkNode p q.2.1 r).2.1,(q.2.2.2.mkNode p q.2.1 r).2.2)
section
variable {q:Q3} {p:Pr} {l:Int}
include q p l
theorem AL (h:q.2.2.1≠0):Oo q p l=(0,0,q.2.2.1,q.2.2.2):=by unfold Oo;rw[if_pos h]
theorem AM (h:¬q.2.2.1≠0):Oo q p l=((q.2.2.2.mkNode p l q.1).1,q.2.1,(q.2.2.2.mkNode p l q.1).2.1,(q.2.2.2.mkNode p l q.1).2.2):=by unfold Oo;rw[if_neg h]
theorem xq (h:q.2.2.1≠0):Fz q p l=(0,0,q.2.2.1,q.2.2.2):=by unfold Fz;rw[if_pos h]
theorem xr (h:¬q.2.2.1≠0):Fz q p l=(q.1,(q.2.2.2.mkNode p q.2.1 l).1,(q.2.2.2.mkNode p q.2.1 l).2.1,(q.2.2.2.mkNode p q.2.1 l).2.2):=by unfold Fz;rw[if_neg h]
end
section
variable {A:Ar} {key t:Int} {n:Nat}
include A key t n
theorem q8 (h:A.isNode t=false):cQ key (n+1) A t=(0,0,0,A):=by rw[ug,if_pos h]
theorem ny (h:A.isNode t=true) (h2:(A.node t).p.k<key):cQ key (n+1) A t=Oo (cQ key n A (A.aK t (A.node t).right)) (A.node t).p (A.aK t (A.node t).left):=by
 rw[ug,if_neg (by rw[h];simp),if_pos h2];generalize cQ key n A (A.aK t (A.node t).right)=q;rcases q with⟨a,b,c,d⟩;rfl
theorem nz (h:A.isNode t=true) (h2:¬(A.node t).p.k<key):cQ key (n+1) A t=Fz (cQ key n A (A.aK t (A.node t).left)) (A.node t).p (A.aK t (A.node t).right):=by
 rw[ug,if_neg (by rw[h];simp),if_neg h2];generalize cQ key n A (A.aK t (A.node t).left)=q;rcases q with⟨a,b,c,d⟩;rfl
end
theorem fS {A:Ar} {t x:Int} {n:Nat} (h:A.isNode t=true) (ht:t.toNat<n+1):(A.aK t x).toNat<n:=by
 have:=A.jQ (t:=x) (iq h);omega
end Ar
namespace Ar
theorem LP {A:Ar} {t key:Int} (h:A.isNode t=false):A.get t key=(0,false):=by rw[get_eq,h];rfl
section
variable {A:Ar} {t key:Int} (h:A.isNode t=true)
include A t key h
theorem IW (h2:(A.look t).p.k=key):A.get t key=((A.look t).p.v,true):=by rw[get_eq,if_pos h,if_pos h2]
theorem Oq (h2:¬(A.look t).p.k=key) (h3:key<(A.look t).p.k):A.get t key=A.get (A.look t).left key:=by rw[get_eq,if_pos h,if_neg h2,if_pos h3]
theorem Ot (h2:¬(A.look t).p.k=key) (h3:¬key<(A.look t).p.k):A.get t key=A.get (A.look t).right key:=by rw[get_eq,if_pos h,if_neg h2,if_neg h3]
end
section
variable {A:Ar} {t:Int}
include A t
theorem FA (h:A.isNode t=false\/(A.look t).left=0):A.kO (fuel t) t=(A.look t).p:=by
 rw[min_eq,if_neg];rintro⟨h1,h2⟩;rcases h with h|h;rw[h]at h1;cases h1;exact h2 h
theorem Ou (h:A.isNode t=true) (h2:(A.look t).left≠0):A.kO (fuel t) t=A.kO (fuel (A.look t).left) (A.look t).left:=by rw[min_eq,if_pos ⟨h,h2⟩]
theorem FC (h:A.isNode t=false\/(A.look t).right=0):A.lq (fuel t) t=(A.look t).p:=by
 rw[max_eq,if_neg];rintro⟨h1,h2⟩;rcases h with h|h;rw[h]at h1;cases h1;exact h2 h
theorem Ov (h:A.isNode t=true) (h2:(A.look t).right≠0):A.lq (fuel t) t=A.lq (fuel (A.look t).right) (A.look t).right:=by rw[max_eq,if_pos ⟨h,h2⟩]
end
section
variable {A:Ar} {t i:Int}
include A t i
theorem FD (h:i<0\/A.sizeOf t<=i):A.nth t i=(⟨0,0⟩,false):=by unfold nth;rw[if_pos h]
theorem BW (h:¬i<0) (h2:¬A.sizeOf t<=i):A.nth t i=A.kP (fuel t) t i:=by unfold nth;rw[if_neg (by omega)]
theorem IX (h:A.isNode t=false):A.kP (fuel t) t i=(⟨0,0⟩,false):=by rw[xi,h];rfl
theorem IY (h:A.isNode t=true) (h2:i=A.sizeOf (A.look t).left):A.kP (fuel t) t i=((A.look t).p,true):=by rw[xi,if_pos h,if_pos h2]
end
section
variable {A:Ar} {t i:Int} (h:A.isNode t=true) (h2:¬i=A.sizeOf (A.look t).left)
include A t i h h2
theorem LQ (h3:i<A.sizeOf (A.look t).left):A.kP (fuel t) t i=A.kP (fuel (A.look t).left) (A.look t).left i:=by rw[xi,if_pos h,if_neg h2,if_pos h3]
theorem LR (h3:¬i<A.sizeOf (A.look t).left):A.kP (fuel t) t i=A.kP (fuel (A.look t).right) (A.look t).right (IntKind.i64.wrap (IntKind.i64.wrap (i-A.sizeOf (A.look t).left)-1)):=by rw[xi,if_pos h,if_neg h2,if_neg h3]
end
theorem dy {A:Ar} {t:Int} (h:t=0\/A.isNode t=true):A.fL t=true:=by rcases h with h|h<;>simp[fL,h]
section
variable {A:Ar} {t:Int} {p:Pr}
include A t p
theorem FE (h:A.fL t=false):A.jO t p=(0,0,false,1,A):=by unfold jO;rw[if_pos h]
theorem xt (h:A.fL t=true) (h2:(gi p (fuel t) A t).2.1≠0):A.jO t p=(0,0,false,(gi p (fuel t) A t).2.1,(gi p (fuel t) A t).2.2):=by
 unfold jO;rw[if_neg (by rw[h];simp)];generalize gi p (fuel t) A t=q at h2⊢;rcases q with⟨a,b,c⟩;exact if_pos h2
theorem AN (h:A.fL t=true) (h2:¬(gi p (fuel t) A t).2.1≠0):A.jO t p=((gi p (fuel t) A t).1,(A.get t p.k).1,(A.get t p.k).2,0,(gi p (fuel t) A t).2.2):=by
 unfold jO;rw[if_neg (by rw[h];simp)];generalize gi p (fuel t) A t=q at h2⊢;rcases q with⟨a,b,c⟩;exact if_neg h2
theorem FF (h:A.fL t=false):A.pU t p=(0,0,false,1,A):=by unfold pU;rw[if_pos h]
theorem xu (h:A.fL t=true) (h2:(A.get t p.k).2=true):A.pU t p=(t,(A.get t p.k).1,true,0,A):=by unfold pU;rw[if_neg (by rw[h];simp),if_pos h2]
theorem xv (h:A.fL t=true) (h2:(A.get t p.k).2=false):A.pU t p=A.jO t p:=by unfold pU;rw[if_neg (by rw[h];simp),if_neg (by rw[h2];simp)]
end
theorem FG {A:Ar} {t key:Int} (h:A.fL t=false):A.oC t key=(0,0,false,1,A):=by unfold oC;rw[if_pos h]
section
variable {A:Ar} {t key:Int} (h:A.fL t=true)
include A t key h
theorem qa (h2:(A.get t key).2=false):A.oC t key=(t,0,false,0,A):=by unfold oC;rw[if_neg (by rw[h];simp),if_pos h2]
theorem qb (h1:(A.get t key).2=true) (h2:(gK key (fuel t) A t).2.1≠0):A.oC t key=(0,0,false,(gK key (fuel t) A t).2.1,(gK key (fuel t) A t).2.2):=by
 unfold oC;rw[if_neg (by rw[h];simp),if_neg (by rw[h1];simp)];generalize gK key (fuel t) A t=q at h2⊢;rcases q with⟨a,b,c⟩;exact if_pos h2
theorem uo (h1:(A.get t key).2=true) (h2:¬(gK key (fuel t) A t).2.1≠0):A.oC t key=((gK key (fuel t) A t).1,(A.get t key).1,true,0,(gK key (fuel t) A t).2.2):=by
 unfold oC;rw[if_neg (by rw[h];simp),if_neg (by rw[h1];simp)];generalize gK key (fuel t) A t=q at h2⊢;rcases q with⟨a,b,c⟩;exact if_neg h2
end
section
variable {A:Ar}
include A
theorem ra {l r:Int} (h:A.fL l=false\/A.fL r=false\/((A.g6 l).2=true/\(A.ig r).2=true/\(A.ig r).1.k<=(A.g6 l).1.k)):A.two l r=(0,1,A):=by unfold two;rw[if_pos h]
theorem o7 {l r:Int} (h1:A.fL l=true) (h2:A.fL r=true) (h3:¬((A.g6 l).2=true/\(A.ig r).2=true/\(A.ig r).1.k<=(A.g6 l).1.k)):A.two l r=dA (mZ l r) A l r:=by
 unfold two;rw[if_neg];rintro(h|h|h);rw[h1]at h;cases h;rw[h2]at h;cases h;exact h3 h
theorem KP {t key:Int} (h:A.fL t=false):A.vW t key=(0,0,1,A):=by unfold vW;rw[if_pos h]
theorem AO {t key:Int} (h:A.fL t=true) (h2:(cQ key (fuel t) A t).2.2.1≠0):A.vW t key=(0,0,(cQ key (fuel t) A t).2.2.1,(cQ key (fuel t) A t).2.2.2):=by
 unfold vW;rw[if_neg (by rw[h];simp)];generalize cQ key (fuel t) A t=q at h2⊢;rcases q with⟨a,b,c,d⟩;exact if_pos h2
theorem FH {t key:Int} (h:A.fL t=true) (h2:¬(cQ key (fuel t) A t).2.2.1≠0):A.vW t key=((cQ key (fuel t) A t).1,(cQ key (fuel t) A t).2.1,0,(cQ key (fuel t) A t).2.2.2):=by
 unfold vW;rw[if_neg (by rw[h];simp)];generalize cQ key (fuel t) A t=q at h2⊢;rcases q with⟨a,b,c,d⟩;exact if_neg h2
theorem we {t:Int} (h:A.sizeOf t<2):A.middle t=(0,false):=by unfold middle;rw[if_pos h]
theorem uu {t:Int} (h:¬A.sizeOf t<2):A.middle t=((A.nth t (IntKind.i64.wrap (Int.tdiv (A.sizeOf t) 2))).1.k,(A.nth t (IntKind.i64.wrap (Int.tdiv (A.sizeOf t) 2))).2):=by unfold middle;rw[if_neg h]
theorem BX {t:Int} (h:A.fL t=false):A.half t=(0,0,0,1,A):=by unfold half;rw[if_pos h]
end
section
variable {A:Ar} {t:Int} (h:A.fL t=true)
include A t h
theorem uw (h2:(A.middle t).2=false):A.half t=(0,0,0,3,A):=by unfold half;rw[if_neg (by rw[h];simp),if_pos h2]
theorem ux (h1:(A.middle t).2=true) (h2:(A.vW t (A.middle t).1).2.2.1≠0):A.half t=(0,0,0,(A.vW t (A.middle t).1).2.2.1,(A.vW t (A.middle t).1).2.2.2):=by
 unfold half;rw[if_neg (by rw[h];simp),if_neg (by rw[h1];simp)];generalize A.vW t (A.middle t).1=q at h2⊢;rcases q with⟨a,b,c,d⟩;exact if_pos h2
theorem xw (h1:(A.middle t).2=true) (h2:¬(A.vW t (A.middle t).1).2.2.1≠0):A.half t=((A.middle t).1,(A.vW t (A.middle t).1).1,(A.vW t (A.middle t).1).2.1,0,(A.vW t (A.middle t).1).2.2.2):=by
 unfold half;rw[if_neg (by rw[h];simp),if_neg (by rw[h1];simp)];generalize A.vW t (A.middle t).1=q at h2⊢;rcases q with⟨a,b,c,d⟩;exact if_neg h2
end
end Ar
abbrev AP (key:Int) (n:Nat):Prop:=∀(ba:Nat) (r:cX) (M:aO) (hA:aR ba r M) (t:Int),t.toNat<n->aN prog 265 [.pointer (some ⟨ba,0,none⟩),.int .i64 t,.int .i64 key] [ak r.rows] [M] (gL ba (Ar.db key n r.p t).2.2.2 (.tuple #[.int .i64 (Ar.db key n r.p t).1,.int .i64 (Ar.db key n r.p t).2.1,.int .i64 (Ar.db key n r.p t).2.2.1]))
abbrev AQ (key:Int) (n:Nat):Prop:=∀(ba:Nat) (r:cX) (M:aO) (hA:aR ba r M) (t:Int),t.toNat<n->aN prog 278 [.pointer (some ⟨ba,0,none⟩),.int .i64 t,.int .i64 key] [ak r.rows] [M] (gL ba (Ar.cQ key n r.p t).2.2.2 (.tuple #[.int .i64 (Ar.cQ key n r.p t).1,.int .i64 (Ar.cQ key n r.p t).2.1,.int .i64 (Ar.cQ key n r.p t).2.2.1]))
abbrev LS (p:Pr) (n:Nat):Prop:=∀(ba:Nat) (r:cX) (M:aO) (hA:aR ba r M) (t:Int),t.toNat<n->aN prog 243 [.pointer (some ⟨ba,0,none⟩),.int .i64 t,p.val] [ak r.rows] [M] (gL ba (Ar.gi p n r.p t).2.2 (.tuple #[.int .i64 (Ar.gi p n r.p t).1,.int .i64 (Ar.gi p n r.p t).2.1]))
abbrev LU (key:Int) (n:Nat):Prop:=∀(ba:Nat) (r:cX) (M:aO) (hA:aR ba r M) (t:Int),t.toNat<n->aN prog 244 [.pointer (some ⟨ba,0,none⟩),.int .i64 t,.int .i64 key] [ak r.rows] [M] (gL ba (Ar.gK key n r.p t).2.2 (.tuple #[.int .i64 (Ar.gK key n r.p t).1,.int .i64 (Ar.gK key n r.p t).2.1]))
abbrev rb (f n:Nat):Prop:=∀(ba:Nat) (r:cX) (M:aO) (hA:aR ba r M) (t u:Int),t.toNat+u.toNat<n->aN prog f [.pointer (some ⟨ba,0,none⟩),.int .i64 t,.int .i64 u] [ak r.rows] [M] (gL ba (Ar.dA n r.p t u).2.2 (.tuple #[.int .i64 (Ar.dA n r.p t u).1,.int .i64 (Ar.dA n r.p t u).2.1]))
end Go.Proofs.YtcnohdmimheoaaaGreat
namespace Go.Proofs.YtcnohdmimheoaaaGreat
open E Ar Go.Proofs.Tryz
section
variable (ba:Nat) (r:cX) (M:aO) (hA:aR ba r M)
include ba r M hA
theorem uy (t key:Int):aN prog 167 [.pointer (some ⟨ba,0,none⟩),.int .i64 t,.int .i64 key] [ak r.rows] [M] (fun v Γ M'=>v= .tuple #[.int .i64 (r.p.get t key).1,.bool (r.p.get t key).2]/\Γ=[]/\M'=[M]):=by
 refine cb fun X H₀ L₀=>?_;refine mc ?_;refine At.dP (ι:=Int) [1,6,7,8,9,10,11,12,13,14,15,16,17,18,19,20,21,22,23,24,25,26,27,28,29,30,31,32,33,34,35] (fun u=>[(1,.int .i64 u)]) (fun u=>[]) (fun u=>[M]) _ (fun u=>r.p.get t key=r.p.get u key) (fun u=>u.toNat) t rfl ⟨rfl,trivial⟩ (fun _ _=>trivial) (k_ r_) ?_;intro u hg;refine ca (od ba r _ hA _) ?_;refine al fun b1=>?_;refine cv (fun h1=>?_) (fun h1=>?_);refine re ?_;exact rs ⟨by rw[hg,LP (bM h1)];rfl,rfl,rfl⟩;have hl:=gO (bV h1);refine ca (ue _ _) ?_;refine cv (fun h2=>?_) (fun h2=>?_);refine re ?_;exact rs ⟨by rw[hg,IW (bV h1) (of_decide_eq_true h2)];rfl,rfl,rfl⟩;refine fi (fun h3=>?_) (fun h3=>?_);refine mc ?_;refine At.front 1 rfl ?_;refine mc ?_;exact At.bX (r.p.look u).left (hg.trans (Oq (bV h1) (of_decide_eq_false h2) (by omega))) (by omega) (bc.end 25 ⟨rfl,trivial⟩ rfl rfl) (fun _ h=>h) (k_ (d_ r_));refine mc ?_;refine At.front 1 rfl ?_;refine mc ?_;exact At.bX (r.p.look u).right (hg.trans (Ot (bV h1) (of_decide_eq_false h2) (by omega))) (by omega) (bc.end 25 ⟨rfl,trivial⟩ rfl rfl) (fun _ h=>h) (k_ (d_ r_))
theorem xy (t:Int):aN prog 276 [.pointer (some ⟨ba,0,none⟩),.int .i64 t] [ak r.rows] [M] (fun v Γ M'=>v= .int .i64 (r.p.sizeOf t)/\Γ=[]/\M'=[M]):=by
 refine cb fun X H₀ L₀=>?_;refine ca (dD ba r _ hA _) ?_;refine al fun b1=>?_;refine re ?_;exact rs ⟨rfl,rfl,rfl⟩
theorem FI (t:Int):aN prog 217 [.pointer (some ⟨ba,0,none⟩),.int .i64 t] [ak r.rows] [M] (fun v Γ M'=>v= .tuple #[(r.p.ig t).1.val,.bool (r.p.ig t).2]/\Γ=[]/\M'=[M]):=by
 refine cb fun X H₀ L₀=>?_;refine al fun b1=>?_;refine ca (od ba r _ hA _) ?_;refine al fun b2=>?_;refine mc ?_;refine At.front 1 rfl ?_;refine At.front 1 rfl ?_;refine At.dP (ι:=Int) [7,14,15,16,17,18,19,20,21,22,23,24,25,26] (fun u=>[(7,.bool (r.p.isNode u))]) (fun u=>[]) (fun u=>[[(b2,.cells #[.int .i64 (r.p.look u).p.k,.int .i64 (r.p.look u).p.v,.int .i64 (r.p.look u).left,.int .i64 (r.p.look u).right,.int .i64 (r.p.look u).size,.int .i64 (r.p.look u).high] 244 (0,0))],M]) _ (fun u=>r.p.kO (Ar.fuel t) t=r.p.kO (Ar.fuel u) u/\r.p.isNode u=r.p.isNode t) (fun u=>u.toNat) t ⟨rfl,rfl⟩ ⟨rfl,trivial⟩ (fun _ _=>trivial) (k_ (k_ r_)) ?_;intro u hI;obtain⟨hm,hn⟩:=hI;refine mc ?_;refine At.split (d:=15) rfl (fun h1=>?_) (fun h1=>?_);have hl:=gO h1;refine fi (fun h2=>?_) (fun h2=>?_);refine ca (od ba r _ hA _) ?_;refine mc ?_;refine At.front 0 rfl ?_;refine At.front 1 rfl ?_;refine mc ?_;exact At.bX (r.p.look u).left ⟨hm.trans (Ou h1 h2),(Dk h2).trans (h1.symm.trans hn)⟩ (by omega) (bc.end 16 ⟨rfl,trivial⟩ rfl rfl) (fun _ h=>h) (k_ (k_ r_));refine re ?_;exact rs ⟨by rw[Ar.ig,hm,FA (.inr (by omega)),<-hn];rfl,rfl,rfl⟩;refine re ?_;exact rs ⟨by rw[Ar.ig,hm,FA (.inl h1),<-hn];rfl,rfl,rfl⟩
theorem FJ (t:Int):aN prog 218 [.pointer (some ⟨ba,0,none⟩),.int .i64 t] [ak r.rows] [M] (fun v Γ M'=>v= .tuple #[(r.p.g6 t).1.val,.bool (r.p.g6 t).2]/\Γ=[]/\M'=[M]):=by
 refine cb fun X H₀ L₀=>?_;refine al fun b1=>?_;refine ca (od ba r _ hA _) ?_;refine al fun b2=>?_;refine mc ?_;refine At.front 1 rfl ?_;refine At.front 1 rfl ?_;refine At.dP (ι:=Int) [7,14,15,16,17,18,19,20,21,22,23,24,25,26] (fun u=>[(7,.bool (r.p.isNode u))]) (fun u=>[]) (fun u=>[[(b2,.cells #[.int .i64 (r.p.look u).p.k,.int .i64 (r.p.look u).p.v,.int .i64 (r.p.look u).left,.int .i64 (r.p.look u).right,.int .i64 (r.p.look u).size,.int .i64 (r.p.look u).high] 244 (0,0))],M]) _ (fun u=>r.p.lq (Ar.fuel t) t=r.p.lq (Ar.fuel u) u/\r.p.isNode u=r.p.isNode t) (fun u=>u.toNat) t ⟨rfl,rfl⟩ ⟨rfl,trivial⟩ (fun _ _=>trivial) (k_ (k_ r_)) ?_;intro u hI;obtain⟨hm,hn⟩:=hI;refine mc ?_;refine At.split (d:=15) rfl (fun h1=>?_) (fun h1=>?_);have hl:=gO h1;refine fi (fun h2=>?_) (fun h2=>?_);refine ca (od ba r _ hA _) ?_;refine mc ?_;refine At.front 0 rfl ?_;refine At.front 1 rfl ?_;refine mc ?_;exact At.bX (r.p.look u).right ⟨hm.trans (Ov h1 h2),(AI h2).trans (h1.symm.trans hn)⟩ (by omega) (bc.end 16 ⟨rfl,trivial⟩ rfl rfl) (fun _ h=>h) (k_ (k_ r_));refine re ?_;exact rs ⟨by rw[Ar.g6,hm,FC (.inr (by omega)),<-hn];rfl,rfl,rfl⟩;refine re ?_;exact rs ⟨by rw[Ar.g6,hm,FC (.inl h1),<-hn];rfl,rfl,rfl⟩
theorem LV (t i:Int):aN prog 277 [.pointer (some ⟨ba,0,none⟩),.int .i64 t,.int .i64 i] [ak r.rows] [M] (fun v Γ M'=>v= .tuple #[(r.p.nth t i).1.val,.bool (r.p.nth t i).2]/\Γ=[]/\M'=[M]):=by
 refine cb fun X H₀ L₀=>?_;refine al fun b1=>?_;refine sp 13 (fun h1=>?_) (fun h1=>?_);refine re ?_;exact rs ⟨by rw[FD (.inl h1)];rfl,rfl,rfl⟩;refine ca (xy ba r _ hA _) ?_;refine fi (fun h2=>?_) (fun h2=>?_);refine re ?_;exact rs ⟨by rw[FD (.inr h2)];rfl,rfl,rfl⟩;refine mc ?_;refine At.front 0 rfl ?_;refine At.front 1 rfl ?_;refine At.dP (ι:=Int×Int) [1,2,7,8,9,10,21,22,23,24,25,26,27,28,29,30,31,32,33,34,35,36,37,38,39,40,41,42,43,44,45,46,47,48,49,50,51,52] (fun⟨u,j⟩=>[(1,.int .i64 u),(2,.int .i64 j)]) (fun⟨u,j⟩=>[]) (fun⟨u,j⟩=>[[(b1,.cells #[.int .i64 0,.int .i64 0] 43 (0,0))],M]) _ (fun⟨u,j⟩=>r.p.nth t i=r.p.kP (Ar.fuel u) u j) (fun⟨u,j⟩=>u.toNat) (t,i) (BW h1 (by omega)) ⟨rfl,rfl,trivial⟩ (fun _ _=>trivial) (k_ (k_ r_)) ?_;intro s hg;obtain⟨u,j⟩:=s;refine ca (od ba r _ hA _) ?_;refine al fun b2=>?_;refine ca (xy ba r _ hA _) ?_;refine cv (fun h3=>?_) (fun h3=>?_);refine re ?_;exact rs ⟨by rw[hg,IX (bM h3)];rfl,rfl,rfl⟩;have hl:=gO (bV h3);refine fi (fun h4=>?_) (fun h4=>?_);refine re ?_;exact rs ⟨by rw[hg,IY (bV h3) h4];rfl,rfl,rfl⟩;refine fi (fun h5=>?_) (fun h5=>?_);refine mc ?_;refine At.front 0 rfl ?_;refine At.front 2 rfl ?_;refine mc ?_;exact At.bX ((r.p.look u).left,j) (hg.trans (LQ (bV h3) h4 h5)) (by(try dsimp only);omega) (bc.end 29 ⟨rfl,rfl,trivial⟩ rfl rfl) (fun _ h=>h) (k_ (k_ (d_ r_)));refine mc ?_;refine qt (As rfl rfl) ?_;refine qt (As rfl rfl) ?_;refine mc ?_;refine At.front 0 rfl ?_;refine At.front 2 rfl ?_;refine mc ?_;exact At.bX ((r.p.look u).right,_) (hg.trans (LR (bV h3) h4 h5)) (by(try dsimp only);omega) (bc.end 34 ⟨rfl,rfl,trivial⟩ rfl rfl) (fun _ h=>h) (k_ (k_ (d_ r_)))
theorem KQ (t:Int):aN prog 242 [.pointer (some ⟨ba,0,none⟩),.int .i64 t] [ak r.rows] [M] (fun v Γ M'=>v= .bool (r.p.fL t)/\Γ=[]/\M'=[M]):=by
 refine cb fun X H₀ L₀=>?_;refine ca (dD ba r _ hA _) ?_;refine al fun b1=>?_;refine sp 18 (fun h1=>?_) (fun h1=>?_);refine re ?_;exact rs ⟨congrArg Value.bool ((dy (.inl h1)).symm),rfl,rfl⟩;refine re ?_;exact rs ⟨congrArg Value.bool (by rw[Ar.fL,decide_eq_false h1,Bool.false_or]),rfl,rfl⟩
theorem KS (t:Int):aN prog 268 [.pointer (some ⟨ba,0,none⟩),.int .i64 t] [ak r.rows] [M] (fun v Γ M'=>v= .bool (r.p.fL t)/\Γ=[]/\M'=[M]):=by
 refine cb fun X H₀ L₀=>?_;refine ca (dD ba r _ hA _) ?_;refine al fun b1=>?_;refine sp 18 (fun h1=>?_) (fun h1=>?_);refine re ?_;exact rs ⟨congrArg Value.bool ((dy (.inl h1)).symm),rfl,rfl⟩;refine re ?_;exact rs ⟨congrArg Value.bool (by rw[Ar.fL,decide_eq_false h1,Bool.false_or]),rfl,rfl⟩
theorem KX (t:Int):aN prog 295 [.pointer (some ⟨ba,0,none⟩),.int .i64 t] [ak r.rows] [M] (fun v Γ M'=>v= .bool (r.p.fL t)/\Γ=[]/\M'=[M]):=by
 refine cb fun X H₀ L₀=>?_;refine ca (dD ba r _ hA _) ?_;refine al fun b1=>?_;refine sp 15 (fun h1=>?_) (fun h1=>?_);refine re ?_;exact rs ⟨congrArg Value.bool ((dy (.inl h1)).symm),rfl,rfl⟩;refine re ?_;exact rs ⟨congrArg Value.bool (by rw[Ar.fL,decide_eq_false h1,Bool.false_or]),rfl,rfl⟩
theorem Dl (t:Int):aN prog 269 [.pointer (some ⟨ba,0,none⟩),.int .i64 t] [ak r.rows] [M] (fun v Γ M'=>v= .tuple #[.int .i64 (r.p.middle t).1,.bool (r.p.middle t).2]/\Γ=[]/\M'=[M]):=by
 refine cb fun X H₀ L₀=>?_;refine ca (xy ba r _ hA _) ?_;refine fi (fun h1=>?_) (fun h1=>?_);refine re ?_;exact rs ⟨by rw[we h1];rfl,rfl,rfl⟩;refine mc ?_;refine qt (Nz rfl rfl (by omega)) ?_;refine ca (LV ba r _ hA _ _) ?_;refine al fun b1=>?_;refine re ?_;exact rs ⟨by rw[uu h1];rfl,rfl,rfl⟩
end
theorem KY:ah prog 267:=ah.mk' func267 rfl rfl
theorem KZ:ah prog 296:=ah.mk' func296 rfl rfl
theorem IZ (key:Int) (n:Nat) (ih:AP key n):AP key (n+1):=by
 intro ba r M hA t ht;refine cb fun X H₀ L₀=>?_;refine ca (dD ba r _ hA _) ?_;refine al fun b1=>?_;refine cv (fun h1=>?_) (fun h1=>?_);have hn:=bM h1;refine re ?_;exact rs ⟨by rw[qZ hn];rfl,r,_,rfl,rfl,hA,by rw[qZ hn]⟩;have hn:=bV h1;refine dv 9 [0,1,2,3,5,6,7,8,104] (k_ (d_ r_)) ?_;refine oA (p7 ba r _ hA _ _) ?_;refine ca (p7 ba r _ hA _ _) ?_;refine fi (fun h2=>?_) (fun h2=>?_);refine ca (ih ba r _ hA _ (fS hn ht)) ?_;intro r2 N2 hA2 hr2;refine fi (fun h3=>?_) (fun h3=>?_);refine ca (jq ba r2 _ hA2 _ _ _) ?_;intro r3 N3 hA3 hr3;refine re ?_;exact rs ⟨by rw[ng hn h2,AJ h3,<-hr2];rfl,r3,_,rfl,rfl,hA3,by rw[ng hn h2,AJ h3,<-hr2];exact hr3⟩;refine re ?_;exact rs ⟨by rw[ng hn h2,AK h3];rfl,r2,_,rfl,rfl,hA2,by rw[ng hn h2,AK h3];exact hr2⟩;refine ca (ih ba r _ hA _ (fS hn ht)) ?_;intro r2 N2 hA2 hr2;refine fi (fun h3=>?_) (fun h3=>?_);refine ca (jq ba r2 _ hA2 _ _ _) ?_;intro r3 N3 hA3 hr3;refine re ?_;exact rs ⟨by rw[ni hn h2,xj h3,<-hr2];rfl,r3,_,rfl,rfl,hA3,by rw[ni hn h2,xj h3,<-hr2];exact hr3⟩;refine re ?_;exact rs ⟨by rw[ni hn h2,xk h3];rfl,r2,_,rfl,rfl,hA2,by rw[ni hn h2,xk h3];exact hr2⟩
theorem BY (key:Int):∀n,AP key n
 |0=>fun _ _ _ _ _ h=>absurd h (Nat.not_lt_zero _)
 |n+1=>IZ key n (BY key n)
theorem Ow (p:Pr) (n:Nat) (ih:LS p n):LS p (n+1):=by
 intro ba r M hA t ht;refine cb fun X H₀ L₀=>?_;refine bx fun b1=>?_;refine ca (dD ba r _ hA _) ?_;refine al fun b2=>?_;refine cv (fun h1=>?_) (fun h1=>?_);have hn:=bM h1;refine ca (jq ba r _ hA _ _ _) ?_;intro r2 N2 hA2 hr2;refine re ?_;exact rs ⟨by rw[xm hn];rfl,r2,_,rfl,rfl,hA2,by rw[xm hn];exact hr2⟩;have hn:=bV h1;refine dv 9 [0,1,2,3,5,6,7,8,104] (k_ (d_ r_)) ?_;refine oA (p7 ba r _ hA _ _) ?_;refine ca (p7 ba r _ hA _ _) ?_;refine ca (ue _ _) ?_;refine cv (fun h2=>?_) (fun h2=>?_);refine ca (jq ba r _ hA _ _ _) ?_;intro r2 N2 hA2 hr2;refine re ?_;exact rs ⟨by rw[xn hn (of_decide_eq_true h2)];rfl,r2,_,rfl,rfl,hA2,by rw[xn hn (of_decide_eq_true h2)];exact hr2⟩;have h2:=of_decide_eq_false h2;refine ca (p6 _ _) ?_;refine cv (fun h3=>?_) (fun h3=>?_);refine ca (BY _ (Ar.fuel _) ba r _ hA _ (Nat.lt_succ_self _)) ?_;intro r2 N2 hA2 hr2;refine fi (fun h4=>?_) (fun h4=>?_);refine re ?_;exact rs ⟨by rw[p9 hn h2 h3,if_pos h4];rfl,r2,_,rfl,rfl,hA2,by rw[p9 hn h2 h3,if_pos h4];exact hr2⟩;refine ca (jq ba r2 _ hA2 _ _ _) ?_;intro r3 N3 hA3 hr3;refine re ?_;exact rs ⟨by rw[p9 hn h2 h3,if_neg h4,<-hr2];rfl,r3,_,rfl,rfl,hA3,by rw[p9 hn h2 h3,if_neg h4,<-hr2];exact hr3⟩;refine fi (fun h4=>?_) (fun h4=>?_);refine ca (ih ba r _ hA _ (fS hn ht)) ?_;intro r2 N2 hA2 hr2;refine fi (fun h9=>?_) (fun h9=>?_);refine re ?_;exact rs ⟨by rw[uh hn h2 h3 h4,jR h9];rfl,r2,_,rfl,rfl,hA2,by rw[uh hn h2 h3 h4,jR h9];exact hr2⟩;refine ca (jq ba r2 _ hA2 _ _ _) ?_;intro r3 N3 hA3 hr3;refine re ?_;exact rs ⟨by rw[uh hn h2 h3 h4,jS h9,<-hr2];rfl,r3,_,rfl,rfl,hA3,by rw[uh hn h2 h3 h4,jS h9,<-hr2];exact hr3⟩;refine ca (ih ba r _ hA _ (fS hn ht)) ?_;intro r2 N2 hA2 hr2;refine fi (fun h9=>?_) (fun h9=>?_);refine re ?_;exact rs ⟨by rw[ui hn h2 h3 h4,jT h9];rfl,r2,_,rfl,rfl,hA2,by rw[ui hn h2 h3 h4,jT h9];exact hr2⟩;refine ca (jq ba r2 _ hA2 _ _ _) ?_;intro r3 N3 hA3 hr3;refine re ?_;exact rs ⟨by rw[ui hn h2 h3 h4,jU h9,<-hr2];rfl,r3,_,rfl,rfl,hA3,by rw[ui hn h2 h3 h4,jU h9,<-hr2];exact hr3⟩
theorem K0 (p:Pr):∀n,LS p n
 |0=>fun _ _ _ _ _ h=>absurd h (Nat.not_lt_zero _)
 |n+1=>Ow p n (K0 p n)
section
variable (ba:Nat) (r:cX) (M:aO) (hA:aR ba r M) (t:Int) (p:Pr)
include ba r M hA t p
theorem FK:aN prog 206 [.pointer (some ⟨ba,0,none⟩),.int .i64 t,p.val] [ak r.rows] [M] (gL ba ((r.p.jO t p).2.2.2.2) (.tuple #[.int .i64 (r.p.jO t p).1,.int .i64 (r.p.jO t p).2.1,.bool (r.p.jO t p).2.2.1,.int .i64 (r.p.jO t p).2.2.2.1])):=by
 refine cb fun X H₀ L₀=>?_;refine bx fun b1=>?_;refine ca (KQ ba r _ hA _) ?_;refine cv (fun h1=>?_) (fun h1=>?_);refine re ?_;exact rs ⟨by rw[FE (bM h1)];rfl,r,_,rfl,rfl,hA,by rw[FE (bM h1)]⟩;have hn:=bV h1;refine ca (uy ba r _ hA _ _) ?_;refine ca (K0 _ (Ar.fuel _) ba r _ hA _ (Nat.lt_succ_self _)) ?_;intro r2 N2 hA2 hr2;refine fi (fun h2=>?_) (fun h2=>?_);refine re ?_;exact rs ⟨by rw[xt hn h2];rfl,r2,_,rfl,rfl,hA2,by rw[xt hn h2];exact hr2⟩;refine re ?_;exact rs ⟨by rw[AN hn h2];rfl,r2,_,rfl,rfl,hA2,by rw[AN hn h2];exact hr2⟩
theorem LW:aN prog 207 [.pointer (some ⟨ba,0,none⟩),.int .i64 t,p.val] [ak r.rows] [M] (gL ba ((r.p.pU t p).2.2.2.2) (.tuple #[.int .i64 (r.p.pU t p).1,.int .i64 (r.p.pU t p).2.1,.bool (r.p.pU t p).2.2.1,.int .i64 (r.p.pU t p).2.2.2.1])):=by
 refine cb fun X H₀ L₀=>?_;refine bx fun b1=>?_;refine ca (KQ ba r _ hA _) ?_;refine cv (fun h1=>?_) (fun h1=>?_);refine re ?_;exact rs ⟨by rw[FF (bM h1)];rfl,r,_,rfl,rfl,hA,by rw[FF (bM h1)]⟩;have hn:=bV h1;refine ca (uy ba r _ hA _ _) ?_;refine cv (fun h2=>?_) (fun h2=>?_);refine re ?_;exact rs ⟨by rw[xu hn h2];rfl,r,_,rfl,rfl,hA,by rw[xu hn h2]⟩;refine ca (FK ba r _ hA _ _) ?_;intro r2 N2 hA2 hr2;refine re ?_;exact rs ⟨by rw[xv hn h2];rfl,r2,_,rfl,rfl,hA2,by rw[xv hn h2];exact hr2⟩
end
theorem AR (n:Nat) (ih:rb 267 n):rb 267 (n+1):=by
 intro ba r M hA t u ht;refine cb fun X H₀ L₀=>?_;refine ca (dD ba r _ hA _) ?_;refine al fun b1=>?_;refine ca (dD ba r _ hA _) ?_;refine al fun b2=>?_;refine cv (fun h1=>?_) (fun h1=>?_);refine re ?_;exact rs ⟨by rw[nj (bM h1)];rfl,r,_,rfl,rfl,hA,by rw[nj (bM h1)]⟩;have hn:=bV h1;refine cv (fun h2=>?_) (fun h2=>?_);refine re ?_;exact rs ⟨by rw[nu hn (bM h2)];rfl,r,_,rfl,rfl,hA,by rw[nu hn (bM h2)]⟩;have hn2:=bV h2;have hl:=iq hn;have hl2:=iq hn2;refine ca (p6 _ _) ?_;refine cv (fun h3=>?_) (fun h3=>?_);refine ca (lz ba r _ hA _ _) ?_;refine mc ?_;refine At.call KY rfl (ih ba r _ hA _ _ (by have:=Ar.jQ (A:=r.p) (t:=(r.p.node t).right) hl;omega)) (fun _ h=>⟨h.2.1,trivial⟩) (List.Perm.refl _) rfl ?_;rintro _ _ _ ⟨rfl,r2,N2,rfl,rfl,hA2,hr2⟩;refine fi (fun h4=>?_) (fun h4=>?_);refine re ?_;exact rs ⟨by rw[gj hn hn2 h3,jT h4];rfl,r2,_,rfl,rfl,hA2,by rw[gj hn hn2 h3,jT h4];exact hr2⟩;refine dv 12 [0,1,2,3,4,5,6,8,107,109,10,11] (d_ (k_ (k_ r_))) ?_;refine gf (lz ba r2 _ hA2 _ _) ?_;refine oA (jq ba r2 _ hA2 _ _ _) ?_;intro r3 N3 hA3 hr3;refine re ?_;exact rs ⟨by rw[gj hn hn2 h3,jU h4,<-hr2];rfl,r3,_,rfl,rfl,hA3,by rw[gj hn hn2 h3,jU h4,<-hr2];exact hr3⟩;refine ca (lz ba r _ hA _ _) ?_;refine mc ?_;refine At.call KY rfl (ih ba r _ hA _ _ (by have:=Ar.jQ (A:=r.p) (t:=(r.p.node u).left) hl2;omega)) (fun _ h=>⟨h.2.1,trivial⟩) (List.Perm.refl _) rfl ?_;rintro _ _ _ ⟨rfl,r2,N2,rfl,rfl,hA2,hr2⟩;refine fi (fun h4=>?_) (fun h4=>?_);refine re ?_;exact rs ⟨by rw[gk hn hn2 h3,jR h4];rfl,r2,_,rfl,rfl,hA2,by rw[gk hn hn2 h3,jR h4];exact hr2⟩;refine dw 12 [8,9] (d_ (k_ (k_ r_))) ?_;refine gf (lz ba r2 _ hA2 _ _) ?_;refine oA (jq ba r2 _ hA2 _ _ _) ?_;intro r3 N3 hA3 hr3;refine re ?_;exact rs ⟨by rw[gk hn hn2 h3,jS h4,<-hr2];rfl,r3,_,rfl,rfl,hA3,by rw[gk hn hn2 h3,jS h4,<-hr2];exact hr3⟩
theorem uz:∀n,rb 267 n
 |0=>fun _ _ _ _ _ _ h=>absurd h (Nat.not_lt_zero _)
 |n+1=>AR n (uz n)
theorem AS (n:Nat) (ih:rb 296 n):rb 296 (n+1):=by
 intro ba r M hA t u ht;refine cb fun X H₀ L₀=>?_;refine ca (dD ba r _ hA _) ?_;refine al fun b1=>?_;refine ca (dD ba r _ hA _) ?_;refine al fun b2=>?_;refine cv (fun h1=>?_) (fun h1=>?_);refine re ?_;exact rs ⟨by rw[nj (bM h1)];rfl,r,_,rfl,rfl,hA,by rw[nj (bM h1)]⟩;have hn:=bV h1;refine cv (fun h2=>?_) (fun h2=>?_);refine re ?_;exact rs ⟨by rw[nu hn (bM h2)];rfl,r,_,rfl,rfl,hA,by rw[nu hn (bM h2)]⟩;have hn2:=bV h2;have hl:=iq hn;have hl2:=iq hn2;refine ca (p6 _ _) ?_;refine cv (fun h3=>?_) (fun h3=>?_);refine ca (p8 ba r _ hA _ _) ?_;refine mc ?_;refine At.call KZ rfl (ih ba r _ hA _ _ (by have:=Ar.jQ (A:=r.p) (t:=(r.p.node t).right) hl;omega)) (fun _ h=>⟨h.2.1,trivial⟩) (List.Perm.refl _) rfl ?_;rintro _ _ _ ⟨rfl,r2,N2,rfl,rfl,hA2,hr2⟩;refine fi (fun h4=>?_) (fun h4=>?_);refine re ?_;exact rs ⟨by rw[gj hn hn2 h3,jT h4];rfl,r2,_,rfl,rfl,hA2,by rw[gj hn hn2 h3,jT h4];exact hr2⟩;refine dv 12 [0,1,2,3,4,5,6,8,107,109,10,11] (d_ (k_ (k_ r_))) ?_;refine gf (p8 ba r2 _ hA2 _ _) ?_;refine oA (jq ba r2 _ hA2 _ _ _) ?_;intro r3 N3 hA3 hr3;refine re ?_;exact rs ⟨by rw[gj hn hn2 h3,jU h4,<-hr2];rfl,r3,_,rfl,rfl,hA3,by rw[gj hn hn2 h3,jU h4,<-hr2];exact hr3⟩;refine ca (p8 ba r _ hA _ _) ?_;refine mc ?_;refine At.call KZ rfl (ih ba r _ hA _ _ (by have:=Ar.jQ (A:=r.p) (t:=(r.p.node u).left) hl2;omega)) (fun _ h=>⟨h.2.1,trivial⟩) (List.Perm.refl _) rfl ?_;rintro _ _ _ ⟨rfl,r2,N2,rfl,rfl,hA2,hr2⟩;refine fi (fun h4=>?_) (fun h4=>?_);refine re ?_;exact rs ⟨by rw[gk hn hn2 h3,jR h4];rfl,r2,_,rfl,rfl,hA2,by rw[gk hn hn2 h3,jR h4];exact hr2⟩;refine dw 12 [8,9] (d_ (k_ (k_ r_))) ?_;refine gf (p8 ba r2 _ hA2 _ _) ?_;refine oA (jq ba r2 _ hA2 _ _ _) ?_;intro r3 N3 hA3 hr3;refine re ?_;exact rs ⟨by rw[gk hn hn2 h3,jS h4,<-hr2];rfl,r3,_,rfl,rfl,hA3,by rw[gk hn hn2 h3,jS h4,<-hr2];exact hr3⟩
theorem ml:∀n,rb 296 n
 |0=>fun _ _ _ _ _ _ h=>absurd h (Nat.not_lt_zero _)
 |n+1=>AS n (ml n)
theorem Ox (key:Int) (n:Nat) (ih:LU key n):LU key (n+1):=by
 intro ba r M hA t ht;refine cb fun X H₀ L₀=>?_;refine ca (dD ba r _ hA _) ?_;refine al fun b1=>?_;refine cv (fun h1=>?_) (fun h1=>?_);have hn:=bM h1;refine re ?_;exact rs ⟨by rw[xo hn];rfl,r,_,rfl,rfl,hA,by rw[xo hn]⟩;have hn:=bV h1;refine dv 9 [0,1,2,3,5,6,7,8,104] (k_ (d_ r_)) ?_;refine oA (lz ba r _ hA _ _) ?_;refine ca (lz ba r _ hA _ _) ?_;refine ca (ue _ _) ?_;refine cv (fun h2=>?_) (fun h2=>?_);refine ca (uz (Ar.mZ _ _) ba r _ hA _ _ (Nat.lt_succ_self _)) ?_;intro r2 N2 hA2 hr2;refine re ?_;exact rs ⟨by rw[xp hn (of_decide_eq_true h2)];rfl,r2,_,rfl,rfl,hA2,by rw[xp hn (of_decide_eq_true h2)];exact hr2⟩;have h2:=of_decide_eq_false h2;refine fi (fun h4=>?_) (fun h4=>?_);refine ca (ih ba r _ hA _ (fS hn ht)) ?_;intro r2 N2 hA2 hr2;refine fi (fun h9=>?_) (fun h9=>?_);refine re ?_;exact rs ⟨by rw[uj hn h2 (by omega),jR h9];rfl,r2,_,rfl,rfl,hA2,by rw[uj hn h2 (by omega),jR h9];exact hr2⟩;refine ca (jq ba r2 _ hA2 _ _ _) ?_;intro r3 N3 hA3 hr3;refine re ?_;exact rs ⟨by rw[uj hn h2 (by omega),jS h9,<-hr2];rfl,r3,_,rfl,rfl,hA3,by rw[uj hn h2 (by omega),jS h9,<-hr2];exact hr3⟩;refine ca (ih ba r _ hA _ (fS hn ht)) ?_;intro r2 N2 hA2 hr2;refine fi (fun h9=>?_) (fun h9=>?_);refine re ?_;exact rs ⟨by rw[um hn h2 (by omega),jT h9];rfl,r2,_,rfl,rfl,hA2,by rw[um hn h2 (by omega),jT h9];exact hr2⟩;refine ca (jq ba r2 _ hA2 _ _ _) ?_;intro r3 N3 hA3 hr3;refine re ?_;exact rs ⟨by rw[um hn h2 (by omega),jU h9,<-hr2];rfl,r3,_,rfl,rfl,hA3,by rw[um hn h2 (by omega),jU h9,<-hr2];exact hr3⟩
theorem FL (key:Int):∀n,LU key n
 |0=>fun _ _ _ _ _ h=>absurd h (Nat.not_lt_zero _)
 |n+1=>Ox key n (FL key n)
section
variable (ba:Nat) (r:cX) (M:aO) (hA:aR ba r M)
include ba r M hA
theorem LX (t key:Int):aN prog 208 [.pointer (some ⟨ba,0,none⟩),.int .i64 t,.int .i64 key] [ak r.rows] [M] (gL ba ((r.p.oC t key).2.2.2.2) (.tuple #[.int .i64 (r.p.oC t key).1,.int .i64 (r.p.oC t key).2.1,.bool (r.p.oC t key).2.2.1,.int .i64 (r.p.oC t key).2.2.2.1])):=by
 refine cb fun X H₀ L₀=>?_;refine ca (dD ba r _ hA _) ?_;refine al fun b1=>?_;refine sp 27 (fun h1=>?_) (fun h1=>?_);refine cv (fun h2=>?_) (fun h2=>?_);refine re ?_;exact rs ⟨by rw[FG (by rw[Ar.fL,decide_eq_false h1,Bool.false_or];exact bM h2)];rfl,r,_,rfl,rfl,hA,by rw[FG (by rw[Ar.fL,decide_eq_false h1,Bool.false_or];exact bM h2)]⟩;have hn:=dy (.inr (bV h2));refine ca (uy ba r _ hA _ _) ?_;refine cv (fun h3=>?_) (fun h3=>?_);refine re ?_;exact rs ⟨by rw[qa hn (bM h3)];rfl,r,_,rfl,rfl,hA,by rw[qa hn (bM h3)]⟩;have h3:=bV h3;refine ca (FL _ (Ar.fuel _) ba r _ hA _ (Nat.lt_succ_self _)) ?_;intro r2 N2 hA2 hr2;refine fi (fun h4=>?_) (fun h4=>?_);refine re ?_;exact rs ⟨by rw[qb hn h3 h4];rfl,r2,_,rfl,rfl,hA2,by rw[qb hn h3 h4];exact hr2⟩;refine re ?_;exact rs ⟨by rw[uo hn h3 h4];rfl,r2,_,rfl,rfl,hA2,by rw[uo hn h3 h4];exact hr2⟩;have hn:=dy (A:=r.p) (.inl (Decidable.not_not.1 h1));refine ca (uy ba r _ hA _ _) ?_;refine cv (fun h3=>?_) (fun h3=>?_);refine re ?_;exact rs ⟨by rw[qa hn (bM h3)];rfl,r,_,rfl,rfl,hA,by rw[qa hn (bM h3)]⟩;have h3:=bV h3;refine ca (FL _ (Ar.fuel _) ba r _ hA _ (Nat.lt_succ_self _)) ?_;intro r2 N2 hA2 hr2;refine fi (fun h4=>?_) (fun h4=>?_);refine re ?_;exact rs ⟨by rw[qb hn h3 h4];rfl,r2,_,rfl,rfl,hA2,by rw[qb hn h3 h4];exact hr2⟩;refine re ?_;exact rs ⟨by rw[uo hn h3 h4];rfl,r2,_,rfl,rfl,hA2,by rw[uo hn h3 h4];exact hr2⟩
theorem FM (t u:Int):aN prog 294 [.pointer (some ⟨ba,0,none⟩),.int .i64 t,.int .i64 u] [ak r.rows] [M] (gL ba ((r.p.two t u).2.2) (.tuple #[.int .i64 (r.p.two t u).1,.int .i64 (r.p.two t u).2.1])):=by
 refine cb fun X H₀ L₀=>?_;refine ca (FJ ba r _ hA _) ?_;refine al fun b1=>?_;refine ca (FI ba r _ hA _) ?_;refine al fun b2=>?_;refine ca (KX ba r _ hA _) ?_;refine mc ?_;refine At.split (d:=32) rfl (fun h1=>?_) (fun h1=>?_);refine re ?_;exact rs ⟨by rw[ra (.inl (bM h1))];rfl,r,_,rfl,rfl,hA,by rw[ra (.inl (bM h1))]⟩;have h1:=bV h1;refine ca (KX ba r _ hA _) ?_;refine mc ?_;refine At.split (d:=38) rfl (fun h2=>?_) (fun h2=>?_);refine re ?_;exact rs ⟨by rw[ra (.inr (.inl (bM h2)))];rfl,r,_,rfl,rfl,hA,by rw[ra (.inr (.inl (bM h2)))]⟩;have h2:=bV h2;refine mc ?_;refine At.split (d:=40) rfl (fun h4=>?_) (fun h4=>?_);refine mc ?_;refine At.split (d:=43) rfl (fun h5=>?_) (fun h5=>?_);refine fi (fun h6=>?_) (fun h6=>?_);refine re ?_;exact rs ⟨by rw[ra (.inr (.inr ⟨h4,h5,h6⟩))];rfl,r,_,rfl,rfl,hA,by rw[ra (.inr (.inr ⟨h4,h5,h6⟩))]⟩;refine ca (ml (Ar.mZ _ _) ba r _ hA _ _ (Nat.lt_succ_self _)) ?_;intro r2 N2 hA2 hr2;refine re ?_;exact rs ⟨by rw[o7 h1 h2 (fun h=>h6 h.2.2)];rfl,r2,_,rfl,rfl,hA2,by rw[o7 h1 h2 (fun h=>h6 h.2.2)];exact hr2⟩;refine ca (ml (Ar.mZ _ _) ba r _ hA _ _ (Nat.lt_succ_self _)) ?_;intro r2 N2 hA2 hr2;refine re ?_;exact rs ⟨by rw[o7 h1 h2 (fun h=>by rw[h5]at h;cases h.2.1)];rfl,r2,_,rfl,rfl,hA2,by rw[o7 h1 h2 (fun h=>by rw[h5]at h;cases h.2.1)];exact hr2⟩;refine ca (ml (Ar.mZ _ _) ba r _ hA _ _ (Nat.lt_succ_self _)) ?_;intro r2 N2 hA2 hr2;refine re ?_;exact rs ⟨by rw[o7 h1 h2 (fun h=>by rw[h4]at h;cases h.1)];rfl,r2,_,rfl,rfl,hA2,by rw[o7 h1 h2 (fun h=>by rw[h4]at h;cases h.1)];exact hr2⟩
end
theorem I0 (key:Int) (n:Nat) (ih:AQ key n):AQ key (n+1):=by
 intro ba r M hA t ht;refine cb fun X H₀ L₀=>?_;refine ca (dD ba r _ hA _) ?_;refine al fun b1=>?_;refine cv (fun h1=>?_) (fun h1=>?_);have hn:=bM h1;refine re ?_;exact rs ⟨by rw[q8 hn];rfl,r,_,rfl,rfl,hA,by rw[q8 hn]⟩;have hn:=bV h1;refine dv 9 [0,1,2,3,5,6,7,8,104] (k_ (d_ r_)) ?_;refine oA (zi ba r _ hA _ _) ?_;refine ca (zi ba r _ hA _ _) ?_;refine fi (fun h2=>?_) (fun h2=>?_);refine ca (ih ba r _ hA _ (fS hn ht)) ?_;intro r2 N2 hA2 hr2;refine fi (fun h3=>?_) (fun h3=>?_);refine re ?_;exact rs ⟨by rw[ny hn h2,AL h3];rfl,r2,_,rfl,rfl,hA2,by rw[ny hn h2,AL h3];exact hr2⟩;refine ca (jq ba r2 _ hA2 _ _ _) ?_;intro r3 N3 hA3 hr3;refine re ?_;exact rs ⟨by rw[ny hn h2,AM h3,<-hr2];rfl,r3,_,rfl,rfl,hA3,by rw[ny hn h2,AM h3,<-hr2];exact hr3⟩;refine ca (ih ba r _ hA _ (fS hn ht)) ?_;intro r2 N2 hA2 hr2;refine fi (fun h3=>?_) (fun h3=>?_);refine re ?_;exact rs ⟨by rw[nz hn h2,xq h3];rfl,r2,_,rfl,rfl,hA2,by rw[nz hn h2,xq h3];exact hr2⟩;refine ca (jq ba r2 _ hA2 _ _ _) ?_;intro r3 N3 hA3 hr3;refine re ?_;exact rs ⟨by rw[nz hn h2,xr h3,<-hr2];rfl,r3,_,rfl,rfl,hA3,by rw[nz hn h2,xr h3,<-hr2];exact hr3⟩
theorem BZ (key:Int):∀n,AQ key n
 |0=>fun _ _ _ _ _ h=>absurd h (Nat.not_lt_zero _)
 |n+1=>I0 key n (BZ key n)
section
variable (ba:Nat) (r:cX) (M:aO) (hA:aR ba r M)
include ba r M hA
theorem Oy (t key:Int):aN prog 270 [.pointer (some ⟨ba,0,none⟩),.int .i64 t,.int .i64 key] [ak r.rows] [M] (gL ba ((r.p.vW t key).2.2.2) (.tuple #[.int .i64 (r.p.vW t key).1,.int .i64 (r.p.vW t key).2.1,.int .i64 (r.p.vW t key).2.2.1])):=by
 refine cb fun X H₀ L₀=>?_;refine ca (KS ba r _ hA _) ?_;refine cv (fun h1=>?_) (fun h1=>?_);refine re ?_;exact rs ⟨by rw[KP (bM h1)];rfl,r,_,rfl,rfl,hA,by rw[KP (bM h1)]⟩;have hn:=bV h1;refine ca (BZ _ (Ar.fuel _) ba r _ hA _ (Nat.lt_succ_self _)) ?_;intro r2 N2 hA2 hr2;refine fi (fun h2=>?_) (fun h2=>?_);refine re ?_;exact rs ⟨by rw[AO hn h2];rfl,r2,_,rfl,rfl,hA2,by rw[AO hn h2];exact hr2⟩;refine re ?_;exact rs ⟨by rw[FH hn h2];rfl,r2,_,rfl,rfl,hA2,by rw[FH hn h2];exact hr2⟩
theorem I1 (t:Int):aN prog 245 [.pointer (some ⟨ba,0,none⟩),.int .i64 t] [ak r.rows] [M] (gL ba ((r.p.half t).2.2.2.2) (.tuple #[.int .i64 (r.p.half t).1,.int .i64 (r.p.half t).2.1,.int .i64 (r.p.half t).2.2.1,.int .i64 (r.p.half t).2.2.2.1])):=by
 refine cb fun X H₀ L₀=>?_;refine ca (KS ba r _ hA _) ?_;refine cv (fun h1=>?_) (fun h1=>?_);refine re ?_;exact rs ⟨by rw[BX (bM h1)];rfl,r,_,rfl,rfl,hA,by rw[BX (bM h1)]⟩;have hn:=bV h1;refine ca (Dl ba r _ hA _) ?_;refine cv (fun h2=>?_) (fun h2=>?_);refine re ?_;exact rs ⟨by rw[uw hn (bM h2)];rfl,r,_,rfl,rfl,hA,by rw[uw hn (bM h2)]⟩;have h2:=bV h2;refine ca (Oy ba r _ hA _ _) ?_;intro r2 N2 hA2 hr2;refine fi (fun h3=>?_) (fun h3=>?_);refine re ?_;exact rs ⟨by rw[ux hn h2 h3];rfl,r2,_,rfl,rfl,hA2,by rw[ux hn h2 h3];exact hr2⟩;refine re ?_;exact rs ⟨by rw[xw hn h2 h3];rfl,r2,_,rfl,rfl,hA2,by rw[xw hn h2 h3];exact hr2⟩
end
end Go.Proofs.YtcnohdmimheoaaaGreat
namespace Go.Proofs.YtcnohdmimheoaaaGreat
open E Go.Proofs.Tryz
namespace Ar
def gl (A:Ar) (lo hi:Int) (n:Nat) (left t:Int):List Pr×Int:=if lo<(A.node t).p.k then fg A lo hi n (left-1) (A.node t).left t else([],left-1)
def gm (A:Ar) (lo hi:Int) (t:Int):List Pr:=if lo<=(A.node t).p.k/\(A.node t).p.k<=hi then[(A.node t).p]else[]
def gr (A:Ar) (lo hi:Int) (n:Nat) (l1 t:Int):List Pr×Int:=if(A.node t).p.k<hi then fg A lo hi n l1 (A.node t).right t else([],l1)
section
variable {A:Ar} {lo hi left t bound:Int} {n:Nat}
include A lo hi left t bound n
theorem kF (h:A.isNode t=false\/bound<=t\/left=0):fg A lo hi (n+1) left t bound=([],left):=by
 conv=>lhs;unfold fg
 rw[if_pos h]
theorem AT:fg A lo hi (n+1) left t bound=
  if A.isNode t=false\/bound<=t\/left=0 then([],left)
  else
   let(a,l1):=if lo<(A.node t).p.k then fg A lo hi n (left-1) (A.node t).left t else([],left-1)
   let(b,l2):=if(A.node t).p.k<hi then fg A lo hi n l1 (A.node t).right t else([],l1)
   (a++((if lo<=(A.node t).p.k/\(A.node t).p.k<=hi then[(A.node t).p]else[])++b),l2):=by
 delta fg
 rfl
theorem uA (h1:A.isNode t=true) (h2:¬bound<=t) (h3:¬left=0):
  fg A lo hi (n+1) left t bound=((A.gl lo hi n left t).1++(A.gm lo hi t++(A.gr lo hi n (A.gl lo hi n left t).2 t).1),(A.gr lo hi n (A.gl lo hi n left t).2 t).2):=by
 rw[AT,if_neg];show(let(a,l1):=A.gl lo hi n left t;let(b,l2):=A.gr lo hi n l1 t;(a++(A.gm lo hi t++b),l2))=_;generalize A.gl lo hi n left t=q;rcases q with⟨a,b⟩;show(let(b',l2):=A.gr lo hi n b t;(a++(A.gm lo hi t++b'),l2))=_;generalize A.gr lo hi n b t=q;rcases q with⟨c,d⟩;rfl;rintro(h|h|h);rw[h1]at h;cases h;exact h2 h;exact h3 h
end
theorem qd {A:Ar} {lo hi:Int}:∀(n:Nat) (left t bound:Int),0<=left->((fg A lo hi n left t bound).1.length:Int)+(fg A lo hi n left t bound).2<=left/\0<=(fg A lo hi n left t bound).2
 |0,left,t,bound,h=>by unfold fg;simpa using h
 |n+1,left,t,bound,h=>by
  by_cases h0:A.isNode t=false\/bound<=t\/left=0;rw[kF h0];simpa using h
  have h1:A.isNode t=true:=by
   cases h4:A.isNode t
   exact absurd (.inl h4) h0;rfl
  rw[uA h1 (fun e=>h0 (.inr (.inl e))) (fun e=>h0 (.inr (.inr e)))];have hl:0<=left-1:=by omega
  have g1:((A.gl lo hi n left t).1.length:Int)+(A.gl lo hi n left t).2<=left-1/\0<=(A.gl lo hi n left t).2:=by
   unfold gl;split;exact qd n _ _ _ hl;simpa using hl
  have g2:((A.gr lo hi n (A.gl lo hi n left t).2 t).1.length:Int)+(A.gr lo hi n (A.gl lo hi n left t).2 t).2<=(A.gl lo hi n left t).2/\0<=(A.gr lo hi n (A.gl lo hi n left t).2 t).2:=by
   unfold gr;split;exact qd n _ _ _ g1.2;simpa using g1.2
  have g3:(A.gm lo hi t).length<=1:=by unfold gm;split<;>simp
  refine⟨?_,g2.2⟩;simp only[List.length_append];omega
section
variable {A:Ar} {lo hi:Int}
include A lo hi
theorem LY {n:Nat} {left t:Int} (h:1<=left):((A.gl lo hi n left t).1.length:Int)+(A.gl lo hi n left t).2<=left-1/\0<=(A.gl lo hi n left t).2:=by
 unfold gl;split;exact qd n _ _ _ (by omega);simp;omega
theorem LZ {t:Int}:(A.gm lo hi t).length<=1:=by unfold gm;split<;>simp
theorem AU {n:Nat} {left t:Int} (h:lo<(A.node t).p.k):A.gl lo hi n left t=fg A lo hi n (left-1) (A.node t).left t:=if_pos h
theorem FN {n:Nat} {left t:Int} (h:¬lo<(A.node t).p.k):A.gl lo hi n left t=([],left-1):=if_neg h
theorem AV {n:Nat} {left t:Int} (h:(A.node t).p.k<hi):A.gr lo hi n left t=fg A lo hi n left (A.node t).right t:=if_pos h
theorem FO {n:Nat} {left t:Int} (h:¬(A.node t).p.k<hi):A.gr lo hi n left t=([],left):=if_neg h
theorem L3 {t:Int} (h1:lo<=(A.node t).p.k) (h2:(A.node t).p.k<=hi):A.gm lo hi t=[(A.node t).p]:=if_pos ⟨h1,h2⟩
theorem K1 {t:Int} (h:¬(lo<=(A.node t).p.k/\(A.node t).p.k<=hi)):A.gm lo hi t=[]:=if_neg h
end
section
variable {A:Ar} {t lo hi:Int}
include A t lo hi
theorem wg (h:lo<=hi):A.range t lo hi=(A.fg lo hi (fuel t) 60000 t 9223372036854775807).1:=if_pos h
theorem zj (h:¬lo<=hi):A.range t lo hi=[]:=if_neg h
theorem wh:(A.range t lo hi).length<=60000:=by
 unfold range;split;have:=qd (A:=A) (lo:=lo) (hi:=hi) (fuel t) 60000 t 9223372036854775807 (by omega);omega;simp
end
end Ar
abbrev Yl:=List Pr->aO->Prop
def xz (f:FuncId) (c:Nat) (Y:Yl):Prop:=∀(l:List Pr) (p:Pr) (My:aO),Y l My->l.length<60000->
 aN prog f [p.val,.pointer (some ⟨c,0,none⟩)] [] [My] (fun _ Γ M'=>∃N,Γ=[]/\M'=[N]/\Y (l++[p]) N)
def B0 (wb ba:Nat) (lo hi left:Int) (f:FuncId) (c:Nat):aO:=[(wb,.cells #[.pointer (some ⟨ba,0,none⟩),.int .i64 lo,.int .i64 hi,.int .i64 left,.func (.func f) #[] #[.pointer (some ⟨c,0,none⟩)]] 289 (0,0))]
abbrev FP (lo hi:Int) (f:FuncId) (n:Nat):Prop:=0<n->∀(ba:Nat) (r:cX) (M:aO) (hA:aR ba r M) (wb c:Nat) (Y:Yl) (hY:xz f c Y) (l:List Pr) (My:aO) (hYl:Y l My) (left t bound:Int),t.toNat<n\/bound<=t->
 0<=left->(l.length:Int)+left<=60000->
 aN prog 255 [.pointer (some ⟨wb,0,none⟩),.int .i64 t,.int .i64 bound] [ak r.rows] [B0 wb ba lo hi left f c,M,My]
  (fun _ Γ M'=>∃N,Γ=[]/\M'=[B0 wb ba lo hi (r.p.fg lo hi n left t bound).2 f c,M,N]/\Y (l++(r.p.fg lo hi n left t bound).1) N)
def Oz (c:Nat):Yl:=fun l N=>∃a k Ma,N=[(c,.cells #[.slice a l.length k] 24 (0,0))]++Ma/\bR 43 2 (l.map js) a k Ma
def OA (c:Nat):Yl:=fun l N=>N=[(c,.cells #[.int .i64 (l.length:Int)] 3 (0,0))]
def FQ (l:List Pr) (L:E.Loc) (v:Value) (Γ:List ag) (M':E.Loc):Prop:=∃a c N,v= .slice a l.length c/\Γ=[]/\M'=L++[N]/\bR 43 2 (l.map js) a c N
end Go.Proofs.YtcnohdmimheoaaaGreat
namespace Go.Proofs.YtcnohdmimheoaaaGreat
open E Ar Go.Proofs.Tryz
theorem t150:dg prog 150=some (true,1,8,.pointer none):=by kernel_rfl
theorem OB:kW prog 289=some [(0,1,true),(1,1,true),(2,1,true),(3,1,true),(4,1,true)]:=by kernel_rfl
theorem OC:ah prog 224:=ah.mk' func224 rfl rfl
theorem OD:ah prog 254:=ah.mk' func254 rfl rfl
theorem FR (c:Nat):xz 224 c (Oz c):=by
 rintro l p My ⟨a,k,Ma,rfl,hO⟩ hlen;refine cb fun X H₀ L₀=>?_;refine At.Kz ?_;refine bx fun b1=>?_;refine al fun b2=>?_;refine lM (dk rfl underlying24 t43 rfl rfl hO (by simp) (i:=2) rfl rfl (news:=[js p]) (by simp[js]) (fc.loc (i:=0) rfl (m:=2) rfl) rfl rfl rfl (by omega) (by unfold maxLen;omega)) ?_;rintro _ _ _ ⟨a2,c2,M2,rfl,ow,rfl,rfl⟩;refine mc ?_;refine At.front 2 rfl ?_;refine At.front 2 rfl ?_;refine At.cH ?_;exact At.pJ (Γr:=[]) (M:=[_]) rfl aT.nil (ix 1 rfl) (fun _ _=>trivial) (k_ (d_ r_)) ⟨_,rfl,rfl,a2,c2,M2,by rw[List.length_append];rfl,by simpa using ow⟩
theorem FT (c:Nat):xz 254 c (OA c):=by
 rintro l p My rfl hlen;refine cb fun X H₀ L₀=>?_;refine bx fun b1=>?_;refine mc ?_;exact At.pJ (Γr:=[]) (M:=[_]) rfl aT.nil (ix 1 rfl) (fun _ _=>trivial) (k_ r_) ⟨_,rfl,rfl,by show _=[(c,Obj.cells #[.int .i64 (((l++[p]).length:Nat):Int)] 3 (0,0))];rw[List.length_append];rfl⟩
theorem Dm (lo hi:Int) (f:FuncId) (hf:ah prog f) (n:Nat) (ih:FP lo hi f n):FP lo hi f (n+1):=by
 intro _ ba r M hA wb c Y hY l My hYl left t bound hb hl0 hl1;refine cb fun X H₀ L₀=>?_;refine ca (dD ba r _ hA _) ?_;refine al fun b1=>?_;refine mc ?_;refine At.split (d:=19) rfl (fun h1=>?_) (fun h1=>?_);refine re ?_;exact rs ⟨My,rfl,by rw[kF (.inl (bM h1))],by rw[kF (.inl (bM h1))];simpa using hYl⟩;refine sp 24 (fun h2=>?_) (fun h2=>?_);refine re ?_;exact rs ⟨My,rfl,by rw[kF (.inr (.inl (by omega)))],by rw[kF (.inr (.inl (by omega)))];simpa using hYl⟩;refine fi (fun h3=>?_) (fun h3=>?_);refine re ?_;exact rs ⟨My,rfl,by rw[kF (.inr (.inr (by omega)))],by rw[kF (.inr (.inr (by omega)))];simpa using hYl⟩;have hn:=bV h1;have hn1:=iq hn;have hg:=uA (lo:=lo) (hi:=hi) (n:=n) hn (by omega) h3;have hgl:=LY (A:=r.p) (lo:=lo) (hi:=hi) (n:=n) (t:=t) (show 1<=left by omega);refine At.skip ?_;refine At.then ?_;refine At.seq ?_;refine At.region ?_;refine At.bu 2 rfl rfl ?_;refine At.sF OB t3 rfl rfl rfl (Rd.loc (i:=2) rfl rfl) rfl rfl ?_;refine At.quiet (Kx rfl rfl (by omega) (by omega)) rfl ?_;refine At.bu 1 rfl rfl ?_;refine At.quiet (aq OB rfl rfl rfl) rfl ?_;refine At.bC (aw t3 rfl rfl (i:=2) rfl rfl rfl rfl) ?_;rintro _ _ _ ⟨rfl,rfl⟩;refine At.nil ?_;refine At.then ?_;refine At.front 3 rfl ?_;refine At.front 2 rfl ?_;refine At.front 3 rfl ?_;refine At.C2 (ι:=aO) (.s (.s (.s .z))) [38,39,40,41,42,43,44,45,46,47,48,49,50] (fun N=>[]) (fun N=>[]) (fun N=>[B0 wb ba lo hi (r.p.gl lo hi n left t).2 f c,M,N]) (fun N=>Y (l++(r.p.gl lo hi n left t).1) N) ?_ ?_;refine dw 7 [] r_ ?_;refine fi (fun h4=>?_) (fun h4=>?_);refine ca (ih (by omega) ba r _ hA wb c Y hY l My hYl (left-1) _ t (by omega) (by omega) (by omega)) ?_;rintro _ _ _ ⟨N1,rfl,rfl,hY1⟩;refine At.nil ?_;rw[<-AU (A:=r.p) (n:=n) (left:=left) h4];refine At.front 2 rfl ?_;refine At.front 2 rfl ?_;refine At.front 2 rfl ?_;refine At.then ?_;exact At.eh N1 (by rw[AU h4];exact hY1) (bc.meet 13 trivial rfl rfl) (fun _ h=>h) (k_ (k_ (k_ r_)));refine At.skip ?_;rw[show left-1=(r.p.gl lo hi n left t).2 from by rw[FN h4]];refine At.front 2 rfl ?_;refine At.front 2 rfl ?_;refine At.front 2 rfl ?_;refine At.then ?_;exact At.eh My (by rw[FN h4];simpa using hYl) (bc.meet 8 trivial rfl rfl) (fun _ h=>h) (k_ (k_ (k_ r_)));intro N hY1;refine At.front 2 rfl ?_;refine At.front 2 rfl ?_;refine At.front 2 rfl ?_;refine At.C2 (ι:=aO) (.s (.s (.s .z))) [51,52,53,54,55,56,57,58,59,60,61,62,63,64,65,66,67,68,69,70,71,72,73,74,75] (fun N=>[]) (fun N=>[]) (fun N=>[B0 wb ba lo hi (r.p.gl lo hi n left t).2 f c,M,N]) (fun N=>Y (l++(r.p.gl lo hi n left t).1++r.p.gm lo hi t) N) ?_ ?_;refine dw 16 [] r_ ?_;refine mc ?_;refine aQ.eV (d:=59) rfl (fun h5=>?_) (fun h5=>?_);refine fi (fun h7=>?_) (fun h7=>?_)
 refine dw 6 [] r_ ?_;refine mc ?_;refine At.front 2 rfl ?_;refine At.rS hf rfl rfl rfl (hY _ _ _ hY1 (by simp only[List.length_append];omega)) (fun _ _=>trivial) (List.Perm.refl _) rfl ?_;rintro _ _ _ ⟨N2,rfl,rfl,hY2⟩;refine At.nil ?_;refine At.front 0 rfl ?_;refine At.front 2 rfl ?_;refine At.front 2 rfl ?_;refine At.then ?_;exact At.eh N2 (by rw[L3 (by omega) (by omega)];exact hY2) (bc.meet 26 trivial rfl rfl) (fun _ h=>h) (k_ (k_ (k_ r_)));refine At.skip ?_;refine At.front 2 rfl ?_;refine At.front 2 rfl ?_;refine At.front 2 rfl ?_;refine At.then ?_;exact At.eh N (by rw[K1 (fun h=>by have:=h.2;omega)];simpa using hY1) (bc.meet 19 trivial rfl rfl) (fun _ h=>h) (k_ (k_ (k_ r_)));refine aQ.shut rfl rfl rfl rfl (Calm.then (Calm.then bG.calm)) ?_;refine aQ.shut rfl rfl rfl rfl (Calm.then (Calm.then bG.calm)) ?_;refine aQ.shut rfl rfl rfl rfl (Calm.then (Calm.then bG.calm)) ?_;refine aQ.shut rfl rfl rfl rfl (Calm.then (Calm.then bG.calm)) ?_;refine aQ.shut rfl rfl rfl rfl (Calm.then (Calm.then bG.calm)) ?_;refine aQ.shut rfl rfl rfl rfl (Calm.then (Calm.then bG.calm)) ?_;refine aQ.shut rfl rfl rfl rfl (Calm.then (Calm.then bG.calm)) ?_;refine aQ.done ?_;refine At.bu 2 rfl rfl ?_;refine At.nil ?_;refine At.then ?_;refine At.vH rfl ?_;refine At.skip ?_;refine At.front 2 rfl ?_;refine At.front 2 rfl ?_;refine At.front 2 rfl ?_;refine At.then ?_;exact At.eh N (by rw[K1 (fun h=>by have:=h.1;omega)];simpa using hY1) (bc.meet 19 trivial rfl rfl) (fun _ h=>h) (k_ (k_ (k_ r_)));intro N hY2;refine dw 7 [] r_ ?_;refine fi (fun h6=>?_) (fun h6=>?_);refine ca (ih (by omega) ba r _ hA wb c Y hY _ N hY2 _ _ t (by omega) hgl.2 (by have:=LZ (A:=r.p) (lo:=lo) (hi:=hi) (t:=t);simp only[List.length_append];omega)) ?_;rintro _ _ _ ⟨N4,rfl,rfl,hY4⟩;refine re ?_;exact rs ⟨N4,rfl,by rw[hg,AV h6],by rw[hg,AV h6];simpa[List.append_assoc]using hY4⟩;refine re ?_;exact rs ⟨N,rfl,by rw[hg,FO h6],by rw[hg,FO h6];simpa[List.append_assoc]using hY2⟩
theorem FU (lo hi:Int) (f:FuncId) (hf:ah prog f):∀n,FP lo hi f n
 |0=>fun h=>absurd h (Nat.lt_irrefl _)
 |n+1=>Dm lo hi f hf n (FU lo hi f hf n)
section
variable (ba:Nat) (r:cX) (M:aO) (hA:aR ba r M)
include ba r M hA
theorem B1 (f:FuncId) (hf:ah prog f) (c:Nat) (Y:Yl) (hY:xz f c Y) (My:aO) (hYl:Y [] My) (t lo hi:Int):aN prog 223 [.pointer (some ⟨ba,0,none⟩),.int .i64 t,.int .i64 lo,.int .i64 hi,.func (.func f) #[] #[.pointer (some ⟨c,0,none⟩)]] [ak r.rows] [M,My] (fun _ Γ M'=>∃N,Γ=[]/\M'=[M,N]/\Y (r.p.range t lo hi) N):=by
 refine cb fun X H₀ L₀=>?_;refine fi (fun h1=>?_) (fun h1=>?_);refine al fun b1=>?_;refine ca (FU _ _ f hf (Ar.fuel t) (Nat.succ_pos _) ba r _ hA _ c Y hY [] My hYl 60000 t _ (.inl (Nat.lt_succ_self _)) (by decide) (by decide)) ?_;rintro _ _ _ ⟨N,rfl,rfl,hY2⟩;refine re ?_;exact rs ⟨N,rfl,rfl,by rw[wg h1];exact hY2⟩;refine re ?_;exact rs ⟨My,rfl,rfl,by rw[zj h1];exact hYl⟩
theorem zn (t lo hi:Int):aN prog 185 [.pointer (some ⟨ba,0,none⟩),.int .i64 t,.int .i64 lo,.int .i64 hi] [ak r.rows] [M] (FQ (r.p.range t lo hi) [M]):=by
 refine cb fun X H₀ L₀=>?_;refine al fun b1=>?_;refine ca (B1 ba r _ hA 224 OC _ (Oz _) (FR _) _ ⟨none,0,[],rfl,bR.nil _ _⟩ _ _ _) ?_;rintro _ _ _ ⟨_,rfl,rfl,a,k,Ma,rfl,hO⟩;refine mc ?_;refine At.front 1 rfl ?_;refine At.Kz ?_;refine re ?_;exact rs ⟨a,k,Ma,rfl,rfl,rfl,hO⟩
theorem FV (t lo hi:Int):aN prog 222 [.pointer (some ⟨ba,0,none⟩),.int .i64 t,.int .i64 lo,.int .i64 hi] [ak r.rows] [M] (fun v Γ M'=>v= .int .i64 ((r.p.range t lo hi).length:Int)/\Γ=[]/\M'=[M]):=by
 refine cb fun X H₀ L₀=>?_;refine al fun b1=>?_;refine ca (B1 ba r _ hA 254 OD _ (OA _) (FT _) _ rfl _ _ _) ?_;rintro _ _ _ ⟨_,rfl,rfl,rfl⟩;refine re ?_;exact rs ⟨rfl,rfl,rfl⟩
theorem L4 (t:Int):aN prog 132 [.pointer (some ⟨ba,0,none⟩),.int .i64 t] [ak r.rows] [M] (FQ (r.p.all t) [M]):=by
 refine cb fun X H₀ L₀=>?_;refine ca (zn ba r _ hA _ _ _) ?_;rintro _ _ _ ⟨a,k,Mr,rfl,rfl,rfl,hR⟩;refine re ?_;exact rs ⟨a,k,Mr,rfl,rfl,rfl,hR⟩
end
end Go.Proofs.YtcnohdmimheoaaaGreat
namespace Go.Proofs.YtcnohdmimheoaaaGreat
open E Go.Proofs.Tryz
structure Ix where
 cF:iH
 root:Int
 ta:Option Addr
 tn:Nat
 tc:Nat
 calls:Int
 oa:Option Addr
 oc:Nat
 ord:List Int
 steps:Int
 splits:Int
 aA:Int
def ao (xb ba:Nat) (q:Ix):aO:=[(xb,.cells #[.pointer (some ⟨ba,0,none⟩),.int .i64 q.cF.high,.int .i64 q.cF.low,.int .i64 q.cF.cont,.int .i64 q.cF.gQ,.int .i64 q.cF.jN,.int .i64 q.root,
 .slice q.ta q.tn q.tc,.int .i64 q.calls,.slice q.oa q.ord.length q.oc,.int .i64 q.steps,.int .i64 q.splits,.int .i64 q.aA] 153 (0,0))]
def Bs.val (b:Bs):Value:=.agg #[.int .i64 b.id,.int .i64 b.kind,.int .i64 b.af,.int .i64 b.stat,.int .i64 b.home]
def MB.val (m:MB):Value:=.agg #[.int .i64 m.b.id,.int .i64 m.b.kind,.int .i64 m.b.af,.int .i64 m.b.stat,.int .i64 m.b.home,.int .i64 m.state]
def N9.val (s:N9):Value:=.agg #[.int .i64 s.id,.int .i64 s.lo,.int .i64 s.hi,.int .i64 s.result,.bool s.quiet,.int .i64 s.call]
def Ro.val (r:Ro):Value:=.agg #[.int .i64 r.id,.int .i64 r.key,.int .i64 r.left,.int .i64 r.right,.int .i64 r.join]
def Pl.val (p:Pl):Value:=.agg #[.int .i64 p.id,.int .i64 p.dZ,.int .i64 p.ai,.int .i64 p.parent,.int .i64 p.cell,.int .i64 p.lock,.int .i64 p.fu]
def Fo.val (f:Fo):Value:=.agg #[.int .i64 f.b.id,.int .i64 f.b.kind,.int .i64 f.b.af,.int .i64 f.b.stat,.int .i64 f.b.home,.int .i64 f.cell,.int .i64 f.up,.int .i64 f.dW,.bool f.cY]
def Xj (b:Bs) (m:MB):Value:=.agg #[.int .i64 b.id,.int .i64 b.kind,.int .i64 b.af,.int .i64 b.stat,.int .i64 b.home,.int .i64 m.b.id,.int .i64 m.b.kind,.int .i64 m.b.af,.int .i64 m.b.stat,.int .i64 m.b.home,.int .i64 m.state]
def Xk (b:Bs) (s:N9):Value:=.agg #[.int .i64 b.id,.int .i64 b.kind,.int .i64 b.af,.int .i64 b.stat,.int .i64 b.home,.int .i64 s.id,.int .i64 s.lo,.int .i64 s.hi,.int .i64 s.result,.bool s.quiet,.int .i64 s.call]
def fx (A:Ar) (p:iH) (b:Bs) (r:Int):Int:=if r= -1\/A.val r 0=0 then b.stat else cS p b.stat 3
theorem uB {A:Ar} {p:iH} {b:Bs} {r:Int} (h:r= -1\/A.val r 0=0):fx A p b r=b.stat:=if_pos h
theorem zp {A:Ar} {p:iH} {b:Bs} {r:Int} (h1:¬r= -1) (h2:¬A.val r 0=0):fx A p b r=cS p b.stat 3:=if_neg (fun h=>h.elim h1 h2)
end Go.Proofs.YtcnohdmimheoaaaGreat
namespace Go.Proofs.YtcnohdmimheoaaaGreat
open E Ar Go.Proofs.Tryz
theorem t226:dg prog 226=some (false,11,88,.agg #[.int .i64 0,.int .i64 0,.int .i64 0,.int .i64 0,.int .i64 0,.int .i64 0,.int .i64 0,.int .i64 0,.int .i64 0,.bool false,.int .i64 0]):=by kernel_rfl
theorem t231:dg prog 231=some (false,11,88,.agg #[.int .i64 0,.int .i64 0,.int .i64 0,.int .i64 0,.int .i64 0,.int .i64 0,.int .i64 0,.int .i64 0,.int .i64 0,.int .i64 0,.int .i64 0]):=by kernel_rfl
theorem OE:kW prog 226=some [(0,5,false),(5,6,false)]:=by kernel_rfl
theorem OF:kW prog 231=some [(0,5,false),(5,6,false)]:=by kernel_rfl
section
variable (xb ba:Nat) (q:Ix) (r:cX) (M:aO) (hA:aR ba r M) (id:Int)
include xb ba q r M hA id
theorem ea:aN prog 161 [.pointer (some ⟨xb,0,none⟩),.int .i64 id] [ak r.rows] [ao xb ba q,M] (fun v Γ M'=>v=(r.p.base id).val/\Γ=[]/\M'=[ao xb ba q,M]):=by
 refine cb fun X H₀ L₀=>?_;refine al fun b1=>?_;refine dv 25 [0,1,2,3,4,5,7,8,9,10,11,13,14,15,16,17,19,20,21,22,23,106,112,118,124] (k_ (k_ (d_ r_))) ?_;refine gf (ik ba r _ hA _) ?_;refine gf (c6 ba r _ hA _ _) ?_;refine gf (c6 ba r _ hA _ _) ?_;refine oA (c6 ba r _ hA _ _) ?_;refine re ?_;exact rs ⟨rfl,rfl,rfl⟩
theorem oe:aN prog 199 [.pointer (some ⟨xb,0,none⟩),.int .i64 id] [ak r.rows] [ao xb ba q,M] (fun v Γ M'=>v=(r.p.main id).val/\Γ=[]/\M'=[ao xb ba q,M]):=by
 refine cb fun X H₀ L₀=>?_;refine al fun b1=>?_;refine mc ?_;refine At.draw 8 (.q 0 (.q 1 (.q 3 (.q 4 (.q 5 (.q 7 (.t 2 (.o 6 (.e)) 6 (.o 2 (.e))))))))) (_::L₀) (k_ (d_ (d_ r_))) mixed (by kernel_rfl) rfl ?_;refine mc ?_;refine aQ.two ?_ ?_;refine oA (ea xb ba q r _ hA _) ?_;refine mc ?_;refine yI rfl (bF.eJ (aY t150 rfl (Rd.loc (i:=0) rfl rfl))) ?_;refine ca (c6 ba r _ hA _ _) ?_;refine re ?_;exact rs ⟨rfl,rfl,rfl⟩;refine oM rfl (bF.eJ (aY t150 rfl (Rd.loc (i:=1) rfl rfl))) ?_;refine oA (ea xb ba q r _ hA _) ?_;refine ca (c6 ba r _ hA _ _) ?_;refine re ?_;exact rs ⟨rfl,rfl,rfl⟩
theorem uC:aN prog 219 [.pointer (some ⟨xb,0,none⟩),.int .i64 id] [ak r.rows] [ao xb ba q,M] (fun v Γ M'=>v=(r.p.store id).val/\Γ=[]/\M'=[ao xb ba q,M]):=by
 refine cb fun X H₀ L₀=>?_;refine al fun b1=>?_;refine dv 32 [0,1,2,3,4,5,7,8,9,10,11,13,14,15,16,17,19,20,21,22,23,26,27,28,29,30,106,112,118,124,25,131] (k_ (k_ (d_ r_))) ?_;refine gf (c6 ba r _ hA _ _) ?_;refine gf (c6 ba r _ hA _ _) ?_;refine gf (c6 ba r _ hA _ _) ?_;refine gf (c6 ba r _ hA _ _) ?_;refine oA (c6 ba r _ hA _ _) ?_;refine re ?_;exact rs ⟨rfl,rfl,rfl⟩
theorem ir:aN prog 133 [.pointer (some ⟨xb,0,none⟩),.int .i64 id] [ak r.rows] [ao xb ba q,M] (fun v Γ M'=>v=(r.p.aj id).val/\Γ=[]/\M'=[ao xb ba q,M]):=by
 refine cb fun X H₀ L₀=>?_;refine al fun b1=>?_;refine dv 25 [0,1,2,3,4,5,7,8,9,10,11,13,14,15,16,17,19,20,21,22,23,106,112,118,124] (k_ (k_ (d_ r_))) ?_;refine gf (c6 ba r _ hA _ _) ?_;refine gf (c6 ba r _ hA _ _) ?_;refine gf (c6 ba r _ hA _ _) ?_;refine oA (c6 ba r _ hA _ _) ?_;refine re ?_;exact rs ⟨rfl,rfl,rfl⟩
theorem sT:aN prog 184 [.pointer (some ⟨xb,0,none⟩),.int .i64 id] [ak r.rows] [ao xb ba q,M] (fun v Γ M'=>v=(r.p.aa id).val/\Γ=[]/\M'=[ao xb ba q,M]):=by
 refine cb fun X H₀ L₀=>?_;refine al fun b1=>?_;refine dv 37 [0,1,2,3,4,5,7,8,9,10,11,13,14,15,16,17,19,20,21,22,23,25,26,27,28,29,31,32,33,34,35,106,112,118,124,130,136] (k_ (k_ (d_ r_))) ?_;refine gf (c6 ba r _ hA _ _) ?_;refine gf (c6 ba r _ hA _ _) ?_;refine gf (c6 ba r _ hA _ _) ?_;refine gf (c6 ba r _ hA _ _) ?_;refine gf (c6 ba r _ hA _ _) ?_;refine oA (c6 ba r _ hA _ _) ?_;refine re ?_;exact rs ⟨rfl,rfl,rfl⟩
theorem qe:aN prog 183 [.pointer (some ⟨xb,0,none⟩),.int .i64 id] [ak r.rows] [ao xb ba q,M] (fun v Γ M'=>v=Xj (r.p.base id) (r.p.main (r.p.val id 3))/\Γ=[]/\M'=[ao xb ba q,M]):=by
 refine cb fun X H₀ L₀=>?_;refine al fun b1=>?_;refine mc ?_;refine At.draw 10 (.q 0 (.q 1 (.q 3 (.q 4 (.q 5 (.q 6 (.q 8 (.t 2 (.o 7 (.o 9 (.e))) 7 (.o 2 (.o 9 (.e))))))))))) (_::L₀) (k_ (d_ (d_ r_))) mixed (by kernel_rfl) rfl ?_;refine mc ?_;refine aQ.two ?_ ?_;refine gf (ea xb ba q r _ hA _) ?_;refine mc ?_;refine oM rfl (bF.eJ (aY t150 rfl (Rd.loc (i:=0) rfl rfl))) ?_;refine oA (c6 ba r _ hA _ _) ?_;refine ca (oe xb ba q r _ hA _) ?_;rintro _ _ _ ⟨rfl,rfl,rfl⟩;generalize r.p.base id=bb;generalize r.p.main (r.p.val id 3)=mm;obtain⟨b1,b2,b3,b4,b5⟩:=bb;obtain⟨⟨m1,m2,m3,m4,m5⟩,m6⟩:=mm;refine At.fZ 7 (.agg #[.int .i64 b1,.int .i64 b2,.int .i64 b3,.int .i64 b4,.int .i64 b5]) rfl rfl ?_;refine At.fZ 15 (.agg #[.int .i64 m1,.int .i64 m2,.int .i64 m3,.int .i64 m4,.int .i64 m5,.int .i64 m6]) rfl rfl ?_;refine At.quiet (lW t231 OF rfl rfl) rfl ?_;refine At.fZ 16 (.agg #[.int .i64 b1,.int .i64 b2,.int .i64 b3,.int .i64 b4,.int .i64 b5,.int .i64 m1,.int .i64 m2,.int .i64 m3,.int .i64 m4,.int .i64 m5,.int .i64 m6]) rfl (rfl) ?_;refine At.bC (aw t231 rfl rfl (i:=2) rfl rfl rfl rfl) ?_;rintro _ _ _ ⟨rfl,rfl⟩;refine At.nil ?_;refine At.then ?_;refine At.ret ?_;refine At.front 1 rfl ?_;refine At.front 1 rfl ?_;exact At.results (Γr:=[]) (M:=[_,_]) rfl (aT.cons (dU.yE rfl t231 (fc.loc (i:=2) rfl (m:=11) rfl) rfl) aT.nil) (.head _) (fun _ _=>trivial) (k_ (k_ (d_ r_))) ⟨rfl,rfl,rfl⟩;refine oM rfl (bF.eJ (aY t150 rfl (Rd.loc (i:=1) rfl rfl))) ?_;refine gf (ea xb ba q r _ hA _) ?_;refine oA (c6 ba r _ hA _ _) ?_;refine ca (oe xb ba q r _ hA _) ?_;rintro _ _ _ ⟨rfl,rfl,rfl⟩;generalize r.p.base id=bb;generalize r.p.main (r.p.val id 3)=mm;obtain⟨b1,b2,b3,b4,b5⟩:=bb;obtain⟨⟨m1,m2,m3,m4,m5⟩,m6⟩:=mm;refine At.fZ 7 (.agg #[.int .i64 b1,.int .i64 b2,.int .i64 b3,.int .i64 b4,.int .i64 b5]) rfl rfl ?_;refine At.fZ 15 (.agg #[.int .i64 m1,.int .i64 m2,.int .i64 m3,.int .i64 m4,.int .i64 m5,.int .i64 m6]) rfl rfl ?_;refine At.quiet (lW t231 OF rfl rfl) rfl ?_;refine At.fZ 16 (.agg #[.int .i64 b1,.int .i64 b2,.int .i64 b3,.int .i64 b4,.int .i64 b5,.int .i64 m1,.int .i64 m2,.int .i64 m3,.int .i64 m4,.int .i64 m5,.int .i64 m6]) rfl (rfl) ?_;refine At.bC (aw t231 rfl rfl (i:=2) rfl rfl rfl rfl) ?_;rintro _ _ _ ⟨rfl,rfl⟩;refine At.nil ?_;refine At.then ?_;refine At.ret ?_;refine At.front 1 rfl ?_;refine At.front 1 rfl ?_;exact At.results (Γr:=[]) (M:=[_,_]) rfl (aT.cons (dU.yE rfl t231 (fc.loc (i:=2) rfl (m:=11) rfl) rfl) aT.nil) (.head _) (fun _ _=>trivial) (k_ (k_ (d_ r_))) ⟨rfl,rfl,rfl⟩
theorem iK:aN prog 182 [.pointer (some ⟨xb,0,none⟩),.int .i64 id] [ak r.rows] [ao xb ba q,M] (fun v Γ M'=>v=Xk (r.p.base id) (r.p.store (r.p.val id 3))/\Γ=[]/\M'=[ao xb ba q,M]):=by
 refine cb fun X H₀ L₀=>?_;refine al fun b1=>?_;refine mc ?_;refine At.draw 10 (.q 0 (.q 1 (.q 3 (.q 4 (.q 5 (.q 6 (.q 8 (.t 2 (.o 7 (.o 9 (.e))) 7 (.o 2 (.o 9 (.e))))))))))) (_::L₀) (k_ (d_ (d_ r_))) mixed (by kernel_rfl) rfl ?_;refine mc ?_;refine aQ.two ?_ ?_;refine gf (ea xb ba q r _ hA _) ?_;refine mc ?_;refine oM rfl (bF.eJ (aY t150 rfl (Rd.loc (i:=0) rfl rfl))) ?_;refine oA (c6 ba r _ hA _ _) ?_;refine ca (uC xb ba q r _ hA _) ?_;rintro _ _ _ ⟨rfl,rfl,rfl⟩;generalize r.p.base id=bb;generalize r.p.store (r.p.val id 3)=mm;obtain⟨b1,b2,b3,b4,b5⟩:=bb;obtain⟨m1,m2,m3,m4,m5,m6⟩:=mm;refine At.fZ 7 (.agg #[.int .i64 b1,.int .i64 b2,.int .i64 b3,.int .i64 b4,.int .i64 b5]) rfl rfl ?_;refine At.fZ 15 (.agg #[.int .i64 m1,.int .i64 m2,.int .i64 m3,.int .i64 m4,.bool m5,.int .i64 m6]) rfl rfl ?_;refine At.quiet (lW t226 OE rfl rfl) rfl ?_;refine At.fZ 16 (.agg #[.int .i64 b1,.int .i64 b2,.int .i64 b3,.int .i64 b4,.int .i64 b5,.int .i64 m1,.int .i64 m2,.int .i64 m3,.int .i64 m4,.bool m5,.int .i64 m6]) rfl (rfl) ?_;refine At.bC (aw t226 rfl rfl (i:=2) rfl rfl rfl rfl) ?_;rintro _ _ _ ⟨rfl,rfl⟩;refine At.nil ?_;refine At.then ?_;refine At.ret ?_;refine At.front 1 rfl ?_;refine At.front 1 rfl ?_;exact At.results (Γr:=[]) (M:=[_,_]) rfl (aT.cons (dU.yE rfl t226 (fc.loc (i:=2) rfl (m:=11) rfl) rfl) aT.nil) (.head _) (fun _ _=>trivial) (k_ (k_ (d_ r_))) ⟨rfl,rfl,rfl⟩;refine oM rfl (bF.eJ (aY t150 rfl (Rd.loc (i:=1) rfl rfl))) ?_;refine gf (ea xb ba q r _ hA _) ?_;refine oA (c6 ba r _ hA _ _) ?_;refine ca (uC xb ba q r _ hA _) ?_;rintro _ _ _ ⟨rfl,rfl,rfl⟩;generalize r.p.base id=bb;generalize r.p.store (r.p.val id 3)=mm;obtain⟨b1,b2,b3,b4,b5⟩:=bb;obtain⟨m1,m2,m3,m4,m5,m6⟩:=mm;refine At.fZ 7 (.agg #[.int .i64 b1,.int .i64 b2,.int .i64 b3,.int .i64 b4,.int .i64 b5]) rfl rfl ?_;refine At.fZ 15 (.agg #[.int .i64 m1,.int .i64 m2,.int .i64 m3,.int .i64 m4,.bool m5,.int .i64 m6]) rfl rfl ?_;refine At.quiet (lW t226 OE rfl rfl) rfl ?_;refine At.fZ 16 (.agg #[.int .i64 b1,.int .i64 b2,.int .i64 b3,.int .i64 b4,.int .i64 b5,.int .i64 m1,.int .i64 m2,.int .i64 m3,.int .i64 m4,.bool m5,.int .i64 m6]) rfl (rfl) ?_;refine At.bC (aw t226 rfl rfl (i:=2) rfl rfl rfl rfl) ?_;rintro _ _ _ ⟨rfl,rfl⟩;refine At.nil ?_;refine At.then ?_;refine At.ret ?_;refine At.front 1 rfl ?_;refine At.front 1 rfl ?_;exact At.results (Γr:=[]) (M:=[_,_]) rfl (aT.cons (dU.yE rfl t226 (fc.loc (i:=2) rfl (m:=11) rfl) rfl) aT.nil) (.head _) (fun _ _=>trivial) (k_ (k_ (d_ r_))) ⟨rfl,rfl,rfl⟩
end
end Go.Proofs.YtcnohdmimheoaaaGreat
namespace Go.Proofs.YtcnohdmimheoaaaGreat
open E Go.Proofs.Tryz
def L5 (xb ba:Nat) (q:Ix) (A:Ar) (val:Value) (v:Value) (Γ:List ag) (M':E.Loc):Prop:=
 v=val/\∃(r':cX) (N:aO),Γ=[ak r'.rows]/\M'=[ao xb ba q,N]/\aR ba r' N/\r'.p=A
abbrev cellOf:=Sy.split.cellOf
theorem se {A:Ar} {t:Int} (h:(A.aH 0).2.1≠0):cellOf A t=(0,0,(A.aH 0).2.1,(A.aH 0).2.2):=by
 unfold cellOf Sy.split.cellOf;generalize A.aH 0=q at h⊢;rcases q with⟨a,b,c⟩;exact if_pos h
def wk (q:Int×Int×Ar) (t:Int):Int×Int×Int×Ar:=
 if(q.2.2.make 3 [t,0,q.1]).2.1≠0 then(0,0,(q.2.2.make 3 [t,0,q.1]).2.1,(q.2.2.make 3 [t,0,q.1]).2.2)
 else(q.1,(q.2.2.make 3 [t,0,q.1]).1,0,((q.2.2.make 3 [t,0,q.1]).2.2.once q.1 (q.2.2.make 3 [t,0,q.1]).1).2)
theorem qf {A:Ar} {t:Int} (h:¬(A.aH 0).2.1≠0):cellOf A t=wk (A.aH 0) t:=by
 unfold cellOf Sy.split.cellOf wk;generalize A.aH 0=q at h⊢;rcases q with⟨a,b,c⟩;show(if b≠0 then _ else _)=_;rw[if_neg h]
theorem uD {q:Int×Int×Ar} {t:Int} (h:(q.2.2.make 3 [t,0,q.1]).2.1≠0):wk q t=(0,0,(q.2.2.make 3 [t,0,q.1]).2.1,(q.2.2.make 3 [t,0,q.1]).2.2):=by unfold wk;rw[if_pos h]
theorem zq {q:Int×Int×Ar} {t:Int} (h:¬(q.2.2.make 3 [t,0,q.1]).2.1≠0):wk q t=(q.1,(q.2.2.make 3 [t,0,q.1]).1,0,((q.2.2.make 3 [t,0,q.1]).2.2.once q.1 (q.2.2.make 3 [t,0,q.1]).1).2):=by unfold wk;rw[if_neg h]
def I2 (q:Int×Int×Ar) (several:Int) (l:List Int):Int×Int×Ar:=if q.2.1≠0 then(0,q.2.1,q.2.2)else q.2.2.make 9 (several::q.1::l)
section
variable {several:Int} {n:Nat} {A:Ar} {l:List Int}
include several n A l
theorem zt:Ar.aZ several (n+1) A l=if 10<l.length then I2 (Ar.aZ several n A (l.drop 10)) several (l.take 10)else A.make 9 (several::0::l):=by
 delta Ar.aZ
 rfl
theorem uE (h:¬10<l.length):Ar.aZ several (n+1) A l=A.make 9 (several::0::l):=by rw[zt,if_neg h]
theorem kG (h:10<l.length):Ar.aZ several (n+1) A l=I2 (Ar.aZ several n A (l.drop 10)) several (l.take 10):=by rw[zt,if_pos h]
end
section
variable {q:Int×Int×Ar} {several:Int} {l:List Int}
include q several l
theorem B2 (h:q.2.1≠0):I2 q several l=(0,q.2.1,q.2.2):=if_pos h
theorem B3 (h:¬q.2.1≠0):I2 q several l=q.2.2.make 9 (several::q.1::l):=if_neg h
end
theorem OG (x y:Int) (b:Nat):bR 3 1 [aM x,aM y] (some ⟨b,0,none⟩) 2 [(b,.cells #[.int .i64 x,.int .i64 y] 3 (0,0))]:=
 ⟨by simp[aM],.inr ⟨b,_,rfl,rfl,Nat.le_refl _,by decide,rfl,rfl⟩⟩
abbrev L6 (several:Int) (n:Nat):Prop:=∀(xb ba:Nat) (q:Ix) (r:cX) (M:aO) (hA:aR ba r M) (l:Sl Int),l.l.length<n->
 aN prog 261 [.pointer (some ⟨xb,0,none⟩),l.val,.int .i64 several] [ak r.rows,cw l] [ao xb ba q,M]
  (L5 xb ba q (Ar.aZ several n r.p l.l).2.2 (.tuple #[.int .i64 (Ar.aZ several n r.p l.l).1,.int .i64 (Ar.aZ several n r.p l.l).2.1]))
def I3 (l:List Int) (L:E.Loc) (v:Value) (Γ:List ag) (M':E.Loc):Prop:=∃a c N,v= .slice a l.length c/\Γ=[]/\M'=L++[N]/\bR 3 1 (l.map aM) a c N
theorem xA {A:Ar} {n:Nat} {r:Int}:A.ij (n+1) r=if r=0 then some []else(A.ij n (A.val r 1)).map (A.lr r++·):=rfl
theorem rf {A:Ar}:∀(n:Nat) (r:Int) (l:List Int),A.ij n r=some l->l.length<=10*n
 |0,_,_,h=>by simp[Ar.ij]at h
 |n+1,r,l,h=>by
  rw[xA]at h;split at h
  cases h;simp
  obtain⟨l',h1,rfl⟩:=Option.map_eq_some_iff.1 h;have h2:=rf n _ l' h1
  have h3:(A.lr r).length<=10:=by
   unfold Ar.lr;refine Nat.le_trans (List.length_filter_le _ _) ?_;simp
  simp only[List.length_append];omega
def nA (A:Ar) (r:Int) (k:Nat):List Int:=((List.range k).map fun(i:Nat)=>A.val r (2+(i:Int))).filter fun b=>decide (b≠0)
section
variable {A:Ar} {r:Int}
include A r
theorem FW:nA A r 10=A.lr r:=rfl
theorem zu {k:Nat} (h:A.val r (2+(k:Int))≠0):nA A r (k+1)=nA A r k++[A.val r (2+(k:Int))]:=by
 simp[nA,List.range_succ,h]
theorem B4 {k:Nat} (h:A.val r (2+(k:Int))=0):nA A r (k+1)=nA A r k:=by
 simp[nA,List.range_succ,h]
theorem FX {k:Nat}:(nA A r k).length<=k:=by
 unfold nA;refine Nat.le_trans (List.length_filter_le _ _) ?_;simp
end
end Go.Proofs.YtcnohdmimheoaaaGreat
namespace Go.Proofs.YtcnohdmimheoaaaGreat
open E Go Go.Proofs.Tryz
instance Xl {xb ba:Nat} {q:Ix} {A:Ar} {val:Value}:El_ (L5 xb ba q A val) (fun K=>∀r N,aR ba r N->r.p=A->K val [ak r.rows] [ao xb ba q,N]):=⟨fun K k v Γ M h=>by
 obtain⟨rfl,r,N,rfl,rfl,h1,h2⟩:=h;exact k r N h1 h2⟩
end Go.Proofs.YtcnohdmimheoaaaGreat
namespace Go.Proofs.YtcnohdmimheoaaaGreat
open E Ar Go.Proofs.Tryz
section
variable (xb ba:Nat) (q:Ix) (r:cX) (M:aO) (hA:aR ba r M)
include xb ba q r M hA
theorem jV (b:Bs) (z:Int):aN prog 177 [.pointer (some ⟨xb,0,none⟩),b.val,.int .i64 z] [ak r.rows] [ao xb ba q,M] (fun v Γ M'=>v= .int .i64 (fx r.p q.cF b z)/\Γ=[]/\M'=[ao xb ba q,M]):=by
 refine cb fun X H₀ L₀=>?_;refine bx fun b1=>?_;refine sp 9 (fun h1=>?_) (fun h1=>?_);refine re ?_;exact rs ⟨congrArg (Value.int .i64) ((uB (.inl h1)).symm),rfl,rfl⟩;refine ca (c6 ba r _ hA _ _) ?_;refine fi (fun h2=>?_) (fun h2=>?_);refine re ?_;exact rs ⟨congrArg (Value.int .i64) ((uB (.inr h2)).symm),rfl,rfl⟩;refine dw 6 [] r_ ?_;refine ca (mi q.cF b.stat 3) ?_;refine re ?_;exact rs ⟨congrArg (Value.int .i64) ((zp h1 h2).symm),rfl,rfl⟩
theorem rh (t:Int):aN prog 123 [.pointer (some ⟨xb,0,none⟩),.int .i64 t] [ak r.rows] [ao xb ba q,M] (L5 xb ba q ((cellOf r.p t).2.2.2) (.tuple #[.int .i64 (cellOf r.p t).1,.int .i64 (cellOf r.p t).2.1,.int .i64 (cellOf r.p t).2.2.1])):=by
 refine cb fun X H₀ L₀=>?_;refine ca (sS ba r _ hA _) ?_;intro r2 N2 hA2 hr2;refine fi (fun h1=>?_) (fun h1=>?_);refine re ?_;exact rs ⟨by rw[se h1];rfl,r2,_,rfl,rfl,hA2,by rw[se h1];exact hr2⟩;refine al fun b1=>?_;refine At.freeze 0 (φ:=cw ⟨some ⟨b1,0,none⟩,3,[t,0,(r.p.aH 0).1]⟩) rfl (fun _ h=>eP h rfl (by simp[aM]) rfl (show(3:Nat)<=maxLen from by decide)) ?_;refine ca (cJ ba r2 _ hA2 3 ⟨some ⟨b1,0,none⟩,3,[t,0,(r.p.aH 0).1]⟩) ?_;intro r3 N3 hA3 hr3;refine fi (fun h2=>?_) (fun h2=>?_);refine re ?_;exact rs ⟨by rw[qf h1,uD (by rw[<-hr2];exact h2),<-hr2];rfl,r3,_,rfl,rfl,hA3,by rw[qf h1,uD (by rw[<-hr2];exact h2),<-hr2];exact hr3⟩;refine ca (BT ba r3 _ hA3 _ _) ?_;intro r4 N4 hA4 hr4;refine re ?_;exact rs ⟨by rw[qf h1,zq (by rw[<-hr2];exact h2),<-hr2,<-hr3];rfl,r4,_,rfl,rfl,hA4,by rw[qf h1,zq (by rw[<-hr2];exact h2),<-hr2,<-hr3];exact hr4⟩
end
end Go.Proofs.YtcnohdmimheoaaaGreat
namespace Go.Proofs.YtcnohdmimheoaaaGreat
open E Go.Proofs.Tryz
section
variable {H:Hp} {s:Sl Int} {m:Nat} (h:(cw s).holds H) (hm:m<=s.l.length)
include H s m h hm
theorem og:(cw ⟨bQ s.a s.c 1 0,s.c,s.l.take m⟩).holds H:=by
 have h1:=oV (l:=0) (h:=m) h (Nat.zero_le _) (by simpa using hm);simpa[cw,List.map_take]using h1
theorem Dn:(cw ⟨bQ s.a s.c 1 m,s.c-m,s.l.drop m⟩).holds H:=by
 have h1:=oV (l:=m) (h:=s.l.length) h hm (by simp)
 have e:((s.l.map aM).drop m).take (s.l.length-m)=(s.l.drop m).map aM:=by
  rw[<-List.map_drop,List.take_of_length_le (by simp)]
 rw[e]at h1;exact h1
end
theorem oh {s:Sl Int} {m:Nat} (h:m<=s.l.length):Sl.val (⟨bQ s.a s.c 1 0,s.c,s.l.take m⟩:Sl Int)= .slice (bQ s.a s.c 1 0) m s.c:=by
 simp[Sl.val];omega
theorem Dq {s:Sl Int} {m:Nat}:Sl.val (⟨bQ s.a s.c 1 m,s.c-m,s.l.drop m⟩:Sl Int)= .slice (bQ s.a s.c 1 m) (s.l.length-m) (s.c-m):=by simp[Sl.val]
end Go.Proofs.YtcnohdmimheoaaaGreat
namespace Go.Proofs.YtcnohdmimheoaaaGreat
open E Ar Go.Proofs.Tryz
attribute [local irreducible] Ar.aZ
theorem zv (several:Int) (n:Nat) (ih:L6 several n):L6 several (n+1):=by
 intro xb ba q r M hA l hlen;refine cb fun X H₀ L₀=>?_;refine mc ?_;refine At.lenOf (hs:=(ix 2 rfl)) fun hvl=>?_;rw[List.length_map]at hvl;refine fi (fun h1=>?_) (fun h1=>?_);refine mc ?_;refine At.aJ (cw (⟨bQ l.a l.c 1 10,l.c-10,l.l.drop 10⟩:Sl Int)) (fun _ h=>Dn h.2.2.1 (by omega)) ?_;refine qt (ga underlying26 t3 rfl rfl (l:=10) rfl (by omega)) ?_;refine sv 16 (Sl.val (⟨bQ l.a l.c 1 10,l.c-10,l.l.drop 10⟩:Sl Int)) ?_ (e:=by exact Dq.symm);refine ca (ih xb ba q r _ hA (⟨bQ l.a l.c 1 10,l.c-10,l.l.drop 10⟩:Sl Int) (by simp;omega)) ?_;intro r2 N2 hA2 hr2;refine fi (fun h2=>?_) (fun h2=>?_);refine re ?_;exact rs ⟨by rw[kG (show 10<l.l.length by omega),B2 h2];rfl,r2,_,rfl,rfl,hA2,by rw[kG (show 10<l.l.length by omega),B2 h2];exact hr2⟩;refine mc ?_;refine At.mS (hs:=(ix 4 rfl)) fun hcap=>?_;rw[List.length_map]at hcap;refine At.aJ (cw (⟨bQ l.a l.c 1 0,l.c,l.l.take 10⟩:Sl Int)) (fun _ h=>og h.2.2.2.2.1 (by omega)) ?_;refine qt (dj underlying26 t3 rfl rfl (h:=10) rfl (by omega)) ?_;refine sv 25 (Sl.val (⟨bQ l.a l.c 1 0,l.c,l.l.take 10⟩:Sl Int)) ?_ (e:=by exact(oh (by omega)).symm);have hlt:(⟨bQ l.a l.c 1 0,l.c,l.l.take 10⟩:Sl Int).l.length=10:=by simp;omega
 refine dv 12 [0,1,2,3,4,5,7,106,108,109,10,11] (k_ (d_ r_)) ?_;refine mO fun b1=>?_;have hO2:=OG several (Ar.aZ several n r.p (l.l.drop 10)).1 b1;refine oM rfl (rX (rows':=(several::(Ar.aZ several n r.p (l.l.drop 10)).1::(l.l.take 10)).map aM) rfl underlying26 t3 rfl rfl hO2 rfl (i:=0) rfl (.head _) (by simp) (jt (fun _=>rfl) _) rfl rfl (by omega) (by unfold maxLen;omega) (by simp)) ?_;rintro _ _ _ ⟨a4,c4,rfl,rfl,rfl⟩;refine sv 34 ((⟨a4,c4,(several::(Ar.aZ several n r.p (l.l.drop 10)).1::(l.l.take 10))⟩:Sl Int).val) ?_ (e:=by simp[Sl.val];omega);refine oA (cJ ba r2 _ hA2 9 ⟨a4,c4,(several::(Ar.aZ several n r.p (l.l.drop 10)).1::(l.l.take 10))⟩) ?_;intro r3 N3 hA3 hr3;refine re ?_;exact rs ⟨by rw[kG (show 10<l.l.length by omega),B3 h2,<-hr2];rfl,r3,_,rfl,rfl,hA3,by rw[kG (show 10<l.l.length by omega),B3 h2,<-hr2];exact hr3⟩;refine dv 12 [0,1,2,3,4,5,7,106,108,109,10,11] (k_ (d_ r_)) ?_;refine mO fun b2=>?_;have hO2:=OG several 0 b2;refine oM rfl (rX (rows':=(several::0::l.l).map aM) rfl underlying26 t3 rfl rfl hO2 rfl (i:=0) rfl (.tail _ (.tail _ (.head _))) (by simp) (jt (fun _=>rfl) _) rfl rfl (by omega) (by unfold maxLen;omega) (by simp)) ?_;rintro _ _ _ ⟨a4,c4,rfl,rfl,rfl⟩;refine sv 34 ((⟨a4,c4,(several::0::l.l)⟩:Sl Int).val) ?_ (e:=by simp[Sl.val];omega);refine oA (cJ ba r _ hA 9 ⟨a4,c4,(several::0::l.l)⟩) ?_;intro r2 N2 hA2 hr2;refine re ?_;exact rs ⟨by rw[uE (show¬10<l.l.length by omega)];rfl,r2,_,rfl,rfl,hA2,by rw[uE (show¬10<l.l.length by omega)];exact hr2⟩
theorem jW (several:Int):∀n,L6 several n
 |0=>fun _ _ _ _ _ _ _ h=>absurd h (Nat.not_lt_zero _)
 |n+1=>zv several n (jW several n)
theorem FY (xb ba:Nat) (q:Ix) (r:cX) (M:aO) (hA:aR ba r M) (id:Int) (l:List Int) (hb:r.p.au id=some l):aN prog 221 [.pointer (some ⟨xb,0,none⟩),.int .i64 id] [ak r.rows] [ao xb ba q,M] (I3 l [ao xb ba q,M]):=by
 refine cb fun X H₀ L₀=>?_
 have hlen:l.length<=600020:=by
  have h1:=rf _ _ _ hb;rw[cX.r8]at h1;have:=hA.2.1;omega
 refine At.ck ?_;refine mc ?_;refine At.front 2 rfl ?_;refine At.front 2 rfl ?_;refine At.front 2 rfl ?_;refine At.dP (ι:=Nat×Int×List Int×List Int×Option Addr×Nat×aO) [1,5,6,7,8,9,10,11,12,13,14,15,16,17,18,19,20,21,22,23,24,25,26,27,28,29,30,31,32,33] (fun⟨n,u,l1,l2,a,c,Mo⟩=>[(1,.int .i64 u),(5,.slice a l1.length c)]) (fun⟨n,u,l1,l2,a,c,Mo⟩=>[]) (fun⟨n,u,l1,l2,a,c,Mo⟩=>[Mo,ao xb ba q,M]) _ (fun⟨n,u,l1,l2,a,c,Mo⟩=>r.p.ij n u=some l2/\l=l1++l2/\bR 3 1 (l1.map aM) a c Mo) (fun⟨n,u,l1,l2,a,c,Mo⟩=>n) (r.p.sl.length+2,id,[],l,none,0,[]) ⟨hb,rfl,bR.nil _ _⟩ ⟨rfl,rfl,trivial⟩ (fun _ _=>trivial) (k_ (k_ (k_ r_))) ?_;intro s hI;obtain⟨n,u,l1,l2,a,c,Mo⟩:=s;obtain⟨hu,hl,hO⟩:=hI;have hll:l1.length+l2.length<=600020:=by rw[hl]at hlen;simpa using hlen
 refine fi (fun h1=>?_) (fun h1=>?_);rcases n with _|n;simp[Ar.ij]at hu;rw[xA,if_neg h1]at hu;obtain⟨l3,hl3,rfl⟩:=Option.map_eq_some_iff.1 hu;refine mc ?_;refine At.fZ 5 (.slice a (l1++nA r.p u 0).length c) rfl (by simp[nA]) ?_;refine At.front 2 rfl ?_;refine At.front 2 rfl ?_;refine At.front 2 rfl ?_;refine At.dP (ι:=Nat×Option Addr×Nat×aO) [5,6,7,16,17,18,19,20,21,22,23,24,25,26,27,28,29,30,31,32,33] (fun⟨k,a2,c2,M2⟩=>[(16,.int .i64 (k:Int)),(5,.slice a2 (l1++nA r.p u k).length c2)]) (fun⟨k,a2,c2,M2⟩=>[]) (fun⟨k,a2,c2,M2⟩=>[M2,ao xb ba q,M]) _ (fun⟨k,a2,c2,M2⟩=>k<=10/\bR 3 1 ((l1++nA r.p u k).map aM) a2 c2 M2) (fun⟨k,a2,c2,M2⟩=>10-k) (0,a,c,Mo) ⟨Nat.zero_le _,by simpa[nA]using hO⟩ ⟨rfl,rfl,trivial⟩ (fun _ _=>trivial) (k_ (k_ (k_ r_))) ?_;intro s2 hI2;obtain⟨k,a2,c2,M2⟩:=s2;obtain⟨hk,hO2⟩:=hI2
 have hkl:(l1++nA r.p u k).length<=600030:=by
  have:=FX (A:=r.p) (r:=u) (k:=k);simp only[List.length_append]at hll⊢;omega
 refine fi (fun h2=>?_) (fun h2=>?_);refine ca (c6 ba r _ hA _ _) ?_;refine fi (fun h3=>?_) (fun h3=>?_);refine al fun b1=>?_;refine lM (dk rfl underlying26 t3 rfl rfl hO2 (by simp) (i:=2) rfl rfl (news:=[aM (r.p.val u (2+(k:Int)))]) (by simp[aM]) (fc.loc (i:=0) rfl (m:=1) rfl) rfl rfl rfl (by omega) (by unfold maxLen;omega)) ?_;rintro _ _ _ ⟨a3,c3,M3,rfl,ow3,rfl,rfl⟩;refine sv 5 (.slice a3 (l1++nA r.p u (k+1)).length c3) ?_ (e:=by rw[zu h3];simp[Nat.add_assoc]);refine At.front 1 rfl ?_;refine At.front 3 rfl ?_;refine At.front 3 rfl ?_;refine mc ?_;exact At.bX (k+1,a3,c3,M3) ⟨by omega,by rw[zu h3];simpa using ow3⟩ (by(try dsimp only);omega) (bc.end 24 ⟨rfl,rfl,trivial⟩ rfl rfl) (fun _ h=>h) (k_ (k_ (k_ (d_ r_))));have h4:r.p.val u (2+(k:Int))=0:=by omega
 refine mc ?_;refine At.fZ 5 (.slice a2 (l1++nA r.p u (k+1)).length c2) rfl (by rw[B4 h4]) ?_;refine At.front 0 rfl ?_;refine At.front 2 rfl ?_;refine At.front 2 rfl ?_;refine mc ?_;exact At.bX (k+1,a2,c2,M2) ⟨by omega,by rw[B4 h4];exact hO2⟩ (by(try dsimp only);omega) (bc.end 19 ⟨rfl,rfl,trivial⟩ rfl rfl) (fun _ h=>h) (k_ (k_ (k_ r_)));obtain rfl:k=10:=by omega
 rw[FW]at hO2;refine ca (c6 ba r _ hA _ _) ?_;refine mc ?_;refine At.front 0 rfl ?_;refine At.front 2 rfl ?_;refine At.front 2 rfl ?_;refine mc ?_;exact At.bX (n,r.p.val u 1,l1++r.p.lr u,l3,a2,c2,M2) ⟨hl3,by rw[hl,List.append_assoc],hO2⟩ (Nat.lt_succ_self _) (bc.end 13 ⟨rfl,rfl,trivial⟩ rfl rfl) (fun _ h=>h) (k_ (k_ (k_ r_)));have h1:u=0:=by omega
 rcases n with _|n;simp[Ar.ij]at hu;rw[xA,if_pos h1]at hu
 cases hu
 rw[List.append_nil]at hl;subst hl;refine re ?_;exact rs ⟨a,c,Mo,rfl,rfl,rfl,hO⟩
end Go.Proofs.YtcnohdmimheoaaaGreat
namespace Go.Proofs.YtcnohdmimheoaaaGreat
open E Go.Proofs.Tryz
abbrev ptr (b:Nat):Value:=.pointer (some ⟨b,0,none⟩)
abbrev dE (f:Nat) (bs:List Nat):Value:=.func (.func f) #[] (bs.map ptr).toArray
abbrev met (f tb:Nat):Value:=.func (.func f) #[ptr tb] #[]
def sC {α:Type} (p:α->Prop) (Γ:α->List ag):ag:=⟨fun H=>∃x,p x/\ax (Γ x) H,fun _ _ h ⟨x,hp,hh⟩=>⟨x,hp,hh.mono h⟩⟩
theorem bK {α:Type} {p:α->Prop} {Γ:α->List ag} {H:Hp} (x:α) (hp:p x) (h:ax (Γ x) H):(sC p Γ).holds H:=⟨x,hp,h⟩
def cI (x:Int):Array Value:= #[.int .i64 x]
def Fo.cells (f:Fo):Array Value:= #[.int .i64 f.b.id,.int .i64 f.b.kind,.int .i64 f.b.af,.int .i64 f.b.stat,.int .i64 f.b.home,.int .i64 f.cell,.int .i64 f.up,.int .i64 f.dW,.bool f.cY]
def Bs.cells (b:Bs):Array Value:= #[.int .i64 b.id,.int .i64 b.kind,.int .i64 b.af,.int .i64 b.stat,.int .i64 b.home]
def MB.cells (m:MB):Array Value:= #[.int .i64 m.b.id,.int .i64 m.b.kind,.int .i64 m.b.af,.int .i64 m.b.stat,.int .i64 m.b.home,.int .i64 m.state]
def Pl.cells (p:Pl):Array Value:= #[.int .i64 p.id,.int .i64 p.dZ,.int .i64 p.ai,.int .i64 p.parent,.int .i64 p.cell,.int .i64 p.lock,.int .i64 p.fu]
def An.cells (a:An) (s:Sl Pr):Array Value:= #[.int .i64 a.err,.bool a.ok,.int .i64 a.p.k,.int .i64 a.p.v,.int .i64 a.n,s.val]
def nB (b:Nat) (f:Fo):aO:=[(b,.cells f.cells 200 (0,0))]
def K2 (b:Nat) (x:Bs):aO:=[(b,.cells x.cells 179 (0,0))]
def aE (tb xb:Nat) (th:Th) (nx:Value) (s:Sl Pr):aO:=[(tb,.cells #[ptr xb,.bool th.busy,.int .i64 th.op.kind,.int .i64 th.op.key,.int .i64 th.op.hi,.int .i64 th.op.v,.int .i64 th.call,.bool th.late,nx,.bool th.iR,
 .int .i64 th.cR.err,.bool th.cR.ok,.int .i64 th.cR.p.k,.int .i64 th.cR.p.v,.int .i64 th.cR.n,s.val] 149 (0,0))]
def jg (jp:Nat) (j:Jb) (a:Option Addr) (n c:Nat):aO:=[(jp,.cells #[.int .i64 j.store.id,.int .i64 j.store.lo,.int .i64 j.store.hi,.int .i64 j.store.result,.bool j.store.quiet,.int .i64 j.store.call,.slice a n c,.bool j.full] 255 (0,0))]
def K3 (jp:Nat) (j:Jb) (M:aO):Prop:=∃a c Ms,M=jg jp j a j.au.length c++Ms/\bR 3 1 (j.au.map aM) a c Ms
def Vh (jp:Nat) (j:Jb) (M:aO):Prop:=∃a n c,M=jg jp j a n c
def dH (jp:Nat) (j:Jo) (tv:Value) (a:Option Addr) (c:Nat):aO:=[(jp,.cells #[.int .i64 j.main.b.id,.int .i64 j.main.b.kind,.int .i64 j.main.b.af,.int .i64 j.main.b.stat,.int .i64 j.main.b.home,.int .i64 j.main.state,
 .int .i64 j.ai.id,.int .i64 j.ai.kind,.int .i64 j.ai.af,.int .i64 j.ai.stat,.int .i64 j.ai.home,.int .i64 j.up.id,.int .i64 j.up.key,.int .i64 j.up.left,.int .i64 j.up.right,.int .i64 j.up.join,
 .bool j.right,.slice a j.aU.length c,.int .i64 j.cell,tv] 282 (0,0))]
def Vi (jp:Nat) (tv:Value) (j:Jo) (M:aO):Prop:=∃a c Ms,M=dH jp j tv a c++Ms/\bR 3 1 (j.aU.map aM) a c Ms
section rep
variable (tb:Nat)
def eY (b:Nat):ag:=aW b #[ptr tb]
def oD:KG->Value->ag
 | .qV,v=>sC (α:=Unit) (fun _=>v=met 126 tb) fun _=>[]
 | .ends,v=>sC (α:=Unit) (fun _=>v=met 127 tb) fun _=>[]
 | .dL,v=>sC (fun b=>v=dE 174 [b]) fun b=>[eY tb b]
def AW:KW->Value->ag
 | .ends,v=>sC (fun b=>v=dE 172 [b]) fun b=>[eY tb b]
 | .dL,v=>sC (fun b=>v=dE 176 [b]) fun b=>[eY tb b]
def eS (a:An) (v:Value):ag:=
 sC (fun(x:Nat×Nat×Nat×Sl Pr)=>(x.1=162\/x.1=179)/\v=dE x.1 [x.2.1,x.2.2.1]/\x.2.2.2.l=a.l) fun x=>[eY tb x.2.1,aW x.2.2.1 (a.cells x.2.2.2),aC x.2.2.2]
def sK (key:Int) (g:KG) (v:Value):ag:=
 sC (fun(x:Nat×Nat×Nat×Value)=>v=dE 164 [x.1,x.2.1,x.2.2.1]) fun x=>[eY tb x.1,aW x.2.1 (cI key),aW x.2.2.1 #[x.2.2.2],oD tb g x.2.2.2]
def B5 (v:Value):ag:=sC (α:=Unit) (fun _=>v=met 124 tb) fun _=>[]
def qg (jp:Nat) (key:Int) (ρ:Value->ag) (v:Value):ag:=
 sC (fun(x:Nat×Nat×Nat×Nat×Value)=>v=dE 236 [x.1,x.2.1,x.2.2.1,x.2.2.2.1]) fun x=>[eY tb x.1,aW x.2.1 #[ptr jp],aW x.2.2.1 (cI key),aW x.2.2.2.1 #[x.2.2.2.2],ρ x.2.2.2.2]
def FZ (ρ:Value->ag) (v:Value):ag:=sC (fun(x:Nat×Value)=>v=dE 205 [x.1]) fun x=>[aW x.1 #[x.2],ρ x.2]
abbrev Ax:=List (Nat×Value)
def L7:ag:=⟨fun _=>False,fun _ _ _ h=>h⟩
def fT:KR->Nat->Ax->Value->ag
 | .whole lo hi q w,jp,[],v=>sC (fun(x:(Nat×Nat×Nat)×Nat×Nat×Nat×Value)=>v=dE 220 [x.1.1,x.1.2.1,x.1.2.2,x.2.1,x.2.2.1,x.2.2.2.1])
   fun x=>[aW x.1.1 #[x.2.2.2.2],eY tb x.1.2.1,aW x.1.2.2 #[ptr jp],aW x.2.1 (cI lo),aW x.2.2.1 (cI hi),aW x.2.2.2.1 (cI q),AW tb w x.2.2.2.2]
 | .looks key g,_,[],v=>FZ (sK tb key g) v
 | .update,_,[],v=>FZ (B5 tb) v
 | .leaf _ key r,_,a::l,v=>FZ (qg tb a.1 key (fT r a.1 l)) v
 |_,_,_,_=>L7
def qh:KU->Ax->Value->ag
 | .looks key g,[],v=>sK tb key g v
 | .update,[],v=>B5 tb v
 | .leaf _ key r,a::l,v=>qg tb a.1 key (fT tb r a.1 l) v
 |_,_,_=>L7
def ju:KT->Ax->Value->ag
 | .ret a,[],v=>eS tb a v
 | .u u,l,v=>qh tb u l v
 |_,_,_=>L7
def uF:KF->Ax->Value->ag
 | .looks key g,[],v=>sC (fun(x:(Nat×Nat×Nat)×Value×Value)=>v=dE 165 [x.1.1,x.1.2.1,x.1.2.2]) fun x=>[eY tb x.1.1,aW x.1.2.1 #[x.2.1],aW x.1.2.2 #[x.2.2],sK tb key g x.2.1,oD tb g x.2.2]
 | .update,[],v=>sC (fun b=>v=dE 151 [b]) fun b=>[eY tb b]
 | .aA b a,[],v=>sC (fun(x:(Nat×Nat×Nat)×Value)=>v=dE 247 [x.1.1,x.1.2.1,x.1.2.2]) fun x=>[aW x.1.1 b.cells,aW x.1.2.1 #[x.2],eY tb x.1.2.2,eS tb a x.2]
 | .leaf _ key r,a::l,v=>sC (fun(x:(Nat×Nat×Nat×Nat)×Value×Value)=>v=dE 237 [x.1.1,x.1.2.1,x.1.2.2.1,x.1.2.2.2])
   fun x=>[eY tb x.1.1,aW x.1.2.1 #[ptr a.1],aW x.1.2.2.1 #[x.2.1],aW x.1.2.2.2 #[x.2.2],fT tb r a.1 l x.2.1,qg tb a.1 key (fT tb r a.1 l) x.2.2]
 |_,_,_=>L7
def o8:KO->Ax->Value->ag
 | .update f,[],v=>sC (fun(x:Nat×Nat)=>v=dE 153 [x.1,x.2]) fun x=>[eY tb x.1,aW x.2 f.cells]
 | .aA j n,[nb,jp],v=>sC (fun(x:(Nat×Nat×Nat))=>v=dE 251 [nb.1,x.1,x.2.1,x.2.2]) fun x=>[eY tb x.1,aW x.2.1 #[ptr jp.1],aW x.2.2 #[jp.2],eS tb j.cR jp.2]
 | .leaf _ key f r,a::l,v=>sC (fun(x:(Nat×Nat×Nat×Nat×Nat)×Value×Value)=>v=dE 240 [x.1.1,x.1.2.1,x.1.2.2.1,x.1.2.2.2.1,x.1.2.2.2.2])
   fun x=>[eY tb x.1.1,aW x.1.2.1 f.cells,aW x.1.2.2.1 #[x.2.1],aW x.1.2.2.2.1 #[ptr a.1],aW x.1.2.2.2.2 #[x.2.2],qg tb a.1 key (fT tb r a.1 l) x.2.1,fT tb r a.1 l x.2.2]
 |_,_,_=>L7
def xF (j:Jo) (jp:Nat×Value) (v:Value):ag:=
 sC (fun(x:(Nat×Nat×Nat))=>v=dE 250 [x.1,x.2.1,x.2.2]) fun x=>[eY tb x.1,aW x.2.1 #[ptr jp.1],aW x.2.2 #[jp.2],eS tb j.cR jp.2]
def iu:KV->Ax->Value->ag
 | .down f key k,fb::l,v=>sC (fun(x:(Nat×Nat×Nat)×Value)=>v=dE 231 [x.1.1,fb.1,x.1.2.1,x.1.2.2]) fun x=>[eY tb x.1.1,aW x.1.2.1 #[x.2],aW x.1.2.2 (cI key),uF tb k l x.2]
 | .cd f key g,[],v=>sC (fun(x:(Nat×Nat×Nat×Nat)×Value×Value)=>v=dE 213 [x.1.1,x.1.2.1,x.1.2.2.1,x.1.2.2.2]) fun x=>[aW x.1.1 #[x.2.1],eY tb x.1.2.1,aW x.1.2.2.1 f.cells,aW x.1.2.2.2 #[x.2.2],sK tb key g x.2.1,oD tb g x.2.2]
 | .cB f key g,[],v=>sC (fun(x:(Nat×Nat×Nat)×Value×Value)=>v=dE 214 [x.1.1,x.1.2.1,x.1.2.2]) fun x=>[aW x.1.1 f.cells,aW x.1.2.1 #[x.2.2],aW x.1.2.2 #[x.2.1],sK tb key g x.2.1,oD tb g x.2.2]
 | .dm b o,l,v=>sC (fun(x:(Nat×Nat)×Value)=>v=dE 200 [x.1.1,x.1.2]) fun x=>[aW x.1.1 #[x.2],aW x.1.2 b.cells,o8 tb o l x.2]
 | .cN b o,l,v=>sC (fun(x:(Nat×Nat)×Value)=>v=dE 201 [x.1.1,x.1.2]) fun x=>[aW x.1.1 #[x.2],aW x.1.2 b.cells,o8 tb o l x.2]
 | .cU b o,l,v=>sC (fun(x:(Nat×Nat×Nat)×Value)=>v=dE 202 [x.1.1,x.1.2.1,x.1.2.2]) fun x=>[aW x.1.1 #[x.2],eY tb x.1.2.1,aW x.1.2.2 b.cells,o8 tb o l x.2]
 | .cE m u,l,v=>sC (fun(x:(Nat×Nat×Nat)×Value)=>v=dE 233 [x.1.1,x.1.2.1,x.1.2.2]) fun x=>[eY tb x.1.1,aW x.1.2.1 m.cells,aW x.1.2.2 #[x.2],qh tb u l x.2]
 | .mf right j,[jp],v=>sC (fun(x:(Nat×Nat×Nat)×Value)=>v=dE 271 [x.1.1,x.1.2.1,x.1.2.2]) fun x=>[eY tb x.1.1,aW x.1.2.1 #[x.2],aW x.1.2.2 #[.bool right],xF tb j jp x.2]
 | .bh j up cell,[jp],v=>sC (fun(x:(Nat×Nat×Nat×Nat))=>v=dE 287 [x.1,x.2.1,x.2.2.1,x.2.2.2]) fun x=>[eY tb x.1,aW x.2.1 #[ptr jp.1],aW x.2.2.1 (cI up),aW x.2.2.2 (cI cell),eS tb j.cR jp.2]
 | .bH j lock,[jp],v=>sC (fun(x:(Nat×Nat×Nat))=>v=dE 291 [x.1,x.2.1,x.2.2]) fun x=>[eY tb x.1,aW x.2.1 #[ptr jp.1],aW x.2.2 (cI lock),eS tb j.cR jp.2]
 | .leaf _ key f r,a::l,v=>sC (fun(x:(Nat×Nat×Nat×Nat×Nat)×Value×Value)=>v=dE 239 [x.1.1,x.1.2.1,x.1.2.2.1,x.1.2.2.2.1,x.1.2.2.2.2])
   fun x=>[aW x.1.1 #[x.2.2],eY tb x.1.2.1,aW x.1.2.2.1 f.cells,aW x.1.2.2.2.1 #[x.2.1],aW x.1.2.2.2.2 #[ptr a.1],qg tb a.1 key (fT tb r a.1 l) x.2.1,fT tb r a.1 l x.2.2]
 | .res _ r,a::l,v=>fT tb r a.1 l v
 |_,_,_=>L7
def sL (lk:Option Int) (jp:Nat) (v:Value):ag:=
 match lk with
 |none=>sC (fun(x:Nat×Nat)=>v=dE 281 [x.1,x.2]) fun x=>[eY tb x.1,aW x.2 #[ptr jp]]
 |some lock=>sC (fun(x:Nat×Nat×Nat)=>v=dE 289 [x.1,x.2.1,x.2.2]) fun x=>[eY tb x.1,aW x.2.1 #[ptr jp],aW x.2.2 (cI lock)]
def xG (m:MB) (p:Pl) (ρ:Value->ag) (v:Value):ag:=
 sC (fun(x:(Nat×Nat×Nat×Nat)×Value)=>v=dE 257 [x.1.1,x.1.2.1,x.1.2.2.1,x.1.2.2.2]) fun x=>[eY tb x.1.1,aW x.1.2.1 m.cells,aW x.1.2.2.1 p.cells,aW x.1.2.2.2 #[x.2],ρ x.2]
def eZ:KB->Ax->Value->ag
 | .marks _ key f id r,fb::a::l,v=>sC (fun(x:(Nat×Nat×Nat×Nat×Nat)×Value×Value)=>v=dE 263 [x.1.1,x.1.2.1,x.1.2.2.1,fb.1,x.1.2.2.2.1,x.1.2.2.2.2])
   fun x=>[aW x.1.1 #[x.2.1],eY tb x.1.2.1,aW x.1.2.2.1 (cI id),aW x.1.2.2.2.1 #[ptr a.1],aW x.1.2.2.2.2 #[x.2.2],qg tb a.1 key (fT tb r a.1 l) x.2.1,fT tb r a.1 l x.2.2]
 | .results _ res r,a::l,v=>sC (fun(x:(Nat×Nat×Nat×Nat)×Value)=>v=dE 275 [x.1.1,x.1.2.1,x.1.2.2.1,x.1.2.2.2]) fun x=>[eY tb x.1.1,aW x.1.2.1 #[ptr a.1],aW x.1.2.2.1 #[x.2],aW x.1.2.2.2 (cI res),fT tb r a.1 l x.2]
 | .update id a,[],v=>sC (fun(x:(Nat×Nat×Nat)×Sl Pr)=>v=dE 158 [x.1.1,x.1.2.1,x.1.2.2]/\x.2.l=a.l) fun x=>[eY tb x.1.1,aW x.1.2.1 (cI id),aW x.1.2.2 (a.cells x.2),aC x.2]
 | .split a,[],v=>sC (fun(x:(Nat×Nat)×Value)=>v=dE 246 [x.1.1,x.1.2]) fun x=>[eY tb x.1.1,aW x.1.2 #[x.2],eS tb a x.2]
 | .aL j n id,[jp],v=>sC (fun(x:(Nat×Nat×Nat×Nat))=>v=dE 272 [x.1,x.2.1,x.2.2.1,x.2.2.2]) fun x=>[aW x.1 #[ptr jp.1],eY tb x.2.1,aW x.2.2.1 (cI id),aW x.2.2.2 n.cells,eS tb j.cR jp.2]
 | .aG j id,[jp],v=>sC (fun(x:(Nat×Nat×Nat))=>v=dE 279 [x.1,x.2.1,x.2.2]) fun x=>[eY tb x.1,aW x.2.1 #[ptr jp.1],aW x.2.2 (cI id),eS tb j.cR jp.2]
 | .bS j cell,[jp],v=>sC (fun(x:(Nat×Nat×Nat×Nat)×Value)=>v=dE 285 [x.1.1,x.1.2.1,x.1.2.2.1,x.1.2.2.2]) fun x=>[eY tb x.1.1,aW x.1.2.1 #[ptr jp.1],aW x.1.2.2.1 (cI cell),aW x.1.2.2.2 #[x.2],sL tb none jp.1 x.2,eS tb j.cR jp.2]
 | .bO j cell lock,[jp],v=>sC (fun(x:(Nat×Nat×Nat×Nat)×Value)=>v=dE 285 [x.1.1,x.1.2.1,x.1.2.2.1,x.1.2.2.2]) fun x=>[eY tb x.1.1,aW x.1.2.1 #[ptr jp.1],aW x.1.2.2.1 (cI cell),aW x.1.2.2.2 #[x.2],sL tb (some lock) jp.1 x.2,eS tb j.cR jp.2]
 | .bW j last,[jp],v=>sC (fun(x:(Nat×Nat×Nat))=>v=dE 290 [x.1,x.2.1,x.2.2]) fun x=>[aW x.1 #[ptr jp.1],aW x.2.1 (cI last),eY tb x.2.2,eS tb j.cR jp.2]
 | .cK t,l,v=>sC (fun(x:Nat×Value)=>v=dE 256 [x.1]) fun x=>[aW x.1 #[x.2],ju tb t l x.2]
 | .bH j id,[jp],v=>sC (fun(x:(Nat×Nat×Nat))=>v=dE 293 [x.1,x.2.1,x.2.2]) fun x=>[eY tb x.1,aW x.2.1 #[ptr jp.1],aW x.2.2 (cI id),eS tb j.cR jp.2]
 | .fQ m p t,l,v=>sC (fun(x:(Nat×Nat×Nat×Nat)×Value)=>v=dE 259 [x.1.1,x.1.2.1,x.1.2.2.1,x.1.2.2.2]) fun x=>[eY tb x.1.1,aW x.1.2.1 p.cells,aW x.1.2.2.1 #[x.2],aW x.1.2.2.2 m.cells,xG tb m p (ju tb t l) x.2]
 | .e8 m p t,l,v=>sC (fun(x:(Nat×Nat×Nat×Nat)×Value)=>v=dE 260 [x.1.1,x.1.2.1,x.1.2.2.1,x.1.2.2.2]) fun x=>[aW x.1.1 p.cells,aW x.1.2.1 #[x.2],eY tb x.1.2.2.1,aW x.1.2.2.2 m.cells,xG tb m p (ju tb t l) x.2]
 | .cZ m p t,l,v=>xG tb m p (ju tb t l) v
 | .cL t,l,v=>sC (fun(x:(Nat×Nat)×Value)=>v=dE 258 [x.1.1,x.1.2]) fun x=>[eY tb x.1.1,aW x.1.2 #[x.2],ju tb t l x.2]
 |_,_,_=>L7
def ri:Nx->Ax->Value->ag
 | .load c k,l,v=>sC (fun(x:(Nat×Nat×Nat)×Value)=>v=dE 232 [x.1.1,x.1.2.1,x.1.2.2]) fun x=>[aW x.1.1 #[x.2],eY tb x.1.2.1,aW x.1.2.2 (cI c),iu tb k l x.2]
 | .swap c bZ now k,l,v=>sC (fun(x:(Nat×Nat×Nat×Nat×Nat)×Value)=>v=dE 209 [x.1.1,x.1.2.1,x.1.2.2.1,x.1.2.2.2.1,x.1.2.2.2.2]) fun x=>[aW x.1.1 #[x.2],eY tb x.1.2.1,aW x.1.2.2.1 (cI c),aW x.1.2.2.2.1 (cI bZ),aW x.1.2.2.2.2 (cI now),eZ tb k l x.2]
 | .once c z k,l,v=>sC (fun(x:(Nat×Nat×Nat×Nat)×Value)=>v=dE 283 [x.1.1,x.1.2.1,x.1.2.2.1,x.1.2.2.2]) fun x=>[aW x.1.1 #[x.2],eY tb x.1.2.1,aW x.1.2.2.1 (cI c),aW x.1.2.2.2 (cI z),eZ tb k l x.2]
 | .zero,l,v=>sC (fun b=>l=[]/\v=dE 173 [b]) fun b=>[eY tb b]
end rep
def sM:KR->Ax->aO->Prop
 | .leaf j _ r,a::l,M=>∃M1 M2,M=M1++M2/\K3 a.1 j M1/\sM r l M2
 | .whole ..,[],M=>M=[]
 | .looks ..,[],M=>M=[]
 | .update,[],M=>M=[]
 |_,_,_=>False
def AX (u:KU) (l:Ax) (M:aO):Prop:=sM u.BO l M
def qi:KT->Ax->aO->Prop
 | .ret _,[],M=>M=[]
 | .u u,l,M=>AX u l M
 |_,_,_=>False
def ql (j:Jb) (r:KR):Ax->aO->Prop
 |a::l,M=>∃M1 M2,M=M1++M2/\K3 a.1 j M1/\sM r l M2
 |_,_=>False
def AY (j:Jb) (r:KR):Ax->aO->Prop
 |a::l,M=>∃M1 M2,M=M1++M2/\Vh a.1 j M1/\sM r l M2
 |_,_=>False
def L8:KF->Ax->aO->Prop
 | .leaf j _ r,l,M=>ql j r l M
 |_,[],M=>M=[]
 |_,_,_=>False
def vA (j:Jo):Ax->aO->Prop
 | [jp],M=>Vi jp.1 jp.2 j M
 |_,_=>False
def zx:KO->Ax->aO->Prop
 | .update _,[],M=>M=[]
 | .aA j n,nb::l,M=>∃M2,M=K2 nb.1 n++M2/\vA j l M2
 | .leaf j _ _ r,l,M=>ql j r l M
 |_,_,_=>False
def L9:KV->Ax->aO->Prop
 | .down f _ k,fb::l,M=>∃M2,M=nB fb.1 f++M2/\L8 k l M2
 | .cd ..,[],M=>M=[]
 | .cB ..,[],M=>M=[]
 | .dm _ o,l,M=>zx o l M
 | .cN _ o,l,M=>zx o l M
 | .cU _ o,l,M=>zx o l M
 | .cE _ u,l,M=>AX u l M
 | .mf _ j,l,M=>vA j l M
 | .bh j _ _,l,M=>vA j l M
 | .bH j _,l,M=>vA j l M
 | .leaf j _ _ r,l,M=>ql j r l M
 | .res j r,l,M=>AY j r l M
 |_,_,_=>False
def F0:KB->Ax->aO->Prop
 | .marks j _ f _ r,fb::l,M=>∃M2,M=nB fb.1 f++M2/\ql j r l M2
 | .results j _ r,l,M=>AY j r l M
 | .update ..,[],M=>M=[]
 | .split _,[],M=>M=[]
 | .aL j _ _,l,M=>vA j l M
 | .aG j _,l,M=>vA j l M
 | .bS j _,l,M=>vA j l M
 | .bO j _ _,l,M=>vA j l M
 | .bW j _,l,M=>vA j l M
 | .cK t,l,M=>qi t l M
 | .bH j _,l,M=>vA j l M
 | .fQ _ _ t,l,M=>qi t l M
 | .e8 _ _ t,l,M=>qi t l M
 | .cZ _ _ t,l,M=>qi t l M
 | .cL t,l,M=>qi t l M
 |_,_,_=>False
def Mc:Nx->Ax->aO->Prop
 | .load _ k,l,M=>L9 k l M
 | .swap _ _ _ k,l,M=>F0 k l M
 | .once _ _ k,l,M=>F0 k l M
 | .zero,_,M=>M=[]
def eN (v:Value):Prop:=∃f a c,v= .func f a c
variable {tb:Nat} {v:Value} {H:Hp}
theorem OH {α:Type} {p:α->Prop} {Γ:α->List ag} (hp:∀x,p x->eN v) (h:(sC p Γ).holds H):eN v:=by
 obtain⟨x,h1,_⟩:=h;exact hp x h1
theorem lS {P:Prop} (h:P) (k:P->eN v:=by
 intro h
 first|exact False.elim h|exact OH (fun x hx=>by first| (subst hx;exact⟨_,_,_,rfl⟩)| (obtain⟨hx1,hx2⟩:=hx;subst hx2;exact⟨_,_,_,rfl⟩)| (obtain⟨hx1,hx2,hx3⟩:=hx;subst hx2;exact⟨_,_,_,rfl⟩)| (obtain⟨hx1,hx2⟩:=hx;subst hx1;exact⟨_,_,_,rfl⟩)) h):eN v:=k h
theorem B6 {g:KG} (h:(oD tb g v).holds H):eN v:=by cases g<;>exact lS h
theorem I4 {g:KW} (h:(AW tb g v).holds H):eN v:=by cases g<;>exact lS h
theorem sU {a:An} (h:(eS tb a v).holds H):eN v:=by unfold eS at h;exact lS h
theorem B7 {key:Int} {g:KG} (h:(sK tb key g v).holds H):eN v:=by unfold sK at h;exact lS h
theorem F1 (h:(B5 tb v).holds H):eN v:=by unfold B5 at h;exact lS h
theorem B8 {jp:Nat} {key:Int} {ρ:Value->ag} (h:(qg tb jp key ρ v).holds H):eN v:=by unfold qg at h;exact lS h
theorem I5 {ρ:Value->ag} (h:(FZ ρ v).holds H):eN v:=by unfold FZ at h;exact lS h
theorem qm {r:KR} {jp:Nat} {l:Ax} (h:(fT tb r jp l v).holds H):eN v:=by
 cases r<;>cases l<;>first|exact False.elim h|exact I5 h| (unfold fT at h;exact lS h)
theorem xH {u:KU} {l:Ax} (h:(qh tb u l v).holds H):eN v:=by
 cases u<;>cases l<;>first|exact False.elim h|exact B7 h|exact F1 h|exact B8 h
theorem B9 {t:KT} {l:Ax} (h:(ju tb t l v).holds H):eN v:=by
 cases t<;>cases l<;>first|exact False.elim h|exact sU h|exact xH h
theorem I6 {k:KF} {l:Ax} (h:(uF tb k l v).holds H):eN v:=by
 cases k<;>cases l<;>first|exact False.elim h| (unfold uF at h;exact lS h)
theorem I7 {j:Jo} {jp:Nat×Value} (h:(xF tb j jp v).holds H):eN v:=by unfold xF at h;exact lS h
theorem I8 {k:KO} {l:Ax} (h:(o8 tb k l v).holds H):eN v:=by
 cases k with
 |update f=>cases l<;>first|exact False.elim h| (unfold o8 at h;exact lS h)
 |aA j n=>match l,h with
  | [],h=>exact False.elim h
  | [_],h=>exact False.elim h
  | [_,_],h=>unfold o8 at h;exact lS h
  |_::_::_::_,h=>exact False.elim h
 |leaf j key f r=>cases l<;>first|exact False.elim h| (unfold o8 at h;exact lS h)
theorem Ca {lk:Option Int} {jp:Nat} (h:(sL tb lk jp v).holds H):eN v:=by cases lk<;>(unfold sL at h;exact lS h)
theorem I9 {m:MB} {p:Pl} {ρ:Value->ag} (h:(xG tb m p ρ v).holds H):eN v:=by unfold xG at h;exact lS h
theorem Ja {k:KV} {l:Ax} (h:(iu tb k l v).holds H):eN v:=by
 match k,l,h with
 | .down ..,[],h=>exact False.elim h
 | .down ..,_::_,h=>unfold iu at h;exact lS h
 | .cd ..,[],h=>unfold iu at h;exact lS h
 | .cd ..,_::_,h=>exact False.elim h
 | .cB ..,[],h=>unfold iu at h;exact lS h
 | .cB ..,_::_,h=>exact False.elim h
 | .dm ..,l,h=>unfold iu at h;exact lS h
 | .cN ..,l,h=>unfold iu at h;exact lS h
 | .cU ..,l,h=>unfold iu at h;exact lS h
 | .cE ..,l,h=>unfold iu at h;exact lS h
 | .mf ..,[],h=>exact False.elim h
 | .mf ..,[_],h=>unfold iu at h;exact lS h
 | .mf ..,_::_::_,h=>exact False.elim h
 | .bh ..,[],h=>exact False.elim h
 | .bh ..,[_],h=>unfold iu at h;exact lS h
 | .bh ..,_::_::_,h=>exact False.elim h
 | .bH ..,[],h=>exact False.elim h
 | .bH ..,[_],h=>unfold iu at h;exact lS h
 | .bH ..,_::_::_,h=>exact False.elim h
 | .leaf ..,[],h=>exact False.elim h
 | .leaf ..,_::_,h=>unfold iu at h;exact lS h
 | .res ..,[],h=>exact False.elim h
 | .res ..,_::_,h=>exact qm h
theorem Cb {k:KB} {l:Ax} (h:(eZ tb k l v).holds H):eN v:=by
 match k,l,h with
 | .marks ..,[],h=>exact False.elim h
 | .marks ..,[_],h=>exact False.elim h
 | .marks ..,_::_::_,h=>unfold eZ at h;exact lS h
 | .results ..,[],h=>exact False.elim h
 | .results ..,_::_,h=>unfold eZ at h;exact lS h
 | .update ..,[],h=>unfold eZ at h;exact lS h
 | .update ..,_::_,h=>exact False.elim h
 | .split ..,[],h=>unfold eZ at h;exact lS h
 | .split ..,_::_,h=>exact False.elim h
 | .aL ..,[],h=>exact False.elim h
 | .aL ..,[_],h=>unfold eZ at h;exact lS h
 | .aL ..,_::_::_,h=>exact False.elim h
 | .aG ..,[],h=>exact False.elim h
 | .aG ..,[_],h=>unfold eZ at h;exact lS h
 | .aG ..,_::_::_,h=>exact False.elim h
 | .bS ..,[],h=>exact False.elim h
 | .bS ..,[_],h=>unfold eZ at h;exact lS h
 | .bS ..,_::_::_,h=>exact False.elim h
 | .bO ..,[],h=>exact False.elim h
 | .bO ..,[_],h=>unfold eZ at h;exact lS h
 | .bO ..,_::_::_,h=>exact False.elim h
 | .bW ..,[],h=>exact False.elim h
 | .bW ..,[_],h=>unfold eZ at h;exact lS h
 | .bW ..,_::_::_,h=>exact False.elim h
 | .cK ..,l,h=>unfold eZ at h;exact lS h
 | .bH ..,[],h=>exact False.elim h
 | .bH ..,[_],h=>unfold eZ at h;exact lS h
 | .bH ..,_::_::_,h=>exact False.elim h
 | .fQ ..,l,h=>unfold eZ at h;exact lS h
 | .e8 ..,l,h=>unfold eZ at h;exact lS h
 | .cZ ..,l,h=>exact I9 h
 | .cL ..,l,h=>unfold eZ at h;exact lS h
end Go.Proofs.YtcnohdmimheoaaaGreat
namespace Go.Proofs.YtcnohdmimheoaaaGreat
open E Ar Go.Proofs.Tryz
theorem t1:dg prog 1=some (true,1,8,.nilFunc):=by kernel_rfl
theorem t146:dg prog 146=some (true,1,8,.pointer none):=by kernel_rfl
section
variable (tb xb:Nat) (th:Th) (nx:Value) (s:Sl Pr)
include tb xb th nx s
theorem gn (c:Int) (k:KV) (l:Ax) (kv:Value):aN prog 198 [.pointer (some ⟨tb,0,none⟩),.int .i64 c,kv] [iu tb k l kv] [aE tb xb th nx s] (fun _ Γ M'=>∃nv,Γ=[ri tb (.load c k) l nv]/\M'=[aE tb xb th nv s]):=by
 refine cb fun X H₀ L₀=>?_;refine At.have (eN kv) (fun _ h=>Ja h.2.1) fun hf=>?_;obtain⟨f_kv,a_kv,c_kv,rfl⟩:=hf;refine bx fun b1=>?_;refine bx fun b2=>?_;refine bx fun b3=>?_;refine mc ?_;refine At.aJ (ri tb (.load c k) l (dE 232 [b3,b1,b2])) (fun _ h=>bK ((b3,b1,b2),.func f_kv a_kv c_kv) rfl ⟨h.1,h.2.2.1,h.2.1,h.2.2.2.2.1,trivial⟩) ?_;refine re ?_;exact rs ⟨_,rfl,rfl⟩
theorem dR (c bZ now:Int) (k:KB) (l:Ax) (kv:Value):aN prog 157 [.pointer (some ⟨tb,0,none⟩),.int .i64 c,.int .i64 bZ,.int .i64 now,kv] [eZ tb k l kv] [aE tb xb th nx s] (fun _ Γ M'=>∃nv,Γ=[ri tb (.swap c bZ now k) l nv]/\M'=[aE tb xb th nv s]):=by
 refine cb fun X H₀ L₀=>?_;refine At.have (eN kv) (fun _ h=>Cb h.2.1) fun hf=>?_;obtain⟨f_kv,a_kv,c_kv,rfl⟩:=hf;refine bx fun b1=>?_;refine bx fun b2=>?_;refine bx fun b3=>?_;refine bx fun b4=>?_;refine bx fun b5=>?_;refine mc ?_;refine At.aJ (ri tb (.swap c bZ now k) l (dE 209 [b5,b1,b2,b3,b4])) (fun _ h=>bK ((b5,b1,b2,b3,b4),.func f_kv a_kv c_kv) rfl ⟨h.1,h.2.2.2.2.1,h.2.2.2.1,h.2.2.1,h.2.1,h.2.2.2.2.2.2.1,trivial⟩) ?_;refine re ?_;exact rs ⟨_,rfl,rfl⟩
theorem Jc (c z:Int) (k:KB) (l:Ax) (kv:Value):aN prog 274 [.pointer (some ⟨tb,0,none⟩),.int .i64 c,.int .i64 z,kv] [eZ tb k l kv] [aE tb xb th nx s] (fun _ Γ M'=>∃nv,Γ=[ri tb (.once c z k) l nv]/\M'=[aE tb xb th nv s]):=by
 refine cb fun X H₀ L₀=>?_;refine At.have (eN kv) (fun _ h=>Cb h.2.1) fun hf=>?_;obtain⟨f_kv,a_kv,c_kv,rfl⟩:=hf;refine bx fun b1=>?_;refine bx fun b2=>?_;refine bx fun b3=>?_;refine bx fun b4=>?_;refine mc ?_;refine At.aJ (ri tb (.once c z k) l (dE 283 [b4,b1,b2,b3])) (fun _ h=>bK ((b4,b1,b2,b3),.func f_kv a_kv c_kv) rfl ⟨h.1,h.2.2.2.1,h.2.2.1,h.2.1,h.2.2.2.2.2.1,trivial⟩) ?_;refine re ?_;exact rs ⟨_,rfl,rfl⟩
end
theorem gR (tb xb:Nat) (th:Th) (nx:Value) (s:Sl Pr) (a:An) (s2:Sl Pr):aN prog 163 [.pointer (some ⟨tb,0,none⟩),a.val s2] [] [aE tb xb th nx s] (fun _ Γ M'=>Γ=[]/\M'=[aE tb xb {th with busy:=false,iR:=true,cR:=a} nx s2]):=by
 refine cb fun X H₀ L₀=>?_;refine bx fun b1=>?_;refine dw 10 [6,9] (d_ r_) ?_;refine mc ?_;refine oN rfl (aw t4 rfl rfl (i:=0) rfl rfl rfl rfl) ?_;rintro _ _ _ ⟨rfl,rfl⟩;refine mc ?_;refine yn rfl (aw t4 rfl rfl (i:=0) rfl rfl rfl rfl) ?_;rintro _ _ _ ⟨rfl,rfl⟩;refine re ?_;exact rs ⟨rfl,rfl⟩
theorem xI (xb ba:Nat) (q:Ix) (Mo:aO) (hO:bR 3 1 (q.ord.map aM) q.oa q.oc Mo) (hol:q.ord.length<1000000) (c:Int):aN prog 159 [.pointer (some ⟨xb,0,none⟩),.int .i64 c] [] [ao xb ba q,Mo] (fun _ Γ M'=>∃a k N,Γ=[]/\M'=[ao xb ba {q with ord:=q.ord++[c],oa:=a,oc:=k},N]/\bR 3 1 ((q.ord++[c]).map aM) a k N):=by
 refine cb fun X H₀ L₀=>?_;refine al fun b1=>?_;refine lM (dk rfl underlying26 t3 rfl rfl hO (by simp) (i:=2) rfl rfl (news:=[aM c]) (by simp[aM]) (fc.loc (i:=0) rfl (m:=1) rfl) rfl rfl rfl (by omega) (by unfold maxLen;omega)) ?_;rintro _ _ _ ⟨a,k,N,rfl,ow,rfl,rfl⟩;refine sv 11 (.slice a (q.ord++[c]).length k) ?_ (e:=by simp);refine re ?_;exact rs ⟨a,k,N,rfl,rfl,by simpa using ow⟩
section
variable (tb xb:Nat) (th:Th) (nx:Value) (s:Sl Pr)
include tb xb th nx s
theorem lA (ba:Nat) (q:Ix) (Mo:aO) (hO:bR 3 1 (q.ord.map aM) q.oa q.oc Mo) (hol:q.ord.length<1000000) (a:An) (s2:Sl Pr):aN prog 168 [.pointer (some ⟨tb,0,none⟩),a.val s2] [] [aE tb xb th nx s,ao xb ba q,Mo] (fun _ Γ M'=>∃oa ok N,Γ=[]/\M'=[aE tb xb {th with busy:=false,iR:=true,cR:=a} nx s2,ao xb ba {q with ord:=q.ord++[th.call],oa:=oa,oc:=ok},N]/\bR 3 1 ((q.ord++[th.call]).map aM) oa ok N):=by
 refine cb fun X H₀ L₀=>?_;refine bx fun b1=>?_;refine dw 8 [] r_ ?_;refine ca (xI xb ba _ _ hO hol _) ?_;rintro _ _ _ ⟨oa,ok,No,rfl,rfl,hO2⟩;refine ca (gR tb xb _ _ _ a s2) ?_;rintro _ _ _ ⟨rfl,rfl⟩;refine re ?_;exact rs ⟨oa,ok,No,rfl,rfl,hO2⟩
theorem sV:aN prog 156 [.pointer (some ⟨tb,0,none⟩)] [] [aE tb xb th nx s] (fun _ Γ M'=>Γ=[]/\M'=[aE tb xb {th with busy:=false,iR:=true,cR:=.full} nx (⟨none,0,[]⟩:Sl Pr)]):=by
 refine cb fun X H₀ L₀=>?_;refine ca (gR tb xb _ _ _ .full (⟨none,0,[]⟩:Sl Pr)) ?_;rintro _ _ _ ⟨rfl,rfl⟩;refine re ?_;exact rs ⟨rfl,rfl⟩
end
theorem o9 (key z:Int) (ok:Bool):aN prog 169 [.int .i64 key,.int .i64 z,.bool ok] [] [] (fun v Γ M=>v=(tX key z ok).val (⟨none,0,[]⟩:Sl Pr)/\Γ=[]/\M=[]):=by
 refine cb fun X H₀ L₀=>?_;refine al fun b1=>?_;refine cv (fun h1=>?_) (fun h1=>?_);refine re ?_;exact rs ⟨by rw[bM h1];rfl,rfl,rfl⟩;refine re ?_;exact rs ⟨by rw[bV h1];rfl,rfl,rfl⟩
end Go.Proofs.YtcnohdmimheoaaaGreat
namespace Go.Proofs.YtcnohdmimheoaaaGreat
open E Go.Proofs.Tryz
def Qq (root:Int):Fo:=⟨.zero,root,0,0,false⟩
def sW (tb xb ba:Nat) (th:Th) (s:Sl Pr) (q:Ix) (key:Int) (k:KF) (l:Ax) (v:Value) (Γ:List ag) (M':E.Loc):Prop:=
 ∃nv bf,Γ=[ri tb (.load q.root (.down (Qq q.root) key k)) ((bf,.nilFunc)::l) nv]/\M'=[aE tb xb th nv s,ao xb ba q,nB bf (Qq q.root)]
end Go.Proofs.YtcnohdmimheoaaaGreat
namespace Go.Proofs.YtcnohdmimheoaaaGreat
open E Ar Go.Proofs.Tryz
theorem xJ (tb xb:Nat) (th:Th) (nx:Value) (s:Sl Pr) (f:Fo) (key:Int) (k:KF) (l:Ax) (kv:Value):aN prog 197 [.pointer (some ⟨tb,0,none⟩),f.val,.int .i64 key,kv] [uF tb k l kv] [aE tb xb th nx s] (fun _ Γ M'=>∃nv bf,Γ=[ri tb (.load f.cell (.down f key k)) ((bf,.nilFunc)::l) nv]/\M'=[aE tb xb th nv s,nB bf f]):=by
 refine cb fun X H₀ L₀=>?_;refine At.have (eN kv) (fun _ h=>I6 h.2.1) fun hf=>?_;obtain⟨f_kv,a_kv,c_kv,rfl⟩:=hf;refine bx fun b1=>?_;refine al fun b2=>?_;refine bx fun b3=>?_;refine bx fun b4=>?_;refine mc ?_;refine At.aJ (iu tb (.down f key k) ((b2,.nilFunc)::l) (dE 231 [b1,b2,b4,b3])) (fun _ h=>bK ((b1,b4,b3),.func f_kv a_kv c_kv) rfl ⟨h.2.2.1,h.1,h.2.1,h.2.2.2.2.1,trivial⟩) ?_;refine ca (gn tb xb _ _ _ f.cell (.down f key k) ((b2,.nilFunc)::l) _) ?_;rintro _ _ _ ⟨nv,rfl,rfl⟩;refine re ?_;exact rs ⟨_,b2,rfl,rfl⟩
section
variable (tb xb:Nat) (th:Th) (nx:Value) (s:Sl Pr) (ba:Nat) (q:Ix)
include tb xb th nx s ba q
theorem sX (key:Int) (k:KF) (l:Ax) (kv:Value):aN prog 150 [.pointer (some ⟨tb,0,none⟩),.int .i64 key,kv] [uF tb k l kv] [aE tb xb th nx s,ao xb ba q] (sW tb xb ba th s q key k l):=by
 refine cb fun X H₀ L₀=>?_;refine ca (xJ tb xb _ _ _ (Qq q.root) _ _ _ _) ?_;rintro _ _ _ ⟨nv,bf,rfl,rfl⟩;refine re ?_;exact rs ⟨_,_,rfl,rfl⟩
theorem nC (key:Int) (g:KG) (gv:Value):aN prog 125 [.pointer (some ⟨tb,0,none⟩),.int .i64 key,gv] [oD tb g gv] [aE tb xb th nx s,ao xb ba q] (sW tb xb ba th s q key (.looks key g) []):=by
 refine cb fun X H₀ L₀=>?_;refine At.have (eN gv) (fun _ h=>B6 h.2.1) fun hf=>?_;obtain⟨f_gv,a_gv,c_gv,rfl⟩:=hf;refine bx fun b1=>?_;refine bx fun b2=>?_;refine bx fun b3=>?_;refine al fun b4=>?_;refine mc ?_;refine At.aJ (sK tb key g (dE 164 [b1,b2,b3])) (fun _ h=>bK (b1,b2,b3,.func f_gv a_gv c_gv) rfl ⟨h.2.2.1,h.2.1,h.1,h.2.2.2.2.1,trivial⟩) ?_;refine At.freeze 0 (φ:=aW b4 _) rfl (fun _ h=>cO.2 ⟨_,_,h⟩) ?_;refine mc ?_;refine At.aJ (uF tb (.looks key g) [] (dE 165 [b1,b4,b3])) (fun _ h=>bK ((b1,b4,b3),dE 164 [b1,b2,b3],.func f_gv a_gv c_gv) rfl ⟨h.2.2.2.2.1,h.1,h.2.2.1,h.2.1,h.2.2.2.2.2.2.1,trivial⟩) ?_;refine ca (sX tb xb th _ _ ba q _ (.looks key g) ([]) _) ?_;rintro _ _ _ ⟨nv,bf,rfl,rfl⟩;refine re ?_;exact rs ⟨_,_,rfl,rfl⟩
theorem lE (a:Nat×Value) (j:Jb) (key:Int) (r:KR) (l:Ax) (rv:Value):aN prog 204 [.pointer (some ⟨tb,0,none⟩),.pointer (some ⟨a.1,0,none⟩),.int .i64 key,rv] [fT tb r a.1 l rv] [aE tb xb th nx s,ao xb ba q] (sW tb xb ba th s q key (.leaf j key r) (a::l)):=by
 refine cb fun X H₀ L₀=>?_;refine At.have (eN rv) (fun _ h=>qm h.2.1) fun hf=>?_;obtain⟨f_rv,a_rv,c_rv,rfl⟩:=hf;refine bx fun b1=>?_;refine bx fun b2=>?_;refine bx fun b3=>?_;refine bx fun b4=>?_;refine al fun b5=>?_;refine mc ?_;refine At.aJ (qg tb a.1 key (fT tb r a.1 l) (dE 236 [b1,b2,b3,b4])) (fun _ h=>bK (b1,b2,b3,b4,.func f_rv a_rv c_rv) rfl ⟨h.2.2.2.1,h.2.2.1,h.2.1,h.1,h.2.2.2.2.2.1,trivial⟩) ?_;refine At.freeze 0 (φ:=aW b5 _) rfl (fun _ h=>cO.2 ⟨_,_,h⟩) ?_;refine mc ?_;refine At.aJ (uF tb (.leaf j key r) (a::l) (dE 237 [b1,b2,b4,b5])) (fun _ h=>bK ((b1,b2,b4,b5),.func f_rv a_rv c_rv,dE 236 [b1,b2,b3,b4]) rfl ⟨h.2.2.2.2.2.1,h.2.2.2.2.1,h.2.2.1,h.1,h.2.2.2.2.2.2.2.1,h.2.1,trivial⟩) ?_;refine ca (sX tb xb th _ _ ba q _ (.leaf j key r) (a::l) _) ?_;rintro _ _ _ ⟨nv,bf,rfl,rfl⟩;refine re ?_;exact rs ⟨_,_,rfl,rfl⟩
theorem Ds:aN prog 124 [.pointer (some ⟨tb,0,none⟩)] [] [aE tb xb th nx s,ao xb ba q] (sW tb xb ba th s q th.op.key .update []):=by
 refine cb fun X H₀ L₀=>?_;refine bx fun b1=>?_;refine dw 7 [] r_ ?_;refine mc ?_;refine At.aJ (uF tb .update [] (dE 151 [b1])) (fun _ h=>bK b1 rfl ⟨h.1,trivial⟩) ?_;refine ca (sX tb xb th _ _ ba q _ (.update) ([]) _) ?_;rintro _ _ _ ⟨nv,bf,rfl,rfl⟩;refine re ?_;exact rs ⟨_,_,rfl,rfl⟩
end
end Go.Proofs.YtcnohdmimheoaaaGreat
namespace Go.Proofs.YtcnohdmimheoaaaGreat
open E Go.Proofs.Tryz
def sy (th:Th) (q:Ix) (r:cX):Sy:=⟨th,r.p,q.cF,q.root,q.ord,q.splits,q.aA⟩
def Ix.same (q q':Ix):Prop:=q'.ta=q.ta/\q'.tn=q.tn/\q'.tc=q.tc/\q'.calls=q.calls/\q'.steps=q.steps
theorem Ix.az (q:Ix):q.same q:=⟨rfl,rfl,rfl,rfl,rfl⟩
def jX (tb:Nat):Option Nx->Ax->Value->ag
 |none,_,v=>sC (α:=Unit) (fun _=>v= .nilFunc) fun _=>[]
 |some n,l,v=>ri tb n l v
def K4:Option Nx->Ax->aO->Prop
 |none,_,M=>M=[]
 |some n,l,M=>Mc n l M
def aX (tb xb ba:Nat) (q:Ix) (s':Sy) (_:Value) (Γ:List ag) (M':E.Loc):Prop:=
 ∃(q':Ix) (r':cX) (nv:Value) (sl:Sl Pr) (No Na Nj:aO) (l:Ax),Γ=[ak r'.rows,jX tb s'.th.next l nv,aC sl]/\M'=[aE tb xb s'.th nv sl,ao xb ba q',No,Na,Nj]/\
  bR 3 1 (q'.ord.map aM) q'.oa q'.oc No/\aR ba r' Na/\K4 s'.th.next l Nj/\s'=sy s'.th q' r'/\q.same q'/\sl.l=s'.th.cR.l
def eI (v:Value) (args:List Value) (H:Hp) (M:E.Loc) (R:Value->List ag->E.Loc->Prop):Prop:=
 ∃(f:Nat) (first caps:Array Value) (all:List Value) (pre:List ag),v= .func (.func f) first caps/\first++args.toArray++caps=all.toArray/\ah prog f/\ax pre H/\aN prog f all pre M R
theorem eI.of {f:Nat} {first caps:Array Value} {all:List Value} {pre:List ag} {args:List Value} {H:Hp} {M:E.Loc} {R:Value->List ag->E.Loc->Prop} (c:aN prog f all pre M R) (hall:first++args.toArray++caps=all.toArray)
  (en:ah prog f) (hp:ax pre H):eI (.func (.func f) first caps) args H M R:=⟨f,first,caps,all,pre,rfl,hall,en,hp,c⟩
theorem aN.fI {f:Nat} {all:List Value} {pre:List ag} {A B C D:aO} {R:Value->List ag->E.Loc->Prop} (h:aN prog f all pre [A,B,C,D] R):aN prog f all pre [A,B,C,D,[]] R:=
 fun X w H L hp hst=>h X w H L hp (hst.flat (by simp))
section
variable {X:Cx} {n:Nat} {env:Env} {Γ:List ag} {L L0 M:E.Loc} {Q:Exit->Act->World->Prop} {rest:List Oper} {ops:Array Oper} {R:Value->List ag->E.Loc->Prop}
 {args:List Operand} {vs:List Value} {ats:Array TypeId} {ty:TypeId} {pos:String} {aft:Array Edge} {d:Nat} {x:Operand} {v:Value}
theorem At.oK (hx:ev env x=some v) (ha:pF env args=some vs) (hc:∀H,ax Γ H->eI v vs H M R) (hL:(M++L0).Perm L) (hd:Nat.blt d n=true)
  (h:∀u Γr Mr,R u Γr Mr->At X n (wpList prog ops Q rest) ((d,u)::env) (Γr++Γ) (Mr++L0)):
  At X n (wpList prog ops Q (⟨some d,.call ⟨.value x,args.toArray,ats⟩,ty,pos,aft,none⟩::rest)) env Γ L:=fun a w H h1 h2 h3=>by
 obtain⟨f,fi,ca,all,pre,e1,e2,e3,e4,e5⟩:=hc H h2;subst e1
 exact At.rS (Γ:=pre++Γ) (pre:=pre) e3 hx ha e2 e5 (fun _ hh=>hh.left) hL hd (fun u Γr Mr hr=>At.facts (Γr++Γ) (fun H' hh=>by
  have h7:=hh.right;exact hh.left.app h7.right) (h u Γr Mr hr)) a w H h1 (e4.app h2) h3
end
end Go.Proofs.YtcnohdmimheoaaaGreat
namespace Go.Proofs.YtcnohdmimheoaaaGreat
open E Go Go.Proofs.Tryz
section
variable {X:Cx} {n:Nat} {env:Env} {Γ:List ag} {L L0 L₀ M:E.Loc} {Q:Exit->Act->World->Prop} {rest:List Oper} {ops:Array Oper} {R Rc:Value->List ag->E.Loc->Prop} {d:Nat} {ty:TypeId} {pos:String} {aft:Array Edge} {x:Operand} {args:List Operand} {v:Value} {vs:List Value} {ats:Array TypeId}
structure W5 (v:Value) (vs:List Value) (Γ:List ag) (L L0:E.Loc) (R:Value->List ag->E.Loc->Prop):Prop where
 u:∃M,(∀H,ax Γ H->eI v vs H M R)/\(M++L0).Perm L
theorem Vj (hc:W5 v vs Γ L L0 R) (h:∀u Γr Mr,R u Γr Mr->At X n (wpList prog ops Q rest) ((d,u)::env) (Γr++Γ) (Mr++L0)) (hx:ev env x=some v:=by exact rfl) (ha:pF env args=some vs:=by exact rfl) (hd:Nat.blt d n=true:=by exact rfl):
  At X n (wpList prog ops Q (⟨some d,.call ⟨.value x,args.toArray,ats⟩,ty,pos,aft,none⟩::rest)) env Γ L:=by
 obtain⟨M,h1,h2⟩:=hc.u;exact At.oK hx ha h1 h2 hd h
def Vk (v:Value) (vs:List Value) (Γ:List ag) (L L₀:E.Loc) (R:Value->List ag->E.Loc->Prop):Prop:=(∀a b Γ M,R a Γ M->R b Γ M)/\∃L0,W5 v vs Γ L L0 R/\Sp L₀ L0
theorem Vl (e:Vk v vs Γ L L₀ R) (hx:ev env x=some v) (ha:pF env args=some vs) (hd:Nat.blt d n=true)
  (h:∀u Γr Mr L0,(∀u,Qp R u (Γr++Γ) (Mr++L0) L₀)->At X n (wpList prog ops Q rest) ((d,u)::env) (Γr++Γ) (Mr++L0)):
  At X n (wpList prog ops Q (⟨some d,.call ⟨.value x,args.toArray,ats⟩,ty,pos,aft,none⟩::rest)) env Γ L:=by
 obtain⟨h0,L0,h1,h2⟩:=e;refine Vj h1 (fun u Γr Mr hr=>h u Γr Mr L0 fun v=>⟨Γr,Mr,h0 u v _ _ hr,fun _ h=>h.left,?_⟩) hx ha hd;obtain⟨Y,p,s⟩:=h2;exact⟨Mr++Y,(List.Perm.append_left Mr p),s.append_left Mr⟩
theorem te {p q:Prop} (k:q) (h:vu q->p:=by
 intro k;refine mc ?_
 exact Vl k.u rfl rfl rfl fun u Γr Mr L0 hh=>by
  refine mc ?_
  first
  |exact Lq (hh _) (hold:=by
   refine List.mem_append_right _ ?_
   try simp only[List.cons_append,List.nil_append]
   repeat (first|with_reducible exact List.mem_cons_self|apply List.mem_cons_of_mem))
  |exact NR (hh _) (hold:=by
   refine List.mem_append_right _ ?_
   try simp only[List.cons_append,List.nil_append]
   repeat (first|with_reducible exact List.mem_cons_self|apply List.mem_cons_of_mem))):p:=h ⟨k⟩
theorem td (c:∀H,ax Γ H->eI v vs H M R) (hL:(M++L0).Perm L:=by
   try simp only[List.set_cons_zero,List.set_cons_succ,List.eraseIdx_cons_zero,List.eraseIdx_cons_succ,List.cons_append,List.nil_append,List.append_eq]
   repeat (first|with_reducible exact NL| (apply NM;focus (repeat (first|exact C4|apply C5)))))
  (hs:Sp L₀ L0:=by
   try simp only[List.set_cons_zero,List.set_cons_succ,List.eraseIdx_cons_zero,List.eraseIdx_cons_succ,List.cons_append,List.nil_append,List.append_eq]
   refine Qz ?_;repeat (first|with_reducible exact List.Sublist.refl _|apply Qy)) (hi:∀a b Γ M,R a Γ M->R b Γ M:=by exact fun _ _ _ _ h=>h):Vk v vs Γ L L₀ R:=⟨hi,L0,⟨M,c,hL⟩,hs⟩
theorem lU (e:R=Rc) (c:∀H,ax Γ H->eI v vs H M Rc) (hL:(M++L0).Perm L:=by
   try simp only[List.set_cons_zero,List.set_cons_succ,List.eraseIdx_cons_zero,List.eraseIdx_cons_succ,List.cons_append,List.nil_append,List.append_eq]
   repeat (first|with_reducible exact NL| (apply NM;focus (repeat (first|exact C4|apply C5)))))
  (hs:Sp L₀ L0:=by
   try simp only[List.set_cons_zero,List.set_cons_succ,List.eraseIdx_cons_zero,List.eraseIdx_cons_succ,List.cons_append,List.nil_append,List.append_eq]
   refine Qz ?_;repeat (first|with_reducible exact List.Sublist.refl _|apply Qy)) (hi:∀a b Γ M,R a Γ M->R b Γ M:=by exact fun _ _ _ _ h=>h):Vk v vs Γ L L₀ R:=by
 subst e;exact td c hL hs hi
end
end Go.Proofs.YtcnohdmimheoaaaGreat
