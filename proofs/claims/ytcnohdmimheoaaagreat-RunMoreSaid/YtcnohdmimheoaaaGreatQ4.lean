/- Texts of this seat, joined: part 4. -/
import Derived.Test.YtcnohdmimheoaaaGreatQ3
set_option linter.all false
set_option maxRecDepth 4000
namespace Go.Proofs.YtcnohdmimheoaaaGreat
open E Ar Go.Proofs.Tryz
theorem Ph:ah prog 200:=ah.mk' func200 rfl rfl
theorem Pj:ah prog 201:=ah.mk' func201 rfl rfl
theorem Pm:ah prog 202:=ah.mk' func202 rfl rfl
def MD:KF->Prop
 | .leaf j _ _=>j.au.length<1000000
 |_=>True
section
variable (tb xb ba:Nat) (bz:Bool) (op:bA) (call:Int) (lt ov:Bool) (an:An) (s:Sl Pr) (hs:s.l=an.l) (q:Ix) (Mo:aO) (hO:bR 3 1 (q.ord.map aM) q.oa q.oc Mo) (hol:q.ord.length<1000000) (r:cX) (M:aO) (hA:aR ba r M)
include tb xb ba bz op call lt ov an s hs q Mo hO hol r M hA
theorem Pn (f:Fo) {k:KF} {l:Ax} {v:Value} {H:Hp} {Mj:aO} (hf:MD k) (hr:(ak r.rows).holds H) (hps:(aC s).holds H) (h:(uF tb k l v).holds H) (hJ:L8 k l Mj):
  eI v [f.val] H [aE tb xb (⟨bz,op,call,lt,none,ov,an⟩:Th) .nilFunc s,ao xb ba q,Mo,M,Mj] (aX tb xb ba q ((sy (⟨bz,op,call,lt,none,ov,an⟩:Th) q r).iJ f k)):=by
 match k,l,h,hJ with
 | .looks key g,[],h,hJ=>
  obtain⟨x,rfl,h1,h2,h3,h4,h5,_⟩:=h
  cases hJ
  exact .of (aN.fI (GM tb xb ba bz op call lt ov an s hs q Mo hO hol r M hA x.1.1 x.1.2.1 x.1.2.2 f key g x.2.1 x.2.2)) rfl Pd ⟨hr,hps,h1,h2,h3,h4,h5,trivial⟩
 | .update,[],h,hJ=>
  obtain⟨x,rfl,h1,_⟩:=h
  cases hJ
  exact .of (aN.fI (GL tb xb ba bz op call lt ov an s hs q Mo hO hol r M hA x f)) rfl Pc ⟨hr,hps,h1,trivial⟩
 | .aA b a,[],h,hJ=>
  obtain⟨x,rfl,h1,h2,h3,h4,_⟩:=h
  cases hJ
  exact .of (aN.fI (GO tb xb ba bz op call lt ov an s hs q Mo hO hol r M hA x.1.1 x.1.2.1 x.1.2.2 f b a x.2)) rfl Pg ⟨hr,hps,h1,h2,h3,h4,trivial⟩
 | .leaf j key k,a::l,h,hJ=>
  obtain⟨x,rfl,h1,h2,h3,h4,h5,h6,_⟩:=h;obtain⟨M1,M2,rfl,⟨ja,jc,Mb,rfl,hB⟩,hJ2⟩:=hJ;exact .of (aN.flat (by simp) (GN tb xb ba bz op call lt ov an s hs q Mo hO hol r M hA a j ja jc Mb hB hf x.1.1 x.1.2.1 x.1.2.2.1 x.1.2.2.2 key f k l x.2.2 x.2.1 M2 hJ2)) rfl Pe ⟨hr,hps,h1,h2,h3,h4,h6,h5,trivial⟩
 | .looks ..,_::_,h,_=>exact False.elim h
 | .update,_::_,h,_=>exact False.elim h
 | .aA ..,_::_,h,_=>exact False.elim h
 | .leaf ..,[],h,_=>exact False.elim h
theorem Js (p1 p2:Nat) (z:Int) (b:Bs) (o:KO) (l:Ax) (wo:Value) (Mj:aO) (hJ:zx o l Mj):aN prog 200 [.int .i64 z,.pointer (some ⟨p1,0,none⟩),.pointer (some ⟨p2,0,none⟩)] [ak r.rows,aC s,aW p1 #[wo],aW p2 b.cells,o8 tb o l wo] [aE tb xb (⟨bz,op,call,lt,none,ov,an⟩:Th) .nilFunc s,ao xb ba q,Mo,M,Mj] (aX tb xb ba q ((sy (⟨bz,op,call,lt,none,ov,an⟩:Th) q r).df z (.dm b o))):=by
 refine cb fun X H₀ L₀=>?_;refine te ?_;exact td fun _ h=>zN tb xb ba bz op call lt ov an s hs q Mo hO hol r M hA (decide (z= -2)) (b.stat) (de h) (de h) (de h) hJ
theorem Jt (p1 p2:Nat) (z:Int) (b:Bs) (o:KO) (l:Ax) (wo:Value) (Mj:aO) (hJ:zx o l Mj):aN prog 201 [.int .i64 z,.pointer (some ⟨p1,0,none⟩),.pointer (some ⟨p2,0,none⟩)] [ak r.rows,aC s,aW p1 #[wo],aW p2 b.cells,o8 tb o l wo] [aE tb xb (⟨bz,op,call,lt,none,ov,an⟩:Th) .nilFunc s,ao xb ba q,Mo,M,Mj] (aX tb xb ba q ((sy (⟨bz,op,call,lt,none,ov,an⟩:Th) q r).df z (.cN b o))):=by
 refine cb fun X H₀ L₀=>?_;refine sp 7 (fun h1=>?_) (fun h1=>?_);refine te ?_;exact lU (by rw[show(sy (⟨bz,op,call,lt,none,ov,an⟩:Th) q r).df z (.cN b o)=(sy (⟨bz,op,call,lt,none,ov,an⟩:Th) q r).fv true b.stat o from by simp[Sy.df,h1]]<;>rfl) fun _ h=>zN tb xb ba bz op call lt ov an s hs q Mo hO hol r M hA (true) (b.stat) (de h) (de h) (de h) hJ;refine te ?_;exact lU (by rw[show(sy (⟨bz,op,call,lt,none,ov,an⟩:Th) q r).df z (.cN b o)=(sy (⟨bz,op,call,lt,none,ov,an⟩:Th) q r).fv (decide (z= -3)) b.stat o from by simp[Sy.df,h1]]<;>rfl) fun _ h=>zN tb xb ba bz op call lt ov an s hs q Mo hO hol r M hA (decide (z= -3)) (b.stat) (de h) (de h) (de h) hJ
theorem Ju (p1 p2 p3:Nat) (z:Int) (b:Bs) (o:KO) (l:Ax) (wo:Value) (Mj:aO) (hJ:zx o l Mj):aN prog 202 [.int .i64 z,.pointer (some ⟨p1,0,none⟩),.pointer (some ⟨p2,0,none⟩),.pointer (some ⟨p3,0,none⟩)] [ak r.rows,aC s,aW p1 #[wo],eY tb p2,aW p3 b.cells,o8 tb o l wo] [aE tb xb (⟨bz,op,call,lt,none,ov,an⟩:Th) .nilFunc s,ao xb ba q,Mo,M,Mj] (aX tb xb ba q ((sy (⟨bz,op,call,lt,none,ov,an⟩:Th) q r).df z (.cU b o))):=by
 refine cb fun X H₀ L₀=>?_;refine dw 10 [9] (k_ (d_ (k_ (d_ (k_ r_))))) ?_;refine oA (jV xb ba q r _ hA _ _) ?_;refine te ?_;exact td fun _ h=>zN tb xb ba bz op call lt ov an s hs q Mo hO hol r M hA (decide (z≠0)) (fx r.p q.cF b z) (de h) (de h) (de h) hJ
end
theorem Po:ah prog 213:=ah.mk' func213 rfl rfl
theorem Pp:ah prog 214:=ah.mk' func214 rfl rfl
theorem Pq:ah prog 233:=ah.mk' func233 rfl rfl
section
variable (tb xb ba:Nat) (bz:Bool) (op:bA) (call:Int) (lt ov:Bool) (an:An) (s:Sl Pr) (hs:s.l=an.l) (q:Ix) (Mo:aO) (hO:bR 3 1 (q.ord.map aM) q.oa q.oc Mo) (hol:q.ord.length<1000000) (r:cX) (M:aO) (hA:aR ba r M)
include tb xb ba bz op call lt ov an s hs q Mo hO hol r M hA
theorem GP (p1 p2 p3 p4:Nat) (z:Int) (f:Fo) (key:Int) (g:KG) (uv gv:Value):aN prog 213 [.int .i64 z,.pointer (some ⟨p1,0,none⟩),.pointer (some ⟨p2,0,none⟩),.pointer (some ⟨p3,0,none⟩),.pointer (some ⟨p4,0,none⟩)] [ak r.rows,aC s,aW p1 #[uv],eY tb p2,aW p3 f.cells,aW p4 #[gv],sK tb key g uv,oD tb g gv] [aE tb xb (⟨bz,op,call,lt,none,ov,an⟩:Th) .nilFunc s,ao xb ba q,Mo,M] (aX tb xb ba q ((sy (⟨bz,op,call,lt,none,ov,an⟩:Th) q r).df z (.cd f key g))):=by
 refine cb fun X H₀ L₀=>?_;refine fi (fun h1=>?_) (fun h1=>?_);refine mc ?_;refine At.aJ (qh tb (.looks key g) [] uv) (fun _ h=>h.2.2.2.2.2.2.2.1) ?_;refine At.ck ?_;refine At.front 0 rfl ?_;refine At.front 4 rfl ?_;refine At.front 4 rfl ?_;refine At.front 4 rfl ?_;refine At.front 4 rfl ?_;refine At.oK rfl rfl (fun _ h=>uK tb xb ba bz op call lt ov an s hs q Mo hO hol r M hA h.2.2.1 h.2.2.2.1 h.1 rfl) (List.Perm.refl _) rfl ?_;rintro _ _ _ ⟨q9,r9,nv9,sl9,No9,Na9,Nj9,l9,rfl,rfl,hE⟩;refine At.nil ?_;refine At.kV ?_;refine At.front 4 rfl ?_;refine At.front 4 rfl ?_;refine At.front 4 rfl ?_;refine At.front 4 rfl ?_;refine At.front 4 rfl ?_;exact At.pJ (Γr:=[_,_,_]) (M:=[_,_,_,_,_]) rfl aT.nil (ix 4 rfl) (fun _ h=>⟨h.1,h.2.1,h.2.2.1,trivial⟩) (k_ (k_ (k_ (k_ (k_ r_))))) ((by rw[show(sy (⟨bz,op,call,lt,none,ov,an⟩:Th) q r).df z (.cd f key g)=(sy (⟨bz,op,call,lt,none,ov,an⟩:Th) q r).looks key g from if_pos h1];exact⟨q9,r9,nv9,sl9,No9,Na9,Nj9,l9,rfl,rfl,hE⟩));refine fi (fun h2=>?_) (fun h2=>?_);refine mc ?_;refine At.aJ (iu tb (.cB f key g) [] (dE 214 [p3,p4,p1])) (fun _ h=>bK ((p3,p4,p1),uv,gv) rfl ⟨h.2.2.2.2.2.1,h.2.2.2.2.2.2.1,h.2.2.2.1,h.2.2.2.2.2.2.2.1,h.2.2.2.2.2.2.2.2.1,trivial⟩) ?_;refine ca (gn tb xb _ _ _ (f.cell) (.cB f key g) ([]) _) ?_;rintro _ _ _ ⟨nv,rfl,rfl⟩;refine mc ?_;refine At.ck ?_;refine re ?_;exact rs (by rw[show(sy (⟨bz,op,call,lt,none,ov,an⟩:Th) q r).df z (.cd f key g)=(sy (⟨bz,op,call,lt,none,ov,an⟩:Th) q r).go (.load f.cell (.cB f key g))from(if_neg h1).trans (if_pos h2)];exact⟨q,r,nv,s,Mo,_,[],[],rfl,rfl,hO,hA,rfl,rfl,Ix.az q,hs⟩);refine te ?_;exact lU (by rw[show(sy (⟨bz,op,call,lt,none,ov,an⟩:Th) q r).df z (.cd f key g)=(sy (⟨bz,op,call,lt,none,ov,an⟩:Th) q r).gD f g from(if_neg h1).trans (if_neg h2)]<;>rfl) fun _ h=>Gc tb xb ba bz op call lt ov an s hs q Mo hO hol r M hA f (de h) (de h) (de h)
theorem GQ (p1 p2 p3:Nat) (z:Int) (f:Fo) (key:Int) (g:KG) (uv gv:Value):aN prog 214 [.int .i64 z,.pointer (some ⟨p1,0,none⟩),.pointer (some ⟨p2,0,none⟩),.pointer (some ⟨p3,0,none⟩)] [ak r.rows,aC s,aW p1 f.cells,aW p2 #[gv],aW p3 #[uv],sK tb key g uv,oD tb g gv] [aE tb xb (⟨bz,op,call,lt,none,ov,an⟩:Th) .nilFunc s,ao xb ba q,Mo,M] (aX tb xb ba q ((sy (⟨bz,op,call,lt,none,ov,an⟩:Th) q r).df z (.cB f key g))):=by
 refine cb fun X H₀ L₀=>?_;refine fi (fun h1=>?_) (fun h1=>?_);refine te ?_;exact lU (by rw[show(sy (⟨bz,op,call,lt,none,ov,an⟩:Th) q r).df z (.cB f key g)=(sy (⟨bz,op,call,lt,none,ov,an⟩:Th) q r).gD f g from if_pos h1]<;>rfl) fun _ h=>Gc tb xb ba bz op call lt ov an s hs q Mo hO hol r M hA f (de h) (de h) (de h);refine mc ?_;refine At.aJ (qh tb (.looks key g) [] uv) (fun _ h=>h.2.2.2.2.2.2.1) ?_;refine At.ck ?_;refine At.front 0 rfl ?_;refine At.front 4 rfl ?_;refine At.front 4 rfl ?_;refine At.front 4 rfl ?_;refine At.front 4 rfl ?_;refine At.oK rfl rfl (fun _ h=>uK tb xb ba bz op call lt ov an s hs q Mo hO hol r M hA h.2.2.1 h.2.2.2.1 h.1 rfl) (List.Perm.refl _) rfl ?_;rintro _ _ _ ⟨q9,r9,nv9,sl9,No9,Na9,Nj9,l9,rfl,rfl,hE⟩;refine At.nil ?_;refine At.front 4 rfl ?_;refine At.front 4 rfl ?_;refine At.front 4 rfl ?_;refine At.front 4 rfl ?_;refine At.front 4 rfl ?_;exact At.pJ (Γr:=[_,_,_]) (M:=[_,_,_,_,_]) rfl aT.nil (ix 4 rfl) (fun _ h=>⟨h.1,h.2.1,h.2.2.1,trivial⟩) (k_ (k_ (k_ (k_ (k_ r_))))) ((by rw[show(sy (⟨bz,op,call,lt,none,ov,an⟩:Th) q r).df z (.cB f key g)=(sy (⟨bz,op,call,lt,none,ov,an⟩:Th) q r).looks key g from if_neg h1];exact⟨q9,r9,nv9,sl9,No9,Na9,Nj9,l9,rfl,rfl,hE⟩))
theorem Jv (p1 p2 p3:Nat) (z:Int) (m:MB) (u:KU) (l:Ax) (uv:Value) (Mj:aO) (hJ:AX u l Mj):aN prog 233 [.int .i64 z,.pointer (some ⟨p1,0,none⟩),.pointer (some ⟨p2,0,none⟩),.pointer (some ⟨p3,0,none⟩)] [ak r.rows,aC s,eY tb p1,aW p2 m.cells,aW p3 #[uv],qh tb u l uv] [aE tb xb (⟨bz,op,call,lt,none,ov,an⟩:Th) .nilFunc s,ao xb ba q,Mo,M,Mj] (aX tb xb ba q ((sy (⟨bz,op,call,lt,none,ov,an⟩:Th) q r).df z (.cE m u))):=by
 refine cb fun X H₀ L₀=>?_;refine fi (fun h1=>?_) (fun h1=>?_);refine mc ?_;refine At.aJ (ju tb (.u u) l uv) (fun _ h=>h.2.2.2.2.2.2.1) ?_;refine ca (jE tb xb ba bz op call lt ov an s hs q Mo hO hol r M hA m (.u u) l _ Mj hJ) ?_;rintro _ _ _ ⟨q9,r9,nv9,sl9,No9,Na9,Nj9,l9,rfl,rfl,hE⟩;refine re ?_;exact rs (by rw[show(sy (⟨bz,op,call,lt,none,ov,an⟩:Th) q r).df z (.cE m u)=(sy (⟨bz,op,call,lt,none,ov,an⟩:Th) q r).cK m (.u u)from if_pos h1];exact⟨q9,r9,nv9,sl9,No9,Na9,Nj9,l9,rfl,rfl,hE⟩);refine ca (ik ba r _ hA _) ?_;refine fi (fun h2=>?_) (fun h2=>?_);refine At.aJ (ju tb (.u u) l uv) (fun _ h=>h.2.2.2.2.2.2.1) ?_;refine dv 9 [0,1,2,3,4,5,6,8,107] (d_ (k_ (d_ (k_ (k_ r_))))) ?_;refine oA (sT xb ba q r _ hA _) ?_;refine ca (qu tb xb ba bz op call lt ov an s hs q Mo hO hol r M hA m (r.p.aa z) (.u u) l _ Mj hJ) ?_;rintro _ _ _ ⟨q9,r9,nv9,sl9,No9,Na9,Nj9,l9,rfl,rfl,hE⟩;refine re ?_;exact rs (by rw[show(sy (⟨bz,op,call,lt,none,ov,an⟩:Th) q r).df z (.cE m u)=(sy (⟨bz,op,call,lt,none,ov,an⟩:Th) q r).eD m (r.p.aa z) (.u u)from(if_neg h1).trans (if_pos h2)];exact⟨q9,r9,nv9,sl9,No9,Na9,Nj9,l9,rfl,rfl,hE⟩);refine te ?_;exact lU (by rw[show(sy (⟨bz,op,call,lt,none,ov,an⟩:Th) q r).df z (.cE m u)=(sy (⟨bz,op,call,lt,none,ov,an⟩:Th) q r).mJ u from(if_neg h1).trans (if_neg h2)]<;>rfl) fun _ h=>uK tb xb ba bz op call lt ov an s hs q Mo hO hol r M hA (de h) (de h) (de h) hJ
end
theorem Ps:ah prog 231:=ah.mk' func231 rfl rfl
theorem Pt:ah prog 239:=ah.mk' func239 rfl rfl
section
variable (tb xb ba:Nat) (bz:Bool) (op:bA) (call:Int) (lt ov:Bool) (an:An) (s:Sl Pr) (hs:s.l=an.l) (q:Ix) (Mo:aO) (hO:bR 3 1 (q.ord.map aM) q.oa q.oc Mo) (hol:q.ord.length<1000000) (r:cX) (M:aO) (hA:aR ba r M)
include tb xb ba bz op call lt ov an s hs q Mo hO hol r M hA
theorem Jw (fb p1 p2 p3:Nat) (z:Int) (f:Fo) (key:Int) (k:KF) (l:Ax) (kv:Value) (Mj:aO) (hJ:L8 k l Mj) (hf:MD k):aN prog 231 [.int .i64 z,.pointer (some ⟨p1,0,none⟩),.pointer (some ⟨fb,0,none⟩),.pointer (some ⟨p2,0,none⟩),.pointer (some ⟨p3,0,none⟩)] [ak r.rows,aC s,eY tb p1,aW p2 #[kv],aW p3 (cI key),uF tb k l kv] [aE tb xb (⟨bz,op,call,lt,none,ov,an⟩:Th) .nilFunc s,ao xb ba q,Mo,M,nB fb f,Mj] (aX tb xb ba q ((sy (⟨bz,op,call,lt,none,ov,an⟩:Th) q r).df z (.down f key k))):=by
 refine cb fun X H₀ L₀=>?_;refine ca (ik ba r _ hA _) ?_;refine fi (fun h1=>?_) (fun h1=>?_);refine ca (ea xb ba q r _ hA _) ?_;refine sG 25 (({f with b:=r.p.base z}:Fo).val) ?_;refine te ?_;exact lU (by rw[show(sy (⟨bz,op,call,lt,none,ov,an⟩:Th) q r).df z (.down f key k)=(sy (⟨bz,op,call,lt,none,ov,an⟩:Th) q r).iJ ({f with b:=r.p.base z}:Fo) k from if_pos h1]<;>rfl) fun _ h=>Pn tb xb ba bz op call lt ov an s hs q Mo hO hol r M hA ({f with b:=r.p.base z}:Fo) hf (de h) (de h) (de h) hJ;refine ca (ir xb ba q r _ hA _) ?_;refine al fun b1=>?_;refine dw 5 [4] (k_ (k_ (k_ (k_ (k_ (d_ (k_ r_))))))) ?_;refine mc ?_;refine yn rfl (aw t3 rfl rfl (i:=5) rfl rfl rfl rfl) ?_;rintro _ _ _ ⟨rfl,rfl⟩;refine mc ?_;refine At.front 5 rfl ?_;refine At.piece (B:=nB fb ({f with up:=z,cell:=(r.p.aj z).right}:Fo)) rfl ?_;refine fi (fun h2=>?_) (fun h2=>?_);refine dw 6 [5] (d_ (k_ (k_ (k_ (k_ (k_ (k_ r_))))))) ?_;refine mc ?_;refine yn rfl (aw t3 rfl rfl (i:=0) rfl rfl rfl rfl) ?_;rintro _ _ _ ⟨rfl,rfl⟩;refine mc ?_;refine At.piece (B:=nB fb ({f with up:=z,cell:=(r.p.aj z).left,dW:=(r.p.aj z).key,cY:=true}:Fo)) rfl ?_;refine mc ?_;refine At.fZ 50 (({f with up:=z,cell:=(r.p.aj z).left,dW:=(r.p.aj z).key,cY:=true}:Fo).val) rfl (rfl) ?_;refine ca (xJ tb xb _ _ _ ({f with up:=z,cell:=(r.p.aj z).left,dW:=(r.p.aj z).key,cY:=true}:Fo) key k l _) ?_;rintro _ _ _ ⟨nv,bf,rfl,rfl⟩;refine mc ?_;refine At.front 7 rfl ?_;refine At.front 2 rfl ?_;refine At.cH ?_;refine re ?_;exact rs (by rw[show(sy (⟨bz,op,call,lt,none,ov,an⟩:Th) q r).df z (.down f key k)=(sy (⟨bz,op,call,lt,none,ov,an⟩:Th) q r).go (.load ({f with up:=z,cell:=(r.p.aj z).left,dW:=(r.p.aj z).key,cY:=true}:Fo).cell (.down ({f with up:=z,cell:=(r.p.aj z).left,dW:=(r.p.aj z).key,cY:=true}:Fo) key k))from(if_neg h1).trans (congrArg (fun g=>Sy.down (sy (⟨bz,op,call,lt,none,ov,an⟩:Th) q r) g key k) (if_pos h2))];exact⟨q,r,nv,s,Mo,_,_,((bf,.nilFunc)::l),rfl,rfl,hO,hA,⟨_,rfl,hJ⟩,rfl,Ix.az q,hs⟩);refine mc ?_;refine At.piece (B:=nB fb ({f with up:=z,cell:=(r.p.aj z).right}:Fo)) rfl ?_;refine mc ?_;refine At.fZ 50 (({f with up:=z,cell:=(r.p.aj z).right}:Fo).val) rfl (rfl) ?_;refine ca (xJ tb xb _ _ _ ({f with up:=z,cell:=(r.p.aj z).right}:Fo) key k l _) ?_;rintro _ _ _ ⟨nv,bf,rfl,rfl⟩;refine mc ?_;refine At.front 7 rfl ?_;refine At.front 2 rfl ?_;refine At.cH ?_;refine re ?_;exact rs (by rw[show(sy (⟨bz,op,call,lt,none,ov,an⟩:Th) q r).df z (.down f key k)=(sy (⟨bz,op,call,lt,none,ov,an⟩:Th) q r).go (.load ({f with up:=z,cell:=(r.p.aj z).right}:Fo).cell (.down ({f with up:=z,cell:=(r.p.aj z).right}:Fo) key k))from(if_neg h1).trans (congrArg (fun g=>Sy.down (sy (⟨bz,op,call,lt,none,ov,an⟩:Th) q r) g key k) (if_neg h2))];exact⟨q,r,nv,s,Mo,_,_,((bf,.nilFunc)::l),rfl,rfl,hO,hA,⟨_,rfl,hJ⟩,rfl,Ix.az q,hs⟩)
theorem Jx (a:Nat×Value) (j:Jb) (ja:Option Addr) (jc:Nat) (Mb:aO) (hB:bR 3 1 (j.au.map aM) ja jc Mb) (p1 p2 p3 p4 p5:Nat) (z key:Int) (f:Fo) (k:KR) (l:Ax) (gv rv:Value) (Mj:aO) (hJ:sM k l Mj) (hz:z≠0->∀lo hi qt w,k= .whole lo hi qt w->nH r.p z):aN prog 239 [.int .i64 z,.pointer (some ⟨p1,0,none⟩),.pointer (some ⟨p2,0,none⟩),.pointer (some ⟨p3,0,none⟩),.pointer (some ⟨p4,0,none⟩),.pointer (some ⟨p5,0,none⟩)] [ak r.rows,aC s,aW p1 #[rv],eY tb p2,aW p3 f.cells,aW p4 #[gv],aW p5 #[ptr a.1],qg tb a.1 key (fT tb k a.1 l) gv,fT tb k a.1 l rv] [aE tb xb (⟨bz,op,call,lt,none,ov,an⟩:Th) .nilFunc s,ao xb ba q,Mo,M,jg a.1 j ja j.au.length jc,Mb,Mj] (aX tb xb ba q ((sy (⟨bz,op,call,lt,none,ov,an⟩:Th) q r).df z (.leaf j key f k))):=by
 refine cb fun X H₀ L₀=>?_;refine fi (fun h1=>?_) (fun h1=>?_);refine mc ?_;refine At.front 6 rfl ?_;refine At.front 5 rfl ?_;refine At.cH ?_;refine te ?_;exact lU (by rw[show(sy (⟨bz,op,call,lt,none,ov,an⟩:Th) q r).df z (.leaf j key f k)=(sy (⟨bz,op,call,lt,none,ov,an⟩:Th) q r).iV j z k from if_pos h1]<;>rfl) fun _ h=>oK tb xb ba bz op call lt ov an s hs q Mo hO hol r M hA z (hz h1) (de h) (de h) (de h) ⟨_,_,rfl,⟨ja,_,jc,rfl⟩,hJ⟩;refine mc ?_;refine At.front 5 rfl ?_;refine At.front 5 rfl ?_;refine At.cH ?_;refine At.front 5 rfl ?_;refine At.front 1 rfl ?_;refine At.cH ?_;refine mc ?_;refine At.aJ (o8 tb (.leaf j key f k) (a::l) (dE 240 [p2,p3,p4,p5,p1])) (fun _ h=>bK ((p2,p3,p4,p5,p1),gv,rv) rfl ⟨h.2.2.2.2.1,h.2.2.2.2.2.1,h.2.2.2.2.2.2.1,h.2.2.2.2.2.2.2.1,h.2.2.2.1,h.2.2.2.2.2.2.2.2.1,h.2.2.2.2.2.2.2.2.2.1,trivial⟩) ?_;refine ca (xY tb xb ba bz op call lt ov an s hs q Mo hO hol r M hA f.b (.leaf j key f k) (a::l) _ _ ⟨_,_,rfl,⟨ja,jc,Mb,rfl,hB⟩,hJ⟩) ?_;rintro _ _ _ ⟨q9,r9,nv9,sl9,No9,Na9,Nj9,l9,rfl,rfl,hE⟩;refine re ?_;exact rs (by rw[show(sy (⟨bz,op,call,lt,none,ov,an⟩:Th) q r).df z (.leaf j key f k)=(sy (⟨bz,op,call,lt,none,ov,an⟩:Th) q r).free f.b (.leaf j key f k)from if_neg h1];exact⟨q9,r9,nv9,sl9,No9,Na9,Nj9,l9,rfl,rfl,hE⟩)
end
theorem Pu:ah prog 271:=ah.mk' func271 rfl rfl
section
variable (tb xb ba:Nat) (bz:Bool) (op:bA) (call:Int) (lt ov:Bool) (an:An) (s:Sl Pr) (hs:s.l=an.l) (q:Ix) (Mo:aO) (hO:bR 3 1 (q.ord.map aM) q.oa q.oc Mo) (hol:q.ord.length<1000000) (r:cX) (M:aO) (hA:aR ba r M) (jp:Nat×Value) (j:Jo) (ja:Option Addr) (jc:Nat) (Ml:aO) (hL:bR 3 1 (j.aU.map aM) ja jc Ml)
include tb xb ba bz op call lt ov an s hs q Mo hO hol r M hA jp j ja jc Ml hL
theorem Pv {v:Value} {H:Hp} (n:Bs) (hr:(ak r.rows).holds H) (hps:(aC s).holds H) (h:(xF tb j jp v).holds H):
  eI v [n.val] H [aE tb xb (⟨bz,op,call,lt,none,ov,an⟩:Th) .nilFunc s,ao xb ba q,Mo,M,dH jp.1 j jp.2 ja jc,Ml] (aX tb xb ba q ((sy (⟨bz,op,call,lt,none,ov,an⟩:Th) q r).free n (.aA j n))):=by
 obtain⟨x,rfl,h1,h2,h3,h4,_⟩:=h;exact .of (DN tb xb ba bz op call lt ov an s hs q Mo hO hol r M hA jp j ja jc Ml hL x.1 x.2.1 x.2.2 n) rfl Pf ⟨hr,hps,h1,h2,h3,h4,trivial⟩
theorem ME (p1 p2 p3:Nat) (z:Int) (right:Bool) (wn:Value):aN prog 271 [.int .i64 z,.pointer (some ⟨p1,0,none⟩),.pointer (some ⟨p2,0,none⟩),.pointer (some ⟨p3,0,none⟩)] [ak r.rows,aC s,eY tb p1,aW p2 #[wn],aW p3 #[.bool right],xF tb j jp wn] [aE tb xb (⟨bz,op,call,lt,none,ov,an⟩:Th) .nilFunc s,ao xb ba q,Mo,M,dH jp.1 j jp.2 ja jc,Ml] (aX tb xb ba q ((sy (⟨bz,op,call,lt,none,ov,an⟩:Th) q r).df z (.mf right j))):=by
 refine cb fun X H₀ L₀=>?_;refine ca (ik ba r _ hA _) ?_;refine fi (fun h1=>?_) (fun h1=>?_);refine dw 7 [6] (d_ (k_ (d_ (k_ (k_ (k_ r_)))))) ?_;refine oA (ea xb ba q r _ hA _) ?_;refine te ?_;exact lU (by rw[show(sy (⟨bz,op,call,lt,none,ov,an⟩:Th) q r).df z (.mf right j)=(sy (⟨bz,op,call,lt,none,ov,an⟩:Th) q r).free (r.p.base z) (.aA j (r.p.base z))from if_pos h1]<;>rfl) fun _ h=>Pv tb xb ba bz op call lt ov an s hs q Mo hO hol r M hA jp j ja jc Ml hL (r.p.base z) (de h) (de h) (de h);refine ca (ir xb ba q r _ hA _) ?_;refine cv (fun h2=>?_) (fun h2=>?_);refine ca (ir xb ba q r _ hA _) ?_;refine ca (nK tb xb _ _ _ (r.p.aj z).right right j jp _) ?_;rintro _ _ _ ⟨nv,rfl,rfl⟩;refine mc ?_;refine At.front 5 rfl ?_;refine At.front 5 rfl ?_;refine At.cH ?_;refine re ?_;exact rs (by rw[show(sy (⟨bz,op,call,lt,none,ov,an⟩:Th) q r).df z (.mf right j)=(sy (⟨bz,op,call,lt,none,ov,an⟩:Th) q r).go (.load (r.p.aj z).right (.mf right j))from(if_neg h1).trans (congrArg (fun c=>Sy.go (sy (⟨bz,op,call,lt,none,ov,an⟩:Th) q r) (.load c (.mf right j))) (if_pos h2))];exact⟨q,r,nv,s,Mo,_,_,[jp],rfl,rfl,hO,hA,⟨ja,jc,Ml,rfl,hL⟩,rfl,Ix.az q,hs⟩);refine ca (nK tb xb _ _ _ (r.p.aj z).left right j jp _) ?_;rintro _ _ _ ⟨nv,rfl,rfl⟩;refine mc ?_;refine At.front 5 rfl ?_;refine At.front 5 rfl ?_;refine At.cH ?_;refine re ?_;exact rs (by rw[show(sy (⟨bz,op,call,lt,none,ov,an⟩:Th) q r).df z (.mf right j)=(sy (⟨bz,op,call,lt,none,ov,an⟩:Th) q r).go (.load (r.p.aj z).left (.mf right j))from(if_neg h1).trans (congrArg (fun c=>Sy.go (sy (⟨bz,op,call,lt,none,ov,an⟩:Th) q r) (.load c (.mf right j))) (if_neg (by rw[h2];simp)))];exact⟨q,r,nv,s,Mo,_,_,[jp],rfl,rfl,hO,hA,⟨ja,jc,Ml,rfl,hL⟩,rfl,Ix.az q,hs⟩)
theorem uS (c up:Int):aN prog 282 [.pointer (some ⟨tb,0,none⟩),.pointer (some ⟨jp.1,0,none⟩),.int .i64 c,.int .i64 up] [ak r.rows,aC s,eS tb j.cR jp.2] [aE tb xb (⟨bz,op,call,lt,none,ov,an⟩:Th) .nilFunc s,ao xb ba q,Mo,M,dH jp.1 j jp.2 ja jc,Ml] (aX tb xb ba q ((sy (⟨bz,op,call,lt,none,ov,an⟩:Th) q r).bh j c up)):=by
 refine cb fun X H₀ L₀=>?_;refine bx fun b1=>?_;refine bx fun b2=>?_;refine bx fun b3=>?_;refine bx fun b4=>?_;refine mc ?_;refine At.aJ (iu tb (.bh j up c) [jp] (dE 287 [b1,b2,b4,b3])) (fun _ h=>bK (b1,b2,b4,b3) rfl ⟨h.2.2.2.1,h.2.2.1,h.1,h.2.1,h.2.2.2.2.2.2.2.1,trivial⟩) ?_;refine ca (gn tb xb _ _ _ (c) (.bh j up c) ([jp]) _) ?_;rintro _ _ _ ⟨nv,rfl,rfl⟩;refine mc ?_;refine At.front 5 rfl ?_;refine At.front 5 rfl ?_;refine At.cH ?_;refine re ?_;exact rs ⟨q,r,nv,s,Mo,_,_,[jp],rfl,rfl,hO,hA,⟨ja,jc,Ml,rfl,hL⟩,rfl,Ix.az q,hs⟩
theorem DO (c:Int) (kv:Value):aN prog 280 [.pointer (some ⟨tb,0,none⟩),.pointer (some ⟨jp.1,0,none⟩),.int .i64 c,kv] [ak r.rows,aC s,sL tb none jp.1 kv,eS tb j.cR jp.2] [aE tb xb (⟨bz,op,call,lt,none,ov,an⟩:Th) .nilFunc s,ao xb ba q,Mo,M,dH jp.1 j jp.2 ja jc,Ml] (aX tb xb ba q ((sy (⟨bz,op,call,lt,none,ov,an⟩:Th) q r).go (.swap c 0 j.main.b.id (.bS j c)))):=by
 refine cb fun X H₀ L₀=>?_;refine At.have (eN kv) (fun _ h=>Ca h.2.2.2.1) fun hf=>?_;obtain⟨f_kv,a_kv,c_kv,rfl⟩:=hf;refine bx fun b1=>?_;refine bx fun b2=>?_;refine bx fun b3=>?_;refine bx fun b4=>?_;refine mc ?_;refine At.aJ (eZ tb (.bS j c) [jp] (dE 285 [b1,b2,b3,b4])) (fun _ h=>bK ((b1,b2,b3,b4),.func f_kv a_kv c_kv) rfl ⟨h.2.2.2.1,h.2.2.1,h.2.1,h.1,h.2.2.2.2.2.2.2.1,h.2.2.2.2.2.2.2.2.1,trivial⟩) ?_;refine dw 9 [] r_ ?_;refine ca (dR tb xb _ _ _ (c) (0) (j.main.b.id) (.bS j c) ([jp]) _) ?_;rintro _ _ _ ⟨nv,rfl,rfl⟩;refine mc ?_;refine At.front 5 rfl ?_;refine At.front 5 rfl ?_;refine At.cH ?_;refine re ?_;exact rs ⟨q,r,nv,s,Mo,_,_,[jp],rfl,rfl,hO,hA,⟨ja,jc,Ml,rfl,hL⟩,rfl,Ix.az q,hs⟩
theorem wz (c:Int) (lock:Int) (kv:Value):aN prog 280 [.pointer (some ⟨tb,0,none⟩),.pointer (some ⟨jp.1,0,none⟩),.int .i64 c,kv] [ak r.rows,aC s,sL tb (some lock) jp.1 kv,eS tb j.cR jp.2] [aE tb xb (⟨bz,op,call,lt,none,ov,an⟩:Th) .nilFunc s,ao xb ba q,Mo,M,dH jp.1 j jp.2 ja jc,Ml] (aX tb xb ba q ((sy (⟨bz,op,call,lt,none,ov,an⟩:Th) q r).go (.swap c 0 j.main.b.id (.bO j c lock)))):=by
 refine cb fun X H₀ L₀=>?_;refine At.have (eN kv) (fun _ h=>Ca h.2.2.2.1) fun hf=>?_;obtain⟨f_kv,a_kv,c_kv,rfl⟩:=hf;refine bx fun b1=>?_;refine bx fun b2=>?_;refine bx fun b3=>?_;refine bx fun b4=>?_;refine mc ?_;refine At.aJ (eZ tb (.bO j c lock) [jp] (dE 285 [b1,b2,b3,b4])) (fun _ h=>bK ((b1,b2,b3,b4),.func f_kv a_kv c_kv) rfl ⟨h.2.2.2.1,h.2.2.1,h.2.1,h.1,h.2.2.2.2.2.2.2.1,h.2.2.2.2.2.2.2.2.1,trivial⟩) ?_;refine dw 9 [] r_ ?_;refine ca (dR tb xb _ _ _ (c) (0) (j.main.b.id) (.bO j c lock) ([jp]) _) ?_;rintro _ _ _ ⟨nv,rfl,rfl⟩;refine mc ?_;refine At.front 5 rfl ?_;refine At.front 5 rfl ?_;refine At.cH ?_;refine re ?_;exact rs ⟨q,r,nv,s,Mo,_,_,[jp],rfl,rfl,hO,hA,⟨ja,jc,Ml,rfl,hL⟩,rfl,Ix.az q,hs⟩
end
end Go.Proofs.YtcnohdmimheoaaaGreat
namespace Go.Proofs.YtcnohdmimheoaaaGreat
open E Go.Proofs.Tryz
theorem Bc {s:Sy} {j:Jo} (h:(j.aU.length:Int)=0):s.bW j=s.cK j.main (.ret j.cR):=by
 have e:j.aU=[]:=List.length_eq_zero_iff.1 (by omega);unfold Sy.bW;rw[e];rfl
theorem Bd {s:Sy} {j:Jo} {c:Int} (h:j.aU.getLast?=some c):s.bW j=s.go (.swap c j.main.b.id 0 (.bW j ((j.aU.length:Int)-1))):=by
 unfold Sy.bW;rw[h]
abbrev zP (A:Ar) (j:Jo) (n:Bs):=A.make 5 [n.af,n.stat,n.home,j.main.b.id]
theorem GR {s:Sy} {j:Jo} {n:Bs} (h:(zP s.ar j n).2.1≠0):s.aG j n=(s.bq (zP s.ar j n).2.2).cK j.main (.ret j.cR):=by
 unfold Sy.aG zP at*;generalize s.ar.make 5 [n.af,n.stat,n.home,j.main.b.id]=q at h⊢;rcases q with⟨a,b,c⟩;exact if_pos h
theorem Be {s:Sy} {j:Jo} {n:Bs} (h:¬(zP s.ar j n).2.1≠0):s.aG j n=(s.bq (zP s.ar j n).2.2).go (.swap n.home n.id (zP s.ar j n).1 (.aG j (zP s.ar j n).1)):=by
 unfold Sy.aG zP at*;generalize s.ar.make 5 [n.af,n.stat,n.home,j.main.b.id]=q at h⊢;rcases q with⟨a,b,c⟩;exact if_neg h
def fX (A:Ar) (j:Jo):=A.two (if j.right then j.ai.af else j.main.b.af) (if j.right then j.main.b.af else j.ai.af)
theorem GS {A:Ar} {j:Jo} (h:j.right=true):fX A j=A.two j.ai.af j.main.b.af:=by unfold fX;rw[h];rfl
theorem GU {A:Ar} {j:Jo} (h:j.right=false):fX A j=A.two j.main.b.af j.ai.af:=by unfold fX;rw[h];rfl
abbrev qM (A:Ar) (j:Jo) (H:Int):=(fX A j).2.2.make 5 [(fX A j).1,0,H,j.main.b.id]
theorem mu {s:Sy} {j:Jo} {other lock:Int} (h:(fX s.ar j).2.1≠0):s.bI j other lock=(0,(fX s.ar j).2.1,(fX s.ar j).2.2):=by
 show(let(af,e,B):=fX s.ar j;if e≠0 then(0,e,B)else(let(dZ,e2,C):=B.make 5 [af,0,if other=j.ai.id then j.cell else j.ai.home,j.main.b.id];if e2≠0 then(0,e2,C)else C.make 8 [dZ,j.ai.id,j.up.id,j.cell,lock,if other=j.ai.id then dZ else other]))=_;generalize fX s.ar j=q at h⊢;rcases q with⟨a,b,c⟩;exact if_pos h
section
variable {s:Sy} {j:Jo} {other lock H:Int} (hH:(if other=j.ai.id then j.cell else j.ai.home)=H) (h:¬(fX s.ar j).2.1≠0)
include s j other lock H hH h
theorem wA:
  s.bI j other lock=(let(dZ,e2,C):=qM s.ar j H;if e2≠0 then(0,e2,C)else C.make 8 [dZ,j.ai.id,j.up.id,j.cell,lock,if other=j.ai.id then dZ else other]):=by
 subst hH;show(let(af,e,B):=fX s.ar j;if e≠0 then(0,e,B)else(let(dZ,e2,C):=B.make 5 [af,0,if other=j.ai.id then j.cell else j.ai.home,j.main.b.id];if e2≠0 then(0,e2,C)else C.make 8 [dZ,j.ai.id,j.up.id,j.cell,lock,if other=j.ai.id then dZ else other]))=_;unfold qM;generalize fX s.ar j=q at h⊢;rcases q with⟨a,b,c⟩;exact if_neg h
theorem gY (h2:(qM s.ar j H).2.1≠0):s.bI j other lock=(0,(qM s.ar j H).2.1,(qM s.ar j H).2.2):=by
 rw[wA hH h];generalize qM s.ar j H=q at h2⊢;rcases q with⟨a,b,c⟩;exact if_pos h2
end
theorem gZ {s:Sy} {j:Jo} {other lock H R:Int} (hH:(if other=j.ai.id then j.cell else j.ai.home)=H) (h:¬(fX s.ar j).2.1≠0) (h2:¬(qM s.ar j H).2.1≠0) (hR:(if other=j.ai.id then(qM s.ar j H).1 else other)=R):
  s.bI j other lock=(qM s.ar j H).2.2.make 8 [(qM s.ar j H).1,j.ai.id,j.up.id,j.cell,lock,R]:=by
 rw[wA hH h,<-hR];generalize qM s.ar j H=q at h2⊢;rcases q with⟨a,b,c⟩;exact if_neg h2
def Jy (tb xb ba:Nat) (th:Th) (s:Sl Pr) (q:Ix) (jp:Nat) (j:Jo) (tv:Value) (ja:Option Addr) (jc:Nat) (m:Int×Int×Ar) (v:Value) (Γ:List ag) (M':E.Loc):Prop:=
 v= .tuple #[.int .i64 m.1,.int .i64 m.2.1]/\∃(r':cX) (N:aO),Γ=[ak r'.rows]/\M'=[aE tb xb th .nilFunc s,ao xb ba q,N,dH jp j tv ja jc]/\aR ba r' N/\r'.p=m.2.2
end Go.Proofs.YtcnohdmimheoaaaGreat
namespace Go.Proofs.YtcnohdmimheoaaaGreat
open E Ar Go.Proofs.Tryz
section
variable {A0 A B:Ar} {K:eE} {N:Nat} {o:bA} {root:Int} {s:Sy}
theorem uT {l:List Pr} {o:bA} (ha:jv l) (ho:eG o=true):∀x∈(eB l o).1,x∈l\/x.k=o.key:=by
 intro x hx;unfold eB at hx;split at hx;split at hx;rw[<-xR ha]at hx;rcases mn.1 hx with rfl| ⟨h,_⟩;exact .inr rfl;exact .inl h;split at hx;split at hx;exact .inl hx;rw[<-xR ha]at hx;rcases mn.1 hx with rfl| ⟨h,_⟩;exact .inr rfl;exact .inl h;split at hx;exact .inl (List.mem_filter.1 hx).1;simp[eG]at ho;omega;exact .inl hx
theorem In.made (h:In A0 K o root s) {b:Bs} {p:Int} (hb:jy s.ar b) (ho:eG o=true):
  c9 (s.made b p).2.2.2 K root/\Ext s.ar (s.made b p).2.2.2/\xV K (s.made b p).2.1/\((s.made b p).2.2.1=0->(s.made b p).2.2.2.kind (s.made b p).1=3):=by
 obtain⟨q1,l,q2,q3⟩:=h.bg.bs hb;have ho':eG s.th.op=true:=by rw[h.op];exact ho
 obtain⟨r1,r2⟩:=Ci h.bg.ok q2 ho';obtain⟨tB,xB⟩:=h.bg.res r1;by_cases he:(ed s.ar s.th.op b.af).2.2.2.1≠0;rw[lG he];exact⟨tB,xB,.nil rfl,fun q=>absurd q he⟩;rw[jw he];dsimp only;have hh:∀k v ok,(tX k v ok).l=[]:=fun k v ok=>by unfold tX;split<;>rfl
 obtain⟨r3,_⟩:=r2 (by simpa using he)
 rcases tB.MA (k:=3) (vs:=[(ed s.ar s.th.op b.af).1,cS s.cF p (if s.th.late then 1 else 2),b.home]) (by decide) (by simp) (fun B e hk hv=>by
  have v0:=hv 0 _ rfl;have v2:=hv 2 _ rfl;simp only[Int.natCast_zero,Int.cast_ofNat_Int]at v0 v2;exact .Nn hk (by rw[v2];exact e.TC (xB.TC q1)) ⟨_,by rw[v0];exact r3.bE e.bE,fun x hx=>(uT q2.iA ho' x hx).elim (q3 x) fun q=>by rw[q,h.op];exact h.key ho⟩)with e| ⟨C,e,t,x,hk,hv,hl,_⟩
 rw[e];exact⟨tB,xB,.nil (hh _ _ _),fun q=>by cases q⟩;rw[e];exact⟨t,xB.trans x,.nil (hh _ _ _),fun _=>hk⟩
theorem Cq (t:c9 A K root) {l r:Int} (hl:∃z,Tp A l z/\∀x∈z,x.k∈K.keys) (hr:∃z,Tp A r z/\∀x∈z,x.k∈K.keys):
  c9 (A.two l r).2.2 K root/\Ext A (A.two l r).2.2/\((A.two l r).2.1=0->∃z,Tp (A.two l r).2.2 (A.two l r).1 z/\∀x∈z,x.k∈K.keys):=by
 obtain⟨la,a1,a2⟩:=hl;obtain⟨lb,b1,b2⟩:=hr;by_cases hc:(A.g6 l).2=true/\(A.ig r).2=true/\(A.ig r).1.k<=(A.g6 l).1.k;have:A.two l r=(0,1,A):=by unfold two;rw[if_pos (.inr (.inr hc))]
 rw[this];exact⟨t,.refl _,fun q=>by cases q⟩
 have hab:∀x∈la,∀y∈lb,x.k<y.k:=by
  intro x hx y hy;rcases a1.g6 with⟨rfl,_⟩| ⟨p,l',rfl,e1⟩
  cases hx
  rcases b1.ig with⟨rfl,_⟩| ⟨q,l'',rfl,e2⟩
  cases hy
  rw[e1,e2]at hc;have h1:¬q.k<=p.k:=fun q=>hc ⟨rfl,rfl,q⟩
  have h2:x.k<=p.k:=by
   rcases List.mem_append.1 hx with hx|hx;have:=(List.pairwise_append.1 a1.iA).2.2 x hx p (List.mem_singleton.2 rfl);omega;rw[List.mem_singleton.1 hx];omega
  have h3:q.k<=y.k:=by
   rcases List.mem_cons.1 hy with rfl|hy;omega;have:=(List.pairwise_cons.1 b1.iA).1 y hy;omega
  omega
 obtain⟨r1,r2⟩:=xS t.ok a1 b1 hab;obtain⟨tB,xB⟩:=t.res r1;exact⟨tB,xB,fun q=>⟨_,r2 q,fun x hx=>(List.mem_append.1 hx).elim (a2 x) (b2 x)⟩⟩
theorem In.cK (h:In A0 K o root s) {m:MB} {t:KT} (hm:mK s.ar m) (ht:vk s.ar K N o t):Gd A0 K N o root (s.cK m t):=
 h.go (n:=.swap _ _ _ (.cK t)) ⟨.sc (hm.sc h.bg) (.inr (.inl rfl)),ht⟩
theorem In.bW (h:In A0 K o root s) {j:Jo} (hj:oF s.ar K N j) (hm:mK s.ar j.main):Gd A0 K N o root (s.bW j):=by
 unfold Sy.bW;split;exact h.cK hm hj.an
 ·rename_i c e;have hc:=List.mem_of_getLast? e;have:0<j.aU.length:=List.length_pos_of_mem hc;exact h.go (n:=.swap _ _ _ (.bW j _)) ⟨.lc (hj.lc c hc),hj,hm,by omega,by omega⟩
theorem In.bh (h:In A0 K o root s) {j:Jo} {c up:Int} (hj:oF s.ar K N j) (hm:mK s.ar j.main) (hn:Ba s.ar j.ai) (hc:s.ar.TC c) (hu:up=0\/s.ar.kind up=2):Gd A0 K N o root (s.bh j c up):=
 h.go (n:=.load _ (.bh j up c)) ⟨rfl,hc,hu,hj,hm,hn⟩
theorem oF.GV {j:Jo} (hj:oF A K N j) (t:c9 A K root):A.TC j.up.left/\A.TC j.up.right/\A.LC j.up.join:=by
 have:=t.rt hj.up.1;rw[hj.up.2];exact this
theorem oF.other {j:Jo} (hj:oF A K N j) (t:c9 A K root):A.TC (Sy.Jo.other j):=by
 unfold Sy.Jo.other;have:=hj.GV t;split;exact this.1;exact this.2.1
theorem In.bH (h:In A0 K o root s) {j:Jo} {lock:Int} (hj:oF s.ar K N j) (hm:mK s.ar j.main) (hn:Ba s.ar j.ai) (hc:s.ar.TC j.cell) (hl:lock=0\/s.ar.LC lock):Gd A0 K N o root (s.bH j lock):=
 h.go (n:=.load _ (.bH j lock)) ⟨hj.other h.bg,hl,hj,hm,hn,hc⟩
theorem In.aG (h:In A0 K o root s) {j:Jo} {n:Bs} (hj:oF s.ar K N j) (hm:mK s.ar j.main) (hn:jy s.ar n):Gd A0 K N o root (s.aG j n):=by
 obtain⟨q1,l,q2,q3⟩:=h.bg.bs hn;unfold Sy.aG
 rcases h.bg.MA (k:=5) (vs:=[n.af,n.stat,n.home,j.main.b.id]) (by decide) (by simp) (fun B e hk hv=>by
  have v0:=hv 0 _ rfl;have v2:=hv 2 _ rfl;have v3:=hv 3 _ rfl;simp only[Int.natCast_zero,Int.cast_ofNat_Int]at v0 v2 v3;exact .Vn hk (by rw[v2];exact e.TC q1) ⟨l,by rw[v0];exact q2.bE e.bE,q3⟩ (by rw[v3];exact e.k hm.1 (by decide)))with e| ⟨B,e,t,x,hk,hv,hl,_⟩
 rw[e];exact(h.grow h.bg (.refl _)).cK (t:=.ret j.cR) hm hj.an
 ·rw[e];exact(h.grow t x).go (n:=.swap _ _ _ (.aG j _)) ⟨.tc (x.TC q1) (.inl (sh hk (by decide))),hj.ext x (Nat.le_refl _),hm.ext x,hk⟩
theorem In.aL (h:In A0 K o root s) {j:Jo} {n:Bs} (hj:oF s.ar K N j) (hn:jy s.ar n):Gd A0 K N o root (s.aL j n):=by
 obtain⟨q1,l,q2,q3⟩:=h.bg.bs hj.b;unfold Sy.aL
 rcases h.bg.Vo (w:= -1) (k:=4) (vs:=fun c=>[j.main.b.af,j.main.b.stat,j.main.b.home,c]) (by decide) (by simp) (fun B e hk hv hc hh=>by
  have v0:=hv 0 _ rfl;have v2:=hv 2 _ rfl;have v3:=hv 3 _ rfl;simp only[Int.natCast_zero,Int.cast_ofNat_Int]at v0 v2 v3;exact⟨.Xp hk (by rw[v2];exact e.TC q1) ⟨l,by rw[v0];exact q2.bE e.bE,q3⟩ (by rw[v3];omega) (by rw[show s.ar.len+2-1=s.ar.len+1 by omega];exact hc),.Xs (by rw[show s.ar.len+1+1=s.ar.len+2 by omega];exact hk) (.inl hh)⟩)with⟨e1,e2⟩| ⟨B,e1,⟨e2,t,x⟩| ⟨C,e2,t,x,hk,hv,_⟩⟩
 rw[e1];dsimp only;rw[e2];dsimp only;rw[if_pos (by decide)];exact(h.grow h.bg (.refl _)).ret hj.an;rw[e1];dsimp only;rw[e2];dsimp only;rw[if_pos (by decide)];exact(h.grow t x).ret hj.an
 ·rw[e1];dsimp only;rw[e2];dsimp only;rw[if_neg (by decide)];exact(h.grow t x).go (n:=.swap _ _ _ (.aL j n _)) ⟨.tc (x.TC q1) (.inl (sh hk (by decide))),hj.ext x (Nat.le_refl _),hn.ext x,hk⟩
theorem In.eD (h:In A0 K o root s) {m:MB} {p:Pl} {t:KT} (hm:mK s.ar m) (hp:Jk s.ar p) (ht:vk s.ar K N o t):Gd A0 K N o root (s.eD m p t):=by
 have hn:s.ar.kind p.id≠0:=by rw[hp.1];decide
 obtain⟨a,b,_⟩:=(h.bg.cg _ hn).GD hp.1;have e1:p.dZ=s.ar.val p.id 0:=congrArg Pl.dZ hp.2;have e2:p.ai=s.ar.val p.id 1:=congrArg Pl.ai hp.2;refine h.go (n:=.swap _ _ _ (.fQ m p t)) ⟨.tc ?_ (.inl ?_),hm,hp,ht⟩;rw[e2];exact(h.bg.bs (jy.of (sh b (by decide)))).1;rw[e1];exact sh a (by decide)
theorem In.bI (h:In A0 K o root s) {j:Jo} {other lock:Int} (hj:oF s.ar K N j) (hm:mK s.ar j.main) (hn:Ba s.ar j.ai) (hc:s.ar.TC j.cell) (hl:lock=0\/s.ar.LC lock) (ho:dr s.ar other\/s.ar.kind other=2):
  c9 (s.bI j other lock).2.2 K root/\Ext s.ar (s.bI j other lock).2.2/\((s.bI j other lock).2.1=0->(s.bI j other lock).2.2.kind (s.bI j other lock).1=8):=by
 obtain⟨m1,m2⟩:=h.bg.bs hm.bs;obtain⟨n1,n2⟩:=h.bg.bs hn.bs
 have h1:c9 (fX s.ar j).2.2 K root/\Ext s.ar (fX s.ar j).2.2/\((fX s.ar j).2.1=0->∃z,Tp (fX s.ar j).2.2 (fX s.ar j).1 z/\∀x∈z,x.k∈K.keys):=by
  cases e:j.right
  rw[GU e];exact Cq h.bg m2 n2;rw[GS e];exact Cq h.bg n2 m2
 obtain⟨t1,x1,k1⟩:=h1;by_cases e1:(fX s.ar j).2.1≠0;rw[mu e1];exact⟨t1,x1,fun q=>absurd q e1⟩;obtain⟨z,z1,z2⟩:=k1 (by simpa using e1);have hH:s.ar.TC (if other=j.ai.id then j.cell else j.ai.home):=by split<;>assumption
 have h2:c9 (qM s.ar j (if other=j.ai.id then j.cell else j.ai.home)).2.2 K root/\Ext s.ar (qM s.ar j (if other=j.ai.id then j.cell else j.ai.home)).2.2/\((qM s.ar j (if other=j.ai.id then j.cell else j.ai.home)).2.1=0->(qM s.ar j (if other=j.ai.id then j.cell else j.ai.home)).2.2.kind (qM s.ar j (if other=j.ai.id then j.cell else j.ai.home)).1=5):=by
  generalize(if other=j.ai.id then j.cell else j.ai.home)=H at hH;unfold qM
  rcases t1.MA (k:=5) (vs:=[(fX s.ar j).1,0,H,j.main.b.id]) (by decide) (by simp) (fun B e hk hv=>by
   have v0:=hv 0 _ rfl;have v2:=hv 2 _ rfl;have v3:=hv 3 _ rfl;simp only[Int.natCast_zero,Int.cast_ofNat_Int]at v0 v2 v3;exact .Vn hk (by rw[v2];exact e.TC (x1.TC hH)) ⟨z,by rw[v0];exact z1.bE e.bE,z2⟩ (by rw[v3];exact e.k (x1.k hm.1 (by decide)) (by decide)))with e| ⟨B,e,t,x,hk,hv,_⟩
  rw[e];exact⟨t1,x1,fun q=>by cases q⟩;rw[e];exact⟨t,x1.trans x,fun _=>hk⟩
 obtain⟨t2,x2,k2⟩:=h2;by_cases e2:(qM s.ar j (if other=j.ai.id then j.cell else j.ai.home)).2.1≠0;rw[gY rfl e1 e2];exact⟨t2,x2,fun q=>absurd q e2⟩;have kj:=k2 (by simpa using e2);rw[gZ rfl e1 e2 rfl]
 have hR:dr (qM s.ar j (if other=j.ai.id then j.cell else j.ai.home)).2.2 (if other=j.ai.id then(qM s.ar j (if other=j.ai.id then j.cell else j.ai.home)).1 else other)\/(qM s.ar j (if other=j.ai.id then j.cell else j.ai.home)).2.2.kind (if other=j.ai.id then(qM s.ar j (if other=j.ai.id then j.cell else j.ai.home)).1 else other)=2:=by
  generalize qM s.ar j (if other=j.ai.id then j.cell else j.ai.home)=q at x2 kj⊢;split;exact .inl (sh kj (by decide));exact ho.imp x2.dr fun y=>x2.k y (by decide)
 generalize qM s.ar j (if other=j.ai.id then j.cell else j.ai.home)=q at t2 x2 kj hR⊢;generalize(if other=j.ai.id then q.1 else other)=R at hR⊢
 rcases t2.MA (k:=8) (vs:=[q.1,j.ai.id,j.up.id,j.cell,lock,R]) (by decide) (by simp) (fun B e hk hv=>by
  have v0:=hv 0 _ rfl;have v1:=hv 1 _ rfl;have v2:=hv 2 _ rfl;have v3:=hv 3 _ rfl;have v4:=hv 4 _ rfl;have v5:=hv 5 _ rfl;simp only[Int.natCast_zero,Int.natCast_one,Int.cast_ofNat_Int]at v0 v1 v2 v3 v4 v5;refine .Xq hk ?_;rw[v0,v1,v2,v3,v4,v5];exact⟨e.k kj (by decide),e.k (x2.k hn.1 (by decide)) (by decide),e.k (x2.k hj.up.1 (by decide)) (by decide),e.TC (x2.TC hc),Qr e (Qr x2 hl),hR.imp e.dr fun y=>e.k y (by decide)⟩)with e| ⟨B,e,t,x,hk,hv,_⟩
 rw[e];exact⟨t2,x2,fun q=>by cases q⟩;rw[e];exact⟨t,x2.trans x,fun _=>hk⟩
theorem In.fv (h:In A0 K o root s) {ok:Bool} {p:Int}:∀{k:KO},Co s.ar K N o k->Gd A0 K N o root (s.fv ok p k)
 | .update f,⟨hf,ho⟩=>by
  unfold Sy.fv;dsimp only;split;exact h.late.iI (u:=.update) hf.b ho
  ·obtain⟨t,x,a,k⟩:=h.made (p:=p) hf.b ho;generalize s.made f.b p=z at t x a k;obtain⟨id,an,e,B⟩:=z;dsimp only at t x a k⊢;split;exact(h.grow t x).full
   ·rename_i he;have hb:=sh (k (by simpa using he)) (by decide);exact(h.grow t x).go (n:=.swap _ _ _ (.update id an)) ⟨.tc (x.TC (h.bg.bs hf.b).1) (.inl hb),hb,a,ho⟩
 | .aA j n,⟨hj,hn⟩=>by
  unfold Sy.fv;dsimp only;split;exact h.aL hj (hn.stat _);exact h.ret hj.an
 | .leaf j key f r,⟨hj,hf,hr⟩=>by
  unfold Sy.fv;dsimp only;split;exact h.iI (u:=.leaf j key r) hf.b ⟨hj,hr⟩;exact h.marks hj hf hr
theorem In.free (h:In A0 K o root s) {b:Bs} {k:KO} (hb:jy s.ar b) (hk:Co s.ar K N o k):Gd A0 K N o root (s.free b k):=by
 have hr:=h.bg.cg _ hb.is.ne;unfold Sy.free;rw[hb.kind];split;rename_i e;exact h.go (n:=.load _ (.dm b k)) ⟨(mK.of e).sc h.bg,hb,hk⟩;split;rename_i e;exact h.go (n:=.load _ (.cN b k)) ⟨(mK.of (hr.ai e)).sc h.bg,hb,hk⟩;split;rename_i e;exact h.go (n:=.load _ (.cU b k)) ⟨(om.of (N:=N) (hr.sN e) false).rc h.bg,hb,hk⟩;exact h.fv hk
theorem In.gD (h:In A0 K o root s) {f:Fo} {g:KG} (hf:jy s.ar f.b) (hm:1<=K.m):Gd A0 K N o root (s.gD f g):=by
 have hh:∀k v ok,(tX k v ok).l=[]:=fun k v ok=>by unfold tX;split<;>rfl
 cases g with
 |qV=>exact h.gU (.nil (hh _ _ _))
 |ends=>
  unfold Sy.gD;dsimp only;split;exact h.gU (.nil (uR _ _));exact h.whole
 |dL=>
  unfold Sy.gD;dsimp only;split;exact h.gU (h.cy (by intro b hb;rw[List.mem_singleton.1 hb];exact hf.is) (by simpa using hm));exact h.whole
theorem In.iJ (h:In A0 K o root s) {f:Fo} (hf:Cm s.ar f) (hm:N+1<=K.m):∀{k:KF},Ei s.ar K N o k->Gd A0 K (N+1) o root (s.iJ f k)
 | .looks key g,_=>by
  unfold Sy.iJ;dsimp only;split;exact h.iI (u:=.looks key g) hf.b trivial;split;rename_i e;rw[hf.b.kind]at e;exact h.go (n:=.load _ (.cd f key g)) ⟨(mK.of e).sc h.bg,hf⟩;exact h.gD hf.b (by omega)
 | .update,ho=>h.free (k:=.update f) hf.b ⟨hf,ho⟩
 | .aA b a,⟨hb,ha⟩=>by
  unfold Sy.iJ;dsimp only;split;exact h.ret ha;rename_i hne;have hu:s.ar.kind f.up=2:=hf.cu.up.resolve_left fun q=>hne (.inr q);have hj:oF s.ar K (N+1) ⟨⟨b,0⟩,.zero,s.ar.aj f.up,decide (f.cell=(s.ar.aj f.up).right),[],0,a⟩:=⟨hb,⟨hu,rfl⟩,Nat.zero_le _,fun _ h=>(by cases h),ha⟩;exact h.go (n:=.load _ (.mf _ _)) ⟨hj.other h.bg,hj⟩
 | .leaf j key r,⟨hj,hr⟩=>by
  unfold Sy.iJ;dsimp only;split;exact h.marked hj hf.b (hr.ext (.refl _) (Nat.le_succ _)) hm;exact h.go (n:=.load _ (.leaf j key f r)) ⟨rfl,hj.ext (.refl _) (Nat.le_succ _),hf,hr.ext (.refl _) (Nat.le_succ _)⟩
end
section
variable (tb xb ba:Nat) (bz:Bool) (op:bA) (call:Int) (lt ov:Bool) (an:An) (s:Sl Pr) (hs:s.l=an.l) (q:Ix) (Mo:aO) (hO:bR 3 1 (q.ord.map aM) q.oa q.oc Mo) (hol:q.ord.length<1000000) (r:cX) (M:aO) (hA:aR ba r M) (jp:Nat×Value) (j:Jo) (ja:Option Addr) (jc:Nat) (Ml:aO) (hL:bR 3 1 (j.aU.map aM) ja jc Ml)
include tb xb ba bz op call lt ov an s hs q Mo hO hol r M hA jp j ja jc Ml hL
theorem lK (hll:j.aU.length<1000000):aN prog 286 [.pointer (some ⟨tb,0,none⟩),.pointer (some ⟨jp.1,0,none⟩)] [ak r.rows,aC s,eS tb j.cR jp.2] [aE tb xb (⟨bz,op,call,lt,none,ov,an⟩:Th) .nilFunc s,ao xb ba q,Mo,M,dH jp.1 j jp.2 ja jc,Ml] (aX tb xb ba q ((sy (⟨bz,op,call,lt,none,ov,an⟩:Th) q r).bW j)):=by
 refine cb fun X H₀ L₀=>?_;refine bx fun b1=>?_;refine bx fun b2=>?_;refine fi (fun h1=>?_) (fun h1=>?_);refine mc ?_;refine At.aJ (ju tb (.ret j.cR) [] jp.2) (fun _ h=>h.2.2.2.2.2.1) ?_;refine At.ck ?_;refine dw 9 [] r_ ?_;refine ca (jE tb xb ba bz op call lt ov an s hs q Mo hO hol r M hA j.main (.ret j.cR) [] _ [] rfl) ?_;rintro _ _ _ ⟨q9,r9,nv9,sl9,No9,Na9,Nj9,l9,rfl,rfl,hE⟩;refine re ?_;exact rs (by rw[Bc (s:=sy _ q r) h1];exact⟨q9,r9,nv9,sl9,No9,Na9,Nj9,l9,rfl,rfl,hE⟩);refine al fun b3=>?_;refine mc ?_;obtain⟨n0,hn0⟩:∃n0,n0+1=j.aU.length:=⟨j.aU.length-1,by omega⟩;obtain⟨y,hy⟩:=aD (l:=j.aU) (i:=n0) (by omega);have hly:=K7 hy hn0;refine At.freeze 0 (φ:=aW b3 _) rfl (fun _ h=>cO.2 ⟨_,_,h⟩) ?_;refine At.aJ (eZ tb (.bW j ((j.aU.length:Int)-1)) [jp] (dE 290 [b2,b3,b1])) (fun _ h=>bK (b2,b3,b1) rfl ⟨h.2.1,h.1,h.2.2.1,h.2.2.2.2.2.2.1,trivial⟩) ?_;refine dw 15 [] r_ ?_;refine mc ?_;refine aQ.quiet rfl (cA underlying26 t3 rfl hL (by simp) rfl (show _=((n0:Nat):Int)from by omega) (by omega)) rfl bG.calm ?_;refine aQ.quiet rfl (aY t3 rfl (Rd.tG hL (i:=5) rfl (aI hy) rfl)) rfl bG.calm ?_;refine ca (dR tb xb _ _ _ (y) (j.main.b.id) (0) (.bW j ((j.aU.length:Int)-1)) ([jp]) _) ?_;rintro _ _ _ ⟨nv,rfl,rfl⟩;refine mc ?_;refine At.front 5 rfl ?_;refine At.front 5 rfl ?_;refine At.cH ?_;refine re ?_;exact rs (by rw[Bd (s:=sy _ q r) hly];exact⟨q,r,nv,s,Mo,_,_,[jp],rfl,rfl,hO,hA,⟨ja,jc,Ml,rfl,hL⟩,rfl,Ix.az q,hs⟩)
theorem zQ (lock:Int):aN prog 288 [.pointer (some ⟨tb,0,none⟩),.pointer (some ⟨jp.1,0,none⟩),.int .i64 lock] [ak r.rows,aC s,eS tb j.cR jp.2] [aE tb xb (⟨bz,op,call,lt,none,ov,an⟩:Th) .nilFunc s,ao xb ba q,Mo,M,dH jp.1 j jp.2 ja jc,Ml] (aX tb xb ba q ((sy (⟨bz,op,call,lt,none,ov,an⟩:Th) q r).bH j lock)):=by
 refine cb fun X H₀ L₀=>?_;refine bx fun b1=>?_;refine bx fun b2=>?_;refine bx fun b3=>?_;refine mc ?_;refine At.aJ (iu tb (.bH j lock) [jp] (dE 291 [b1,b2,b3])) (fun _ h=>bK (b1,b2,b3) rfl ⟨h.2.2.1,h.2.1,h.1,h.2.2.2.2.2.2.1,trivial⟩) ?_;refine dv 4 [0,1,3,102] (k_ (k_ (k_ (k_ (d_ (k_ r_)))))) ?_;refine oA (j9 jp.1 _ jp.2 _ _) ?_;refine ca (gn tb xb _ _ _ (Sy.Jo.other j) (.bH j lock) ([jp]) _) ?_;rintro _ _ _ ⟨nv,rfl,rfl⟩;refine mc ?_;refine At.front 5 rfl ?_;refine At.front 2 rfl ?_;refine At.cH ?_;refine re ?_;exact rs ⟨q,r,nv,s,Mo,_,_,[jp],rfl,rfl,hO,hA,⟨ja,jc,Ml,rfl,hL⟩,rfl,Ix.az q,hs⟩
theorem vC (n:Bs):aN prog 273 [.pointer (some ⟨tb,0,none⟩),.pointer (some ⟨jp.1,0,none⟩),n.val] [ak r.rows,aC s,eS tb j.cR jp.2] [aE tb xb (⟨bz,op,call,lt,none,ov,an⟩:Th) .nilFunc s,ao xb ba q,Mo,M,dH jp.1 j jp.2 ja jc,Ml] (aX tb xb ba q ((sy (⟨bz,op,call,lt,none,ov,an⟩:Th) q r).aG j n)):=by
 refine cb fun X H₀ L₀=>?_;refine bx fun b1=>?_;refine bx fun b2=>?_;refine bx fun b3=>?_;refine mc ?_;refine At.draw 26 (.q 0 (.q 1 (.q 2 (.q 3 (.q 4 (.q 5 (.q 6 (.q 7 (.q 8 (.q 9 (.q 10 (.q 11 (.q 12 (.q 13 (.q 14 (.q 15 (.q 16 (.q 17 (.q 18 (.t 19 (.t 20 (.q 21 (.q 22 (.q 23 (.o 24 (.o 25 (.e)))))) 24 (.o 20 (.q 21 (.q 22 (.q 23 (.o 25 (.e))))))) 24 (.o 19 (.o 20 (.q 21 (.q 22 (.q 23 (.o 25 (.e))))))))))))))))))))))))))) (_::_::_::L₀) (k_ (k_ (d_ (d_ (k_ (d_ r_)))))) mixed (by kernel_rfl) rfl ?_;refine mc ?_;refine aQ.two ?_ ?_;refine oM rfl (aP (rows:=[n.af,n.stat,n.home,j.main.b.id].map aM) underlying26 t3 rfl rfl rfl rfl rfl (by simp[aM]) rfl rfl (by decide)) ?_;rintro _ _ _ ⟨b4,rfl,rfl,rfl⟩;refine aQ.two ?_ ?_;refine gf (cJ ba r _ hA 5 ⟨some ⟨b4,0,none⟩,4,[n.af,n.stat,n.home,j.main.b.id]⟩) ?_;intro r2 N2 hA2 hr2;refine mO fun b5=>?_;refine yn rfl (aw t3 rfl rfl (i:=0) rfl rfl rfl rfl) ?_;rintro _ _ _ ⟨rfl,rfl⟩;refine fi (fun h1=>?_) (fun h1=>?_);refine mc ?_;refine At.aJ (ju tb (.ret j.cR) [] jp.2) (fun _ h=>h.2.2.2.2.2.2.2.2.1) ?_;refine At.ck ?_;refine dw 9 [] r_ ?_;refine ca (jE tb xb ba bz op call lt ov an s hs q Mo hO hol r2 _ hA2 j.main (.ret j.cR) [] _ [] rfl) ?_;rintro _ _ _ ⟨q9,r9,nv9,sl9,No9,Na9,Nj9,l9,rfl,rfl,hE⟩;refine re ?_;exact rs (by rw[GR (s:=sy _ q r) h1];dsimp only[sy];rw[<-hr2];exact⟨q9,r9,nv9,sl9,No9,Na9,Nj9,l9,rfl,rfl,hE⟩);refine mc ?_;refine At.freeze 0 (φ:=aW b5 _) rfl (fun _ h=>cO.2 ⟨_,_,h⟩) ?_;refine mc ?_;refine At.aJ (eZ tb (.aG j (zP r.p j n).1) [jp] (dE 279 [b1,b2,b5])) (fun _ h=>bK (b1,b2,b5) rfl ⟨h.2.2.2.2.2.1,h.2.2.2.2.1,h.1,h.2.2.2.2.2.2.2.2.2.1,trivial⟩) ?_;refine ca (dR tb xb _ _ _ (n.home) (n.id) ((zP r.p j n).1) (.aG j (zP r.p j n).1) ([jp]) _) ?_;rintro _ _ _ ⟨nv,rfl,rfl⟩;refine mc ?_;refine At.front 5 rfl ?_;refine At.front 5 rfl ?_;refine At.cH ?_;refine re ?_;exact rs (by rw[Be (s:=sy _ q r) h1];dsimp only[sy];rw[<-hr2];exact⟨q,r2,nv,s,Mo,_,_,[jp],rfl,rfl,hO,hA2,⟨ja,jc,Ml,rfl,hL⟩,rfl,Ix.az q,hs⟩);refine mO fun b6=>?_;refine gf (cJ ba r _ hA 5 ⟨some ⟨b4,0,none⟩,4,[n.af,n.stat,n.home,j.main.b.id]⟩) ?_;intro r2 N2 hA2 hr2;refine mc ?_;refine yn rfl (aw t3 rfl rfl (i:=1) rfl rfl rfl rfl) ?_;rintro _ _ _ ⟨rfl,rfl⟩;refine fi (fun h1=>?_) (fun h1=>?_);refine mc ?_;refine At.aJ (ju tb (.ret j.cR) [] jp.2) (fun _ h=>h.2.2.2.2.2.2.2.2.1) ?_;refine At.ck ?_;refine dw 9 [] r_ ?_;refine ca (jE tb xb ba bz op call lt ov an s hs q Mo hO hol r2 _ hA2 j.main (.ret j.cR) [] _ [] rfl) ?_;rintro _ _ _ ⟨q9,r9,nv9,sl9,No9,Na9,Nj9,l9,rfl,rfl,hE⟩;refine re ?_;exact rs (by rw[GR (s:=sy _ q r) h1];dsimp only[sy];rw[<-hr2];exact⟨q9,r9,nv9,sl9,No9,Na9,Nj9,l9,rfl,rfl,hE⟩)
 refine mc ?_;refine At.freeze 1 (φ:=aW b6 _) rfl (fun _ h=>cO.2 ⟨_,_,h⟩) ?_;refine mc ?_;refine At.aJ (eZ tb (.aG j (zP r.p j n).1) [jp] (dE 279 [b1,b2,b6])) (fun _ h=>bK (b1,b2,b6) rfl ⟨h.2.2.2.2.2.1,h.2.2.2.2.1,h.1,h.2.2.2.2.2.2.2.2.2.1,trivial⟩) ?_;refine ca (dR tb xb _ _ _ (n.home) (n.id) ((zP r.p j n).1) (.aG j (zP r.p j n).1) ([jp]) _) ?_;rintro _ _ _ ⟨nv,rfl,rfl⟩;refine mc ?_;refine At.front 5 rfl ?_;refine At.front 5 rfl ?_;refine At.cH ?_;refine re ?_;exact rs (by rw[Be (s:=sy _ q r) h1];dsimp only[sy];rw[<-hr2];exact⟨q,r2,nv,s,Mo,_,_,[jp],rfl,rfl,hO,hA2,⟨ja,jc,Ml,rfl,hL⟩,rfl,Ix.az q,hs⟩);refine mO fun b7=>?_;refine oM rfl (aP (rows:=[n.af,n.stat,n.home,j.main.b.id].map aM) underlying26 t3 rfl rfl rfl rfl rfl (by simp[aM]) rfl rfl (by decide)) ?_;rintro _ _ _ ⟨b8,rfl,rfl,rfl⟩;refine gf (cJ ba r _ hA 5 ⟨some ⟨b8,0,none⟩,4,[n.af,n.stat,n.home,j.main.b.id]⟩) ?_;intro r2 N2 hA2 hr2;refine mc ?_;refine yn rfl (aw t3 rfl rfl (i:=1) rfl rfl rfl rfl) ?_;rintro _ _ _ ⟨rfl,rfl⟩;refine fi (fun h1=>?_) (fun h1=>?_);refine mc ?_;refine At.aJ (ju tb (.ret j.cR) [] jp.2) (fun _ h=>h.2.2.2.2.2.2.2.2.1) ?_;refine At.ck ?_;refine dw 9 [] r_ ?_;refine ca (jE tb xb ba bz op call lt ov an s hs q Mo hO hol r2 _ hA2 j.main (.ret j.cR) [] _ [] rfl) ?_;rintro _ _ _ ⟨q9,r9,nv9,sl9,No9,Na9,Nj9,l9,rfl,rfl,hE⟩;refine re ?_;exact rs (by rw[GR (s:=sy _ q r) h1];dsimp only[sy];rw[<-hr2];exact⟨q9,r9,nv9,sl9,No9,Na9,Nj9,l9,rfl,rfl,hE⟩);refine mc ?_;refine At.freeze 1 (φ:=aW b7 _) rfl (fun _ h=>cO.2 ⟨_,_,h⟩) ?_;refine mc ?_;refine At.aJ (eZ tb (.aG j (zP r.p j n).1) [jp] (dE 279 [b1,b2,b7])) (fun _ h=>bK (b1,b2,b7) rfl ⟨h.2.2.2.2.2.1,h.2.2.2.2.1,h.1,h.2.2.2.2.2.2.2.2.2.1,trivial⟩) ?_;refine ca (dR tb xb _ _ _ (n.home) (n.id) ((zP r.p j n).1) (.aG j (zP r.p j n).1) ([jp]) _) ?_;rintro _ _ _ ⟨nv,rfl,rfl⟩;refine mc ?_;refine At.front 5 rfl ?_;refine At.front 5 rfl ?_;refine At.cH ?_;refine re ?_;exact rs (by rw[Be (s:=sy _ q r) h1];dsimp only[sy];rw[<-hr2];exact⟨q,r2,nv,s,Mo,_,_,[jp],rfl,rfl,hO,hA2,⟨ja,jc,Ml,rfl,hL⟩,rfl,Ix.az q,hs⟩)
end
theorem Bf (tb xb ba:Nat) (bz:Bool) (op:bA) (call:Int) (lt ov:Bool) (an:An) (s:Sl Pr) (hs:s.l=an.l) (q:Ix) (Mo:aO) (hO:bR 3 1 (q.ord.map aM) q.oa q.oc Mo) (hol:q.ord.length<1000000) (r:cX) (M:aO) (hA:aR ba r M) (jp:Nat) (j:Jo) (tv:Value) (ja:Option Addr) (jc:Nat) (other lock:Int):aN prog 292 [.pointer (some ⟨tb,0,none⟩),.pointer (some ⟨jp,0,none⟩),.int .i64 other,.int .i64 lock] [ak r.rows] [aE tb xb (⟨bz,op,call,lt,none,ov,an⟩:Th) .nilFunc s,ao xb ba q,M,dH jp j tv ja jc] (Jy tb xb ba (⟨bz,op,call,lt,none,ov,an⟩:Th) s q jp j tv ja jc ((sy (⟨bz,op,call,lt,none,ov,an⟩:Th) q r).bI j other lock)):=by
 refine cb fun X H₀ L₀=>?_;refine dw 12 [] r_ ?_;refine cv (fun h1=>?_) (fun h1=>?_);refine ca (FM ba r _ hA _ _) ?_;intro r2 N2 hA2 hr2;refine mc ?_;have hU:=GS (A:=r.p) h1;rw[<-hU]at hr2;rw[<-hU];refine fi (fun h2=>?_) (fun h2=>?_);refine re ?_;exact rs (by rw[mu (s:=(sy (⟨bz,op,call,lt,none,ov,an⟩:Th) q r)) h2];dsimp only[sy];rw[<-hr2];exact⟨rfl,r2,_,rfl,rfl,hA2,rfl⟩);refine fi (fun h3=>?_) (fun h3=>?_);refine dw 21 [15,16] (d_ (k_ (k_ (k_ r_)))) ?_;refine mc ?_;refine oM rfl (aP (rows:=[(fX r.p j).1,0,j.cell,j.main.b.id].map aM) underlying26 t3 rfl rfl rfl rfl rfl (by simp[aM]) rfl rfl (by decide)) ?_;rintro _ _ _ ⟨b1,rfl,rfl,rfl⟩;refine oA (cJ ba r2 _ hA2 5 ⟨some ⟨b1,0,none⟩,4,[(fX r.p j).1,0,j.cell,j.main.b.id]⟩) ?_;intro r3 N3 hA3 hr3;refine fi (fun h4=>?_) (fun h4=>?_);refine re ?_;exact rs (by rw[(show(sy (⟨bz,op,call,lt,none,ov,an⟩:Th) q r).bI j other lock=(0,(r2.p.make 5 [(fX r.p j).1,0,j.cell,j.main.b.id]).2.1,(r2.p.make 5 [(fX r.p j).1,0,j.cell,j.main.b.id]).2.2)from by rw[hr2];exact gY (s:=(sy (⟨bz,op,call,lt,none,ov,an⟩:Th) q r)) (if_pos h3) h2 (by have:=h4;rw[hr2]at this;exact this)),<-hr3];exact⟨rfl,r3,_,rfl,rfl,hA3,rfl⟩);refine sv 94 (.bool true) ?_ (e:=by exact congrArg Value.bool (decide_eq_true h3));refine dw 28 [24,25] (d_ (k_ (k_ (k_ r_)))) ?_;refine mc ?_;refine oM rfl (aP (rows:=[(r2.p.make 5 [(fX r.p j).1,0,j.cell,j.main.b.id]).1,j.ai.id,j.up.id,j.cell,lock,(r2.p.make 5 [(fX r.p j).1,0,j.cell,j.main.b.id]).1].map aM) underlying26 t3 rfl rfl rfl rfl rfl (by simp[aM]) rfl rfl (by decide)) ?_;rintro _ _ _ ⟨b2,rfl,rfl,rfl⟩;refine oA (cJ ba r3 _ hA3 8 ⟨some ⟨b2,0,none⟩,6,[(r2.p.make 5 [(fX r.p j).1,0,j.cell,j.main.b.id]).1,j.ai.id,j.up.id,j.cell,lock,(r2.p.make 5 [(fX r.p j).1,0,j.cell,j.main.b.id]).1]⟩) ?_;intro r4 N4 hA4 hr4;refine re ?_;exact rs (by rw[(show(sy (⟨bz,op,call,lt,none,ov,an⟩:Th) q r).bI j other lock=r3.p.make 8 [(r2.p.make 5 [(fX r.p j).1,0,j.cell,j.main.b.id]).1,j.ai.id,j.up.id,j.cell,lock,(r2.p.make 5 [(fX r.p j).1,0,j.cell,j.main.b.id]).1]from by rw[hr3,hr2];exact gZ (s:=(sy (⟨bz,op,call,lt,none,ov,an⟩:Th) q r)) (if_pos h3) h2 (by have:=h4;rw[hr2]at this;exact this) (if_pos h3))];exact⟨rfl,r4,_,rfl,rfl,hA4,hr4⟩);refine dw 21 [15,16] (d_ (k_ (k_ (k_ r_)))) ?_;refine mc ?_;refine oM rfl (aP (rows:=[(fX r.p j).1,0,j.ai.home,j.main.b.id].map aM) underlying26 t3 rfl rfl rfl rfl rfl (by simp[aM]) rfl rfl (by decide)) ?_;rintro _ _ _ ⟨b3,rfl,rfl,rfl⟩;refine oA (cJ ba r2 _ hA2 5 ⟨some ⟨b3,0,none⟩,4,[(fX r.p j).1,0,j.ai.home,j.main.b.id]⟩) ?_;intro r3 N3 hA3 hr3;refine fi (fun h4=>?_) (fun h4=>?_);refine re ?_;exact rs (by rw[(show(sy (⟨bz,op,call,lt,none,ov,an⟩:Th) q r).bI j other lock=(0,(r2.p.make 5 [(fX r.p j).1,0,j.ai.home,j.main.b.id]).2.1,(r2.p.make 5 [(fX r.p j).1,0,j.ai.home,j.main.b.id]).2.2)from by rw[hr2];exact gY (s:=(sy (⟨bz,op,call,lt,none,ov,an⟩:Th) q r)) (if_neg h3) h2 (by have:=h4;rw[hr2]at this;exact this)),<-hr3];exact⟨rfl,r3,_,rfl,rfl,hA3,rfl⟩)
 refine sv 94 (.bool false) ?_ (e:=by exact congrArg Value.bool (decide_eq_false h3));refine dw 28 [24,25] (d_ (k_ (k_ (k_ r_)))) ?_;refine mc ?_;refine oM rfl (aP (rows:=[(r2.p.make 5 [(fX r.p j).1,0,j.ai.home,j.main.b.id]).1,j.ai.id,j.up.id,j.cell,lock,other].map aM) underlying26 t3 rfl rfl rfl rfl rfl (by simp[aM]) rfl rfl (by decide)) ?_;rintro _ _ _ ⟨b4,rfl,rfl,rfl⟩;refine oA (cJ ba r3 _ hA3 8 ⟨some ⟨b4,0,none⟩,6,[(r2.p.make 5 [(fX r.p j).1,0,j.ai.home,j.main.b.id]).1,j.ai.id,j.up.id,j.cell,lock,other]⟩) ?_;intro r4 N4 hA4 hr4;refine re ?_;exact rs (by rw[(show(sy (⟨bz,op,call,lt,none,ov,an⟩:Th) q r).bI j other lock=r3.p.make 8 [(r2.p.make 5 [(fX r.p j).1,0,j.ai.home,j.main.b.id]).1,j.ai.id,j.up.id,j.cell,lock,other]from by rw[hr3,hr2];exact gZ (s:=(sy (⟨bz,op,call,lt,none,ov,an⟩:Th) q r)) (if_neg h3) h2 (by have:=h4;rw[hr2]at this;exact this) (if_neg h3))];exact⟨rfl,r4,_,rfl,rfl,hA4,hr4⟩);refine ca (FM ba r _ hA _ _) ?_;intro r2 N2 hA2 hr2;refine mc ?_;have hU:=GU (A:=r.p) h1;rw[<-hU]at hr2;rw[<-hU];refine fi (fun h2=>?_) (fun h2=>?_);refine re ?_;exact rs (by rw[mu (s:=(sy (⟨bz,op,call,lt,none,ov,an⟩:Th) q r)) h2];dsimp only[sy];rw[<-hr2];exact⟨rfl,r2,_,rfl,rfl,hA2,rfl⟩);refine fi (fun h3=>?_) (fun h3=>?_);refine dw 21 [15,16] (d_ (k_ (k_ (k_ r_)))) ?_;refine mc ?_;refine oM rfl (aP (rows:=[(fX r.p j).1,0,j.cell,j.main.b.id].map aM) underlying26 t3 rfl rfl rfl rfl rfl (by simp[aM]) rfl rfl (by decide)) ?_;rintro _ _ _ ⟨b5,rfl,rfl,rfl⟩;refine oA (cJ ba r2 _ hA2 5 ⟨some ⟨b5,0,none⟩,4,[(fX r.p j).1,0,j.cell,j.main.b.id]⟩) ?_;intro r3 N3 hA3 hr3;refine fi (fun h4=>?_) (fun h4=>?_);refine re ?_;exact rs (by rw[(show(sy (⟨bz,op,call,lt,none,ov,an⟩:Th) q r).bI j other lock=(0,(r2.p.make 5 [(fX r.p j).1,0,j.cell,j.main.b.id]).2.1,(r2.p.make 5 [(fX r.p j).1,0,j.cell,j.main.b.id]).2.2)from by rw[hr2];exact gY (s:=(sy (⟨bz,op,call,lt,none,ov,an⟩:Th) q r)) (if_pos h3) h2 (by have:=h4;rw[hr2]at this;exact this)),<-hr3];exact⟨rfl,r3,_,rfl,rfl,hA3,rfl⟩);refine sv 94 (.bool true) ?_ (e:=by exact congrArg Value.bool (decide_eq_true h3));refine dw 28 [24,25] (d_ (k_ (k_ (k_ r_)))) ?_;refine mc ?_;refine oM rfl (aP (rows:=[(r2.p.make 5 [(fX r.p j).1,0,j.cell,j.main.b.id]).1,j.ai.id,j.up.id,j.cell,lock,(r2.p.make 5 [(fX r.p j).1,0,j.cell,j.main.b.id]).1].map aM) underlying26 t3 rfl rfl rfl rfl rfl (by simp[aM]) rfl rfl (by decide)) ?_;rintro _ _ _ ⟨b6,rfl,rfl,rfl⟩;refine oA (cJ ba r3 _ hA3 8 ⟨some ⟨b6,0,none⟩,6,[(r2.p.make 5 [(fX r.p j).1,0,j.cell,j.main.b.id]).1,j.ai.id,j.up.id,j.cell,lock,(r2.p.make 5 [(fX r.p j).1,0,j.cell,j.main.b.id]).1]⟩) ?_;intro r4 N4 hA4 hr4;refine re ?_
 exact rs (by rw[(show(sy (⟨bz,op,call,lt,none,ov,an⟩:Th) q r).bI j other lock=r3.p.make 8 [(r2.p.make 5 [(fX r.p j).1,0,j.cell,j.main.b.id]).1,j.ai.id,j.up.id,j.cell,lock,(r2.p.make 5 [(fX r.p j).1,0,j.cell,j.main.b.id]).1]from by rw[hr3,hr2];exact gZ (s:=(sy (⟨bz,op,call,lt,none,ov,an⟩:Th) q r)) (if_pos h3) h2 (by have:=h4;rw[hr2]at this;exact this) (if_pos h3))];exact⟨rfl,r4,_,rfl,rfl,hA4,hr4⟩);refine dw 21 [15,16] (d_ (k_ (k_ (k_ r_)))) ?_;refine mc ?_;refine oM rfl (aP (rows:=[(fX r.p j).1,0,j.ai.home,j.main.b.id].map aM) underlying26 t3 rfl rfl rfl rfl rfl (by simp[aM]) rfl rfl (by decide)) ?_;rintro _ _ _ ⟨b7,rfl,rfl,rfl⟩;refine oA (cJ ba r2 _ hA2 5 ⟨some ⟨b7,0,none⟩,4,[(fX r.p j).1,0,j.ai.home,j.main.b.id]⟩) ?_;intro r3 N3 hA3 hr3;refine fi (fun h4=>?_) (fun h4=>?_);refine re ?_;exact rs (by rw[(show(sy (⟨bz,op,call,lt,none,ov,an⟩:Th) q r).bI j other lock=(0,(r2.p.make 5 [(fX r.p j).1,0,j.ai.home,j.main.b.id]).2.1,(r2.p.make 5 [(fX r.p j).1,0,j.ai.home,j.main.b.id]).2.2)from by rw[hr2];exact gY (s:=(sy (⟨bz,op,call,lt,none,ov,an⟩:Th) q r)) (if_neg h3) h2 (by have:=h4;rw[hr2]at this;exact this)),<-hr3];exact⟨rfl,r3,_,rfl,rfl,hA3,rfl⟩);refine sv 94 (.bool false) ?_ (e:=by exact congrArg Value.bool (decide_eq_false h3));refine dw 28 [24,25] (d_ (k_ (k_ (k_ r_)))) ?_;refine mc ?_;refine oM rfl (aP (rows:=[(r2.p.make 5 [(fX r.p j).1,0,j.ai.home,j.main.b.id]).1,j.ai.id,j.up.id,j.cell,lock,other].map aM) underlying26 t3 rfl rfl rfl rfl rfl (by simp[aM]) rfl rfl (by decide)) ?_;rintro _ _ _ ⟨b8,rfl,rfl,rfl⟩;refine oA (cJ ba r3 _ hA3 8 ⟨some ⟨b8,0,none⟩,6,[(r2.p.make 5 [(fX r.p j).1,0,j.ai.home,j.main.b.id]).1,j.ai.id,j.up.id,j.cell,lock,other]⟩) ?_;intro r4 N4 hA4 hr4;refine re ?_;exact rs (by rw[(show(sy (⟨bz,op,call,lt,none,ov,an⟩:Th) q r).bI j other lock=r3.p.make 8 [(r2.p.make 5 [(fX r.p j).1,0,j.ai.home,j.main.b.id]).1,j.ai.id,j.up.id,j.cell,lock,other]from by rw[hr3,hr2];exact gZ (s:=(sy (⟨bz,op,call,lt,none,ov,an⟩:Th) q r)) (if_neg h3) h2 (by have:=h4;rw[hr2]at this;exact this) (if_neg h3))];exact⟨rfl,r4,_,rfl,rfl,hA4,hr4⟩)
theorem Px:ah prog 287:=ah.mk' func287 rfl rfl
theorem Py:ah prog 291:=ah.mk' func291 rfl rfl
theorem DP {s:Sy} {j:Jo} {z lock:Int} (h:(s.bI j z lock).2.1≠0):s.df z (.bH j lock)=(s.bq (s.bI j z lock).2.2).bW j:=by
 show(let(id,e,B):=s.bI j z lock;if e≠0 then(s.bq B).bW j else(s.bq B).go (.swap j.main.state (-1) id (.bH j id)))=_;generalize s.bI j z lock=q at h⊢;rcases q with⟨a,b,c⟩;exact if_pos h
theorem Bg {s:Sy} {j:Jo} {z lock:Int} (h:¬(s.bI j z lock).2.1≠0):s.df z (.bH j lock)=(s.bq (s.bI j z lock).2.2).go (.swap j.main.state (-1) (s.bI j z lock).1 (.bH j (s.bI j z lock).1)):=by
 show(let(id,e,B):=s.bI j z lock;if e≠0 then(s.bq B).bW j else(s.bq B).go (.swap j.main.state (-1) id (.bH j id)))=_;generalize s.bI j z lock=q at h⊢;rcases q with⟨a,b,c⟩;exact if_neg h
section
variable (tb xb ba:Nat) (bz:Bool) (op:bA) (call:Int) (lt ov:Bool) (an:An) (s:Sl Pr) (hs:s.l=an.l) (q:Ix) (Mo:aO) (hO:bR 3 1 (q.ord.map aM) q.oa q.oc Mo) (hol:q.ord.length<1000000) (r:cX) (M:aO) (hA:aR ba r M) (jp:Nat×Value) (j:Jo) (ja:Option Addr) (jc:Nat) (Ml:aO) (hL:bR 3 1 (j.aU.map aM) ja jc Ml) (hll:j.aU.length<1000000)
include tb xb ba bz op call lt ov an s hs q Mo hO hol r M hA jp j ja jc Ml hL hll
theorem GW (p1 p2 p3 p4:Nat) (z up cell:Int):aN prog 287 [.int .i64 z,.pointer (some ⟨p1,0,none⟩),.pointer (some ⟨p2,0,none⟩),.pointer (some ⟨p3,0,none⟩),.pointer (some ⟨p4,0,none⟩)] [ak r.rows,aC s,eY tb p1,aW p2 #[ptr jp.1],aW p3 (cI up),aW p4 (cI cell),eS tb j.cR jp.2] [aE tb xb (⟨bz,op,call,lt,none,ov,an⟩:Th) .nilFunc s,ao xb ba q,Mo,M,dH jp.1 j jp.2 ja jc,Ml] (aX tb xb ba q ((sy (⟨bz,op,call,lt,none,ov,an⟩:Th) q r).df z (.bh j up cell))):=by
 refine cb fun X H₀ L₀=>?_;refine ca (ir xb ba q r _ hA _) ?_;refine al fun b1=>?_;refine sp 28 (fun h1=>?_) (fun h1=>?_)
 ·skip
  refine fi (fun h2=>?_) (fun h2=>?_);refine mc ?_;refine At.front 5 rfl ?_;refine At.piece (B:=dH jp.1 ({j with cell:=cell}:Jo) jp.2 ja jc) rfl ?_;refine ca (zQ tb xb ba bz op call lt ov an s hs q Mo hO hol r M hA jp ({j with cell:=cell}:Jo) ja jc Ml hL 0) ?_;rintro _ _ _ ⟨q9,r9,nv9,sl9,No9,Na9,Nj9,l9,rfl,rfl,hE⟩;refine re ?_;exact rs (by rw[show(sy (⟨bz,op,call,lt,none,ov,an⟩:Th) q r).df z (.bh j up cell)=(sy (⟨bz,op,call,lt,none,ov,an⟩:Th) q r).bH ({j with cell:=cell}:Jo) 0 from if_pos ⟨h1,h2⟩];exact⟨q9,r9,nv9,sl9,No9,Na9,Nj9,l9,rfl,rfl,hE⟩)
  ·skip
   refine sv 39 (.bool true) ?_ (e:=by exact congrArg Value.bool (decide_eq_true h1));refine mc ?_;refine At.front 5 rfl ?_;refine At.piece (B:=dH jp.1 ({j with cell:=cell}:Jo) jp.2 ja jc) rfl ?_;refine At.draw 8 (.q 0 (.q 1 (.q 2 (.q 3 (.q 4 (.t 5 (.q 6 (.o 7 (.e))) 7 (.o 5 (.q 6 (.e))))))))) (_::_::_::_::_::L₀) (k_ (k_ (d_ (d_ (k_ (k_ (k_ r_))))))) mixed (by kernel_rfl) rfl ?_;refine mc ?_;refine aQ.two ?_ ?_
   ·skip
    refine oA (ir xb ba q r _ hA _) ?_;refine nX fun b2=>?_;refine mc ?_;refine At.freeze 0 (φ:=aW b2 _) rfl (fun _ h=>cO.2 ⟨_,_,h⟩) ?_;refine mc ?_;refine At.aJ (sL tb (some (r.p.aj up).join) jp.1 (dE 289 [p1,p2,b2])) (fun _ h=>bK (p1,p2,b2) rfl ⟨h.2.2.2.2.1,h.2.2.2.2.2.1,h.1,trivial⟩) ?_;refine ca (wz tb xb ba bz op call lt ov an s hs q Mo hO hol r M hA jp ({j with cell:=cell}:Jo) ja jc Ml hL (r.p.aj up).join (r.p.aj up).join _) ?_;rintro _ _ _ ⟨q9,r9,nv9,sl9,No9,Na9,Nj9,l9,rfl,rfl,hE⟩;refine re ?_;exact rs (by rw[show(sy (⟨bz,op,call,lt,none,ov,an⟩:Th) q r).df z (.bh j up cell)=(sy (⟨bz,op,call,lt,none,ov,an⟩:Th) q r).go (.swap (r.p.aj up).join 0 j.main.b.id (.bO ({j with cell:=cell}:Jo) (r.p.aj up).join (r.p.aj up).join))from(if_neg (fun h=>h2 h.2)).trans (if_pos h1)];exact⟨q9,r9,nv9,sl9,No9,Na9,Nj9,l9,rfl,rfl,hE⟩)
   ·skip
    refine mO fun b3=>?_;refine oA (ir xb ba q r _ hA _) ?_;refine mc ?_;refine At.freeze 2 (φ:=aW b3 _) rfl (fun _ h=>cO.2 ⟨_,_,h⟩) ?_;refine mc ?_;refine At.aJ (sL tb (some (r.p.aj up).join) jp.1 (dE 289 [p1,p2,b3])) (fun _ h=>bK (p1,p2,b3) rfl ⟨h.2.2.2.2.1,h.2.2.2.2.2.1,h.1,trivial⟩) ?_;refine ca (wz tb xb ba bz op call lt ov an s hs q Mo hO hol r M hA jp ({j with cell:=cell}:Jo) ja jc Ml hL (r.p.aj up).join (r.p.aj up).join _) ?_;rintro _ _ _ ⟨q9,r9,nv9,sl9,No9,Na9,Nj9,l9,rfl,rfl,hE⟩;refine re ?_;exact rs (by rw[show(sy (⟨bz,op,call,lt,none,ov,an⟩:Th) q r).df z (.bh j up cell)=(sy (⟨bz,op,call,lt,none,ov,an⟩:Th) q r).go (.swap (r.p.aj up).join 0 j.main.b.id (.bO ({j with cell:=cell}:Jo) (r.p.aj up).join (r.p.aj up).join))from(if_neg (fun h=>h2 h.2)).trans (if_pos h1)];exact⟨q9,r9,nv9,sl9,No9,Na9,Nj9,l9,rfl,rfl,hE⟩)
 refine sv 39 (.bool false) ?_ (e:=by exact congrArg Value.bool (decide_eq_false h1));refine ca (ik ba r _ hA _) ?_;refine fi (fun h3=>?_) (fun h3=>?_);refine ca (lK tb xb ba bz op call lt ov an s hs q Mo hO hol r M hA jp j ja jc Ml hL hll) ?_;rintro _ _ _ ⟨q9,r9,nv9,sl9,No9,Na9,Nj9,l9,rfl,rfl,hE⟩;refine re ?_;exact rs (by rw[show(sy (⟨bz,op,call,lt,none,ov,an⟩:Th) q r).df z (.bh j up cell)=(sy (⟨bz,op,call,lt,none,ov,an⟩:Th) q r).bW j from(if_neg (fun h=>h1 h.1)).trans ((if_neg h1).trans (if_pos h3))];exact⟨q9,r9,nv9,sl9,No9,Na9,Nj9,l9,rfl,rfl,hE⟩);refine dw 7 [] r_ ?_;refine fi (fun h4=>?_) (fun h4=>?_);refine ca (uS tb xb ba bz op call lt ov an s hs q Mo hO hol r M hA jp j ja jc Ml hL (r.p.aj z).left z) ?_;rintro _ _ _ ⟨q9,r9,nv9,sl9,No9,Na9,Nj9,l9,rfl,rfl,hE⟩;refine re ?_;exact rs (by rw[show(sy (⟨bz,op,call,lt,none,ov,an⟩:Th) q r).df z (.bh j up cell)=(sy (⟨bz,op,call,lt,none,ov,an⟩:Th) q r).bh j (r.p.aj z).left z from(if_neg (fun h=>h1 h.1)).trans ((if_neg h1).trans ((if_neg h3).trans (if_pos h4)))];exact⟨q9,r9,nv9,sl9,No9,Na9,Nj9,l9,rfl,rfl,hE⟩);refine ca (uS tb xb ba bz op call lt ov an s hs q Mo hO hol r M hA jp j ja jc Ml hL (r.p.aj z).right z) ?_;rintro _ _ _ ⟨q9,r9,nv9,sl9,No9,Na9,Nj9,l9,rfl,rfl,hE⟩;refine re ?_;exact rs (by rw[show(sy (⟨bz,op,call,lt,none,ov,an⟩:Th) q r).df z (.bh j up cell)=(sy (⟨bz,op,call,lt,none,ov,an⟩:Th) q r).bh j (r.p.aj z).right z from(if_neg (fun h=>h1 h.1)).trans ((if_neg h1).trans ((if_neg h3).trans (if_neg h4)))];exact⟨q9,r9,nv9,sl9,No9,Na9,Nj9,l9,rfl,rfl,hE⟩)
theorem GX (p1 p2 p3:Nat) (z lock:Int):aN prog 291 [.int .i64 z,.pointer (some ⟨p1,0,none⟩),.pointer (some ⟨p2,0,none⟩),.pointer (some ⟨p3,0,none⟩)] [ak r.rows,aC s,eY tb p1,aW p2 #[ptr jp.1],aW p3 (cI lock),eS tb j.cR jp.2] [aE tb xb (⟨bz,op,call,lt,none,ov,an⟩:Th) .nilFunc s,ao xb ba q,Mo,M,dH jp.1 j jp.2 ja jc,Ml] (aX tb xb ba q ((sy (⟨bz,op,call,lt,none,ov,an⟩:Th) q r).df z (.bH j lock))):=by
 refine cb fun X H₀ L₀=>?_;refine ca (Bf tb xb ba bz op call lt ov an s hs q Mo hO hol r M hA jp.1 j jp.2 ja jc z lock) ?_;rintro _ _ _ ⟨rfl,r2,N2,rfl,rfl,hA2,hr2⟩;refine al fun b1=>?_;refine fi (fun h1=>?_) (fun h1=>?_);refine ca (lK tb xb ba bz op call lt ov an s hs q Mo hO hol r2 _ hA2 jp j ja jc Ml hL hll) ?_;rintro _ _ _ ⟨q9,r9,nv9,sl9,No9,Na9,Nj9,l9,rfl,rfl,hE⟩;refine re ?_;exact rs (by rw[(show(sy (⟨bz,op,call,lt,none,ov,an⟩:Th) q r).df z (.bH j lock)=(Sy.bq (sy (⟨bz,op,call,lt,none,ov,an⟩:Th) q r) ((sy (⟨bz,op,call,lt,none,ov,an⟩:Th) q r).bI j z lock).2.2).bW j from DP h1),<-hr2];exact⟨q9,r9,nv9,sl9,No9,Na9,Nj9,l9,rfl,rfl,hE⟩)
 ·skip
  refine mc ?_;refine At.freeze 0 (φ:=aW b1 _) rfl (fun _ h=>cO.2 ⟨_,_,h⟩) ?_;refine At.aJ (eZ tb (.bH j ((sy (⟨bz,op,call,lt,none,ov,an⟩:Th) q r).bI j z lock).1) [jp] (dE 293 [p1,p2,b1])) (fun _ h=>bK (p1,p2,b1) rfl ⟨h.2.2.2.2.2.1,h.2.2.2.2.2.2.1,h.1,h.2.2.2.2.2.2.2.2.1,trivial⟩) ?_;refine dw 8 [] r_ ?_;refine ca (dR tb xb _ _ _ (j.main.state) (-1) (((sy (⟨bz,op,call,lt,none,ov,an⟩:Th) q r).bI j z lock).1) (.bH j ((sy (⟨bz,op,call,lt,none,ov,an⟩:Th) q r).bI j z lock).1) ([jp]) _) ?_;rintro _ _ _ ⟨nv,rfl,rfl⟩;refine mc ?_;refine At.front 5 rfl ?_;refine At.front 4 rfl ?_;refine At.cH ?_;refine re ?_;exact rs (by rw[(show(sy (⟨bz,op,call,lt,none,ov,an⟩:Th) q r).df z (.bH j lock)=(Sy.bq (sy (⟨bz,op,call,lt,none,ov,an⟩:Th) q r) ((sy (⟨bz,op,call,lt,none,ov,an⟩:Th) q r).bI j z lock).2.2).go (.swap j.main.state (-1) ((sy (⟨bz,op,call,lt,none,ov,an⟩:Th) q r).bI j z lock).1 (.bH j ((sy (⟨bz,op,call,lt,none,ov,an⟩:Th) q r).bI j z lock).1))from Bg h1),<-hr2];exact⟨q,r2,nv,s,Mo,_,_,[jp],rfl,rfl,hO,hA2,⟨ja,jc,Ml,rfl,hL⟩,rfl,Ix.az q,hs⟩)
end
theorem Pz:ah prog 281:=ah.mk' func281 rfl rfl
theorem La:ah prog 285:=ah.mk' func285 rfl rfl
theorem PA:ah prog 289:=ah.mk' func289 rfl rfl
theorem PB:ah prog 290:=ah.mk' func290 rfl rfl
def Jz (A:Ar) (z:Int):KV->Prop
 | .down _ _ k=>MD k
 | .bh j _ _=>j.aU.length<1000000
 | .bH j _=>j.aU.length<1000000
 | .leaf j _ _ k=>z≠0->∀lo hi qt w,k= .whole lo hi qt w->nH A z
 | .res _ k=>∀lo hi qt w,k= .whole lo hi qt w->nH A z
 |_=>True
section
variable (tb xb ba:Nat) (bz:Bool) (op:bA) (call:Int) (lt ov:Bool) (an:An) (s:Sl Pr) (hs:s.l=an.l) (q:Ix) (Mo:aO) (hO:bR 3 1 (q.ord.map aM) q.oa q.oc Mo) (hol:q.ord.length<1000000) (r:cX) (M:aO) (hA:aR ba r M)
include tb xb ba bz op call lt ov an s hs q Mo hO hol r M hA
theorem rS (z:Int) {k:KV} {l:Ax} {v:Value} {H:Hp} {Mj:aO} (hz:Jz r.p z k) (hr:(ak r.rows).holds H) (hps:(aC s).holds H) (h:(iu tb k l v).holds H) (hJ:L9 k l Mj):
  eI v [.int .i64 z] H [aE tb xb (⟨bz,op,call,lt,none,ov,an⟩:Th) .nilFunc s,ao xb ba q,Mo,M,Mj] (aX tb xb ba q ((sy (⟨bz,op,call,lt,none,ov,an⟩:Th) q r).df z k)):=by
 match k,l,h,hJ with
 | .down f key k,fb::l,h,hJ=>
  obtain⟨x,rfl,h1,h2,h3,h4,_⟩:=h;obtain⟨M2,rfl,hJ2⟩:=hJ;exact .of (aN.flat (by simp) (Jw tb xb ba bz op call lt ov an s hs q Mo hO hol r M hA fb.1 x.1.1 x.1.2.1 x.1.2.2 z f key k l x.2 M2 hJ2 hz)) rfl Ps ⟨hr,hps,h1,h2,h3,h4,trivial⟩
 | .cd f key g,[],h,hJ=>
  obtain⟨x,rfl,h1,h2,h3,h4,h5,h6,_⟩:=h
  cases hJ
  exact .of (aN.fI (GP tb xb ba bz op call lt ov an s hs q Mo hO hol r M hA x.1.1 x.1.2.1 x.1.2.2.1 x.1.2.2.2 z f key g x.2.1 x.2.2)) rfl Po ⟨hr,hps,h1,h2,h3,h4,h5,h6,trivial⟩
 | .cB f key g,[],h,hJ=>
  obtain⟨x,rfl,h1,h2,h3,h4,h5,_⟩:=h
  cases hJ
  exact .of (aN.fI (GQ tb xb ba bz op call lt ov an s hs q Mo hO hol r M hA x.1.1 x.1.2.1 x.1.2.2 z f key g x.2.1 x.2.2)) rfl Pp ⟨hr,hps,h1,h2,h3,h4,h5,trivial⟩
 | .dm b o,l,h,hJ=>
  obtain⟨x,rfl,h1,h2,h3,_⟩:=h;exact .of (Js tb xb ba bz op call lt ov an s hs q Mo hO hol r M hA x.1.1 x.1.2 z b o l x.2 Mj hJ) rfl Ph ⟨hr,hps,h1,h2,h3,trivial⟩
 | .cN b o,l,h,hJ=>
  obtain⟨x,rfl,h1,h2,h3,_⟩:=h;exact .of (Jt tb xb ba bz op call lt ov an s hs q Mo hO hol r M hA x.1.1 x.1.2 z b o l x.2 Mj hJ) rfl Pj ⟨hr,hps,h1,h2,h3,trivial⟩
 | .cU b o,l,h,hJ=>
  obtain⟨x,rfl,h1,h2,h3,h4,_⟩:=h;exact .of (Ju tb xb ba bz op call lt ov an s hs q Mo hO hol r M hA x.1.1 x.1.2.1 x.1.2.2 z b o l x.2 Mj hJ) rfl Pm ⟨hr,hps,h1,h2,h3,h4,trivial⟩
 | .cE m u,l,h,hJ=>
  obtain⟨x,rfl,h1,h2,h3,h4,_⟩:=h;exact .of (Jv tb xb ba bz op call lt ov an s hs q Mo hO hol r M hA x.1.1 x.1.2.1 x.1.2.2 z m u l x.2 Mj hJ) rfl Pq ⟨hr,hps,h1,h2,h3,h4,trivial⟩
 | .mf right j,[jp],h,hJ=>
  obtain⟨x,rfl,h1,h2,h3,h4,_⟩:=h;obtain⟨ja,jc,Ml,rfl,hL⟩:=hJ;exact .of (aN.flat (by simp) (ME tb xb ba bz op call lt ov an s hs q Mo hO hol r M hA jp j ja jc Ml hL x.1.1 x.1.2.1 x.1.2.2 z right x.2)) rfl Pu ⟨hr,hps,h1,h2,h3,h4,trivial⟩
 | .bh j up cell,[jp],h,hJ=>
  obtain⟨x,rfl,h1,h2,h3,h4,h5,_⟩:=h;obtain⟨ja,jc,Ml,rfl,hL⟩:=hJ;exact .of (aN.flat (by simp) (GW tb xb ba bz op call lt ov an s hs q Mo hO hol r M hA jp j ja jc Ml hL hz x.1 x.2.1 x.2.2.1 x.2.2.2 z up cell)) rfl Px ⟨hr,hps,h1,h2,h3,h4,h5,trivial⟩
 | .bH j lock,[jp],h,hJ=>
  obtain⟨x,rfl,h1,h2,h3,h4,_⟩:=h;obtain⟨ja,jc,Ml,rfl,hL⟩:=hJ;exact .of (aN.flat (by simp) (GX tb xb ba bz op call lt ov an s hs q Mo hO hol r M hA jp j ja jc Ml hL hz x.1 x.2.1 x.2.2 z lock)) rfl Py ⟨hr,hps,h1,h2,h3,h4,trivial⟩
 | .leaf j key f k,a::l,h,hJ=>
  obtain⟨x,rfl,h1,h2,h3,h4,h5,h6,h7,_⟩:=h;obtain⟨M1,M2,rfl,⟨ja,jc,Mb,rfl,hB⟩,hJ2⟩:=hJ;exact .of (aN.flat (by simp) (Jx tb xb ba bz op call lt ov an s hs q Mo hO hol r M hA a j ja jc Mb hB x.1.1 x.1.2.1 x.1.2.2.1 x.1.2.2.2.1 x.1.2.2.2.2 z key f k l x.2.1 x.2.2 M2 hJ2 hz)) rfl Pt ⟨hr,hps,h1,h2,h3,h4,h5,h6,h7,trivial⟩
 | .res j k,a::l,h,hJ=>exact oK tb xb ba bz op call lt ov an s hs q Mo hO hol r M hA z hz hr hps h hJ
 | .down ..,[],h,_=>exact False.elim h
 | .cd ..,_::_,h,_=>exact False.elim h
 | .cB ..,_::_,h,_=>exact False.elim h
 | .mf ..,[],h,_=>exact False.elim h
 | .mf ..,_::_::_,h,_=>exact False.elim h
 | .bh ..,[],h,_=>exact False.elim h
 | .bh ..,_::_::_,h,_=>exact False.elim h
 | .bH ..,[],h,_=>exact False.elim h
 | .bH ..,_::_::_,h,_=>exact False.elim h
 | .leaf ..,[],h,_=>exact False.elim h
 | .res ..,[],h,_=>exact False.elim h
theorem JA (jp:Nat×Value) (j:Jo) (ja:Option Addr) (jc:Nat) (Ml:aO) (hL:bR 3 1 (j.aU.map aM) ja jc Ml) (p1 p2:Nat):aN prog 281 [.pointer (some ⟨p1,0,none⟩),.pointer (some ⟨p2,0,none⟩)] [ak r.rows,aC s,eY tb p1,aW p2 #[ptr jp.1],eS tb j.cR jp.2] [aE tb xb (⟨bz,op,call,lt,none,ov,an⟩:Th) .nilFunc s,ao xb ba q,Mo,M,dH jp.1 j jp.2 ja jc,Ml] (aX tb xb ba q ((sy (⟨bz,op,call,lt,none,ov,an⟩:Th) q r).bh j q.root 0)):=by
 refine cb fun X H₀ L₀=>?_;refine dw 9 [] r_ ?_;refine ca (uS tb xb ba bz op call lt ov an s hs q Mo hO hol r M hA jp j ja jc Ml hL q.root 0) ?_;rintro _ _ _ ⟨q9,r9,nv9,sl9,No9,Na9,Nj9,l9,rfl,rfl,hE⟩;refine re ?_;exact rs ⟨q9,r9,nv9,sl9,No9,Na9,Nj9,l9,rfl,rfl,hE⟩
theorem JB (jp:Nat×Value) (j:Jo) (ja:Option Addr) (jc:Nat) (Ml:aO) (hL:bR 3 1 (j.aU.map aM) ja jc Ml) (p1 p2 p3:Nat) (lock:Int):aN prog 289 [.pointer (some ⟨p1,0,none⟩),.pointer (some ⟨p2,0,none⟩),.pointer (some ⟨p3,0,none⟩)] [ak r.rows,aC s,eY tb p1,aW p2 #[ptr jp.1],aW p3 (cI lock),eS tb j.cR jp.2] [aE tb xb (⟨bz,op,call,lt,none,ov,an⟩:Th) .nilFunc s,ao xb ba q,Mo,M,dH jp.1 j jp.2 ja jc,Ml] (aX tb xb ba q ((sy (⟨bz,op,call,lt,none,ov,an⟩:Th) q r).bH j lock)):=by
 refine cb fun X H₀ L₀=>?_;refine ca (zQ tb xb ba bz op call lt ov an s hs q Mo hO hol r M hA jp j ja jc Ml hL lock) ?_;rintro _ _ _ ⟨q9,r9,nv9,sl9,No9,Na9,Nj9,l9,rfl,rfl,hE⟩;refine re ?_;exact rs ⟨q9,r9,nv9,sl9,No9,Na9,Nj9,l9,rfl,rfl,hE⟩
end
def runK (s:Sy) (j:Jo):Option Int->Sy
 |none=>s.bh j s.root 0
 |some lock=>s.bH j lock
section
variable (tb xb ba:Nat) (bz:Bool) (op:bA) (call:Int) (lt ov:Bool) (an:An) (s:Sl Pr) (hs:s.l=an.l) (q:Ix) (Mo:aO) (hO:bR 3 1 (q.ord.map aM) q.oa q.oc Mo) (hol:q.ord.length<1000000) (r:cX) (M:aO) (hA:aR ba r M) (jp:Nat×Value) (j:Jo) (ja:Option Addr) (jc:Nat) (Ml:aO) (hL:bR 3 1 (j.aU.map aM) ja jc Ml)
include tb xb ba bz op call lt ov an s hs q Mo hO hol r M hA jp j ja jc Ml hL
theorem Lb {lk:Option Int} {v:Value} {H:Hp} (hr:(ak r.rows).holds H) (hps:(aC s).holds H) (h:(sL tb lk jp.1 v).holds H) (ha:(eS tb j.cR jp.2).holds H):
  eI v [] H [aE tb xb (⟨bz,op,call,lt,none,ov,an⟩:Th) .nilFunc s,ao xb ba q,Mo,M,dH jp.1 j jp.2 ja jc,Ml] (aX tb xb ba q (runK (sy (⟨bz,op,call,lt,none,ov,an⟩:Th) q r) j lk)):=by
 cases lk with
 |none=>
  obtain⟨x,rfl,h1,h2,_⟩:=h;exact .of (JA tb xb ba bz op call lt ov an s hs q Mo hO hol r M hA jp j ja jc Ml hL x.1 x.2) rfl Pz ⟨hr,hps,h1,h2,ha,trivial⟩
 |some lock=>
  obtain⟨x,rfl,h1,h2,h3,_⟩:=h;exact .of (JB tb xb ba bz op call lt ov an s hs q Mo hO hol r M hA jp j ja jc Ml hL x.1 x.2.1 x.2.2 lock) rfl PA ⟨hr,hps,h1,h2,h3,ha,trivial⟩
theorem GY (hll:j.aU.length<1000000) (p1 p2 p3 p4:Nat) (kk:Bool) (c:Int) (kv:Value):aN prog 285 [.bool kk,.pointer (some ⟨p1,0,none⟩),.pointer (some ⟨p2,0,none⟩),.pointer (some ⟨p3,0,none⟩),.pointer (some ⟨p4,0,none⟩)] [ak r.rows,aC s,eY tb p1,aW p2 #[ptr jp.1],aW p3 (cI c),aW p4 #[kv],sL tb none jp.1 kv,eS tb j.cR jp.2] [aE tb xb (⟨bz,op,call,lt,none,ov,an⟩:Th) .nilFunc s,ao xb ba q,Mo,M,dH jp.1 j jp.2 ja jc,Ml] (aX tb xb ba q ((sy (⟨bz,op,call,lt,none,ov,an⟩:Th) q r).cj kk (.bS j c))):=by
 refine cb fun X H₀ L₀=>?_;refine cv (fun h1=>?_) (fun h1=>?_);refine ca (lK tb xb ba bz op call lt ov an s hs q Mo hO hol r M hA jp j ja jc Ml hL hll) ?_;rintro _ _ _ ⟨q9,r9,nv9,sl9,No9,Na9,Nj9,l9,rfl,rfl,hE⟩;refine re ?_;exact rs (by rw[show(sy (⟨bz,op,call,lt,none,ov,an⟩:Th) q r).cj kk (.bS j c)=(sy (⟨bz,op,call,lt,none,ov,an⟩:Th) q r).bW j from if_pos (bM h1)];exact⟨q9,r9,nv9,sl9,No9,Na9,Nj9,l9,rfl,rfl,hE⟩);refine dw 8 [6,7] (k_ (k_ (k_ (k_ (k_ (d_ r_)))))) ?_;refine mO fun b1=>?_;refine yI rfl (dk rfl underlying26 t3 rfl rfl hL (by simp) (i:=6) rfl rfl (news:=[aM c]) (by simp[aM]) (fc.loc (i:=0) rfl (m:=1) rfl) rfl rfl rfl (by omega) (by unfold maxLen;omega)) ?_;rintro _ _ _ ⟨ja2,jc2,Ml2,rfl,ow,rfl,rfl⟩;refine sv 18 (.slice ja2 (j.aU++[c]).length jc2) ?_ (e:=by simp);refine mc ?_;have hL2:bR 3 1 ((j.aU++[c]).map aM) ja2 jc2 Ml2:=by simpa using ow
 refine At.front 5 rfl ?_;refine At.piece (B:=dH jp.1 ({j with aU:=j.aU++[c]}:Jo) jp.2 ja2 jc2) rfl ?_;refine te ?_;exact lU (by rw[show(sy (⟨bz,op,call,lt,none,ov,an⟩:Th) q r).cj kk (.bS j c)=runK (sy (⟨bz,op,call,lt,none,ov,an⟩:Th) q r) ({j with aU:=j.aU++[c]}:Jo) none from if_neg (by rw[bV h1];simp)]<;>rfl) fun _ h=>Lb tb xb ba bz op call lt ov an s hs q Mo hO hol r M hA jp ({j with aU:=j.aU++[c]}:Jo) ja2 jc2 Ml2 hL2 (de h) (de h) (de h) (de h)
theorem GZ (hll:j.aU.length<1000000) (p1 p2 p3 p4:Nat) (kk:Bool) (c:Int) (lock:Int) (kv:Value):aN prog 285 [.bool kk,.pointer (some ⟨p1,0,none⟩),.pointer (some ⟨p2,0,none⟩),.pointer (some ⟨p3,0,none⟩),.pointer (some ⟨p4,0,none⟩)] [ak r.rows,aC s,eY tb p1,aW p2 #[ptr jp.1],aW p3 (cI c),aW p4 #[kv],sL tb (some lock) jp.1 kv,eS tb j.cR jp.2] [aE tb xb (⟨bz,op,call,lt,none,ov,an⟩:Th) .nilFunc s,ao xb ba q,Mo,M,dH jp.1 j jp.2 ja jc,Ml] (aX tb xb ba q ((sy (⟨bz,op,call,lt,none,ov,an⟩:Th) q r).cj kk (.bO j c lock))):=by
 refine cb fun X H₀ L₀=>?_;refine cv (fun h1=>?_) (fun h1=>?_);refine ca (lK tb xb ba bz op call lt ov an s hs q Mo hO hol r M hA jp j ja jc Ml hL hll) ?_;rintro _ _ _ ⟨q9,r9,nv9,sl9,No9,Na9,Nj9,l9,rfl,rfl,hE⟩;refine re ?_;exact rs (by rw[show(sy (⟨bz,op,call,lt,none,ov,an⟩:Th) q r).cj kk (.bO j c lock)=(sy (⟨bz,op,call,lt,none,ov,an⟩:Th) q r).bW j from if_pos (bM h1)];exact⟨q9,r9,nv9,sl9,No9,Na9,Nj9,l9,rfl,rfl,hE⟩);refine dw 8 [6,7] (k_ (k_ (k_ (k_ (k_ (d_ r_)))))) ?_;refine mO fun b1=>?_;refine yI rfl (dk rfl underlying26 t3 rfl rfl hL (by simp) (i:=6) rfl rfl (news:=[aM c]) (by simp[aM]) (fc.loc (i:=0) rfl (m:=1) rfl) rfl rfl rfl (by omega) (by unfold maxLen;omega)) ?_;rintro _ _ _ ⟨ja2,jc2,Ml2,rfl,ow,rfl,rfl⟩;refine sv 18 (.slice ja2 (j.aU++[c]).length jc2) ?_ (e:=by simp);refine mc ?_;have hL2:bR 3 1 ((j.aU++[c]).map aM) ja2 jc2 Ml2:=by simpa using ow
 refine At.front 5 rfl ?_;refine At.piece (B:=dH jp.1 ({j with aU:=j.aU++[c]}:Jo) jp.2 ja2 jc2) rfl ?_;refine te ?_;exact lU (by rw[show(sy (⟨bz,op,call,lt,none,ov,an⟩:Th) q r).cj kk (.bO j c lock)=runK (sy (⟨bz,op,call,lt,none,ov,an⟩:Th) q r) ({j with aU:=j.aU++[c]}:Jo) (some lock)from if_neg (by rw[bV h1];simp)]<;>rfl) fun _ h=>Lb tb xb ba bz op call lt ov an s hs q Mo hO hol r M hA jp ({j with aU:=j.aU++[c]}:Jo) ja2 jc2 Ml2 hL2 (de h) (de h) (de h) (de h)
theorem G0 (hll:j.aU.length<1000000) (p1 p2 p3:Nat) (kk:Bool) (n0:Nat) (hn:n0<=j.aU.length):aN prog 290 [.bool kk,.pointer (some ⟨p1,0,none⟩),.pointer (some ⟨p2,0,none⟩),.pointer (some ⟨p3,0,none⟩)] [ak r.rows,aC s,aW p1 #[ptr jp.1],aW p2 (cI (n0:Int)),eY tb p3,eS tb j.cR jp.2] [aE tb xb (⟨bz,op,call,lt,none,ov,an⟩:Th) .nilFunc s,ao xb ba q,Mo,M,dH jp.1 j jp.2 ja jc,Ml] (aX tb xb ba q ((sy (⟨bz,op,call,lt,none,ov,an⟩:Th) q r).cj kk (.bW j (n0:Int)))):=by
 refine cb fun X H₀ L₀=>?_;refine mc ?_;have hcap:=w9 hL;rw[List.length_map]at hcap;refine dw 7 [] r_ ?_;refine mc ?_;refine aQ.quiet rfl (dj underlying26 t3 rfl rfl (h:=n0) rfl (by omega)) rfl (Calm.then bG.calm) ?_;refine sv 11 (.slice ja (j.aU.take n0).length jc) ?_ (e:=by rw[tW hL,List.length_take,Nat.min_eq_left hn]);refine mc ?_;have hL2:bR 3 1 ((j.aU.take n0).map aM) ja jc Ml:=by rw[List.map_take];exact hL.take n0
 refine At.front 4 rfl ?_;refine At.piece (B:=dH jp.1 ({j with aU:=j.aU.take n0}:Jo) jp.2 ja jc) rfl ?_;refine ca (lK tb xb ba bz op call lt ov an s hs q Mo hO hol r M hA jp ({j with aU:=j.aU.take n0}:Jo) ja jc Ml hL2 (by simp only[List.length_take];omega)) ?_;rintro _ _ _ ⟨q9,r9,nv9,sl9,No9,Na9,Nj9,l9,rfl,rfl,hE⟩;refine re ?_;exact rs (by rw[show(sy (⟨bz,op,call,lt,none,ov,an⟩:Th) q r).cj kk (.bW j (n0:Int))=(sy (⟨bz,op,call,lt,none,ov,an⟩:Th) q r).bW ({j with aU:=j.aU.take n0}:Jo)from rfl];exact⟨q9,r9,nv9,sl9,No9,Na9,Nj9,l9,rfl,rfl,hE⟩)
end
theorem PC:ah prog 263:=ah.mk' func263 rfl rfl
theorem PD:ah prog 272:=ah.mk' func272 rfl rfl
theorem PE:ah prog 275:=ah.mk' func275 rfl rfl
theorem PF:ah prog 279:=ah.mk' func279 rfl rfl
theorem PG:ah prog 293:=ah.mk' func293 rfl rfl
section
variable (tb xb ba:Nat) (bz:Bool) (op:bA) (call:Int) (lt ov:Bool) (an:An) (s:Sl Pr) (hs:s.l=an.l) (q:Ix) (Mo:aO) (hO:bR 3 1 (q.ord.map aM) q.oa q.oc Mo) (hol:q.ord.length<1000000) (r:cX) (M:aO) (hA:aR ba r M)
include tb xb ba bz op call lt ov an s hs q Mo hO hol r M hA
theorem G1 (a:Nat×Value) (j:Jb) (ja:Option Addr) (jc:Nat) (Mb:aO) (hB:bR 3 1 (j.au.map aM) ja jc Mb) (hbl:j.au.length<1000000) (fb p1 p2 p3 p4 p5:Nat) (kk:Bool) (id key:Int) (f:Fo) (k:KR) (l:Ax) (gv rv:Value) (Mj:aO) (hJ:sM k l Mj):aN prog 263 [.bool kk,.pointer (some ⟨p1,0,none⟩),.pointer (some ⟨p2,0,none⟩),.pointer (some ⟨p3,0,none⟩),.pointer (some ⟨fb,0,none⟩),.pointer (some ⟨p4,0,none⟩),.pointer (some ⟨p5,0,none⟩)] [ak r.rows,aC s,aW p1 #[gv],eY tb p2,aW p3 (cI id),aW p4 #[ptr a.1],aW p5 #[rv],qg tb a.1 key (fT tb k a.1 l) gv,fT tb k a.1 l rv] [aE tb xb (⟨bz,op,call,lt,none,ov,an⟩:Th) .nilFunc s,ao xb ba q,Mo,M,nB fb f,jg a.1 j ja j.au.length jc,Mb,Mj] (aX tb xb ba q ((sy (⟨bz,op,call,lt,none,ov,an⟩:Th) q r).cj kk (.marks j key f id k))):=by
 refine cb fun X H₀ L₀=>?_;refine cv (fun h1=>?_) (fun h1=>?_);refine mc ?_;refine At.front 6 rfl ?_;refine At.front 6 rfl ?_;refine At.cH ?_;refine At.front 6 rfl ?_;refine At.front 1 rfl ?_;refine At.cH ?_;refine At.aJ (qh tb (.leaf j key k) (a::l) gv) (fun _ h=>h.2.2.2.2.2.2.2.2.1) ?_;refine mc ?_;refine At.front 0 rfl ?_;refine At.front 4 rfl ?_;refine At.front 4 rfl ?_;refine At.front 4 rfl ?_;refine At.front 4 rfl ?_;refine At.oK rfl rfl (fun _ h=>uK tb xb ba bz op call lt ov an s hs q Mo hO hol r M hA h.2.2.1 h.2.2.2.1 h.1 ⟨_,_,rfl,⟨ja,jc,Mb,rfl,hB⟩,hJ⟩) (List.Perm.refl _) rfl ?_;rintro _ _ _ ⟨q9,r9,nv9,sl9,No9,Na9,Nj9,l9,rfl,rfl,hE⟩;refine At.nil ?_;refine At.then ?_;refine At.ret ?_;refine At.dq ?_;refine At.front 4 rfl ?_;refine At.front 4 rfl ?_;refine At.front 4 rfl ?_;refine At.front 4 rfl ?_;refine At.front 4 rfl ?_;exact At.results (Γr:=[_,_,_]) (M:=[_,_,_,_,_]) rfl aT.nil (ix 4 rfl) (fun _ h=>⟨h.1,h.2.1,h.2.2.1,trivial⟩) (k_ (k_ (k_ (k_ (k_ (d_ r_)))))) ((by rw[show(sy (⟨bz,op,call,lt,none,ov,an⟩:Th) q r).cj kk (.marks j key f id k)=(sy (⟨bz,op,call,lt,none,ov,an⟩:Th) q r).mJ (.leaf j key k)from if_pos (bM h1)];exact⟨q9,r9,nv9,sl9,No9,Na9,Nj9,l9,rfl,rfl,hE⟩));refine dw 5 [] r_ ?_;refine ca (ea xb ba q r _ hA _) ?_;refine mc ?_;refine At.front 4 rfl ?_;refine At.piece (B:=nB fb ({f with b:=r.p.base id}:Fo)) rfl ?_;refine mc ?_;refine At.fZ 21 (({f with b:=r.p.base id}:Fo).val) rfl (rfl) ?_;refine ca (wx tb xb ba bz op call lt ov an s hs q Mo hO hol r M hA a j ja jc Mb hB hbl ({f with b:=r.p.base id}:Fo) k l _ Mj hJ) ?_;rintro _ _ _ ⟨q9,r9,nv9,sl9,No9,Na9,Nj9,l9,rfl,rfl,hE⟩;refine re ?_;exact rs (by rw[show(sy (⟨bz,op,call,lt,none,ov,an⟩:Th) q r).cj kk (.marks j key f id k)=(sy (⟨bz,op,call,lt,none,ov,an⟩:Th) q r).marked j ({f with b:=r.p.base id}:Fo) k from if_neg (by rw[bV h1];simp)];exact⟨q9,r9,nv9,sl9,No9,Na9,Nj9,l9,rfl,rfl,hE⟩)
theorem JC (hol2:q.ord.length+1<1000000) (a:Nat×Value) (j:Jb) (ja:Option Addr) (jn jc:Nat) (p1 p2 p3 p4:Nat) (kk:Bool) (res:Int) (k:KR) (l:Ax) (rv:Value) (Mj:aO) (hJ:sM k l Mj) (hz:∀lo hi qt w,k= .whole lo hi qt w->nH r.p res):aN prog 275 [.bool kk,.pointer (some ⟨p1,0,none⟩),.pointer (some ⟨p2,0,none⟩),.pointer (some ⟨p3,0,none⟩),.pointer (some ⟨p4,0,none⟩)] [ak r.rows,aC s,eY tb p1,aW p2 #[ptr a.1],aW p3 #[rv],aW p4 (cI res),fT tb k a.1 l rv] [aE tb xb (⟨bz,op,call,lt,none,ov,an⟩:Th) .nilFunc s,ao xb ba q,Mo,M,jg a.1 j ja jn jc,Mj] (aX tb xb ba q ((sy (⟨bz,op,call,lt,none,ov,an⟩:Th) q r).cj kk (.results j res k))):=by
 refine cb fun X H₀ L₀=>?_;refine cv (fun h1=>?_) (fun h1=>?_);refine mc ?_;refine At.aJ (iu tb (.res j k) (a::l) rv) (fun _ h=>h.2.2.2.2.2.2.2.1) ?_;refine dw 7 [] r_ ?_;refine ca (gn tb xb _ _ _ (j.store.result) (.res j k) (a::l) _) ?_;rintro _ _ _ ⟨nv,rfl,rfl⟩;refine mc ?_;refine At.front 5 rfl ?_;refine At.front 5 rfl ?_;refine At.cH ?_;refine re ?_;exact rs (by rw[show(sy (⟨bz,op,call,lt,none,ov,an⟩:Th) q r).cj kk (.results j res k)=(sy (⟨bz,op,call,lt,none,ov,an⟩:Th) q r).go (.load j.store.result (.res j k))from if_pos (bM h1)];exact⟨q,r,nv,s,Mo,_,_,(a::l),rfl,rfl,hO,hA,⟨_,_,rfl,⟨ja,jn,jc,rfl⟩,hJ⟩,rfl,Ix.az q,hs⟩);refine fi (fun h2=>?_) (fun h2=>?_);refine dw 9 [] r_ ?_;refine ca (xI xb ba q Mo hO hol j.store.call) ?_;rintro _ _ _ ⟨oa,ok,No,rfl,rfl,hO2⟩;refine mc ?_;refine At.front 5 rfl ?_;refine At.front 5 rfl ?_;refine At.cH ?_;refine te ?_;exact lU (by rw[show(sy (⟨bz,op,call,lt,none,ov,an⟩:Th) q r).cj kk (.results j res k)=(sy (⟨bz,op,call,lt,none,ov,an⟩:Th) ({q with ord:=q.ord++[j.store.call],oa:=oa,oc:=ok}) r).iV j res k from(if_neg (by rw[bV h1];simp)).trans (if_pos h2)]<;>rfl) fun _ h=>oK tb xb ba bz op call lt ov an s hs ({q with ord:=q.ord++[j.store.call],oa:=oa,oc:=ok}) No hO2 (by simp only[List.length_append,List.length_singleton];exact hol2) r M hA res hz (de h) (de h) (de h) ⟨_,_,rfl,⟨ja,jn,jc,rfl⟩,hJ⟩;refine mc ?_;refine At.front 5 rfl ?_;refine At.front 5 rfl ?_;refine At.cH ?_;refine te ?_;exact lU (by rw[show(sy (⟨bz,op,call,lt,none,ov,an⟩:Th) q r).cj kk (.results j res k)=(sy (⟨bz,op,call,lt,none,ov,an⟩:Th) q r).iV j res k from(if_neg (by rw[bV h1];simp)).trans (if_neg h2)]<;>rfl) fun _ h=>oK tb xb ba bz op call lt ov an s hs q Mo hO hol r M hA res hz (de h) (de h) (de h) ⟨_,_,rfl,⟨ja,jn,jc,rfl⟩,hJ⟩
theorem G2 (jp:Nat×Value) (j:Jo) (ja:Option Addr) (jc:Nat) (Ml:aO) (hL:bR 3 1 (j.aU.map aM) ja jc Ml) (p1 p2 p3 p4:Nat) (kk:Bool) (n:Bs) (id:Int):aN prog 272 [.bool kk,.pointer (some ⟨p1,0,none⟩),.pointer (some ⟨p2,0,none⟩),.pointer (some ⟨p3,0,none⟩),.pointer (some ⟨p4,0,none⟩)] [ak r.rows,aC s,aW p1 #[ptr jp.1],eY tb p2,aW p3 (cI id),aW p4 n.cells,eS tb j.cR jp.2] [aE tb xb (⟨bz,op,call,lt,none,ov,an⟩:Th) .nilFunc s,ao xb ba q,Mo,M,dH jp.1 j jp.2 ja jc,Ml] (aX tb xb ba q ((sy (⟨bz,op,call,lt,none,ov,an⟩:Th) q r).cj kk (.aL j n id))):=by
 refine cb fun X H₀ L₀=>?_;refine cv (fun h1=>?_) (fun h1=>?_);refine te ?_;exact lU (by rw[show(sy (⟨bz,op,call,lt,none,ov,an⟩:Th) q r).cj kk (.aL j n id)=(sy (⟨bz,op,call,lt,none,ov,an⟩:Th) q r).ret j.cR from if_pos (bM h1)]<;>rfl) fun _ h=>gA tb xb ba bz op call lt ov an s hs q Mo hO hol r _ hA (de h) (de h) (de h);refine dw 7 [6] (k_ (d_ (k_ (d_ (k_ (k_ r_)))))) ?_;refine oA (oe xb ba q r _ hA _) ?_;refine mc ?_;refine At.front 4 rfl ?_;refine At.piece (B:=dH jp.1 ({j with main:=r.p.main id}:Jo) jp.2 ja jc) rfl ?_;refine ca (vC tb xb ba bz op call lt ov an s hs q Mo hO hol r M hA jp ({j with main:=r.p.main id}:Jo) ja jc Ml hL n) ?_;rintro _ _ _ ⟨q9,r9,nv9,sl9,No9,Na9,Nj9,l9,rfl,rfl,hE⟩;refine re ?_;exact rs (by rw[show(sy (⟨bz,op,call,lt,none,ov,an⟩:Th) q r).cj kk (.aL j n id)=(sy (⟨bz,op,call,lt,none,ov,an⟩:Th) q r).aG ({j with main:=r.p.main id}:Jo) n from if_neg (by rw[bV h1];simp)];exact⟨q9,r9,nv9,sl9,No9,Na9,Nj9,l9,rfl,rfl,hE⟩)
theorem G3 (jp:Nat×Value) (j:Jo) (ja:Option Addr) (jc:Nat) (Ml:aO) (hL:bR 3 1 (j.aU.map aM) ja jc Ml) (p1 p2 p3:Nat) (kk:Bool) (id:Int):aN prog 279 [.bool kk,.pointer (some ⟨p1,0,none⟩),.pointer (some ⟨p2,0,none⟩),.pointer (some ⟨p3,0,none⟩)] [ak r.rows,aC s,eY tb p1,aW p2 #[ptr jp.1],aW p3 (cI id),eS tb j.cR jp.2] [aE tb xb (⟨bz,op,call,lt,none,ov,an⟩:Th) .nilFunc s,ao xb ba q,Mo,M,dH jp.1 j jp.2 ja jc,Ml] (aX tb xb ba q ((sy (⟨bz,op,call,lt,none,ov,an⟩:Th) q r).cj kk (.aG j id))):=by
 refine cb fun X H₀ L₀=>?_;refine cv (fun h1=>?_) (fun h1=>?_);refine mc ?_;refine At.aJ (ju tb (.ret j.cR) [] jp.2) (fun _ h=>h.2.2.2.2.2.2.1) ?_;refine At.ck ?_;refine dw 9 [] r_ ?_;refine ca (jE tb xb ba bz op call lt ov an s hs q Mo hO hol r M hA j.main (.ret j.cR) [] _ [] rfl) ?_;rintro _ _ _ ⟨q9,r9,nv9,sl9,No9,Na9,Nj9,l9,rfl,rfl,hE⟩;refine re ?_;exact rs (by rw[show(sy (⟨bz,op,call,lt,none,ov,an⟩:Th) q r).cj kk (.aG j id)=(sy (⟨bz,op,call,lt,none,ov,an⟩:Th) q r).cK j.main (.ret j.cR)from if_pos (bM h1)];exact⟨q9,r9,nv9,sl9,No9,Na9,Nj9,l9,rfl,rfl,hE⟩)
 ·skip
  refine dw 7 [6] (k_ (d_ (k_ (d_ (k_ (k_ r_)))))) ?_;refine oA (ea xb ba q r _ hA _) ?_;refine mc ?_;refine At.front 4 rfl ?_;refine At.piece (B:=dH jp.1 ({j with ai:=r.p.base id}:Jo) jp.2 ja jc) rfl ?_;refine At.aJ (sL tb none jp.1 (dE 281 [p1,p2])) (fun _ h=>bK (p1,p2) rfl ⟨h.2.2.2.1,h.2.2.2.2.1,trivial⟩) ?_;refine dw 8 [] r_ ?_;refine ca (DO tb xb ba bz op call lt ov an s hs q Mo hO hol r M hA jp ({j with ai:=r.p.base id}:Jo) ja jc Ml hL j.up.join _) ?_;rintro _ _ _ ⟨q9,r9,nv9,sl9,No9,Na9,Nj9,l9,rfl,rfl,hE⟩;refine re ?_;exact rs (by rw[show(sy (⟨bz,op,call,lt,none,ov,an⟩:Th) q r).cj kk (.aG j id)=(sy (⟨bz,op,call,lt,none,ov,an⟩:Th) q r).go (.swap j.up.join 0 j.main.b.id (.bS ({j with ai:=r.p.base id}:Jo) j.up.join))from if_neg (by rw[bV h1];simp)];exact⟨q9,r9,nv9,sl9,No9,Na9,Nj9,l9,rfl,rfl,hE⟩)
theorem Bh (jp:Nat×Value) (j:Jo) (ja:Option Addr) (jc:Nat) (Ml:aO) (hL:bR 3 1 (j.aU.map aM) ja jc Ml) (hll:j.aU.length<1000000) (p1 p2 p3:Nat) (kk:Bool) (id:Int):aN prog 293 [.bool kk,.pointer (some ⟨p1,0,none⟩),.pointer (some ⟨p2,0,none⟩),.pointer (some ⟨p3,0,none⟩)] [ak r.rows,aC s,eY tb p1,aW p2 #[ptr jp.1],aW p3 (cI id),eS tb j.cR jp.2] [aE tb xb (⟨bz,op,call,lt,none,ov,an⟩:Th) .nilFunc s,ao xb ba q,Mo,M,dH jp.1 j jp.2 ja jc,Ml] (aX tb xb ba q ((sy (⟨bz,op,call,lt,none,ov,an⟩:Th) q r).cj kk (.bH j id))):=by
 refine cb fun X H₀ L₀=>?_;refine cv (fun h1=>?_) (fun h1=>?_);refine ca (lK tb xb ba bz op call lt ov an s hs q Mo hO hol r M hA jp j ja jc Ml hL hll) ?_;rintro _ _ _ ⟨q9,r9,nv9,sl9,No9,Na9,Nj9,l9,rfl,rfl,hE⟩;refine re ?_;exact rs (by rw[show(sy (⟨bz,op,call,lt,none,ov,an⟩:Th) q r).cj kk (.bH j id)=(sy (⟨bz,op,call,lt,none,ov,an⟩:Th) q r).bW j from if_pos (bM h1)];exact⟨q9,r9,nv9,sl9,No9,Na9,Nj9,l9,rfl,rfl,hE⟩);refine mc ?_;refine At.aJ (ju tb (.ret j.cR) [] jp.2) (fun _ h=>h.2.2.2.2.2.2.1) ?_;refine At.ck ?_;refine dv 15 [0,1,2,3,4,5,6,7,8,9,11,12,13,14,110] (k_ (k_ (d_ (k_ (d_ (k_ (k_ r_))))))) ?_;refine oA (sT xb ba q r _ hA _) ?_;refine ca (qu tb xb ba bz op call lt ov an s hs q Mo hO hol r M hA j.main (r.p.aa id) (.ret j.cR) [] _ [] rfl) ?_;rintro _ _ _ ⟨q9,r9,nv9,sl9,No9,Na9,Nj9,l9,rfl,rfl,hE⟩;refine re ?_;exact rs (by rw[show(sy (⟨bz,op,call,lt,none,ov,an⟩:Th) q r).cj kk (.bH j id)=(sy (⟨bz,op,call,lt,none,ov,an⟩:Th) q r).eD j.main (r.p.aa id) (.ret j.cR)from if_neg (by rw[bV h1];simp)];exact⟨q9,r9,nv9,sl9,No9,Na9,Nj9,l9,rfl,rfl,hE⟩)
end
theorem Lc:ah prog 129:=ah.mk' func129 rfl rfl
theorem PH:ah prog 173:=ah.mk' func173 rfl rfl
theorem PI:ah prog 209:=ah.mk' func209 rfl rfl
theorem PJ:ah prog 232:=ah.mk' func232 rfl rfl
theorem PK:ah prog 283:=ah.mk' func283 rfl rfl
def Bi (A:Ar):KB->Prop
 | .marks j _ _ _ _=>j.au.length<1000000
 | .results _ res k=>∀lo hi qt w,k= .whole lo hi qt w->nH A res
 | .bS j _=>j.aU.length<1000000
 | .bO j _ _=>j.aU.length<1000000
 | .bH j _=>j.aU.length<1000000
 | .bW j last=>j.aU.length<1000000/\0<=last/\last<=(j.aU.length:Int)
 |_=>True
section
variable (tb xb ba:Nat) (bz:Bool) (op:bA) (call:Int) (lt ov:Bool) (an:An) (s:Sl Pr) (hs:s.l=an.l) (q:Ix) (Mo:aO) (hO:bR 3 1 (q.ord.map aM) q.oa q.oc Mo) (hol:q.ord.length<1000000) (r:cX) (M:aO) (hA:aR ba r M)
include tb xb ba bz op call lt ov an s hs q Mo hO hol r M hA
theorem yG (hol2:q.ord.length+1<1000000) (kk:Bool) {k:KB} {l:Ax} {v:Value} {H:Hp} {Mj:aO} (hz:Bi r.p k) (hr:(ak r.rows).holds H) (hps:(aC s).holds H) (h:(eZ tb k l v).holds H) (hJ:F0 k l Mj):
  eI v [.bool kk] H [aE tb xb (⟨bz,op,call,lt,none,ov,an⟩:Th) .nilFunc s,ao xb ba q,Mo,M,Mj] (aX tb xb ba q ((sy (⟨bz,op,call,lt,none,ov,an⟩:Th) q r).cj kk k)):=by
 match k,l,h,hJ with
 | .marks j key f id k,fb::a::l,h,hJ=>
  obtain⟨x,rfl,h1,h2,h3,h4,h5,h6,h7,_⟩:=h;obtain⟨M0,rfl,M1,M2,rfl,⟨ja,jc,Mb,rfl,hB⟩,hJ2⟩:=hJ;exact .of (aN.flat (by simp) (G1 tb xb ba bz op call lt ov an s hs q Mo hO hol r M hA a j ja jc Mb hB hz fb.1 x.1.1 x.1.2.1 x.1.2.2.1 x.1.2.2.2.1 x.1.2.2.2.2 kk id key f k l x.2.1 x.2.2 M2 hJ2)) rfl PC ⟨hr,hps,h1,h2,h3,h4,h5,h6,h7,trivial⟩
 | .results j res k,a::l,h,hJ=>
  obtain⟨x,rfl,h1,h2,h3,h4,h5,_⟩:=h;obtain⟨M1,M2,rfl,⟨ja,jn,jc,rfl⟩,hJ2⟩:=hJ;exact .of (aN.flat (by simp) (JC tb xb ba bz op call lt ov an s hs q Mo hO hol r M hA hol2 a j ja jn jc x.1.1 x.1.2.1 x.1.2.2.1 x.1.2.2.2 kk res k l x.2 M2 hJ2 hz)) rfl PE ⟨hr,hps,h1,h2,h3,h4,h5,trivial⟩
 | .update id a,[],h,hJ=>
  obtain⟨x,⟨rfl,hsa⟩,h1,h2,h3,h4,_⟩:=h
  cases hJ
  exact .of (aN.fI (GJ tb xb ba bz op call lt ov an s hs q Mo hO hol r M hA hol2 x.1.1 x.1.2.1 x.1.2.2 kk id a x.2 hsa)) rfl O3 ⟨hr,hps,h1,h2,h3,h4,trivial⟩
 | .split a,[],h,hJ=>
  obtain⟨x,rfl,h1,h2,h3,_⟩:=h
  cases hJ
  exact .of (aN.fI (zM tb xb ba bz op call lt ov an s hs q Mo hO hol r M hA x.1.1 x.1.2 kk a x.2)) rfl O4 ⟨hr,hps,h1,h2,h3,trivial⟩
 | .aL j n id,[jp],h,hJ=>
  obtain⟨x,rfl,h1,h2,h3,h4,h5,_⟩:=h;obtain⟨ja,jc,Ml,rfl,hL⟩:=hJ;exact .of (aN.flat (by simp) (G2 tb xb ba bz op call lt ov an s hs q Mo hO hol r M hA jp j ja jc Ml hL x.1 x.2.1 x.2.2.1 x.2.2.2 kk n id)) rfl PD ⟨hr,hps,h1,h2,h3,h4,h5,trivial⟩
 | .aG j id,[jp],h,hJ=>
  obtain⟨x,rfl,h1,h2,h3,h4,_⟩:=h;obtain⟨ja,jc,Ml,rfl,hL⟩:=hJ;exact .of (aN.flat (by simp) (G3 tb xb ba bz op call lt ov an s hs q Mo hO hol r M hA jp j ja jc Ml hL x.1 x.2.1 x.2.2 kk id)) rfl PF ⟨hr,hps,h1,h2,h3,h4,trivial⟩
 | .bS j c,[jp],h,hJ=>
  obtain⟨x,rfl,h1,h2,h3,h4,h5,h6,_⟩:=h;obtain⟨ja,jc,Ml,rfl,hL⟩:=hJ;exact .of (aN.flat (by simp) (GY tb xb ba bz op call lt ov an s hs q Mo hO hol r M hA jp j ja jc Ml hL hz x.1.1 x.1.2.1 x.1.2.2.1 x.1.2.2.2 kk c x.2)) rfl La ⟨hr,hps,h1,h2,h3,h4,h5,h6,trivial⟩
 | .bO j c lock,[jp],h,hJ=>
  obtain⟨x,rfl,h1,h2,h3,h4,h5,h6,_⟩:=h;obtain⟨ja,jc,Ml,rfl,hL⟩:=hJ;exact .of (aN.flat (by simp) (GZ tb xb ba bz op call lt ov an s hs q Mo hO hol r M hA jp j ja jc Ml hL hz x.1.1 x.1.2.1 x.1.2.2.1 x.1.2.2.2 kk c lock x.2)) rfl La ⟨hr,hps,h1,h2,h3,h4,h5,h6,trivial⟩
 | .bW j last,[jp],h,hJ=>
  obtain⟨x,rfl,h1,h2,h3,h4,_⟩:=h;obtain⟨ja,jc,Ml,rfl,hL⟩:=hJ;obtain⟨z1,z2,z3⟩:=hz;obtain⟨n0,rfl⟩:∃n0:Nat,last=(n0:Int):=⟨last.toNat,by omega⟩;exact .of (aN.flat (by simp) (G0 tb xb ba bz op call lt ov an s hs q Mo hO hol r M hA jp j ja jc Ml hL z1 x.1 x.2.1 x.2.2 kk n0 (by omega))) rfl PB ⟨hr,hps,h1,h2,h3,h4,trivial⟩
 | .cK t,l,h,hJ=>
  obtain⟨x,rfl,h1,h2,_⟩:=h;exact .of (Bb tb xb ba bz op call lt ov an s hs q Mo hO hol r M hA x.1 kk t l x.2 Mj hJ) rfl O5 ⟨hr,hps,h1,h2,trivial⟩
 | .bH j id,[jp],h,hJ=>
  obtain⟨x,rfl,h1,h2,h3,h4,_⟩:=h;obtain⟨ja,jc,Ml,rfl,hL⟩:=hJ;exact .of (aN.flat (by simp) (Bh tb xb ba bz op call lt ov an s hs q Mo hO hol r M hA jp j ja jc Ml hL hz x.1 x.2.1 x.2.2 kk id)) rfl PG ⟨hr,hps,h1,h2,h3,h4,trivial⟩
 | .fQ m p t,l,h,hJ=>
  obtain⟨x,rfl,h1,h2,h3,h4,h5,_⟩:=h;exact .of (Jp tb xb ba bz op call lt ov an s hs q Mo hO hol r M hA x.1.1 x.1.2.1 x.1.2.2.1 x.1.2.2.2 kk m p x.2 t l Mj hJ) rfl O8 ⟨hr,hps,h1,h2,h3,h4,h5,trivial⟩
 | .e8 m p t,l,h,hJ=>
  obtain⟨x,rfl,h1,h2,h3,h4,h5,_⟩:=h;exact .of (Jq tb xb ba bz op call lt ov an s hs q Mo hO hol r M hA x.1.1 x.1.2.1 x.1.2.2.1 x.1.2.2.2 kk m p x.2 t l Mj hJ) rfl O9 ⟨hr,hps,h1,h2,h3,h4,h5,trivial⟩
 | .cZ m p t,l,h,hJ=>exact K9 tb xb ba bz op call lt ov an s hs q Mo hO hol r M hA kk hr hps h hJ
 | .cL t,l,h,hJ=>
  obtain⟨x,rfl,h1,h2,h3,_⟩:=h;exact .of (Jm tb xb ba bz op call lt ov an s hs q Mo hO hol r M hA x.1.1 x.1.2 kk t l x.2 Mj hJ) rfl O7 ⟨hr,hps,h1,h2,h3,trivial⟩
 | .marks ..,[],h,_=>exact False.elim h
 | .marks ..,[_],h,_=>exact False.elim h
 | .results ..,[],h,_=>exact False.elim h
 | .update ..,_::_,h,_=>exact False.elim h
 | .split ..,_::_,h,_=>exact False.elim h
 | .aL ..,[],h,_=>exact False.elim h
 | .aL ..,_::_::_,h,_=>exact False.elim h
 | .aG ..,[],h,_=>exact False.elim h
 | .aG ..,_::_::_,h,_=>exact False.elim h
 | .bS ..,[],h,_=>exact False.elim h
 | .bS ..,_::_::_,h,_=>exact False.elim h
 | .bO ..,[],h,_=>exact False.elim h
 | .bO ..,_::_::_,h,_=>exact False.elim h
 | .bW ..,[],h,_=>exact False.elim h
 | .bW ..,_::_::_,h,_=>exact False.elim h
 | .bH ..,[],h,_=>exact False.elim h
 | .bH ..,_::_::_,h,_=>exact False.elim h
theorem JD (hol2:q.ord.length+1<1000000) (p1 p2 p3:Nat) (c:Int) (k:KV) (l:Ax) (kv:Value) (Mj:aO) (hJ:L9 k l Mj) (hz:Jz (r.p.load c).2 (r.p.load c).1 k):aN prog 232 [.pointer (some ⟨p1,0,none⟩),.pointer (some ⟨p2,0,none⟩),.pointer (some ⟨p3,0,none⟩)] [ak r.rows,aC s,aW p1 #[kv],eY tb p2,aW p3 (cI c),iu tb k l kv] [aE tb xb (⟨bz,op,call,lt,none,ov,an⟩:Th) .nilFunc s,ao xb ba q,Mo,M,Mj] (aX tb xb ba q ((sy (⟨bz,op,call,lt,none,ov,an⟩:Th) q r).runN (.load c k))):=by
 refine cb fun X H₀ L₀=>?_;refine dw 10 [9] (k_ (k_ (k_ (d_ (k_ r_))))) ?_;refine oA (kE ba r _ hA _) ?_;intro r2 N2 hA2 hr2;refine te ?_;exact lU (by rw[(show(sy (⟨bz,op,call,lt,none,ov,an⟩:Th) q r).runN (.load c k)=(Sy.bq (sy (⟨bz,op,call,lt,none,ov,an⟩:Th) q r) (r.p.load c).2).df (r.p.load c).1 k from rfl),<-hr2]<;>rfl) fun _ h=>rS tb xb ba bz op call lt ov an s hs q Mo hO hol r2 _ hA2 (r.p.load c).1 (by rw[hr2];exact hz) (de h) (de h) (de h) hJ
theorem JE (hol2:q.ord.length+1<1000000) (p1 p2 p3 p4 p5:Nat) (c:Int) (bZ:Int) (now:Int) (k:KB) (l:Ax) (kv:Value) (Mj:aO) (hJ:F0 k l Mj) (hz:Bi (r.p.swap c bZ now).2 k):aN prog 209 [.pointer (some ⟨p1,0,none⟩),.pointer (some ⟨p2,0,none⟩),.pointer (some ⟨p3,0,none⟩),.pointer (some ⟨p4,0,none⟩),.pointer (some ⟨p5,0,none⟩)] [ak r.rows,aC s,aW p1 #[kv],eY tb p2,aW p3 (cI c),aW p4 (cI bZ),aW p5 (cI now),eZ tb k l kv] [aE tb xb (⟨bz,op,call,lt,none,ov,an⟩:Th) .nilFunc s,ao xb ba q,Mo,M,Mj] (aX tb xb ba q ((sy (⟨bz,op,call,lt,none,ov,an⟩:Th) q r).runN (.swap c bZ now k))):=by
 refine cb fun X H₀ L₀=>?_;refine dw 12 [11] (k_ (k_ (k_ (d_ (k_ r_))))) ?_;refine oA (IQ ba r _ hA _ _ _) ?_;intro r2 N2 hA2 hr2;refine te ?_;exact lU (by rw[(show(sy (⟨bz,op,call,lt,none,ov,an⟩:Th) q r).runN (.swap c bZ now k)=(Sy.bq (sy (⟨bz,op,call,lt,none,ov,an⟩:Th) q r) (r.p.swap c bZ now).2).cj (r.p.swap c bZ now).1 k from rfl),<-hr2]<;>rfl) fun _ h=>yG tb xb ba bz op call lt ov an s hs q Mo hO hol r2 _ hA2 hol2 (r.p.swap c bZ now).1 (by rw[hr2];exact hz) (de h) (de h) (de h) hJ
theorem JF (hol2:q.ord.length+1<1000000) (p1 p2 p3 p4:Nat) (c:Int) (v:Int) (k:KB) (l:Ax) (kv:Value) (Mj:aO) (hJ:F0 k l Mj) (hz:Bi (r.p.once c v).2 k):aN prog 283 [.pointer (some ⟨p1,0,none⟩),.pointer (some ⟨p2,0,none⟩),.pointer (some ⟨p3,0,none⟩),.pointer (some ⟨p4,0,none⟩)] [ak r.rows,aC s,aW p1 #[kv],eY tb p2,aW p3 (cI c),aW p4 (cI v),eZ tb k l kv] [aE tb xb (⟨bz,op,call,lt,none,ov,an⟩:Th) .nilFunc s,ao xb ba q,Mo,M,Mj] (aX tb xb ba q ((sy (⟨bz,op,call,lt,none,ov,an⟩:Th) q r).runN (.once c v k))):=by
 refine cb fun X H₀ L₀=>?_;refine dw 11 [10] (k_ (k_ (k_ (d_ (k_ r_))))) ?_;refine oA (BT ba r _ hA _ _) ?_;intro r2 N2 hA2 hr2;refine te ?_;exact lU (by rw[(show(sy (⟨bz,op,call,lt,none,ov,an⟩:Th) q r).runN (.once c v k)=(Sy.bq (sy (⟨bz,op,call,lt,none,ov,an⟩:Th) q r) (r.p.once c v).2).cj (r.p.once c v).1 k from rfl),<-hr2]<;>rfl) fun _ h=>yG tb xb ba bz op call lt ov an s hs q Mo hO hol r2 _ hA2 hol2 (r.p.once c v).1 (by rw[hr2];exact hz) (de h) (de h) (de h) hJ
theorem JG (p1:Nat):aN prog 173 [.pointer (some ⟨p1,0,none⟩)] [ak r.rows,aC s,eY tb p1] [aE tb xb (⟨bz,op,call,lt,none,ov,an⟩:Th) .nilFunc s,ao xb ba q,Mo,M] (aX tb xb ba q ((sy (⟨bz,op,call,lt,none,ov,an⟩:Th) q r).runN .zero)):=by
 refine cb fun X H₀ L₀=>?_;refine At.aJ (aC (⟨none,0,[]⟩:Sl Pr)) (fun _ h=>dh _ _ _ (Nat.zero_le _)) ?_;refine At.aJ (jX tb none [] .nilFunc) (fun _ h=>bK () rfl trivial) ?_;refine ca (lA tb xb _ _ _ ba q Mo hO hol (An.zero) (⟨none,0,[]⟩:Sl Pr)) ?_;rintro _ _ _ ⟨oa,ok,No,rfl,rfl,hO2⟩;refine mc ?_;refine At.ck ?_;refine re ?_;exact rs ⟨{q with ord:=q.ord++[call],oa:=oa,oc:=ok},r,_,(⟨none,0,[]⟩:Sl Pr),No,M,[],[],rfl,rfl,hO2,hA,rfl,rfl,⟨rfl,rfl,rfl,rfl,rfl⟩,rfl⟩
end
def DQ (A:Ar):Nx->Prop
 | .load c k=>Jz (A.load c).2 (A.load c).1 k
 | .swap c bZ now k=>Bi (A.swap c bZ now).2 k
 | .once c v k=>Bi (A.once c v).2 k
 | .zero=>True
theorem PL (tb xb ba:Nat) (bz:Bool) (op:bA) (call:Int) (lt ov:Bool) (an:An) (s:Sl Pr) (hs:s.l=an.l) (q:Ix) (Mo:aO) (hO:bR 3 1 (q.ord.map aM) q.oa q.oc Mo) (hol:q.ord.length<1000000) (r:cX) (M:aO) (hA:aR ba r M) (hol2:q.ord.length+1<1000000) {n:Nx} {l:Ax} {v:Value} {H:Hp} {Mj:aO} (hz:DQ r.p n) (hr:(ak r.rows).holds H) (hps:(aC s).holds H) (h:(ri tb n l v).holds H) (hJ:Mc n l Mj):
  eI v [] H [aE tb xb (⟨bz,op,call,lt,none,ov,an⟩:Th) .nilFunc s,ao xb ba q,Mo,M,Mj] (aX tb xb ba q ((sy (⟨bz,op,call,lt,none,ov,an⟩:Th) q r).runN n)):=by
 cases n with
 |load c k=>
  obtain⟨x,rfl,h1,h2,h3,h4,_⟩:=h;exact .of (JD tb xb ba bz op call lt ov an s hs q Mo hO hol r M hA hol2 x.1.1 x.1.2.1 x.1.2.2 c k l x.2 Mj hJ hz) rfl PJ ⟨hr,hps,h1,h2,h3,h4,trivial⟩
 |swap c bZ now k=>
  obtain⟨x,rfl,h1,h2,h3,h4,h5,h6,_⟩:=h;exact .of (JE tb xb ba bz op call lt ov an s hs q Mo hO hol r M hA hol2 x.1.1 x.1.2.1 x.1.2.2.1 x.1.2.2.2.1 x.1.2.2.2.2 c bZ now k l x.2 Mj hJ hz) rfl PI ⟨hr,hps,h1,h2,h3,h4,h5,h6,trivial⟩
 |once c u k=>
  obtain⟨x,rfl,h1,h2,h3,h4,h5,_⟩:=h;exact .of (JF tb xb ba bz op call lt ov an s hs q Mo hO hol r M hA hol2 x.1.1 x.1.2.1 x.1.2.2.1 x.1.2.2.2 c u k l x.2 Mj hJ hz) rfl PK ⟨hr,hps,h1,h2,h3,h4,h5,trivial⟩
 |zero=>
  obtain⟨x,⟨rfl,rfl⟩,h1,_⟩:=h
  cases hJ
  exact .of (aN.fI (JG tb xb ba bz op call lt ov an s hs q Mo hO hol r M hA x)) rfl PH ⟨hr,hps,h1,trivial⟩
section
variable (tb xb ba:Nat) (bz:Bool) (op:bA) (call:Int) (lt ov:Bool) (an:An) (s:Sl Pr) (hs:s.l=an.l) (q:Ix) (Mo:aO) (hO:bR 3 1 (q.ord.map aM) q.oa q.oc Mo) (hol:q.ord.length<1000000) (r:cX) (M:aO) (hA:aR ba r M)
include tb xb ba bz op call lt ov an s hs q Mo hO hol r M hA
theorem G4:aN prog 128 [.pointer (some ⟨tb,0,none⟩)] [ak r.rows,aC s] [aE tb xb (⟨bz,op,call,lt,none,ov,an⟩:Th) .nilFunc s,ao xb ba q,Mo,M] (aX tb xb ba q ((if op.hi<op.key then(sy (⟨bz,op,call,lt,none,ov,an⟩:Th) q r).go .zero else(sy (⟨bz,op,call,lt,none,ov,an⟩:Th) q r).looks op.key .dL))):=by
 refine cb fun X H₀ L₀=>?_;refine bx fun b1=>?_;refine dw 10 [] r_ ?_;refine fi (fun h1=>?_) (fun h1=>?_);refine mc ?_;refine At.aJ (ri tb .zero [] (dE 173 [b1])) (fun _ h=>bK b1 ⟨rfl,rfl⟩ ⟨h.1,trivial⟩) ?_;refine At.ck ?_;refine re ?_;exact rs (by rw[if_pos h1];exact⟨q,r,dE 173 [b1],s,Mo,_,[],[],rfl,rfl,hO,hA,rfl,rfl,Ix.az q,hs⟩);refine mc ?_;refine At.aJ (oD tb .dL (dE 174 [b1])) (fun _ h=>bK b1 rfl ⟨h.1,trivial⟩) ?_;refine dw 7 [] r_ ?_;refine ca (nC tb xb _ _ s ba q op.key .dL _) ?_;rintro _ _ _ ⟨nv,bf,rfl,rfl⟩;refine re ?_;exact rs (by rw[if_neg h1];exact⟨q,r,nv,s,Mo,_,_,(bf,.nilFunc)::[],rfl,rfl,hO,hA,⟨_,rfl,rfl⟩,rfl,Ix.az q,hs⟩)
theorem DR:aN prog 105 [.pointer (some ⟨tb,0,none⟩)] [ak r.rows,aC s] [aE tb xb (⟨bz,op,call,lt,none,ov,an⟩:Th) .nilFunc s,ao xb ba q,Mo,M] (aX tb xb ba q ((sy (⟨bz,op,call,lt,none,ov,an⟩:Th) q r).dB)):=by
 refine cb fun X H₀ L₀=>?_;refine fi (fun h1=>?_) (fun h1=>?_);refine sv 9 (.bool true) ?_ (e:=by exact congrArg Value.bool (decide_eq_true h1));refine ca (uJ tb xb ba bz op call lt ov an s hs q Mo hO hol r M hA) ?_;rintro _ _ _ ⟨q9,r9,nv9,sl9,No9,Na9,Nj9,l9,rfl,rfl,hE⟩;refine re ?_;exact rs (by rw[show(sy (⟨bz,op,call,lt,none,ov,an⟩:Th) q r).dB=(sy (⟨bz,op,call,lt,none,ov,an⟩:Th) q r).update from if_pos (.inl h1)];exact⟨q9,r9,nv9,sl9,No9,Na9,Nj9,l9,rfl,rfl,hE⟩);refine fi (fun h2=>?_) (fun h2=>?_);refine sv 9 (.bool true) ?_ (e:=by exact congrArg Value.bool (decide_eq_true h2));refine ca (uJ tb xb ba bz op call lt ov an s hs q Mo hO hol r M hA) ?_;rintro _ _ _ ⟨q9,r9,nv9,sl9,No9,Na9,Nj9,l9,rfl,rfl,hE⟩;refine re ?_;exact rs (by rw[show(sy (⟨bz,op,call,lt,none,ov,an⟩:Th) q r).dB=(sy (⟨bz,op,call,lt,none,ov,an⟩:Th) q r).update from if_pos (.inr (.inl h2))];exact⟨q9,r9,nv9,sl9,No9,Na9,Nj9,l9,rfl,rfl,hE⟩);refine fi (fun h3=>?_) (fun h3=>?_);refine ca (uJ tb xb ba bz op call lt ov an s hs q Mo hO hol r M hA) ?_;rintro _ _ _ ⟨q9,r9,nv9,sl9,No9,Na9,Nj9,l9,rfl,rfl,hE⟩;refine re ?_;exact rs (by rw[show(sy (⟨bz,op,call,lt,none,ov,an⟩:Th) q r).dB=(sy (⟨bz,op,call,lt,none,ov,an⟩:Th) q r).update from if_pos (.inr (.inr h3))];exact⟨q9,r9,nv9,sl9,No9,Na9,Nj9,l9,rfl,rfl,hE⟩);refine fi (fun h4=>?_) (fun h4=>?_);refine mc ?_;refine At.aJ (oD tb .qV (met 126 tb)) (fun _ h=>bK () rfl trivial) ?_;refine ca (nC tb xb _ _ s ba q op.key .qV _) ?_;rintro _ _ _ ⟨nv,bf,rfl,rfl⟩;refine re ?_;exact rs (by rw[(show(sy (⟨bz,op,call,lt,none,ov,an⟩:Th) q r).dB=(sy (⟨bz,op,call,lt,none,ov,an⟩:Th) q r).looks op.key .qV from(if_neg (fun h=>h.elim h1 fun h=>h.elim h2 h3)).trans (if_pos h4))];exact⟨q,r,nv,s,Mo,_,_,(bf,.nilFunc)::[],rfl,rfl,hO,hA,⟨_,rfl,rfl⟩,rfl,Ix.az q,hs⟩);refine fi (fun h5=>?_) (fun h5=>?_);refine mc ?_;refine At.aJ (oD tb .ends (met 127 tb)) (fun _ h=>bK () rfl trivial) ?_;refine ca (nC tb xb _ _ s ba q Ar.jP .ends _) ?_;rintro _ _ _ ⟨nv,bf,rfl,rfl⟩;refine re ?_;exact rs (by rw[(show(sy (⟨bz,op,call,lt,none,ov,an⟩:Th) q r).dB=(sy (⟨bz,op,call,lt,none,ov,an⟩:Th) q r).looks Ar.jP .ends from(if_neg (fun h=>h.elim h1 fun h=>h.elim h2 h3)).trans ((if_neg h4).trans (if_pos h5)))];exact⟨q,r,nv,s,Mo,_,_,(bf,.nilFunc)::[],rfl,rfl,hO,hA,⟨_,rfl,rfl⟩,rfl,Ix.az q,hs⟩);refine fi (fun h6=>?_) (fun h6=>?_);refine mc ?_;refine At.aJ (oD tb .ends (met 127 tb)) (fun _ h=>bK () rfl trivial) ?_;refine ca (nC tb xb _ _ s ba q Ar.jf .ends _) ?_;rintro _ _ _ ⟨nv,bf,rfl,rfl⟩;refine re ?_;exact rs (by rw[(show(sy (⟨bz,op,call,lt,none,ov,an⟩:Th) q r).dB=(sy (⟨bz,op,call,lt,none,ov,an⟩:Th) q r).looks Ar.jf .ends from(if_neg (fun h=>h.elim h1 fun h=>h.elim h2 h3)).trans ((if_neg h4).trans ((if_neg h5).trans (if_pos h6))))];exact⟨q,r,nv,s,Mo,_,_,(bf,.nilFunc)::[],rfl,rfl,hO,hA,⟨_,rfl,rfl⟩,rfl,Ix.az q,hs⟩)
 refine ca (G4 tb xb ba bz op call lt ov an s hs q Mo hO hol r M hA) ?_;rintro _ _ _ ⟨q9,r9,nv9,sl9,No9,Na9,Nj9,l9,rfl,rfl,hE⟩;refine re ?_;exact rs (by rw[show(sy (⟨bz,op,call,lt,none,ov,an⟩:Th) q r).dB=(if op.hi<op.key then(sy (⟨bz,op,call,lt,none,ov,an⟩:Th) q r).go .zero else(sy (⟨bz,op,call,lt,none,ov,an⟩:Th) q r).looks op.key .dL)from(if_neg (fun h=>h.elim h1 fun h=>h.elim h2 h3)).trans ((if_neg h4).trans ((if_neg h5).trans (if_neg h6)))];exact⟨q9,r9,nv9,sl9,No9,Na9,Nj9,l9,rfl,rfl,hE⟩)
end
theorem oq (tb xb ba:Nat) (q:Ix) (rows:List (List Value)) (hn:q.tn=rows.length) (i:Nat) (hx:rows[i]? =some [ptr tb]):aN prog 104 [.pointer (some ⟨xb,0,none⟩),.int .i64 (i:Int)] [sl q.ta q.tc 1 rows] [ao xb ba q] (fun v Γ M'=>v=ptr tb/\Γ=[]/\M'=[ao xb ba q]):=by
 refine cb fun X H₀ L₀=>?_;have hil:=ae hx;refine sv 11 (.bool false) ?_ (e:=by exact congrArg Value.bool (decide_eq_false (by omega)));refine sv 19 (.bool false) ?_ (e:=by exact congrArg Value.bool (decide_eq_false (by omega)));refine mc ?_;refine At.fZ 23 (.slice q.ta rows.length q.tc) rfl (by rw[<-hn];rfl) ?_;refine At.quiet (bD underlying151 t146 rfl (ix 1 rfl) (by simp) rfl rfl (ae hx)) rfl ?_;refine ld (Rd.kK (.tail _ (.head _)) hx rfl) ?_;refine re ?_;exact rs ⟨rfl,rfl,rfl⟩
theorem MF (tb xb:Nat) (th:Th) (nx:Value) (s:Sl Pr) (ba:Nat) (q:Ix) (rows:List (List Value)) (hn:q.tn=rows.length) (i:Nat) (hx:rows[i]? =some [ptr tb]):aN prog 76 [.pointer (some ⟨xb,0,none⟩),.int .i64 (i:Int)] [sl q.ta q.tc 1 rows] [ao xb ba q,aE tb xb th nx s] (fun v Γ M'=>v= .bool th.busy/\Γ=[]/\M'=[ao xb ba q,aE tb xb th nx s]):=by
 refine cb fun X H₀ L₀=>?_;refine ca (oq tb xb ba q rows hn i hx) ?_;refine re ?_;exact rs ⟨rfl,rfl,rfl⟩
section
variable (xb ba:Nat) (q:Ix)
include xb ba q
theorem JH:aN prog 82 [.pointer (some ⟨xb,0,none⟩)] [] [ao xb ba q] (fun v Γ M'=>v= .int .i64 q.steps/\Γ=[]/\M'=[ao xb ba q]):=by
 refine cb fun X H₀ L₀=>?_;refine re ?_;exact rs ⟨rfl,rfl,rfl⟩
theorem G5:aN prog 84 [.pointer (some ⟨xb,0,none⟩)] [] [ao xb ba q] (fun v Γ M'=>v= .int .i64 q.splits/\Γ=[]/\M'=[ao xb ba q]):=by
 refine cb fun X H₀ L₀=>?_;refine re ?_;exact rs ⟨rfl,rfl,rfl⟩
theorem JI:aN prog 85 [.pointer (some ⟨xb,0,none⟩)] [] [ao xb ba q] (fun v Γ M'=>v= .int .i64 q.aA/\Γ=[]/\M'=[ao xb ba q]):=by
 refine cb fun X H₀ L₀=>?_;refine re ?_;exact rs ⟨rfl,rfl,rfl⟩
end
section
variable (tb xb ba:Nat) (bz:Bool) (op:bA) (call:Int) (lt ov:Bool) (an:An) (s:Sl Pr) (hs:s.l=an.l) (q:Ix) (Mo:aO) (hO:bR 3 1 (q.ord.map aM) q.oa q.oc Mo) (hol:q.ord.length<1000000) (r:cX) (M:aO) (hA:aR ba r M) (rows:List (List Value)) (hn:q.tn=rows.length) (i:Nat) (hx:rows[i]? =some [ptr tb])
include tb xb ba bz op call lt ov an s hs q Mo hO hol r M hA rows hn i hx
theorem MG (hbz:bz=true) (hol2:q.ord.length+1<1000000) (n:Nx) (l:Ax) (nv:Value) (Mj:aO) (hJ:Mc n l Mj) (hz:DQ r.p n):aN prog 78 [.pointer (some ⟨xb,0,none⟩),.int .i64 (i:Int)] [ak r.rows,aC s,sl q.ta q.tc 1 rows,ri tb n l nv] [aE tb xb (⟨bz,op,call,lt,none,ov,an⟩:Th) nv s,ao xb ba q,Mo,M,Mj] (fun v Γ M'=>v= .bool true/\aX tb xb ba ({q with steps:=inc q.steps}:Ix) ((sy (⟨bz,op,call,lt,none,ov,an⟩:Th) ({q with steps:=inc q.steps}:Ix) r).runN n) v Γ M'):=by
 refine cb fun X H₀ L₀=>?_;refine ca (oq tb xb ba q rows hn i hx) ?_;refine sv 18 (.bool false) ?_ (e:=by exact congrArg Value.bool (by simp[hbz]));refine mc ?_;refine qt (dY rfl rfl) ?_;refine mc ?_;refine At.piece (B:=ao xb ba ({q with steps:=inc q.steps}:Ix)) rfl ?_;refine mc ?_;refine At.front 4 rfl ?_;refine At.front 4 rfl ?_;refine At.front 4 rfl ?_;refine At.front 3 rfl ?_;refine At.front 4 rfl ?_;refine At.oK rfl rfl (fun _ h=>PL tb xb ba bz op call lt ov an s hs ({q with steps:=inc q.steps}:Ix) Mo hO hol r M hA hol2 hz h.2.1 h.2.2.1 h.2.2.2.2.1 hJ) (List.Perm.refl _) rfl ?_;rintro _ _ _ ⟨q9,r9,nv9,sl9,No9,Na9,Nj9,l9,rfl,rfl,hE⟩;refine re ?_;exact rs ⟨rfl,q9,r9,nv9,sl9,No9,Na9,Nj9,l9,rfl,rfl,hE⟩
theorem call77 (hbz:bz=false) (o:bA) (hm:fj o=true):aN prog 77 [.pointer (some ⟨xb,0,none⟩),.int .i64 (i:Int),o.val] [ak r.rows,aC s,sl q.ta q.tc 1 rows] [aE tb xb (⟨bz,op,call,lt,none,ov,an⟩:Th) .nilFunc s,ao xb ba q,Mo,M] (fun v Γ M'=>v= .bool true/\aX tb xb ba ({q with calls:=inc q.calls}:Ix) ((sy (⟨true,o,q.calls,false,none,ov,an⟩:Th) ({q with calls:=inc q.calls}:Ix) r).dB) v Γ M'):=by
 refine cb fun X H₀ L₀=>?_;refine bx fun b1=>?_;refine ca (oq tb xb ba q rows hn i hx) ?_;refine sv 19 (.bool false) ?_ (e:=by exact congrArg Value.bool (hbz));refine ca (xd o) ?_;refine sv 23 (.bool false) ?_ (e:=by exact congrArg Value.bool (by simp[hm]));refine dw 18 [11,14,17] (k_ (d_ (k_ (k_ r_)))) ?_;refine mc ?_;refine oN rfl (aw t4 rfl rfl (i:=1) rfl rfl rfl rfl) ?_;rintro _ _ _ ⟨rfl,rfl⟩;refine mc ?_;refine oN rfl (aw t4 rfl rfl (i:=1) rfl rfl rfl rfl) ?_;rintro _ _ _ ⟨rfl,rfl⟩;refine mc ?_;refine yn rfl (aw t41 rfl rfl (i:=1) rfl rfl rfl rfl) ?_;rintro _ _ _ ⟨rfl,rfl⟩;refine mc ?_;refine qt (dY rfl rfl) ?_;refine mc ?_;refine At.piece (B:=ao xb ba ({q with calls:=inc q.calls}:Ix)) rfl ?_;refine ca (DR tb xb ba true o q.calls false ov an s hs ({q with calls:=inc q.calls}:Ix) Mo hO hol r M hA) ?_;rintro _ _ _ ⟨q9,r9,nv9,sl9,No9,Na9,Nj9,l9,rfl,rfl,hE⟩;refine re ?_;exact rs ⟨rfl,q9,r9,nv9,sl9,No9,Na9,Nj9,l9,rfl,rfl,hE⟩
end
theorem G6 (tb xb:Nat) (th:Th) (nx:Value) (s:Sl Pr) (ba:Nat) (q:Ix) (rows:List (List Value)) (hn:q.tn=rows.length) (i:Nat) (hx:rows[i]? =some [ptr tb]) (hov:th.iR=true) (hsl:s.l.length<=1000000):aN prog 79 [.pointer (some ⟨xb,0,none⟩),.int .i64 (i:Int)] [sl q.ta q.tc 1 rows,aC s] [ao xb ba q,aE tb xb th nx s] (fun v Γ M'=>∃s2:Sl Pr,v= .tuple #[th.cR.val s2,.bool true]/\s2.l=s.l/\Γ=[aC s2]/\M'=[ao xb ba q,aE tb xb th nx s]):=by
 refine cb fun X H₀ L₀=>?_;refine al fun b1=>?_;refine ca (oq tb xb ba q rows hn i hx) ?_;refine sv 19 (.bool false) ?_ (e:=by exact congrArg Value.bool (by simp[hov]));refine al fun b2=>?_;refine ca (BP s hsl) ?_;rintro _ _ _ ⟨s2,rfl,hs2,rfl,rfl⟩;refine re ?_;exact rs ⟨s2,rfl,hs2,rfl,rfl⟩
theorem DS (l:Sl Int) (hl:l.l.length<=1000000):aN prog 106 [l.val] [cw l] [] (fun v Γ M'=>∃(u:Sl Int) (M1:aO),v=u.val/\Γ=[]/\M'=[M1]/\bR 3 1 (u.l.map aM) u.a u.c M1/\u.l=l.l):=by
 refine cb fun X H₀ L₀=>?_;refine mc ?_;refine qt (gb underlying26 rfl rfl) ?_;refine cv (fun hn=>?_) (fun hn=>?_);refine At.vN (hs:=(ix 1 rfl)) (by simpa using hn) fun hnil=>?_;refine At.ck ?_;refine re ?_;exact rs ⟨⟨none,0,[]⟩,[],rfl,rfl,rfl,bR.nil _ _,hnil.symm⟩;refine mc ?_;refine lM (jK underlying26 t3) ?_;rintro _ _ _ ⟨be,o,rfl,hoe,rfl,rfl⟩;refine mc ?_;refine lM (fO rfl underlying26 t3 rfl rfl hoe (by simp) (i:=0) rfl (.tail _ (.head _)) (by simp) (jt (fun _=>rfl) _) rfl rfl (by omega) (by unfold maxLen;omega)) ?_;rintro _ _ _ ⟨a2,c2,M2,rfl,ow2,rfl,rfl⟩;refine re ?_;exact rs ⟨⟨a2,c2,l.l⟩,M2,by simp[cP,Sl.val],rfl,rfl,by simpa using ow2,rfl⟩
theorem JJ (xb ba:Nat) (q:Ix) (Mo:aO) (hO:bR 3 1 (q.ord.map aM) q.oa q.oc Mo) (hol:q.ord.length<1000000):aN prog 80 [.pointer (some ⟨xb,0,none⟩)] [] [ao xb ba q,Mo] (fun v Γ M'=>∃u:Sl Int,v=u.val/\u.l=q.ord/\Γ=[cw u]/\M'=[ao xb ba q,Mo]):=by
 refine cb fun X H₀ L₀=>?_;refine mc ?_;refine At.Lp Oj rfl (DS (⟨q.oa,q.oc,q.ord⟩:Sl Int) (by show q.ord.length<=_;omega)) hO (j:=1) rfl (fun _ h=>⟨h.1,trivial⟩) rfl ?_;intro cl hpcl;refine re ?_;exact rs ⟨cl,rfl,hpcl,rfl,rfl⟩
theorem MH (xb ba:Nat) (q:Ix) (r:cX) (M:aO) (hA:aR ba r M):aN prog 83 [.pointer (some ⟨xb,0,none⟩)] [] [ao xb ba q,M] (fun v Γ M'=>v= .int .i64 (r.p.sl.length:Int)/\Γ=[]/\M'=[ao xb ba q,M]):=by
 refine cb fun X H₀ L₀=>?_;refine ca (IS ba _ _ hA) ?_;refine re ?_;exact rs ⟨rfl,rfl,rfl⟩
end Go.Proofs.YtcnohdmimheoaaaGreat
namespace Go.Proofs.YtcnohdmimheoaaaGreat
open E Go.Proofs.Tryz
namespace Ar
theorem bT (A:Ar) (c:Int):(A.load c).2.sl=A.sl:=by unfold load;split<;>rfl
section
variable {A B:Ar} (h:B.sl=A.sl)
include h
theorem s9 (id:Int):B.bP id=A.bP id:=by unfold bP has;rw[h]
theorem jz (id:Int):B.kind id=A.kind id:=by unfold kind;rw[s9 h]
theorem dI (id i:Int):B.val id i=A.val id i:=by unfold val;rw[s9 h]
section
variable (id:Int)
include id
theorem DT:B.aB id=A.aB id:=by unfold aB;rw[s9 h]
theorem G7:B.holds id=A.holds id:=by unfold holds;rw[s9 h]
theorem lL:(B.load id).1=(A.load id).1:=by
 unfold load;rw[DT h,G7 h];split<;>rfl
theorem tf:B.base id=A.base id:=by unfold base;rw[jz h,dI h,dI h,dI h]
theorem G8:B.aj id=A.aj id:=by unfold aj;rw[dI h,dI h,dI h,dI h]
theorem iy:B.aa id=A.aa id:=by unfold aa;rw[dI h,dI h,dI h,dI h,dI h,dI h]
end
theorem pv (p:iH) (b:Bs) (r:Int):fx B p b r=fx A p b r:=by unfold fx;rw[dI h]
theorem wB (id:Int):B.isNode id=A.isNode id:=by unfold isNode;rw[jz h]
theorem JK (id:Int):B.node id=A.node id:=by unfold node;rw[wB h,dI h,dI h,dI h,dI h,dI h,dI h]
theorem uU (lo hi:Int):∀(n:Nat) (left t bound:Int),fg B lo hi n left t bound=fg A lo hi n left t bound
 |0,_,_,_=>rfl
 |n+1,left,t,bound=>by
  rw[AT,AT,wB h,JK h,uU lo hi n];split;rfl;generalize(if lo<(A.node t).p.k then fg A lo hi n (left-1) (A.node t).left t else([],left-1))=x;rcases x with⟨x1,x2⟩;simp only[uU lo hi n]
theorem MI (t:Int):B.all t=A.all t:=by unfold all range;rw[uU h]
end
def fJ (A:Ar) (p:iH) (id:Int):Bs:=
 if A.kind id=6 then(if(A.load (A.store (A.val id 3)).result).1≠0 then{A.base id with stat:=fx A p (A.base id) (A.load (A.store (A.val id 3)).result).1}else A.base id)
 else if A.kind id=5 then
  (if A.kind (A.load (A.main (A.val id 3)).state).1=8/\(A.aa (A.load (A.main (A.val id 3)).state).1).dZ=id/\(A.load (A.aa (A.load (A.main (A.val id 3)).state).1).cell).1=(A.aa (A.load (A.main (A.val id 3)).state).1).parent
   then A.base (A.aa (A.load (A.main (A.val id 3)).state).1).ai else A.base id)
 else A.base id
section
variable {A B:Ar} (h:B.sl=A.sl)
include A B h
theorem G9 (id:Int):B.store id=A.store id:=by unfold store;rw[dI h,dI h,dI h,dI h,dI h]
theorem JL (id:Int):B.main id=A.main id:=by unfold main;rw[tf h,dI h]
theorem JM (p:iH) (id:Int):B.fJ p id=A.fJ p id:=by
 unfold fJ;simp only[jz h,dI h,G9 h,JL h,lL h,tf h,iy h,pv h]
end
def iN (A:Ar) (p:iH):Nat->Int->Nat->List gG
 |0,_,_=>[]
 |n+1,c,here=>
  if A.kind (A.load c).1≠2 then[⟨false,0,0,0,A.all (A.fJ p (A.load c).1).af,(A.fJ p (A.load c).1).stat⟩]
  else⟨true,(A.aj (A.load c).1).key,((here+1:Nat):Int),((here+1+(iN A p n (A.aj (A.load c).1).left (here+1)).length:Nat):Int),[],0⟩::
   (iN A p n (A.aj (A.load c).1).left (here+1)++iN A p n (A.aj (A.load c).1).right (here+1+(iN A p n (A.aj (A.load c).1).left (here+1)).length))
def si (A:Ar):Nat->Int->Prop
 |0,_=>False
 |n+1,c=>A.kind (A.load c).1=2->si A n (A.aj (A.load c).1).left/\si A n (A.aj (A.load c).1).right
section
variable {A:Ar} {p:iH} {id:Int}
include A p id
theorem Ha (h:A.kind id=6) (h2:(A.load (A.store (A.val id 3)).result).1≠0):A.fJ p id={A.base id with stat:=fx A p (A.base id) (A.load (A.store (A.val id 3)).result).1}:=by unfold fJ;rw[if_pos h,if_pos h2]
theorem Cr (h:A.kind id=6) (h2:¬(A.load (A.store (A.val id 3)).result).1≠0):A.fJ p id=A.base id:=by unfold fJ;rw[if_pos h,if_neg h2]
theorem Hb (h:¬A.kind id=6) (h1:A.kind id=5) (h2:A.kind (A.load (A.main (A.val id 3)).state).1=8) (h3:(A.aa (A.load (A.main (A.val id 3)).state).1).dZ=id) (h4:(A.load (A.aa (A.load (A.main (A.val id 3)).state).1).cell).1=(A.aa (A.load (A.main (A.val id 3)).state).1).parent):A.fJ p id=A.base (A.aa (A.load (A.main (A.val id 3)).state).1).ai:=by unfold fJ;rw[if_neg h,if_pos h1,if_pos ⟨h2,h3,h4⟩]
theorem ot (h:¬A.kind id=6) (h1:A.kind id=5) (h2:¬(A.kind (A.load (A.main (A.val id 3)).state).1=8/\(A.aa (A.load (A.main (A.val id 3)).state).1).dZ=id/\(A.load (A.aa (A.load (A.main (A.val id 3)).state).1).cell).1=(A.aa (A.load (A.main (A.val id 3)).state).1).parent)):
  A.fJ p id=A.base id:=by unfold fJ;rw[if_neg h,if_pos h1,if_neg h2]
theorem MJ (h:¬A.kind id=6) (h1:¬A.kind id=5):A.fJ p id=A.base id:=by unfold fJ;rw[if_neg h,if_neg h1]
end
section
variable {A:Ar} {p:iH} {n:Nat} {c:Int} {here:Nat}
include A p n c here
theorem zR (h:A.kind (A.load c).1≠2):A.iN p (n+1) c here=[⟨false,0,0,0,A.all (A.fJ p (A.load c).1).af,(A.fJ p (A.load c).1).stat⟩]:=by
 conv=>lhs;unfold iN
 rw[if_pos h]
theorem zS (h:A.kind (A.load c).1=2):A.iN p (n+1) c here=⟨true,(A.aj (A.load c).1).key,((here+1:Nat):Int),((here+1+(iN A p n (A.aj (A.load c).1).left (here+1)).length:Nat):Int),[],0⟩::
   (iN A p n (A.aj (A.load c).1).left (here+1)++iN A p n (A.aj (A.load c).1).right (here+1+(iN A p n (A.aj (A.load c).1).left (here+1)).length)):=by
 conv=>lhs;unfold iN
 rw[if_neg (by omega)]
end
end Ar
def JN (xb ba:Nat) (q:Ix) (A:Ar) (b:Bs) (v:Value) (Γ:List ag) (M':E.Loc):Prop:=
 v=b.val/\∃(r':cX) (N:aO),Γ=[ak r'.rows]/\M'=[ao xb ba q,N]/\aR ba r' N/\r'.p.sl=A.sl
def Ld (xb ba:Nat) (q:Ix) (A:Ar) (b:Nat) (o:List Nd) (l:List gG) (v:Value) (Γ:List ag) (M':E.Loc):Prop:=
 ∃(r':cX) (N:aO) (o':List Nd) (a':Option Addr) (c':Nat) (Mo':aO),v= .int .i64 (o.length:Int)/\Γ=[ak r'.rows,pO o']/\M'=[ao xb ba q,N,qT b a' (o++o').length c',Mo']/\
  bR 104 6 ((o++o').map ke) a' c' Mo'/\o'.map Nd.p=l/\aR ba r' N/\r'.p.sl=A.sl
def Bj (A:Ar) (p:iH) (n:Nat):Prop:=∀(c:Int),A.si n c->∀(xb ba:Nat) (q:Ix) (hq:q.cF=p) (r:cX) (M:aO) (hA:aR ba r M) (hs:r.p.sl=A.sl) (b:Nat) (o:List Nd) (a:Option Addr) (k:Nat) (Mo:aO),
 bR 104 6 (o.map ke) a k Mo->o.length+(A.iN p n c o.length).length<=1000000->
 aN prog 107 [.pointer (some ⟨xb,0,none⟩),.int .i64 c,.pointer (some ⟨b,0,none⟩)] [ak r.rows] [ao xb ba q,M,qT b a o.length k,Mo] (Ld xb ba q A b o (A.iN p n c o.length))
theorem Bk {xb ba:Nat} {q:Ix} {A:Ar} {b:Nat} {o o1 o2:List Nd} {n:Nd} {a:Option Addr} {c N:Nat} {M M1:aO} {L1 L2:List gG} {key:Int} {r':cX} (hO:bR 104 6 ((o++n::(o1++o2)).map ke) a c M) (hN:N=(o++n::(o1++o2)).length)
  (he1:o1.map Nd.p=L1) (he2:o2.map Nd.p=L2) (hn:n.p=⟨true,key,((o.length+1:Nat):Int),((o.length+1+L1.length:Nat):Int),[],0⟩) (hA:aR ba r' M1) (hs:r'.p.sl=A.sl):
  Ld xb ba q A b o (⟨true,key,((o.length+1:Nat):Int),((o.length+1+L1.length:Nat):Int),[],0⟩::(L1++L2)) (.int .i64 (o.length:Int)) [ak r'.rows,pO (n::(o1++o2))] [ao xb ba q,M1,qT b a N c,M]:=by
 subst hN;exact⟨r',M1,n::(o1++o2),a,c,M,rfl,rfl,rfl,hO,by simp[he1,he2,hn],hA,hs⟩
end Go.Proofs.YtcnohdmimheoaaaGreat
namespace Go.Proofs.YtcnohdmimheoaaaGreat
open E Ar Go.Proofs.Tryz
theorem JO (ba:Nat) (r:cX) (M:aO) (hA:aR ba r M) (t:Int):aN prog 132 [.pointer (some ⟨ba,0,none⟩),.int .i64 t] [ak r.rows] [M]
  (fun v Γ M'=>∃u:Sl Pr,v=u.val/\Γ=[aC u]/\M'=[M]/\u.l=r.p.all t):=
 fun X w H L hp hst=>(L4 ba r M hA t X w H L hp hst).mono fun e w' h=>by
  obtain⟨v,Γ',M',H',e1,⟨a,c,N,e2,e3,e4,hO⟩,hle,h4,h5⟩:=h;subst e2;subst e3;subst e4;obtain⟨H2,q1,q2,q3⟩:=hO.frozen (i:=1) rfl h5;exact⟨_,_,_,H2,e1,⟨⟨a,c,r.p.all t⟩,rfl,rfl,rfl,rfl⟩,Hp.le_trans hle q2,⟨q3,trivial⟩,q1⟩
theorem JP (xb ba:Nat) (q:Ix) (r:cX) (M:aO) (hA:aR ba r M) (id:Int):aN prog 131 [.pointer (some ⟨xb,0,none⟩),.int .i64 id] [ak r.rows] [ao xb ba q,M] (JN xb ba q r.p (r.p.fJ q.cF id)):=by
 refine cb fun X H₀ L₀=>?_;refine al fun b1=>?_;refine ca (ea xb ba q r _ hA _) ?_;refine al fun b2=>?_;refine fi (fun h1=>?_) (fun h1=>?_);refine mc ?_;refine At.draw 9 (.q 0 (.q 1 (.q 2 (.q 4 (.q 5 (.t 3 (.o 6 (.q 7 (.q 8 (.e)))) 6 (.q 7 (.q 8 (.o 3 (.e)))))))))) (_::_::L₀) (k_ (d_ (d_ (k_ r_)))) mixed (by kernel_rfl) rfl ?_;refine mc ?_;refine aQ.two ?_ ?_;refine oM rfl (bF.eJ (aY t150 rfl (Rd.loc (i:=1) rfl rfl))) ?_;refine oA (iK xb ba q r _ hA _) ?_;refine ca (kE ba r _ hA _) ?_;intro r2 N2 hA2 hr2;refine fi (fun h2=>?_) (fun h2=>?_);refine ca (jV xb ba q r2 _ hA2 _ _) ?_;refine re ?_;exact rs (by rw[Ar.Ha h1 h2];exact⟨by rw[<-Ar.pv (by rw[hr2,Ar.bT]:r2.p.sl=r.p.sl)];rfl,r2,_,rfl,rfl,hA2,(by rw[hr2,Ar.bT])⟩);refine re ?_;exact rs (by rw[Ar.Cr h1 h2];exact⟨rfl,r2,_,rfl,rfl,hA2,(by rw[hr2,Ar.bT])⟩);refine oA (iK xb ba q r _ hA _) ?_;refine mc ?_;refine yI rfl (bF.eJ (aY t150 rfl (Rd.loc (i:=0) rfl rfl))) ?_;refine ca (kE ba r _ hA _) ?_;intro r2 N2 hA2 hr2;refine fi (fun h2=>?_) (fun h2=>?_);refine ca (jV xb ba q r2 _ hA2 _ _) ?_;refine re ?_;exact rs (by rw[Ar.Ha h1 h2];exact⟨by rw[<-Ar.pv (by rw[hr2,Ar.bT]:r2.p.sl=r.p.sl)];rfl,r2,_,rfl,rfl,hA2,(by rw[hr2,Ar.bT])⟩);refine re ?_;exact rs (by rw[Ar.Cr h1 h2];exact⟨rfl,r2,_,rfl,rfl,hA2,(by rw[hr2,Ar.bT])⟩);refine fi (fun h3=>?_) (fun h3=>?_);refine mc ?_;refine At.draw 9 (.q 0 (.q 1 (.q 2 (.q 4 (.q 5 (.t 3 (.o 6 (.q 7 (.q 8 (.e)))) 6 (.q 7 (.q 8 (.o 3 (.e)))))))))) (_::_::L₀) (k_ (d_ (d_ (k_ r_)))) mixed (by kernel_rfl) rfl ?_;refine mc ?_;refine aQ.two ?_ ?_;refine oM rfl (bF.eJ (aY t150 rfl (Rd.loc (i:=1) rfl rfl))) ?_;refine oA (qe xb ba q r _ hA _) ?_;refine ca (kE ba r _ hA _) ?_;intro r2 N2 hA2 hr2;refine ca (sT xb ba q r2 _ hA2 _) ?_;refine al fun b3=>?_;refine dv 23 [0,1,2,3,4,105,6,7,8,9,10,11,12,13,14,15,16,17,18,19,21,22,120] (k_ (k_ (d_ (k_ (k_ r_))))) ?_;refine gf (ik ba r2 _ hA2 _) ?_;refine mc ?_;refine aQ.eV (d:=55) rfl (fun h4=>?_) (fun h4=>?_);refine mc ?_;refine aQ.eV (d:=61) rfl (fun h5=>?_) (fun h5=>?_);refine mc ?_;refine aQ.front 0 rfl ?_;refine aQ.Ay rfl rfl rfl Lc rfl (kE ba r2 _ hA2 _) (fun _ h=>⟨h.1,trivial⟩) (List.Perm.refl _) rfl r_ ?_;rintro _ _ _ ⟨rfl,r3,N3,rfl,rfl,hA3,hr3⟩;refine fi (fun h6=>?_) (fun h6=>?_);refine ca (ea xb ba q r3 _ hA3 _) ?_;refine re ?_;exact rs (by rw[Ar.Hb h1 h3 (by rw[<-Ar.jz (by rw[hr2,Ar.bT]:r2.p.sl=r.p.sl)];exact h4) (by rw[<-Ar.iy (by rw[hr2,Ar.bT]:r2.p.sl=r.p.sl)];exact h5) (by rw[<-Ar.iy (by rw[hr2,Ar.bT]:r2.p.sl=r.p.sl),<-Ar.lL (by rw[hr2,Ar.bT]:r2.p.sl=r.p.sl)];exact h6)];exact⟨by rw[<-Ar.iy (by rw[hr2,Ar.bT]:r2.p.sl=r.p.sl),<-Ar.tf (show r3.p.sl=r.p.sl by rw[hr3,Ar.bT,hr2,Ar.bT])];rfl,r3,_,rfl,rfl,hA3,(by rw[hr3,Ar.bT,hr2,Ar.bT])⟩)
 refine re ?_;exact rs (by rw[Ar.ot h1 h3 (fun h=>h6 (by rw[Ar.iy (by rw[hr2,Ar.bT]:r2.p.sl=r.p.sl),Ar.lL (by rw[hr2,Ar.bT]:r2.p.sl=r.p.sl)];exact h.2.2))];exact⟨rfl,r3,_,rfl,rfl,hA3,(by rw[hr3,Ar.bT,hr2,Ar.bT])⟩);refine mc ?_;refine aQ.tL rfl rfl rfl rfl (d_ (k_ (k_ (k_ (k_ r_))))) ?_;refine re ?_;exact rs (by rw[Ar.ot h1 h3 (fun h=>h5 (by rw[Ar.iy (by rw[hr2,Ar.bT]:r2.p.sl=r.p.sl)];exact h.2.1))];exact⟨rfl,r2,_,rfl,rfl,hA2,(by rw[hr2,Ar.bT])⟩);refine mc ?_;refine aQ.tL rfl rfl rfl rfl (d_ (k_ (k_ (k_ (k_ r_))))) ?_;refine re ?_;exact rs (by rw[Ar.ot h1 h3 (fun h=>h4 (by rw[Ar.jz (by rw[hr2,Ar.bT]:r2.p.sl=r.p.sl)];exact h.1))];exact⟨rfl,r2,_,rfl,rfl,hA2,(by rw[hr2,Ar.bT])⟩);refine oA (qe xb ba q r _ hA _) ?_;refine mc ?_;refine yI rfl (bF.eJ (aY t150 rfl (Rd.loc (i:=0) rfl rfl))) ?_;refine ca (kE ba r _ hA _) ?_;intro r2 N2 hA2 hr2;refine ca (sT xb ba q r2 _ hA2 _) ?_;refine al fun b4=>?_;refine dv 23 [0,1,2,3,4,105,6,7,8,9,10,11,12,13,14,15,16,17,18,19,21,22,120] (k_ (k_ (d_ (k_ (k_ r_))))) ?_;refine gf (ik ba r2 _ hA2 _) ?_;refine mc ?_;refine aQ.eV (d:=55) rfl (fun h4=>?_) (fun h4=>?_);refine mc ?_;refine aQ.eV (d:=61) rfl (fun h5=>?_) (fun h5=>?_);refine mc ?_;refine aQ.front 0 rfl ?_;refine aQ.Ay rfl rfl rfl Lc rfl (kE ba r2 _ hA2 _) (fun _ h=>⟨h.1,trivial⟩) (List.Perm.refl _) rfl r_ ?_;rintro _ _ _ ⟨rfl,r3,N3,rfl,rfl,hA3,hr3⟩;refine fi (fun h6=>?_) (fun h6=>?_);refine ca (ea xb ba q r3 _ hA3 _) ?_;refine re ?_;exact rs (by rw[Ar.Hb h1 h3 (by rw[<-Ar.jz (by rw[hr2,Ar.bT]:r2.p.sl=r.p.sl)];exact h4) (by rw[<-Ar.iy (by rw[hr2,Ar.bT]:r2.p.sl=r.p.sl)];exact h5) (by rw[<-Ar.iy (by rw[hr2,Ar.bT]:r2.p.sl=r.p.sl),<-Ar.lL (by rw[hr2,Ar.bT]:r2.p.sl=r.p.sl)];exact h6)];exact⟨by rw[<-Ar.iy (by rw[hr2,Ar.bT]:r2.p.sl=r.p.sl),<-Ar.tf (show r3.p.sl=r.p.sl by rw[hr3,Ar.bT,hr2,Ar.bT])];rfl,r3,_,rfl,rfl,hA3,(by rw[hr3,Ar.bT,hr2,Ar.bT])⟩);refine re ?_;exact rs (by rw[Ar.ot h1 h3 (fun h=>h6 (by rw[Ar.iy (by rw[hr2,Ar.bT]:r2.p.sl=r.p.sl),Ar.lL (by rw[hr2,Ar.bT]:r2.p.sl=r.p.sl)];exact h.2.2))];exact⟨rfl,r3,_,rfl,rfl,hA3,(by rw[hr3,Ar.bT,hr2,Ar.bT])⟩);refine mc ?_;refine aQ.tL rfl rfl rfl rfl (d_ (k_ (k_ (k_ (k_ r_))))) ?_;refine re ?_;exact rs (by rw[Ar.ot h1 h3 (fun h=>h5 (by rw[Ar.iy (by rw[hr2,Ar.bT]:r2.p.sl=r.p.sl)];exact h.2.1))];exact⟨rfl,r2,_,rfl,rfl,hA2,(by rw[hr2,Ar.bT])⟩);refine mc ?_;refine aQ.tL rfl rfl rfl rfl (d_ (k_ (k_ (k_ (k_ r_))))) ?_;refine re ?_;exact rs (by rw[Ar.ot h1 h3 (fun h=>h4 (by rw[Ar.jz (by rw[hr2,Ar.bT]:r2.p.sl=r.p.sl)];exact h.1))];exact⟨rfl,r2,_,rfl,rfl,hA2,(by rw[hr2,Ar.bT])⟩)
 refine re ?_;exact rs (by rw[Ar.MJ h1 h3];exact⟨rfl,r,_,rfl,rfl,hA,rfl⟩)
set_option maxHeartbeats 400000 in
theorem zT (A:Ar) (p:iH) (n:Nat) (ih:Bj A p n):Bj A p (n+1):=by
 intro c hd xb ba q hq r M hA hs b o a k Mo hO hlen;subst hq;refine cb fun X H₀ L₀=>?_;refine ca (kE ba r _ hA _) ?_;intro r2 N2 hA2 hr2;refine mc ?_;have ez:(r.p.load c).1=(A.load c).1:=Ar.lL hs c;have hs2:r2.p.sl=A.sl:=by rw[hr2,Ar.bT,hs]
 refine ca (ik ba r2 _ hA2 _) ?_;refine fi (fun h1=>?_) (fun h1=>?_);refine ca (JP xb ba q r2 _ hA2 _) ?_;rintro _ _ _ ⟨rfl,r3,N3,rfl,rfl,hA3,hr3⟩;refine al fun b1=>?_;refine dv 17 [0,1,2,3,4,5,6,7,8,9,10,12,13,111,14,115,116] (k_ (k_ (d_ (k_ (d_ r_))))) ?_;refine gf (JO ba r3 _ hA3 _) ?_;rintro _ _ _ ⟨u,rfl,rfl,rfl,hu⟩;refine mO fun b2=>?_;refine yI rfl (dk rfl underlying34 t104 rfl rfl hO (by simp) (i:=5) rfl rfl (news:=[ke (⟨false,0,0,0,u,(r2.p.fJ q.cF (r.p.load c).1).stat⟩:Nd)]) (by simp[ke]) (fc.loc (i:=0) rfl (m:=6) rfl) rfl rfl rfl (by omega) (by unfold maxLen;omega)) ?_;rintro _ _ _ ⟨a1,c1,M1,rfl,ow1,rfl,rfl⟩;refine sv 50 (.slice a1 (o++[(⟨false,0,0,0,u,(r2.p.fJ q.cF (r.p.load c).1).stat⟩:Nd)]).length c1) ?_ (e:=by simp);refine mc ?_;have hO1:bR 104 6 ((o++[(⟨false,0,0,0,u,(r2.p.fJ q.cF (r.p.load c).1).stat⟩:Nd)]).map ke) a1 c1 M1:=by simpa using ow1
 refine At.aJ (pO [(⟨false,0,0,0,u,(r2.p.fJ q.cF (r.p.load c).1).stat⟩:Nd)]) (fun _ h=>yJ (n:=(⟨false,0,0,0,u,(r2.p.fJ q.cF (r.p.load c).1).stat⟩:Nd)) h.1 wY) ?_;refine re ?_;exact rs (by rw[Ar.zR (p:=q.cF) (n:=n) (here:=o.length) (show A.kind (A.load c).1≠2 by rw[<-ez,<-Ar.jz hs2];exact h1)];exact⟨r3,_,[(⟨false,0,0,0,u,(r2.p.fJ q.cF (r.p.load c).1).stat⟩:Nd)],a1,c1,M1,rfl,rfl,rfl,hO1,by simp only[List.map_cons,List.map_nil,Nd.p,hu];rw[Ar.JM hs2,Ar.MI (hr3.trans hs2),ez],hA3,hr3.trans hs2⟩);refine mc ?_;have hk2:A.kind (A.load c).1=2:=by rw[<-ez,<-Ar.jz hs2];omega
 have er:r2.p.aj (r.p.load c).1=A.aj (A.load c).1:=by rw[Ar.G8 hs2,ez]
 obtain⟨hdl,hdr⟩:=hd hk2;have hL:=Ar.zS (p:=q.cF) (n:=n) (here:=o.length) hk2;rw[<-er]at hdl hdr hL;rw[hL]at hlen⊢;simp only[List.length_cons,List.length_append]at hlen;refine ca (ir xb ba q r2 _ hA2 _) ?_;refine al fun b3=>?_;refine mc ?_;refine At.aJ (aC ⟨none,0,[]⟩) (fun _ h=>dh _ _ _ (Nat.zero_le _)) ?_;refine dw 10 [8,9] (k_ (k_ (k_ (k_ (d_ r_))))) ?_;refine mO fun b4=>?_;refine yI rfl (dk rfl underlying34 t104 rfl rfl hO (by simp) (i:=5) rfl rfl (news:=[ke (⟨true,(r2.p.aj (r.p.load c).1).key,0,0,⟨none,0,[]⟩,0⟩:Nd)]) (by simp[ke]) (fc.loc (i:=0) rfl (m:=6) rfl) rfl rfl rfl (by omega) (by unfold maxLen;omega)) ?_;rintro _ _ _ ⟨a1,c1,M1,rfl,ow1,rfl,rfl⟩;refine sv 66 (.slice a1 (o++[(⟨true,(r2.p.aj (r.p.load c).1).key,0,0,⟨none,0,[]⟩,0⟩:Nd)]).length c1) ?_ (e:=by simp);refine mc ?_;have hO1:bR 104 6 ((o++[(⟨true,(r2.p.aj (r.p.load c).1).key,0,0,⟨none,0,[]⟩,0⟩:Nd)]).map ke) a1 c1 M1:=by simpa using ow1
 refine ca (ih (r2.p.aj (r.p.load c).1).left hdl xb ba q rfl r2 _ hA2 hs2 b (o++[(⟨true,(r2.p.aj (r.p.load c).1).key,0,0,⟨none,0,[]⟩,0⟩:Nd)]) a1 c1 _ hO1 (by simp only[List.length_append,List.length_singleton];omega)) ?_;rintro _ _ _ ⟨r3,N3,o1,a2,c2,M2,rfl,rfl,rfl,hO3,he1,hA3,hs3⟩;refine mc ?_;have hl1:o1.length=(A.iN q.cF n (r2.p.aj (r.p.load c).1).left (o.length+1)).length:=by have:=congrArg List.length he1;simpa using this
 have hO4:bR 104 6 ((o++(⟨true,(r2.p.aj (r.p.load c).1).key,0,0,⟨none,0,[]⟩,0⟩:Nd)::o1).map ke) a2 c2 M2:=by simpa using hO3
 refine At.front 2 rfl ?_;refine At.piece (B:=qT b a2 (o++(⟨true,(r2.p.aj (r.p.load c).1).key,0,0,⟨none,0,[]⟩,0⟩:Nd)::o1).length c2) (by simp[qT]) ?_;refine ca (ih (r2.p.aj (r.p.load c).1).right hdr xb ba q rfl r3 _ hA3 hs3 b (o++(⟨true,(r2.p.aj (r.p.load c).1).key,0,0,⟨none,0,[]⟩,0⟩:Nd)::o1) a2 c2 _ hO4 (by simp only[List.length_append,List.length_cons];rw[show o.length+(o1.length+1)=o.length+1+o1.length by omega,hl1];omega)) ?_;rintro _ _ _ ⟨r4,N4,o2,a3,c3,M3,rfl,rfl,rfl,hO6,he2,hA4,hs4⟩;refine mc ?_;have hO7:bR 104 6 ((o++(⟨true,(r2.p.aj (r.p.load c).1).key,0,0,⟨none,0,[]⟩,0⟩:Nd)::(o1++o2)).map ke) a3 c3 M3:=by simpa using hO6
 refine dw 15 [14] (k_ (k_ (k_ (d_ (k_ (k_ r_)))))) ?_;refine mc ?_;refine aQ.quiet rfl (cA underlying34 t104 rfl hO7 (by simp) rfl rfl (by simp)) rfl (Calm.then bG.calm) ?_;refine mc ?_;refine yn rfl (oX t3 rfl rfl hO7 (i:=3) rfl (BL o (o1++o2) _) rfl rfl rfl) ?_;rintro _ _ _ ⟨Mow1,ow1,rfl,rfl⟩;refine mc ?_;have hO8:bR 104 6 ((o++(⟨true,(r2.p.aj (r.p.load c).1).key,(((o++[(⟨true,(r2.p.aj (r.p.load c).1).key,0,0,⟨none,0,[]⟩,0⟩:Nd)]).length:Nat):Int),0,⟨none,0,[]⟩,0⟩:Nd)::(o1++o2)).map ke) a3 c3 Mow1:=by rw[<-BM o (o1++o2) (⟨true,(r2.p.aj (r.p.load c).1).key,0,0,⟨none,0,[]⟩,0⟩:Nd)];exact ow1
 refine qt (cA underlying34 t104 rfl hO8 (by simp) rfl rfl (by simp)) ?_;refine mc ?_;refine At.bC (oX t3 rfl rfl hO8 (i:=3) rfl (BL o (o1++o2) _) rfl rfl rfl) ?_;rintro _ _ _ ⟨Mow2,ow2,rfl,rfl⟩;refine mc ?_;have hO9:bR 104 6 ((o++(⟨true,(r2.p.aj (r.p.load c).1).key,(((o++[(⟨true,(r2.p.aj (r.p.load c).1).key,0,0,⟨none,0,[]⟩,0⟩:Nd)]).length:Nat):Int),(((o++(⟨true,(r2.p.aj (r.p.load c).1).key,0,0,⟨none,0,[]⟩,0⟩:Nd)::o1).length:Nat):Int),⟨none,0,[]⟩,0⟩:Nd)::(o1++o2)).map ke) a3 c3 Mow2:=by rw[<-BM o (o1++o2) (⟨true,(r2.p.aj (r.p.load c).1).key,(((o++[(⟨true,(r2.p.aj (r.p.load c).1).key,0,0,⟨none,0,[]⟩,0⟩:Nd)]).length:Nat):Int),0,⟨none,0,[]⟩,0⟩:Nd)];exact ow2
 refine At.aJ (pO ((⟨true,(r2.p.aj (r.p.load c).1).key,(((o++[(⟨true,(r2.p.aj (r.p.load c).1).key,0,0,⟨none,0,[]⟩,0⟩:Nd)]).length:Nat):Int),(((o++(⟨true,(r2.p.aj (r.p.load c).1).key,0,0,⟨none,0,[]⟩,0⟩:Nd)::o1).length:Nat):Int),⟨none,0,[]⟩,0⟩:Nd)::(o1++o2))) (fun _ h=>yJ (n:=(⟨true,(r2.p.aj (r.p.load c).1).key,(((o++[(⟨true,(r2.p.aj (r.p.load c).1).key,0,0,⟨none,0,[]⟩,0⟩:Nd)]).length:Nat):Int),(((o++(⟨true,(r2.p.aj (r.p.load c).1).key,0,0,⟨none,0,[]⟩,0⟩:Nd)::o1).length:Nat):Int),⟨none,0,[]⟩,0⟩:Nd)) h.2.2.2.2.1 (It h.2.2.2.1 h.2.1)) ?_;refine mc ?_;refine At.front 3 rfl ?_;refine At.front 3 rfl ?_;refine At.front 3 rfl ?_;refine At.front 3 rfl ?_;exact At.results (Γr:=[_,_]) (M:=[_,_,qT b a3 ((o++(⟨true,(r2.p.aj (r.p.load c).1).key,0,0,⟨none,0,[]⟩,0⟩:Nd)::o1)++o2).length c3,_]) rfl (aT.cons (dU.tmp rfl) aT.nil) (ix 7 rfl) (fun _ h=>⟨h.2.1,h.1,trivial⟩) (k_ (k_ (k_ (k_ (d_ (d_ r_)))))) (Bk (n:=(⟨true,(r2.p.aj (r.p.load c).1).key,(((o++[(⟨true,(r2.p.aj (r.p.load c).1).key,0,0,⟨none,0,[]⟩,0⟩:Nd)]).length:Nat):Int),(((o++(⟨true,(r2.p.aj (r.p.load c).1).key,0,0,⟨none,0,[]⟩,0⟩:Nd)::o1).length:Nat):Int),⟨none,0,[]⟩,0⟩:Nd)) hO9 (by simp[Nat.add_comm,Nat.add_left_comm,Nat.add_assoc]) (by rw[he1];simp) (by rw[he2];simp only[List.length_append,List.length_cons];rw[show o.length+(o1.length+1)=o.length+1+o1.length by omega,hl1]) (by simp[Nd.p,hl1,Nat.add_comm,Nat.add_left_comm,Nat.add_assoc]) hA4 hs4)
theorem Hc (A:Ar) (p:iH):∀n,Bj A p n
 |0=>fun _ h=>False.elim h
 |n+1=>zT A p n (Hc A p n)
end Go.Proofs.YtcnohdmimheoaaaGreat
namespace Go.Proofs.YtcnohdmimheoaaaGreat
open E Go.Proofs.Tryz
def JQ (f:Nat->Nat->Nat) (n:Nat):Nat:=(List.range n).foldl f 0
theorem DU {f:Nat->Nat->Nat} {n:Nat}:JQ f (n+1)=f (JQ f n) n:=by
 unfold JQ;rw[List.range_succ,List.foldl_append];rfl
def PM (l:List Pr) (t i:Nat):Nat:=if bh (l.getD i default).k (l.getD t default).k=true then i else t
def cq (l:List Pr) (n:Nat):Nat:=JQ (PM l) n
section
variable {l:List Pr} {n:Nat}
include l n
theorem uV:cq l (n+1)=PM l (cq l n) n:=DU
theorem rA (h:bh (l.getD n default).k (l.getD (cq l n) default).k=true):cq l (n+1)=n:=by rw[uV];exact if_pos h
theorem uW (h:bh (l.getD n default).k (l.getD (cq l n) default).k=false):cq l (n+1)=cq l n:=by rw[uV];exact if_neg (by rw[h];simp)
end
theorem qy {l:List Pr} (h:0<l.length):∀n,n<=l.length->cq l n<l.length
 |0,_=>h
 |n+1,hn=>by
  cases e:bh (l.getD n default).k (l.getD (cq l n) default).k
  rw[uW e];exact qy h n (by omega);rw[rA e];omega
namespace Ar
def dC:Nat->Ar->List Pr->Int×Int×Ar
 |0,A,_=>(0,0,A)
 |n+1,A,l=>
  if l.length=0 then(0,0,A)
  else
   let(left,e,B):=dC n A (l.take (cq l l.length))
   if e≠0 then(0,e,B)
   else
    let(right,e2,C):=dC n B (l.drop (cq l l.length+1))
    if e2≠0 then(0,e2,C)else C.mkNode (l.getD (cq l l.length) default) left right
def new (cells:Int):Ar:=⟨min (max cells 0) 60000,[],0⟩
theorem Cs {A:Ar} {l:List Pr} {n:Nat} (h:l.length=0):dC (n+1) A l=(0,0,A):=by
 conv=>lhs;unfold dC
 rw[if_pos h]
def zU (n:Nat) (A:Ar) (l:List Pr):=dC n A (l.take (cq l l.length))
def Ct (n:Nat) (A:Ar) (l:List Pr):=dC n (zU n A l).2.2 (l.drop (cq l l.length+1))
section
variable {A:Ar} {l:List Pr} {n:Nat} (h:¬l.length=0)
include A l n h
theorem Le:dC (n+1) A l=(let(left,e,B):=zU n A l;if e≠0 then(0,e,B)else(let(right,e2,C):=dC n B (l.drop (cq l l.length+1));if e2≠0 then(0,e2,C)else C.mkNode (l.getD (cq l l.length) default) left right)):=by
 conv=>lhs;unfold dC
 rw[if_neg h];rfl
theorem Cu (h2:(zU n A l).2.1≠0):dC (n+1) A l=(0,(zU n A l).2.1,(zU n A l).2.2):=by
 rw[Le h];generalize zU n A l=q at h2⊢;rcases q with⟨a,b,c⟩;exact if_pos h2
theorem Lf (h2:¬(zU n A l).2.1≠0):dC (n+1) A l=(let(right,e2,C):=Ct n A l;if e2≠0 then(0,e2,C)else C.mkNode (l.getD (cq l l.length) default) (zU n A l).1 right):=by
 rw[Le h];unfold Ct;generalize zU n A l=q at h2⊢;rcases q with⟨a,b,c⟩;exact if_neg h2
theorem Cw (h2:¬(zU n A l).2.1≠0) (h3:(Ct n A l).2.1≠0):dC (n+1) A l=(0,(Ct n A l).2.1,(Ct n A l).2.2):=by
 rw[Lf h h2];generalize Ct n A l=q at h3⊢;rcases q with⟨a,b,c⟩;exact if_pos h3
theorem Cy (h2:¬(zU n A l).2.1≠0) (h3:¬(Ct n A l).2.1≠0):dC (n+1) A l=(Ct n A l).2.2.mkNode (l.getD (cq l l.length) default) (zU n A l).1 (Ct n A l).1:=by
 rw[Lf h h2];generalize Ct n A l=q at h3⊢;rcases q with⟨a,b,c⟩;exact if_neg h3
end
def PN (cells:Int) (l:List Pr):Int×Int×Ar:=
 let(t,e,B):=dC (l.length+1) (new cells) l
 if e≠0 then(0,e,B)else((cellOf B t).1,(cellOf B t).2.2.1,(cellOf B t).2.2.2)
end Ar
abbrev Bl (n:Nat):Prop:=∀(ba:Nat) (r:cX) (M:aO) (hA:aR ba r M) (l:Sl Pr),l.l.length<n->l.l.length<=1000000->aN prog 122 [.pointer (some ⟨ba,0,none⟩),l.val] [ak r.rows,aC l] [M] (gL ba (Ar.dC n r.p l.l).2.2 (.tuple #[.int .i64 (Ar.dC n r.p l.l).1,.int .i64 (Ar.dC n r.p l.l).2.1]))
def H8:Th:=⟨false,⟨0,0,0,0⟩,0,false,none,false,.zero⟩
def Bm (xb:Nat) (l:List Nat):aO:=l.flatMap fun tb=>aE tb xb H8 .nilFunc ⟨none,0,[]⟩
def zV (tb:Nat):List Value:=[ptr tb]
theorem DV {xb tb:Nat} {l:List Nat}:Bm xb l++aE tb xb H8 .nilFunc ⟨none,0,[]⟩=Bm xb (l++[tb]):=by simp[Bm]
def PO (xb ba:Nat) (q:Ix) (A:Ar) (n:Nat) (v:Value) (Γ:List ag) (M':E.Loc):Prop:=
 ∃(u:Tr) (r':cX) (N Mo:aO),v=u.val/\Γ=[ak r'.rows,pO u.ns.l]/\M'=[ao xb ba q,N,Mo]/\bR 104 6 (u.ns.l.map ke) u.ns.a u.ns.c Mo/\u.p=⟨0,A.iN q.cF n q.root 0⟩/\aR ba r' N/\r'.p.sl=A.sl
end Go.Proofs.YtcnohdmimheoaaaGreat
namespace Go.Proofs.YtcnohdmimheoaaaGreat
open E Ar Go.Proofs.Tryz
theorem MK (xb ba:Nat) (q:Ix) (r:cX) (M:aO) (hA:aR ba r M) (n:Nat) (hd:r.p.si n q.root) (hlen:(r.p.iN q.cF n q.root 0).length<=1000000):aN prog 81 [.pointer (some ⟨xb,0,none⟩)] [ak r.rows] [ao xb ba q,M] (PO xb ba q r.p n):=by
 refine cb fun X H₀ L₀=>?_;refine At.ck ?_;refine al fun b1=>?_;refine al fun b2=>?_;refine ca (Hc r.p q.cF n q.root hd xb ba q rfl r _ hA rfl b2 [] none 0 [] (bR.nil _ _) (by simpa using hlen)) ?_;rintro _ _ _ ⟨r2,N2,o1,a1,c1,M1,rfl,rfl,rfl,hO1,he1,hA2,hr2⟩;refine re ?_;exact rs ⟨⟨0,⟨a1,c1,[]++o1⟩⟩,r2,_,M1,rfl,rfl,rfl,hO1,congrArg (PT.mk 0) he1,hA2,hr2⟩
theorem Hd (cells:Int):aN prog 121 [.int .i64 cells] [] [] (fun v Γ M'=>∃b,v=ptr b/\Γ=[]/\M'=[m0 b ⟨min (max cells 0) 60000,[],0,none,0⟩]):=by
 refine cb fun X H₀ L₀=>?_;refine mc ?_;refine qt (pH rfl rfl) ?_;refine qt (rR rfl rfl) ?_;refine al fun b1=>?_;refine re ?_;exact rs ⟨_,rfl,rfl,rfl⟩
theorem vD (n:Nat) (ih:Bl n):Bl (n+1):=by
 intro ba r M hA l hl hbig;refine cb fun X H₀ L₀=>?_;refine fi (fun hn=>?_) (fun hn=>?_);refine re ?_;exact rs (by rw[Ar.Cs (by omega)];exact⟨rfl,r,_,rfl,rfl,hA,rfl⟩);refine mc ?_;refine At.dP (ι:=Nat) [6,7,8,17,18,19,20,21,22,23,24,25,26,27,28,29,30,31] (fun i=>[(17,.int .i64 (i:Int)),(6,.int .i64 (cq l.l i:Int))]) (fun i=>[]) (fun i=>[]) _ (fun i=>i<=l.l.length) (fun i=>l.l.length-i) 0 (Nat.zero_le _) ⟨rfl,rfl,trivial⟩ (fun _ _=>trivial) r_ ?_;intro i hI;refine fi (fun hi=>?_) (fun hi=>?_);obtain⟨x,hx⟩:=aD (l:=l.l) (i:=i) (by omega);obtain⟨y,hy⟩:=aD (l:=l.l) (i:=cq l.l i) (qy (by omega) i (by omega));have ex:l.l.getD i default=x:=by rw[List.getD_eq_getElem?_getD,hx];rfl
 have ey:l.l.getD (cq l.l i) default=y:=by rw[List.getD_eq_getElem?_getD,hy];rfl
 refine mc ?_;refine qt (bD underlying24 t43 rfl (.tail _ (.tail _ (.head _))) (by simp) rfl rfl (ae hx)) ?_;refine qt (bU t43 rfl (fc.kK (.tail _ (.tail _ (.head _))) (aI hx)) rfl) ?_;refine al fun b1=>?_;refine dw 7 [] r_ ?_;refine mc ?_;refine aQ.quiet rfl (bD underlying24 t43 rfl (ix 2 rfl) (by simp) rfl rfl (ae hy)) rfl (Calm.then (Calm.inBlock (Calm.then (Calm.then (Calm.inBlock (Calm.then bG.calm)))))) ?_;refine mc ?_;refine aQ.quiet rfl (aY t3 rfl (Rd.sl (ix 2 rfl) (aI hy) rfl)) rfl (Calm.then (Calm.inBlock (Calm.then (Calm.then (Calm.inBlock (Calm.then bG.calm)))))) ?_;refine ca (p6 _ _) ?_;refine cv (fun ha=>?_) (fun ha=>?_);refine sv 6 (.int .i64 (cq l.l (i+1):Int)) ?_ (e:=by rw[rA (by rw[ex,ey];exact ha)]);refine mc ?_;exact At.bX (i+1) (by omega) (by(try dsimp only);omega) (bc.end 21 ⟨rfl,rfl,trivial⟩ rfl rfl) (fun _ h=>h) (d_ r_);refine mc ?_;refine At.fZ 6 (.int .i64 (cq l.l (i+1):Int)) rfl (by rw[uW (by rw[ex,ey];exact ha)]) ?_;refine mc ?_;exact At.bX (i+1) (by omega) (by(try dsimp only);omega) (bc.end 19 ⟨rfl,rfl,trivial⟩ rfl rfl) (fun _ h=>h) (d_ r_);obtain rfl:i=l.l.length:=by omega
 have htl:=qy (l:=l.l) (by omega) l.l.length (Nat.le_refl _);refine At.mS (hs:=(ix 2 rfl)) fun hcap=>?_;rw[List.length_map]at hcap;refine At.aJ (aC (⟨bQ l.a l.c 2 0,l.c,l.l.take (cq l.l l.l.length)⟩:Sl Pr)) (fun _ h=>lg h.2.2.1 (Nat.le_of_lt htl)) ?_;refine At.aJ (aC (⟨bQ l.a l.c 2 ((cq l.l l.l.length)+1),l.c-((cq l.l l.l.length)+1),l.l.drop ((cq l.l l.l.length)+1)⟩:Sl Pr)) (fun _ h=>mX h.2.2.2.1 htl) ?_;refine mc ?_;refine qt (dj underlying24 t43 rfl rfl rfl (by omega)) ?_;refine sv 36 (Sl.val (⟨bQ l.a l.c 2 0,l.c,l.l.take (cq l.l l.l.length)⟩:Sl Pr)) ?_ (e:=by exact(lj (Nat.le_of_lt htl)).symm);refine ca (ih ba r _ hA (⟨bQ l.a l.c 2 0,l.c,l.l.take (cq l.l l.l.length)⟩:Sl Pr) (by simp;omega) (by simp;omega)) ?_;intro r2 N2 hA2 hr2;refine mc ?_;have e1:Ar.dC n r.p (⟨bQ l.a l.c 2 0,l.c,l.l.take (cq l.l l.l.length)⟩:Sl Pr).l=Ar.zU n r.p l.l:=rfl;rw[e1]at hr2;rw[e1];refine fi (fun h2=>?_) (fun h2=>?_);refine re ?_;exact rs (by rw[Ar.Cu (by omega) h2];dsimp only[sy];rw[<-hr2];exact⟨rfl,r2,_,rfl,rfl,hA2,rfl⟩);refine sv 47 (.int .i64 (((cq l.l l.l.length)+1:Nat):Int)) ?_ (e:=by rw[Int.natCast_add];rfl);refine qt (ga underlying24 t43 rfl rfl rfl (by omega)) ?_;refine sv 48 (Sl.val (⟨bQ l.a l.c 2 ((cq l.l l.l.length)+1),l.c-((cq l.l l.l.length)+1),l.l.drop ((cq l.l l.l.length)+1)⟩:Sl Pr)) ?_ (e:=by exact mY.symm);refine ca (ih ba r2 _ hA2 (⟨bQ l.a l.c 2 ((cq l.l l.l.length)+1),l.c-((cq l.l l.l.length)+1),l.l.drop ((cq l.l l.l.length)+1)⟩:Sl Pr) (by simp;omega) (by simp;omega)) ?_;intro r3 N3 hA3 hr3;refine mc ?_;have e2:Ar.dC n r2.p (⟨bQ l.a l.c 2 ((cq l.l l.l.length)+1),l.c-((cq l.l l.l.length)+1),l.l.drop ((cq l.l l.l.length)+1)⟩:Sl Pr).l=Ar.Ct n r.p l.l:=by rw[hr2];rfl
 rw[e2]at hr3;rw[e2];refine fi (fun h3=>?_) (fun h3=>?_);refine re ?_;exact rs (by rw[Ar.Cw (by omega) h2 h3];dsimp only[sy];rw[<-hr3];exact⟨rfl,r3,_,rfl,rfl,hA3,rfl⟩);refine mc ?_;obtain⟨x,hx⟩:=aD (l:=l.l) (i:=cq l.l l.l.length) htl;have ex:l.l.getD (cq l.l l.l.length) default=x:=by rw[List.getD_eq_getElem?_getD,hx];rfl
 refine qt (bD underlying24 t43 rfl (.tail _ (.tail _ (.tail _ (.tail _ (.tail _ (.tail _ (.head _))))))) (by simp) rfl rfl (ae hx)) ?_;refine qt (bU t43 rfl (fc.kK (.tail _ (.tail _ (.tail _ (.tail _ (.tail _ (.tail _ (.head _))))))) (aI hx)) rfl) ?_;refine ca (jq ba r3 _ hA3 x _ _) ?_;intro r4 N4 hA4 hr4;refine re ?_;exact rs (by rw[(show(Ar.dC (n+1) r.p l.l)=r3.p.mkNode x (Ar.zU n r.p l.l).1 (Ar.Ct n r.p l.l).1 from by rw[hr3,<-ex];exact Ar.Cy (by omega) h2 h3),<-hr4];exact⟨rfl,r4,_,rfl,rfl,hA4,rfl⟩)
theorem zW:∀n,Bl n
 |0=>fun _ _ _ _ _ h=>absurd h (Nat.not_lt_zero _)
 |n+1=>vD n (zW n)
end Go.Proofs.YtcnohdmimheoaaaGreat
namespace Go.Proofs.YtcnohdmimheoaaaGreat
open E Go.Proofs.Tryz
def fG (cells:Int) (l:List Pr):Int×Int×Ar:=if cells<300+20*(l.length:Int)then(0,2,Ar.new cells)else Ar.PN cells l
def x6 (cells:Int):cX:=⟨min (max cells 0) 60000,[],0,none,0⟩
theorem He (ba:Nat) (cells:Int):aR ba (x6 cells) (m0 ba (x6 cells)++([]++[])):=
 ⟨fun _ _ h=>(by cases h),⟨by simp[x6];omega,by simp[x6];omega⟩,[],bR.nil _ _,rfl⟩
theorem Hf (ba:Nat) (cells:Int):m0 ba (x6 cells)=m0 ba (x6 cells)++([]++[]):=by simp
theorem zX {cells:Int} {l:List Pr} (h:cells<300+20*(l.length:Int)):fG cells l=(0,2,Ar.new cells):=if_pos h
def nb (cells:Int) (l:List Pr):=Ar.dC (l.length+1) (Ar.new cells) l
section
variable {cells:Int} {l:List Pr} (h:¬cells<300+20*(l.length:Int))
include cells l h
theorem Hg:fG cells l=(let(t,e,B):=nb cells l;if e≠0 then(0,e,B)else((cellOf B t).1,(cellOf B t).2.2.1,(cellOf B t).2.2.2)):=by
 unfold fG;rw[if_neg h];rfl
theorem JR (h2:(nb cells l).2.1≠0):fG cells l=(0,(nb cells l).2.1,(nb cells l).2.2):=by
 rw[Hg h];generalize nb cells l=q at h2⊢;rcases q with⟨a,b,c⟩;exact if_pos h2
theorem nL (h2:¬(nb cells l).2.1≠0):fG cells l=((cellOf (nb cells l).2.2 (nb cells l).1).1,(cellOf (nb cells l).2.2 (nb cells l).1).2.2.1,(cellOf (nb cells l).2.2 (nb cells l).1).2.2.2):=by
 rw[Hg h];generalize nb cells l=q at h2⊢;rcases q with⟨a,b,c⟩;exact if_neg h2
end
def JS (p:iH):Ix:=⟨p.cp,0,none,0,0,0,none,0,[],0,0,0⟩
def Vp (nt:Nat) (p:iH) (x:Int×Int×Ar) (v:Value) (Γ:List ag) (M':E.Loc):Prop:=
 (x.2.1≠0/\v= .tuple #[.pointer none,.int .i64 x.2.1]/\Γ=[]/\M'=[])\/
 (x.2.1=0/\∃(xb ba:Nat) (ta:Option Addr) (tc:Nat) (r:cX) (N:aO) (tbs:List Nat),v= .tuple #[ptr xb,.int .i64 0]/\Γ=[ak r.rows,sl ta tc 1 (tbs.map zV)]/\
  M'=[ao xb ba {JS p with root:=x.1,ta:=ta,tn:=tbs.length,tc:=tc},N,Bm xb tbs]/\aR ba r N/\r.p=x.2.2/\tbs.length=nt)
end Go.Proofs.YtcnohdmimheoaaaGreat
namespace Go.Proofs.YtcnohdmimheoaaaGreat
open E Ar Go.Proofs.Tryz
theorem Hh (nt:Nat) (hn1:1<=nt) (hn2:nt<=6) (cells:Int) (hc0:0<=cells) (hc1:cells<=60000) (p:iH) (l:Sl Pr) (hl:l.l.length<=60000) (hr:dV l.l=true):aN prog 103 [.int .i64 (nt:Int),.int .i64 cells,p.val,l.val] [aC l] [] (Vp nt p (fG cells l.l)):=by
 refine cb fun X H₀ L₀=>?_;refine bx fun b1=>?_;refine sv 15 (.bool false) ?_ (e:=by exact congrArg Value.bool (decide_eq_false (by omega)));refine sv 19 (.bool false) ?_ (e:=by exact congrArg Value.bool (decide_eq_false (by omega)));refine sv 23 (.bool false) ?_ (e:=by exact congrArg Value.bool (decide_eq_false (by omega)));refine sv 27 (.bool false) ?_ (e:=by exact congrArg Value.bool (decide_eq_false (by omega)));refine ca (Fg l) ?_;refine sv 31 (.bool false) ?_ (e:=by exact congrArg Value.bool (by simp[hr]));refine sv 35 (.bool false) ?_ (e:=by exact congrArg Value.bool (decide_eq_false (by omega)));refine mc ?_;refine qt (Ny rfl rfl (by omega) (by omega)) ?_;refine fi (fun h1=>?_) (fun h1=>?_);refine re ?_;exact rs (.inl (by rw[zX h1];exact⟨by simp,rfl,rfl,rfl⟩));refine dv 3 [0,2,101] r_ ?_;refine oA (Hd cells) ?_;rintro _ _ _ ⟨ab,rfl,rfl,rfl⟩;refine ca (m9 p) ?_;refine al fun b2=>?_;refine mc ?_;refine At.piece (B:=ao b2 ab (JS p)) rfl ?_;refine At.front 1 rfl ?_;refine At.piece (Hf ab cells) ?_;have hA0:=He ab cells;refine At.aJ (ak (x6 cells).rows) (fun _ _=>fun _ _ h=>(by cases h)) ?_;refine ca (zW (l.l.length+1) ab (x6 cells) _ hA0 l (Nat.lt_succ_self _) (by omega)) ?_;intro r2 N2 hA2 hr2;refine mc ?_;have e1:Ar.dC (l.l.length+1) (x6 cells).p l.l=(nb cells l.l):=rfl;rw[e1]at hr2;rw[e1];refine fi (fun h2=>?_) (fun h2=>?_);refine re ?_;exact rs (.inl (by rw[JR h1 h2];exact⟨h2,rfl,rfl,rfl⟩));refine ca (rh b2 ab (JS p) r2 _ hA2 (nb cells l.l).1) ?_;intro r3 N3 hA3 hr3;refine mc ?_;rw[hr2]at hr3;rw[hr2];refine mc ?_;refine At.piece (B:=ao b2 ab {JS p with root:=(cellOf (nb cells l.l).2.2 (nb cells l.l).1).1,ta:=none,tn:=0,tc:=0}) rfl ?_;refine fi (fun h3=>?_) (fun h3=>?_);refine re ?_;exact rs (.inl (by rw[nL h1 h2];exact⟨h3,rfl,rfl,rfl⟩));refine At.ck ?_;refine At.ck ?_;refine mc ?_;refine At.front 0 rfl ?_;refine At.front 1 rfl ?_;refine At.front 2 rfl ?_;refine At.dP (ι:=List Nat×Option Addr×Nat×aO) [75,76,77,78,79,80,81,82,83,84,85,86,87,88,89] (fun⟨tbs,ta,tc,Mt⟩=>[(75,.int .i64 (tbs.length:Int))]) (fun⟨tbs,ta,tc,Mt⟩=>[]) (fun⟨tbs,ta,tc,Mt⟩=>[ao b2 ab {JS p with root:=(cellOf (nb cells l.l).2.2 (nb cells l.l).1).1,ta:=ta,tn:=(tbs).length,tc:=tc},Mt,Bm b2 tbs]) _ (fun⟨tbs,ta,tc,Mt⟩=>tbs.length<=nt/\bR 146 1 (tbs.map zV) ta tc Mt) (fun⟨tbs,ta,tc,Mt⟩=>nt-tbs.length) ([],none,0,[]) ⟨Nat.zero_le _,bR.nil _ _⟩ ⟨rfl,trivial⟩ (fun _ _=>trivial) (k_ (k_ (k_ r_))) ?_;intro st hI;obtain⟨tbs,ta,tc,Mt⟩:=st;refine fi (fun hi=>?_) (fun hi=>?_);refine sG 81 (.slice ta tbs.length tc) ?_;refine al fun b3=>?_;refine al fun b4=>?_;refine lM (dk rfl underlying151 t146 rfl rfl hI.2 (by simp) (i:=3) rfl rfl (news:=[zV b3]) (by simp[zV]) (fc.loc (i:=0) rfl (m:=1) rfl) rfl rfl rfl (by omega) (by unfold maxLen;omega)) ?_
 rintro _ _ _ ⟨ta2,tc2,Mt2,rfl,ow,rfl,rfl⟩;refine sv 86 (.slice ta2 (tbs++[b3]).length tc2) ?_ (e:=by simp);refine mc ?_;refine At.front 2 rfl ?_;refine At.piece (B:=ao b2 ab {JS p with root:=(cellOf (nb cells l.l).2.2 (nb cells l.l).1).1,ta:=ta2,tn:=(tbs++[b3]).length,tc:=tc2}) rfl ?_;refine At.front 2 rfl ?_;refine At.piece (B:=aE b3 b2 H8 .nilFunc ⟨none,0,[]⟩) rfl ?_;refine At.front 0 rfl ?_;refine At.front 4 rfl ?_;refine At.cH ?_;refine At.piece DV ?_;refine sv 75 (.int .i64 ((tbs++[b3]).length:Int)) ?_ (e:=by simp);refine At.front 0 rfl ?_;refine At.front 3 rfl ?_;refine At.front 2 rfl ?_;refine mc ?_;exact At.bX (tbs++[b3],ta2,tc2,Mt2) ⟨by simp only[List.length_append,List.length_singleton];omega,by simpa using ow⟩ (by simp only[List.length_append,List.length_singleton];omega) (bc.end 19 ⟨rfl,trivial⟩ rfl rfl) (fun _ h=>h) (k_ (k_ (k_ (d_ r_))));refine At.da 1 hI.2 rfl ?_;refine re ?_;exact rs (.inr ⟨by rw[nL h1 h2];exact Decidable.not_not.1 h3,b2,ab,ta,tc,r3,_,tbs,rfl,rfl,by rw[nL h1 h2],hA3,by rw[nL h1 h2];exact hr3,by omega⟩)
end Go.Proofs.YtcnohdmimheoaaaGreat
namespace Go.Proofs.YtcnohdmimheoaaaGreat
open E Go.Proofs.Tryz
structure Wd where
 zY:List Th
 ar:Ar
 cF:iH
 root:Int
 ord:List Int
 splits:Int
 aA:Int
 calls:Int
 steps:Int
namespace Wd
def sy (w:Wd) (th:Th):Sy:=⟨th,w.ar,w.cF,w.root,w.ord,w.splits,w.aA⟩
def put (w:Wd) (i:Nat) (s:Sy):Wd:={w with zY:=w.zY.set i s.th,ar:=s.ar,cF:=s.cF,root:=s.root,ord:=s.ord,splits:=s.splits,aA:=s.aA}
end Wd
def Sy.iQ (s:Sy):Sy:=match s.th.next with
 |some n=>({s with th:={s.th with next:=none}}:Sy).runN n
 |none=>s
def Th.calls (t:Th) (o:bA) (c:Int):Th:=⟨true,o,c,false,none,t.iR,t.cR⟩
namespace Wd
def step (w:Wd) (i:Nat) (t:Th):Wd:={w.put i (w.sy t).iQ with steps:=inc w.steps}
def call (w:Wd) (i:Nat) (t:Th) (o:bA):Wd:={w.put i (w.sy (t.calls o w.calls)).dB with calls:=inc w.calls}
end Wd
structure oG where
 tb:Nat
 th:Th
 nv:Value
 sl:Sl Pr
 l:Ax
 pc:aO
def oG.Ej (xb:Nat) (t:oG):aO:=aE t.tb xb t.th t.nv t.sl++t.pc
def oG.ok (t:oG):Prop:=K4 t.th.next t.l t.pc/\t.sl.l=t.th.cR.l
def fB (xb:Nat) (l:List oG):aO:=l.flatMap (oG.Ej xb)
def kt (t:oG):List Value:=[ptr t.tb]
def qz (l:List oG):ag:=⟨fun H=>∀t∈l,(jX t.tb t.th.next t.l t.nv).holds H/\(aC t.sl).holds H,fun _ _ h k t ht=>⟨(jX t.tb t.th.next t.l t.nv).mono _ _ h (k t ht).1,(aC t.sl).mono _ _ h (k t ht).2⟩⟩
theorem ou {xb:Nat} {l:List oG} {i:Nat} {t:oG} (h:l[i]? =some t):∃S T:aO,fB xb l=S++(t.Ej xb++T)/\∀u,fB xb (l.set i u)=S++(u.Ej xb++T):=by
 obtain⟨hi,he⟩:=List.getElem?_eq_some_iff.1 h;refine⟨fB xb (l.take i),fB xb (l.drop (i+1)),?_,fun u=>?_⟩;have e:l=l.take i++l[i]::l.drop (i+1):=by rw[List.getElem_cons_drop,List.take_append_drop]
 rw[he]at e
 conv=>lhs;rw[e]
 simp[fB];rw[List.set_eq_take_append_cons_drop,if_pos hi];simp[fB]
def nM (xb ba:Nat) (w:Wd) (q:Ix) (r:cX) (tl:List oG) (M:aO):Prop:=
 ∃No Na:aO,M=ao xb ba q++(No++(Na++fB xb tl))/\bR 3 1 (q.ord.map aM) q.oa q.oc No/\aR ba r Na/\(∀t∈tl,t.ok)/\q.tn=tl.length/\
  w=⟨tl.map (·.th),r.p,q.cF,q.root,q.ord,q.splits,q.aA,q.calls,q.steps⟩
def wF (q:Ix) (r:cX) (tl:List oG):List ag:=[ak r.rows,qz tl,sl q.ta q.tc 1 (tl.map kt)]
def ML (xb ba:Nat) (w:Wd) (Γ:List ag) (M':E.Loc):Prop:=∃q r tl M,nM xb ba w q r tl M/\Γ=wF q r tl/\M'=[M]
section
variable {xb ba:Nat} {w:Wd} {q:Ix} {r:cX} {tl:List oG} {M:aO} {i:Nat} {t:oG}
theorem tg {α:Type} (a b c d e f g:α) (L:List α):(a::e::b::c::d::f::g::L).Perm (a::b::c::d::e::f::g::L):=
 .cons _ (List.perm_middle (l₁:=[b,c,d])).symm
theorem x7 {α:Type} (a b c d e f g:α) (L:List α):(e::a::b::c::f::d::g::L).Perm (a::b::c::d::e::f::g::L):=
 (List.Perm.cons _ (.cons _ (.cons _ (.cons _ (.swap _ _ _))))).trans (List.perm_middle (l₁:=[a,b,c,d])).symm
theorem wC (h:nM xb ba w q r tl M) (hi:tl[i]? =some t):aN prog 76 [ptr xb,.int .i64 (i:Int)] (wF q r tl) [M] (fun v Γ M'=>v= .bool t.th.busy/\Γ=[]/\M'=[M]):=fun X a H L hp hst=>by
 obtain⟨No,Na,rfl,hO,hA,hok,hn,hw⟩:=h;obtain⟨S,T,e1,_⟩:=ou (xb:=xb) hi;have hx:(tl.map kt)[i]? =some [ptr t.tb]:=by rw[List.getElem?_map,hi];rfl
 have h2:=hst.flat (L':=ao xb ba q::No::Na::S::aE t.tb xb t.th t.nv t.sl::t.pc::T::L) (by simp[e1,oG.Ej]);refine(MF t.tb xb t.th t.nv t.sl ba q (tl.map kt) (by simpa using hn) i hx X a H (No::Na::S::t.pc::T::L) ⟨hp.2.2.1,trivial⟩ (h2.perm (tg _ _ _ _ _ _ _ _))).mono fun e a' h=>?_;obtain⟨v,Γ',M',H',k1,⟨rfl,rfl,rfl⟩,k3,k4,k5⟩:=h;refine⟨_,_,_,H',k1,⟨rfl,rfl,rfl⟩,k3,k4,?_⟩;exact(k5.perm (tg _ _ _ _ _ _ _ _).symm).flat (by simp[e1,oG.Ej])
theorem Hi {H:Hp} {u:oG} (h:(qz tl).holds H) (h1:(jX u.tb u.th.next u.l u.nv).holds H) (h2:(aC u.sl).holds H):(qz (tl.set i u)).holds H:=fun x hx=>by
 rcases List.mem_or_eq_of_mem_set hx with hx|rfl;exact h x hx;exact⟨h1,h2⟩
theorem Hj {u:oG} (hi:tl[i]? =some t) (hu:u.tb=t.tb):(tl.set i u).map kt=tl.map kt:=by
 apply List.ext_getElem?;intro j;by_cases e:i=j;subst e;rw[List.getElem?_map,List.getElem?_map,List.getElem?_set_self (ae hi),hi];simp[kt,hu];simp[List.getElem?_set_ne e]
theorem aX.world {s':Sy} {q1:Ix} {v:Value} {Γ:List ag} {M' L:E.Loc} {X:Cx} {a:World} {S T:aO} (hs:aX t.tb xb ba q1 s' v Γ M') (h:nM xb ba w q r tl M) (hi:tl[i]? =some t) (ht:q1.ta=q.ta/\q1.tn=q.tn/\q1.tc=q.tc)
  (c2:∀u,fB xb (tl.set i u)=S++(u.Ej xb++T)) {H H':Hp} (hle:H.le H') (hF:ax (wF q r tl) H) (hG:ax Γ H') (hst:St X a H' (M'++(S::T::L))):
  ∃Γ2 M2,ML xb ba ⟨w.zY.set i s'.th,s'.ar,s'.cF,s'.root,s'.ord,s'.splits,s'.aA,q1.calls,q1.steps⟩ Γ2 M2/\ax Γ2 H'/\St X a H' (M2++L):=by
 obtain⟨q',r',nv,sl',No,Na,Nj,l',rfl,rfl,hO,hA,hN,e1,⟨s1,s2,s3,s4,s5⟩,e2⟩:=hs;obtain⟨g1,g2,g3,_⟩:=hG;obtain⟨_,f2,f3,_⟩:=hF;obtain⟨No0,Na0,_,_,_,hok,hn,rfl⟩:=h;refine⟨_,_,⟨q',r',tl.set i ⟨t.tb,s'.th,nv,sl',l',Nj⟩,ao xb ba q'++(No++(Na++fB xb (tl.set i ⟨t.tb,s'.th,nv,sl',l',Nj⟩))),⟨No,Na,rfl,hO,hA,fun x hx=>?_,by rw[s2,ht.2.1,hn];simp,?_⟩,rfl,rfl⟩,⟨g1,Hi ((qz tl).mono _ _ hle f2) g2 g3,?_,trivial⟩,?_⟩;rcases List.mem_or_eq_of_mem_set hx with hx|rfl;exact hok x hx;exact⟨hN,e2⟩;rw[s4,s5,List.map_set];have e0:=congrArg Sy.ar e1;have e3:=congrArg Sy.cF e1;have e4:=congrArg Sy.root e1;have e5:=congrArg Sy.ord e1;have e6:=congrArg Sy.splits e1;have e7:=congrArg Sy.aA e1;simp only[sy]at e0 e3 e4 e5 e6 e7;rw[e0,e3,e4,e5,e6,e7];rw[Hj (u:=⟨t.tb,s'.th,nv,sl',l',Nj⟩) hi rfl,s1,s3,ht.1,ht.2.2];exact(sl _ _ _ _).mono _ _ hle f3;refine(hst.perm (L':=ao xb ba q'::No::Na::S::aE t.tb xb s'.th nv sl'::Nj::T::L) ?_).flat ?_;exact(x7 (ao xb ba q') No Na S (aE t.tb xb s'.th nv sl') Nj T L).symm;rw[c2];simp[oG.Ej]
section
variable (h:nM xb ba w q r tl M) (hi:tl[i]? =some t)
include h hi
theorem Lg (hbz:t.th.busy=true) {n:Nx} (hn:t.th.next=some n) (hz:DQ w.ar n) (hol:w.ord.length+1<1000000):
  aN prog 78 [ptr xb,.int .i64 (i:Int)] (wF q r tl) [M] (fun v Γ M'=>v= .bool true/\ML xb ba (w.step i t.th) Γ M'):=fun X a H L hp hst=>by
 have h0:=h;obtain⟨No,Na,rfl,hO,hA,hok,hn',hw⟩:=h;obtain⟨S,T,e1,c2⟩:=ou (xb:=xb) hi;have hx:(tl.map kt)[i]? =some [ptr t.tb]:=by rw[List.getElem?_map,hi];rfl
 obtain⟨k1,k2⟩:=hok t (List.mem_of_getElem? hi);obtain⟨tb,⟨bz,op,call,lt,nx,ov,an⟩,nv,kK,l0,pc⟩:=t;simp only at hbz hn k1 k2;subst hn;have h2:=hst.flat (L':=ao xb ba q::No::Na::S::aE tb xb (⟨bz,op,call,lt,none,ov,an⟩:Th) nv kK::pc::T::L) (by simp[e1,oG.Ej,aE]);have hf:=hp.2.1 _ (List.mem_of_getElem? hi);have hq:w.ord=q.ord:=by rw[hw]
 have hwa:w.ar=r.p:=by rw[hw]
 refine(MG tb xb ba bz op call lt ov an kK k2 q No hO (by rw[<-hq];omega) r Na hA (tl.map kt) (by simpa using hn') i hx hbz (by rw[<-hq];exact hol) n l0 nv pc k1 (by rw[<-hwa];exact hz) X a H (S::T::L) ⟨hp.1,hf.2,hp.2.2.1,hf.1,trivial⟩ (h2.perm (x7 _ _ _ _ _ _ _ _))).mono fun e a' h=>?_;obtain⟨v,Γ',M',H',j1,⟨j0,j2⟩,j3,j4,j5⟩:=h;obtain⟨Γ2,M2,m1,m2,m3⟩:=aX.world (t:=⟨tb,⟨bz,op,call,lt,some n,ov,an⟩,nv,kK,l0,pc⟩) j2 h0 hi ⟨rfl,rfl,rfl⟩ c2 j3 hp j4 j5;refine⟨v,Γ2,M2,H',j1,⟨j0,?_⟩,j3,m2,m3⟩;have:w.step i ⟨bz,op,call,lt,some n,ov,an⟩=_:=rfl;rw[hw];rw[hw]at m1;exact m1
theorem MM (hbz:t.th.busy=false) (hnx:t.th.next=none) (o:bA) (hm:fj o=true) (hol:w.ord.length<1000000):
  aN prog 77 [ptr xb,.int .i64 (i:Int),o.val] (wF q r tl) [M] (fun v Γ M'=>v= .bool true/\ML xb ba (w.call i t.th o) Γ M'):=fun X a H L hp hst=>by
 have h0:=h;obtain⟨No,Na,rfl,hO,hA,hok,hn',hw⟩:=h;obtain⟨S,T,e1,c2⟩:=ou (xb:=xb) hi;have hx:(tl.map kt)[i]? =some [ptr t.tb]:=by rw[List.getElem?_map,hi];rfl
 obtain⟨k1,k2⟩:=hok t (List.mem_of_getElem? hi);obtain⟨tb,⟨bz,op,call,lt,nx,ov,an⟩,nv,kK,l0,pc⟩:=t;simp only at hbz hnx k1 k2;subst hnx;have hf:=hp.2.1 _ (List.mem_of_getElem? hi);obtain⟨_,hv,_⟩:=hf.1;simp only at hv;subst hv
 cases k1
 have h2:=hst.flat (L':=ao xb ba q::No::Na::S::aE tb xb (⟨bz,op,call,lt,none,ov,an⟩:Th) .nilFunc kK::[]::T::L) (by simp[e1,oG.Ej]);have hq:w.ord=q.ord:=by rw[hw]
 have h3:=(h2.perm (x7 _ _ _ _ _ _ _ _)).flat (L':=aE tb xb (⟨bz,op,call,lt,none,ov,an⟩:Th) .nilFunc kK::ao xb ba q::No::Na::S::T::L) (by simp);refine(call77 tb xb ba bz op call lt ov an kK k2 q No hO (by rw[<-hq];exact hol) r Na hA (tl.map kt) (by simpa using hn') i hx hbz o hm X a H (S::T::L) ⟨hp.1,hf.2,hp.2.2.1,trivial⟩ h3).mono fun e a' h=>?_;obtain⟨v,Γ',M',H',j1,⟨j0,j2⟩,j3,j4,j5⟩:=h;obtain⟨Γ2,M2,m1,m2,m3⟩:=aX.world (t:=⟨tb,⟨bz,op,call,lt,none,ov,an⟩,.nilFunc,kK,l0,[]⟩) j2 h0 hi ⟨rfl,rfl,rfl⟩ c2 j3 hp j4 j5;refine⟨v,Γ2,M2,H',j1,⟨j0,?_⟩,j3,m2,m3⟩;rw[hw];rw[hw]at m1;exact m1
end
end
section
variable {xb ba:Nat} {w:Wd} {q:Ix} {r:cX} {tl:List oG} {M:aO} {i:Nat} {t:oG}
theorem Cz (h:nM xb ba w q r tl M) (hi:tl[i]? =some t) (hov:t.th.iR=true) (hsl:t.th.cR.l.length<=1000000):aN prog 79 [ptr xb,.int .i64 (i:Int)] (wF q r tl) [M]
  (fun v Γ M'=>∃s2:Sl Pr,v= .tuple #[t.th.cR.val s2,.bool true]/\s2.l=t.th.cR.l/\Γ=[aC s2]/\M'=[M]):=fun X a H L hp hst=>by
 obtain⟨No,Na,rfl,hO,hA,hok,hn,hw⟩:=h;obtain⟨S,T,e1,_⟩:=ou (xb:=xb) hi;have hx:(tl.map kt)[i]? =some [ptr t.tb]:=by rw[List.getElem?_map,hi];rfl
 obtain⟨k1,k2⟩:=hok t (List.mem_of_getElem? hi);have hf:=hp.2.1 _ (List.mem_of_getElem? hi);have h2:=hst.flat (L':=ao xb ba q::No::Na::S::aE t.tb xb t.th t.nv t.sl::t.pc::T::L) (by simp[e1,oG.Ej]);refine(G6 t.tb xb t.th t.nv t.sl ba q (tl.map kt) (by simpa using hn) i hx hov (by rw[k2];exact hsl) X a H (No::Na::S::t.pc::T::L) ⟨hp.2.2.1,hf.2,trivial⟩ (h2.perm (tg _ _ _ _ _ _ _ _))).mono fun e a' h=>?_;obtain⟨v,Γ',M',H',j1,⟨s2,rfl,hs2,rfl,rfl⟩,j3,j4,j5⟩:=h;refine⟨_,_,_,H',j1,⟨s2,rfl,hs2.trans k2,rfl,rfl⟩,j3,j4,?_⟩;exact(j5.perm (tg _ _ _ _ _ _ _ _).symm).flat (by simp[e1,oG.Ej])
theorem Hk (h:nM xb ba w q r tl M) (hol:w.ord.length<1000000):aN prog 80 [ptr xb] (wF q r tl) [M] (fun v Γ M'=>∃u:Sl Int,v=u.val/\u.l=w.ord/\Γ=[cw u]/\M'=[M]):=fun X a H L hp hst=>by
 obtain⟨No,Na,rfl,hO,hA,hok,hn,rfl⟩:=h;have h2:=hst.flat (L':=ao xb ba q::No::(Na++fB xb tl)::L) (by simp);refine(JJ xb ba q No hO hol X a H ((Na++fB xb tl)::L) trivial h2).mono fun e a' h=>?_;obtain⟨v,Γ',M',H',j1,⟨u,rfl,hu,rfl,rfl⟩,j3,j4,j5⟩:=h;exact⟨_,_,_,H',j1,⟨u,rfl,hu,rfl,rfl⟩,j3,j4,j5.flat (by simp)⟩
theorem Vq {f:FuncId} {n:Int} (h:nM xb ba w q r tl M) (hc:aN prog f [ptr xb] [] [ao xb ba q] (fun v Γ M'=>v= .int .i64 n/\Γ=[]/\M'=[ao xb ba q])):aN prog f [ptr xb] (wF q r tl) [M] (fun v Γ M'=>v= .int .i64 n/\Γ=[]/\M'=[M]):=fun X a H L hp hst=>by
 obtain⟨No,Na,rfl,hO,hA,hok,hn,rfl⟩:=h;have h2:=hst.flat (L':=ao xb ba q::(No++(Na++fB xb tl))::L) (by simp);refine(hc X a H ((No++(Na++fB xb tl))::L) trivial h2).mono fun e a' h=>?_;obtain⟨v,Γ',M',H',j1,⟨rfl,rfl,rfl⟩,j3,j4,j5⟩:=h;exact⟨_,_,_,H',j1,⟨rfl,rfl,rfl⟩,j3,j4,j5.flat (by simp)⟩
section
variable (h:nM xb ba w q r tl M)
include h
theorem x8:aN prog 82 [ptr xb] (wF q r tl) [M] (fun v Γ M'=>v= .int .i64 w.steps/\Γ=[]/\M'=[M]):=by
 have h':=h;obtain⟨No,Na,rfl,hO,hA,hok,hn,rfl⟩:=h;exact Vq h' (JH xb ba q)
theorem ox:aN prog 84 [ptr xb] (wF q r tl) [M] (fun v Γ M'=>v= .int .i64 w.splits/\Γ=[]/\M'=[M]):=by
 have h':=h;obtain⟨No,Na,rfl,hO,hA,hok,hn,rfl⟩:=h;exact Vq h' (G5 xb ba q)
theorem px:aN prog 85 [ptr xb] (wF q r tl) [M] (fun v Γ M'=>v= .int .i64 w.aA/\Γ=[]/\M'=[M]):=by
 have h':=h;obtain⟨No,Na,rfl,hO,hA,hok,hn,rfl⟩:=h;exact Vq h' (JI xb ba q)
end
theorem x9 {α:Type} (a b c d:α) (L:List α):(a::c::b::d::L).Perm (a::b::c::d::L):=.cons _ (.swap _ _ _)
theorem zZ (h:nM xb ba w q r tl M):aN prog 83 [ptr xb] (wF q r tl) [M] (fun v Γ M'=>v= .int .i64 (w.ar.sl.length:Int)/\Γ=[]/\M'=[M]):=fun X a H L hp hst=>by
 obtain⟨No,Na,rfl,hO,hA,hok,hn,rfl⟩:=h;have h2:=hst.flat (L':=ao xb ba q::No::Na::fB xb tl::L) (by simp);refine(MH xb ba q r Na hA X a H (No::fB xb tl::L) trivial (h2.perm (x9 _ _ _ _ _))).mono fun e a' h=>?_;obtain⟨v,Γ',M',H',j1,⟨rfl,rfl,rfl⟩,j3,j4,j5⟩:=h;exact⟨_,_,_,H',j1,⟨rfl,rfl,rfl⟩,j3,j4,(j5.perm (x9 _ _ _ _ _).symm).flat (by simp)⟩
theorem Hl (h:nM xb ba w q r tl M) (n:Nat) (hd:w.ar.si n w.root) (hlen:(w.ar.iN w.cF n w.root 0).length<=1000000):aN prog 81 [ptr xb] (wF q r tl) [M]
  (fun v Γ M'=>∃(u:Tr) (Mo:aO) (A':Ar) (r':cX) (M2:aO),v=u.val/\Γ=pO u.ns.l::wF q r' tl/\M'=[M2,Mo]/\bR 104 6 (u.ns.l.map ke) u.ns.a u.ns.c Mo/\u.p=⟨0,w.ar.iN w.cF n w.root 0⟩/\A'.sl=w.ar.sl/\nM xb ba {w with ar:=A'} q r' tl M2):=fun X a H L hp hst=>by
 obtain⟨No,Na,rfl,hO,hA,hok,hn,rfl⟩:=h;have h2:=hst.flat (L':=ao xb ba q::No::Na::fB xb tl::L) (by simp);refine(MK xb ba q r Na hA n hd hlen X a H (No::fB xb tl::L) ⟨hp.1,trivial⟩ (h2.perm (x9 _ _ _ _ _))).mono fun e a' h=>?_;obtain⟨v,Γ',M',H',j1,⟨u,r',N,Mo,rfl,rfl,rfl,m1,m2,m3,m4⟩,j3,j4,j5⟩:=h;refine⟨_,pO u.ns.l::wF q r' tl,[ao xb ba q++(No++(N++fB xb tl)),Mo],H',j1,⟨u,Mo,r'.p,r',_,rfl,rfl,rfl,m1,m2,m4,No,N,rfl,hO,m3,hok,hn,rfl⟩,j3,⟨j4.2.1,j4.1,(hp.mono j3).2.1,(hp.mono j3).2.2.1,trivial⟩,?_⟩;have j6:St X a' H' (ao xb ba q::N::Mo::No::fB xb tl::L):=j5
 have p1:(ao xb ba q::No::N::fB xb tl::Mo::L).Perm (ao xb ba q::N::Mo::No::fB xb tl::L):=
  .cons _ ((List.Perm.swap _ _ _).trans (.cons _ (List.perm_middle (l₁:=[No,fB xb tl]))))
 exact(j6.perm p1).flat (by simp)
end
structure Ev where
 rB:Int
 ret:Bool
 op:bA
 cR:An
structure mL where
 rB:Int
 ret:Bool
 op:bA
 cR:BQ
def mL.p (e:mL):Ev:=⟨e.rB,e.ret,e.op,e.cR.a⟩
def uX (e:mL):List Value:=[.int .i64 e.rB,.bool e.ret,.int .i64 e.op.kind,.int .i64 e.op.key,.int .i64 e.op.hi,.int .i64 e.op.v,.int .i64 e.cR.err,.bool e.cR.ok,.int .i64 e.cR.p.k,.int .i64 e.cR.p.v,.int .i64 e.cR.n,e.cR.ps.val]
def kx (l:List mL):ag:=⟨fun H=>∀e∈l,(aC e.cR.ps).holds H,fun _ _ h k e he=>(aC e.cR.ps).mono _ _ h (k e he)⟩
def iX (z:Sl bA):List Value:=[z.val]
def gq (l:List (Sl bA)):ag:=⟨fun H=>∀z∈l,(iW z).holds H,fun _ _ h k z hz=>(iW z).mono _ _ h (k z hz)⟩
theorem rE {H:Hp} {l:List mL} {e:mL} (h:(kx l).holds H) (he:(aC e.cR.ps).holds H):(kx (l++[e])).holds H:=fun x hx=>by
 rcases List.mem_append.1 hx with hx|hx;exact h x hx;rw[List.mem_singleton.1 hx];exact he
section
variable {H:Hp} {l:List (Sl bA)} {i:Nat} {z:Sl bA} (h:(gq l).holds H)
include H l i z h
theorem qA (hz:l[i]? =some z):(iW z).holds H:=h z (List.mem_of_getElem? hz)
theorem Hm (hz:(iW z).holds H):(gq (l.set i z)).holds H:=fun x hx=>by
 rcases List.mem_or_eq_of_mem_set hx with hx|rfl;exact h x hx;exact hz
end
theorem Hn {H:Hp} {s:Sl bA} {m:Nat} (h:(iW s).holds H) (hm:m<=s.l.length):(iW ⟨bQ s.a s.c 4 m,s.c-m,s.l.drop m⟩).holds H:=by
 have h1:=oV (l:=m) (h:=s.l.length) h hm (by simp)
 have e:((s.l.map kR).drop m).take (s.l.length-m)=(s.l.drop m).map kR:=by
  rw[<-List.map_drop,List.take_of_length_le (by simp)]
 rw[e]at h1;exact h1
theorem DW {s:Sl bA} {m:Nat}:Sl.val (⟨bQ s.a s.c 4 m,s.c-m,s.l.drop m⟩:Sl bA)= .slice (bQ s.a s.c 4 m) (s.l.length-m) (s.c-m):=by simp[Sl.val]
structure Pw where
 w:Wd
 left:List (List bA)
 ops:List bA
 h:List Ev
def H9:bA:=⟨0,0,0,0⟩
def Wd.th (w:Wd) (i:Nat):Th:=w.zY.getD i H8
namespace Pw
def bY (W:Pw) (i:Nat) (o:bA) (rest:List bA):Pw:=⟨W.w.call i (W.w.th i) o,W.left.set i rest,W.ops.set i o,W.h++[⟨(i:Int),false,o,.zero⟩]⟩
def iQ (W:Pw) (i:Nat):Pw:={W with w:=W.w.step i (W.w.th i)}
def fin (W:Pw) (i:Nat):Pw:=if(W.w.th i).busy then W else{W with h:=W.h++[⟨(i:Int),true,W.ops.getD i H9,(W.w.th i).cR⟩]}
def pick (W:Pw) (i:Nat):Bool×Pw:=
 if(W.w.th i).busy then(true,(W.iQ i).fin i)
 else match W.left.getD i []with
  | []=>(false,W)
  |o::rest=>(true,((W.bY i o rest).iQ i).fin i)
end Pw
structure Ek where
 q:Ix
 r:cX
 tl:List oG
 M:aO
 left:List (Sl bA)
 la:Option Addr
 lc:Nat
 Ml:aO
 ops:List bA
 oa:Option Addr
 oc:Nat
 Mo:aO
 h:List mL
 ha:Option Addr
 hc:Nat
 Mh:aO
def nN (pb xb:Nat) (left:List (Sl bA)) (la:Option Addr) (lc:Nat) (ops:List bA) (oa:Option Addr) (oc:Nat) (h:List mL) (ha:Option Addr) (hc:Nat):aO:=
 [(pb,.cells #[ptr xb,.slice la left.length lc,.slice oa ops.length oc,.slice ha h.length hc] 87 (0,0))]
def vE (xb ba:Nat) (W:Pw) (x:Ek):Prop:=
 nM xb ba W.w x.q x.r x.tl x.M/\bR 57 1 (x.left.map iX) x.la x.lc x.Ml/\bR 41 4 (x.ops.map kR) x.oa x.oc x.Mo/\bR 47 12 (x.h.map uX) x.ha x.hc x.Mh/\W.left=x.left.map (·.l)/\W.ops=x.ops/\W.h=x.h.map mL.p
abbrev Ek.facts (x:Ek):List ag:=[ak x.r.rows,qz x.tl,sl x.q.ta x.q.tc 1 (x.tl.map kt),gq x.left,kx x.h]
abbrev Ek.box (pb xb:Nat) (x:Ek):aO:=nN pb xb x.left x.la x.lc x.ops x.oa x.oc x.h x.ha x.hc
abbrev Ek.Nq (pb xb:Nat) (x:Ek):E.Loc:=[x.box pb xb,x.Ml,x.Mo,x.Mh,x.M]
def DX (pb xb ba:Nat) (W:Pw) (Γ:List ag) (M':E.Loc):Prop:=∃x:Ek,vE xb ba W x/\Γ=x.facts/\M'=x.Nq pb xb
def Bn (w:Wd) (i:Nat):Prop:=(w.th i).busy=true/\(∃n,(w.th i).next=some n/\DQ w.ar n)/\w.ord.length+1<1000000/\
 (((w.step i (w.th i)).th i).busy=false->((w.step i (w.th i)).th i).iR=true/\((w.step i (w.th i)).th i).cR.l.length<=1000000)
def nO (W:Pw) (i:Nat):Prop:=i<W.w.zY.length/\i<W.left.length/\i<W.ops.length/\W.h.length+2<=1000000/\W.w.ord.length+1<1000000/\
 ((W.w.th i).busy=true->Bn W.w i)/\
 ((W.w.th i).busy=false->(W.w.th i).next=none/\∀o rest,W.left.getD i []=o::rest->fj o=true/\Bn (W.bY i o rest).w i)
theorem nM.get {xb ba:Nat} {w:Wd} {q:Ix} {r:cX} {tl:List oG} {M:aO} {i:Nat} (h:nM xb ba w q r tl M) (hi:i<w.zY.length):∃t,tl[i]? =some t/\w.th i=t.th:=by
 obtain⟨No,Na,_,_,_,_,_,rfl⟩:=h;obtain⟨t,ht⟩:=aD (l:=tl) (i:=i) (by simpa using hi);refine⟨t,ht,?_⟩;simp[Wd.th,ht]
theorem Wd.uY (w:Wd) (i:Nat) (t:Th):(w.step i t).zY.length=w.zY.length:=by simp[Wd.step,Wd.put]
theorem Wd.z8 (w:Wd) (i:Nat) (t:Th) (o:bA):(w.call i t o).zY.length=w.zY.length:=by simp[Wd.call,Wd.put]
section
variable {W:Pw} {i:Nat}
include W i
theorem Pw.rF (h:(W.w.th i).busy=true):W.pick i=(true,(W.iQ i).fin i):=if_pos h
theorem Pw.CA (h:(W.w.th i).busy=false) (h2:W.left.getD i []=[]):W.pick i=(false,W):=by unfold Pw.pick;rw[if_neg (by rw[h];simp),h2]
theorem Pw.uZ {o:bA} {rest:List bA} (h:(W.w.th i).busy=false) (h2:W.left.getD i []=o::rest):W.pick i=(true,((W.bY i o rest).iQ i).fin i):=by unfold Pw.pick;rw[if_neg (by rw[h];simp),h2]
theorem Pw.Aa (h:(W.w.th i).busy=true):W.fin i=W:=if_pos h
theorem Pw.CB (h:(W.w.th i).busy=false):W.fin i={W with h:=W.h++[⟨(i:Int),true,W.ops.getD i H9,(W.w.th i).cR⟩]}:=by unfold Pw.fin;rw[if_neg (by rw[h];simp)]
end
theorem DY (s:Sy):∃n,s.dB=s.go n/\∀A,DQ A n:=by
 unfold Sy.dB
 repeat' split
 exact⟨_,rfl,fun _=>trivial⟩;exact⟨_,rfl,fun _=>trivial⟩;exact⟨_,rfl,fun _=>trivial⟩;exact⟨_,rfl,fun _=>trivial⟩;exact⟨.zero,rfl,fun _=>trivial⟩;exact⟨_,rfl,fun _=>trivial⟩
def kI (i:Nat) (o:bA) (a:An) (s:Sl Pr):mL:=⟨(i:Int),true,o,BQ.of a s⟩
def mG (i:Nat) (o:bA):mL:=⟨(i:Int),false,o,⟨0,false,⟨0,0⟩,0,⟨none,0,[]⟩⟩⟩
section
variable {pb xb ba i:Nat} {W1:Pw} {q2:Ix} {r2:cX} {tl2:List oG} {M2:aO} {left:List (Sl bA)} {la:Option Addr} {lc:Nat} {Ml:aO} {ops:List bA} {oa:Option Addr} {oc:Nat} {Mo:aO} {h:List mL} {ha:Option Addr} {hc:Nat} {Mh:aO} {t2:oG} {o2:bA} {s2:Sl Pr}
section
variable (hW2:nM xb ba (W1.iQ i).w q2 r2 tl2 M2) (et:(W1.iQ i).w.th i=t2.th)
include hW2 et
theorem sj (hb2:t2.th.busy=false) (hL:bR 57 1 (left.map iX) la lc Ml) (hO:bR 41 4 (ops.map kR) oa oc Mo) (hH:bR 47 12 ((h++[kI i o2 t2.th.cR s2]).map uX) ha hc Mh) (eL:W1.left=left.map (·.l)) (eO:W1.ops=ops) (eH:W1.h=h.map mL.p) (ho2:ops[i]? =some o2) (hs2:s2.l=t2.th.cR.l):
  DX pb xb ba ((W1.iQ i).fin i) [ak r2.rows,qz tl2,sl q2.ta q2.tc 1 (tl2.map kt),gq left,kx (h++[kI i o2 t2.th.cR s2])] [nN pb xb left la lc ops oa oc (h++[kI i o2 t2.th.cR s2]) ha hc,Ml,Mo,Mh,M2]:=by
 rw[Pw.CB (by rw[et];exact hb2)];refine⟨⟨q2,r2,tl2,M2,left,la,lc,Ml,ops,oa,oc,Mo,_,ha,hc,Mh⟩,⟨hW2,hL,hO,hH,eL,eO,?_⟩,rfl,rfl⟩
 have e1:(W1.iQ i).ops.getD i H9=o2:=by
  show W1.ops.getD i H9=o2;rw[eO,List.getD_eq_getElem?_getD,ho2];rfl
 show(W1.iQ i).h++[⟨(i:Int),true,(W1.iQ i).ops.getD i H9,((W1.iQ i).w.th i).cR⟩]=_;rw[e1,et,List.map_append];show W1.h++_=_;rw[eH];simp[kI,mL.p,BQ.Vg hs2]
theorem qB (hb2:t2.th.busy=true) (hL:bR 57 1 (left.map iX) la lc Ml) (hO:bR 41 4 (ops.map kR) oa oc Mo) (hH:bR 47 12 (h.map uX) ha hc Mh) (eL:W1.left=left.map (·.l)) (eO:W1.ops=ops) (eH:W1.h=h.map mL.p):
  DX pb xb ba ((W1.iQ i).fin i) [ak r2.rows,qz tl2,sl q2.ta q2.tc 1 (tl2.map kt),gq left,kx h] [nN pb xb left la lc ops oa oc h ha hc,Ml,Mo,Mh,M2]:=by
 rw[Pw.Aa (by rw[et];exact hb2)];exact⟨⟨q2,r2,tl2,M2,left,la,lc,Ml,ops,oa,oc,Mo,h,ha,hc,Mh⟩,⟨hW2,hL,hO,hH,eL,eO,eH⟩,rfl,rfl⟩
end
end
end Go.Proofs.YtcnohdmimheoaaaGreat
namespace Go.Proofs.YtcnohdmimheoaaaGreat
open E Ar Go.Proofs.Tryz
section
variable {A0 A B:Ar} {K:eE} {N:Nat} {o:bA} {root:Int} {s:Sy}
theorem Gd.up {N':Nat} (h:Gd A0 K N o root s) (hN:N<=N'):Gd A0 K N' o root s:=
 ⟨h.bg,h.ext,h.op,h.rt,h.fin.imp (fun⟨a,n,b,c⟩=>⟨a,n,b,c.ext h.bg (.refl _) hN⟩) id⟩
theorem oF.cell {j:Jo} (h:oF A K N j) (c:Int):oF A K N {j with cell:=c}:=⟨h.b,h.up,h.gN,h.lc,h.an⟩
theorem In.df (h:In A0 K o root s) (hm:N+1<=K.m) {c v:Int} (hv:v=s.ar.holds c):∀{k:KV},Am s.ar K N o c k->Gd A0 K (N+1) o root (s.df v k)
 | .down f key k,⟨hc,hf,hk⟩=>by
  have hT:=(h.bg.mq c).tc (by rw[hc];exact hf.cell);rw[<-hv]at hT;unfold Sy.df;dsimp only;split;rename_i hne;exact h.iJ (f:={f with b:=s.ar.base v}) ⟨jy.of (hT.resolve_right hne),⟨hf.cell,hf.up⟩⟩ hm hk;rename_i he;have he:s.ar.kind v=2:=by simpa using he
  obtain⟨a,b,_⟩:=h.bg.rt he;refine(h.down (f:=if key<(s.ar.aj v).key then _ else _) ?_ hk).up (Nat.le_succ _);split;exact⟨a,.inr he⟩;exact⟨b,.inr he⟩
 | .cd f key g,⟨hc,hf⟩=>by
  unfold Sy.df;dsimp only;split;exact h.looks;split;exact h.go (n:=.load f.cell (.cB f key g)) ⟨rfl,hf⟩;exact h.gD hf.b (by omega)
 | .cB f key g,⟨hc,hf⟩=>by
  unfold Sy.df;dsimp only;split;exact h.gD hf.b (by omega);exact h.looks
 | .dm b k,⟨hc,hb,hk⟩=>(h.fv (ok:=decide (v= -2)) (p:=b.stat) hk).up (Nat.le_succ _)
 | .cN b k,⟨hc,hb,hk⟩=>(h.fv (ok:=decide (v= -2)||decide (v= -3)) (p:=b.stat) hk).up (Nat.le_succ _)
 | .cU b k,⟨hc,hb,hk⟩=>(h.fv (ok:=decide (v≠0)) (p:=s.fp b v) hk).up (Nat.le_succ _)
 | .cE m u,⟨hc,hm',hu⟩=>by
  unfold Sy.df;dsimp only;refine Gd.up ?_ (Nat.le_succ N);split;exact h.cK (t:=.u u) hm' hu;split;rename_i e;exact h.eD (t:=.u u) hm' (.of e) hu;exact h.mJ hu
 | .mf right j,⟨hc,hj⟩=>by
  have hT:=(h.bg.mq c).tc hc;rw[<-hv]at hT;unfold Sy.df;dsimp only;refine Gd.up ?_ (Nat.le_succ N);split;rename_i hne;have hb:=hT.resolve_right hne;exact h.free (k:=.aA j _) (.of hb) ⟨hj,.of hb⟩;rename_i he;obtain⟨a,b,_⟩:=h.bg.rt (show s.ar.kind v=2 by simpa using he);refine h.go (n:=.load _ (.mf right j)) ⟨?_,hj⟩;split<;>assumption
 | .bh j up cell,⟨hc,ht,hu,hj,hm',hn⟩=>by
  have hT:=(h.bg.mq c).tc (by rw[hc];exact ht);rw[<-hv]at hT;unfold Sy.df;dsimp only;refine Gd.up ?_ (Nat.le_succ N);split;exact h.bH (hj.cell cell) hm' hn ht (.inl rfl)
  ·rename_i h1;split
   ·rename_i h2;have hup:s.ar.kind up=2:=hu.resolve_left fun q=>h1 ⟨h2,q⟩;have hl:=(h.bg.rt hup).2.2;exact h.go (n:=.swap _ _ _ (.bO _ _ _)) ⟨.lc hl,hl,.inr hl,hj.cell cell,hm',hn,ht⟩
   split;exact h.bW hj hm';rename_i he;have he:s.ar.kind v=2:=by simpa using he
   obtain⟨a,b,_⟩:=h.bg.rt he;split;exact h.bh hj hm' hn a (.inr he);exact h.bh hj hm' hn b (.inr he)
 | .bH j lock,⟨hc,hl,hj,hm',hn,hcl⟩=>by
  have hT:=(h.bg.mq c).tc hc;rw[<-hv]at hT;unfold Sy.df;dsimp only;refine Gd.up ?_ (Nat.le_succ N);obtain⟨t,x,q⟩:=h.bI (lock:=lock) hj hm' hn hcl hl hT;generalize s.bI j v lock=z at t x q;obtain⟨id,e,B⟩:=z;dsimp only at t x q⊢;split;exact(h.grow t x).bW (hj.ext x (Nat.le_refl _)) (hm'.ext x)
  ·rename_i he;have hk:=q (by simpa using he);exact(h.grow t x).go (n:=.swap _ _ _ (.bH j id)) ⟨.sc ((hm'.ext x).sc t) (.inr (.inr (.inr hk))),hj.ext x (Nat.le_refl _),hm'.ext x,hk⟩
 | .leaf j key f r,⟨hc,hj,hf,hr⟩=>by
  have hR:=(h.bg.mq c).rc (by rw[hc];exact hj.rc h.bg);rw[<-hv]at hR;unfold Sy.df;dsimp only;refine Gd.up ?_ (Nat.le_succ N);split;rename_i hne;exact h.iV (hR.resolve_left hne) hr;exact h.free (k:=.leaf j key f r) hf.b ⟨hj,hf,hr⟩
 | .res j r,⟨hc,hj,hr,hz⟩=>by
  have hR:=(h.bg.mq c).rc (by rw[hc];exact hj.rc h.bg);rw[<-hv]at hR hz;exact(h.iV (hR.resolve_left hz) hr).up (Nat.le_succ _)
theorem In.told (h:In A0 K o root s) {ok:Bool} {j:Jb} {res:Int} {r:KR} (hj:om s.ar N j) (hr:qL s.ar K N o r) (hv:res= -1\/s.ar.kind res=9) (hok:ok=false->s.ar.holds j.store.result≠0):Gd A0 K N o root (s.cj ok (.results j res r)):=by
 unfold Sy.cj;dsimp only;split;rename_i e;exact h.go (n:=.load _ (.res j r)) ⟨rfl,hj,hr,hok e⟩;split;exact(h.cV _).iV hv hr;exact h.iV hv hr
theorem In.cj (h:In A0 K o root s) (hm:N+1<=K.m) {ok:Bool}:∀{k:KB},GG s.ar K N o k->Gd A0 K (N+1) o root (s.cj ok k)
 | .marks j key f id r,⟨hj,hf,hi,hr⟩=>by
  unfold Sy.cj;dsimp only;split;exact(h.dx hj hr).up (Nat.le_succ _);exact h.marked (f:={f with b:=s.ar.base id}) hj (.of (sh hi (by decide))) (hr.ext (.refl _) (Nat.le_succ _)) hm
 | .results ..,hk=>hk.elim
 | .update id a,⟨hb,ha,ho⟩=>by
  unfold Sy.cj;dsimp only;split;exact h.late.update ho;exact(h.cV _).kQ (.of hb) ha
 | .split a,ha=>by
  unfold Sy.cj;dsimp only;split;exact In.ret (s:={s with splits:=inc s.splits}) ⟨h.bg,h.ext,h.op,h.rt,h.bz,h.nx,h.key⟩ ha;exact h.ret ha
 | .aL j n id,⟨hj,hn,hi⟩=>by
  unfold Sy.cj;dsimp only;refine Gd.up ?_ (Nat.le_succ N);split;exact h.ret hj.an;exact h.aG (j:={j with main:=s.ar.main id}) ⟨(mK.of hi).bs,hj.up,hj.gN,hj.lc,hj.an⟩ (.of hi) hn
 | .aG j id,⟨hj,hm',hi⟩=>by
  unfold Sy.cj;dsimp only;refine Gd.up ?_ (Nat.le_succ N);split;exact h.cK (t:=.ret j.cR) hm' hj.an
  ·exact h.go (n:=.swap _ _ _ (.bS _ _)) ⟨.lc (hj.GV h.bg).2.2,(hj.GV h.bg).2.2,⟨hj.b,hj.up,hj.gN,hj.lc,hj.an⟩,hm',.of hi⟩
 | .bS j cell,⟨hc,hj,hm',hn⟩=>by
  unfold Sy.cj;dsimp only;split;exact(h.bW hj hm').up (Nat.le_succ _);refine h.bh ⟨hj.b,hj.up,?_,fun c hc'=>?_,hj.an⟩ hm' hn (by rw[h.rt];exact h.bg.root) (.inl rfl);have:=hj.gN;simpa using this;rcases List.mem_append.1 hc' with hc'|hc';exact hj.lc c hc';rw[List.mem_singleton.1 hc'];exact hc
 | .bO j cell lock,⟨hc,hl,hj,hm',hn,ht⟩=>by
  unfold Sy.cj;dsimp only;split;exact(h.bW hj hm').up (Nat.le_succ _);refine h.bH ⟨hj.b,hj.up,?_,fun c hc'=>?_,hj.an⟩ hm' hn ht hl;have:=hj.gN;simpa using this;rcases List.mem_append.1 hc' with hc'|hc';exact hj.lc c hc';rw[List.mem_singleton.1 hc'];exact hc
 | .bW j last,⟨hj,hm',_,_⟩=>
  (h.bW (j:={j with aU:=j.aU.take last.toNat}) ⟨hj.b,hj.up,Nat.le_trans (by rw[List.length_take];omega) hj.gN,fun c hc=>hj.lc c (List.mem_of_mem_take hc),hj.an⟩ hm').up (Nat.le_succ _)
 | .cK t,ht=>(h.runT ht).up (Nat.le_succ _)
 | .bH j id,⟨hj,hm',hi⟩=>by
  unfold Sy.cj;dsimp only;refine Gd.up ?_ (Nat.le_succ N);split;exact h.bW hj hm';exact h.eD (t:=.ret j.cR) hm' (.of hi) hj.an
 | .fQ m p t,⟨hm',hp,ht⟩=>by
  have hn:s.ar.kind p.id≠0:=by rw[hp.1];decide
  obtain⟨_,_,_,c,_,d⟩:=(h.bg.cg _ hn).GD hp.1;have e1:p.cell=s.ar.val p.id 3:=congrArg Pl.cell hp.2;have e2:p.fu=s.ar.val p.id 5:=congrArg Pl.fu hp.2;exact(h.go (n:=.swap p.cell p.parent p.fu (.e8 m p t)) ⟨.tc (by rw[e1];exact c) (by rw[e2];exact d),hm',hp,ht⟩).up (Nat.le_succ _)
 | .e8 m p t,⟨hm',hp,ht⟩=>by
  have hn:s.ar.kind p.id≠0:=by rw[hp.1];decide
  obtain⟨_,_,_,_,c,_⟩:=(h.bg.cg _ hn).GD hp.1;have e1:p.lock=s.ar.val p.id 4:=congrArg Pl.lock hp.2;unfold Sy.cj;dsimp only;refine Gd.up ?_ (Nat.le_succ N);split
  ·exact h.go (n:=.swap _ _ _ (.cL t)) ⟨.sc (hm'.sc h.bg) (.inr (.inr (.inl rfl))),ht⟩
  ·rename_i hl;exact h.go (n:=.swap _ _ _ (.cZ m p t)) ⟨.lc (by rw[e1];exact c.resolve_left fun q=>hl (e1.trans q)),hm',hp,ht⟩
 | .cZ m p t,⟨hm',hp,ht⟩=>(h.go (n:=.swap m.state p.id (-3) (.cL t)) ⟨.sc (hm'.sc h.bg) (.inr (.inr (.inl rfl))),ht⟩).up (Nat.le_succ _)
 | .cL t,ht=>by
  unfold Sy.cj;dsimp only;refine Gd.up ?_ (Nat.le_succ N);split;exact In.runT (s:={s with aA:=inc s.aA}) ⟨h.bg,h.ext,h.op,h.rt,h.bz,h.nx,h.key⟩ ht;exact h.runT ht
theorem Am.aB {c:Int} {k:KV} (t:c9 A K root) (h:Am A K N o c k):A.aB c=true:=by
 cases k with
 |down f key k=>rw[h.1];exact h.2.1.cell.1
 |cd f key g=>exact h.1.1
 |cB f key g=>rw[h.1];exact h.2.cu.cell.1
 |dm b k=>exact h.1.1
 |cN b k=>exact h.1.1
 |cU b k=>exact h.1.1
 |cE m u=>rw[h.1];exact(h.2.1.sc t).1
 |mf r j=>exact h.1.1
 |bh j up cell=>rw[h.1];exact h.2.1.1
 |bH j lock=>exact h.1.1
 |leaf j key f r=>rw[h.1];exact(h.2.1.rc t).1
 |res j r=>rw[h.1];exact(h.2.1.rc t).1
theorem zL.aB {c v:Int} (h:zL A c v):A.aB c=true:=by
 rcases h with h|h|h;exact h.1.1;exact h.1.1;exact h.1
theorem zL.cases {c v:Int} (h:zL A c v):(A.TC c->dr A v\/A.kind v=2)/\(A.SC c->v= -1\/v= -2\/v= -3\/A.kind v=8)/\(A.RC c->A.holds c=0/\(v= -1\/A.kind v=9)):=by
 rcases h with⟨h,hv⟩| ⟨h,hv⟩|h;exact⟨fun _=>hv,fun q=>absurd (h.2.symm.trans q.2) (by decide),fun q=>absurd (h.2.symm.trans q.2) (by decide)⟩;exact⟨fun q=>absurd (h.2.symm.trans q.2) (by decide),fun _=>hv,fun q=>absurd (h.2.symm.trans q.2) (by decide)⟩;exact⟨fun q=>absurd (h.2.symm.trans q.2) (by decide),fun q=>absurd (h.2.symm.trans q.2) (by decide),fun q=>absurd (h.2.symm.trans q.2) (by decide)⟩
section
variable (t:c9 A K root)
include t
theorem Ar.c9.iQ:c9 A.step K root/\Ext A A.step:=⟨t.same rfl rfl,xU rfl rfl⟩
theorem Ho {c bZ now:Int} (h:zL A c now):c9 (A.swap c bZ now).2 K root/\Ext A (A.swap c bZ now).2:=by
 unfold Ar.swap;rw[if_pos h.aB];split;exact t.ed (qw now h.aB) h.cases;exact t.iQ
theorem Ab {c v:Int} (h:A.RC c) (hv:v= -1\/A.kind v=9):c9 (A.once c v).2 K root/\Ext A (A.once c v).2/\((A.once c v).1=false->(A.once c v).2.holds c≠0):=by
 have hz:v≠0:=by
  rcases hv with rfl|hv
  decide
  have:=aF (A:=A) (id:=v) (by rw[hv];decide);omega
 unfold Ar.once;rw[if_pos h.1];split;rename_i hh;obtain⟨a,b⟩:=t.ed (qw v h.1) ⟨fun q=>absurd (h.2.symm.trans q.2) (by decide),fun q=>absurd (h.2.symm.trans q.2) (by decide),fun _=>⟨hh.1,hv⟩⟩;exact⟨a,b,fun q=>by cases q⟩;rename_i hh;exact⟨t.iQ.1,t.iQ.2,fun _ q=>hh ⟨q,hz⟩⟩
end
theorem In.runN (h:In A0 K o root s) (hm:N+1<=K.m):∀{n:Nx},xW s.ar K N o n->Gd A0 K (N+1) o root (s.runN n)
 | .load c k,hk=>by
  have hc:=hk.aB h.bg;have e:s.ar.load c=(s.ar.holds c,s.ar.step):=by unfold Ar.load;rw[if_pos hc]
  unfold Sy.runN;dsimp only;rw[e];exact(h.grow h.bg.iQ.1 h.bg.iQ.2).df hm rfl (hk.ext h.bg h.bg.iQ.2 (Nat.le_refl _))
 | .swap c bZ now k,⟨hw,hk⟩=>by
  obtain⟨t,x⟩:=Ho (bZ:=bZ) h.bg hw;exact(h.grow t x).cj hm (hk.ext x (Nat.le_refl _))
 | .once c v k,hk=>by
  obtain⟨j,r,rfl,rfl,hj,hr,hv⟩:=hk;obtain⟨t,x,q⟩:=Ab h.bg (hj.rc h.bg) hv;exact((h.grow t x).told (hj.ext x (Nat.le_refl _)) (hr.ext x (Nat.le_refl _)) (hv.imp id fun y=>x.k y (by decide)) q).up (Nat.le_succ _)
 | .zero,_=>h.gU (.nil rfl)
theorem rG (t:c9 A K root) {v:Int} (hv:v=0\/v= -1\/A.kind v=9) (h0:v≠0):nH A v:=fun h1=>by
 have hk:=(hv.resolve_left h0).resolve_left h1;obtain⟨l,r1,r2,_⟩:=(t.cg v (by rw[hk];decide)).res hk;exact⟨l,r1.au,r2⟩
theorem xW.pre (t:c9 A K root) (hN:N<1000000):∀{n:Nx},xW A K N o n->DQ A n
 | .load c k,hk=>by
  have hc:=hk.aB t;have e:A.load c=(A.holds c,A.step):=by unfold Ar.load;rw[if_pos hc]
  show Jz (A.load c).2 (A.load c).1 k;rw[e];obtain⟨t',x⟩:=t.iQ
  cases k with
  |down f key k=>
   cases k with
   |leaf j key r=>exact Nat.lt_of_le_of_lt hk.2.2.1.gN hN
   |_=>trivial
  |bh j up cell=>exact Nat.lt_of_le_of_lt hk.2.2.2.1.gN hN
  |bH j lock=>exact Nat.lt_of_le_of_lt hk.2.2.1.gN hN
  |leaf j key f r=>
   intro hz lo hi q w _;exact rG t' ((t'.mq c).rc (x.RC (by rw[hk.1];exact hk.2.1.rc t))) hz
  |res j r=>
   intro lo hi q w _;exact rG t' ((t'.mq c).rc (x.RC (by rw[hk.1];exact hk.2.1.rc t))) hk.2.2.2
  |_=>trivial
 | .swap c bZ now k,⟨hw,hk⟩=>by
  show Bi (A.swap c bZ now).2 k
  cases k with
  |marks j key f id r=>exact Nat.lt_of_le_of_lt hk.1.gN hN
  |results j r k=>exact hk.elim
  |bS j c=>exact Nat.lt_of_le_of_lt hk.2.1.gN hN
  |bO j c l=>exact Nat.lt_of_le_of_lt hk.2.2.1.gN hN
  |bH j id=>exact Nat.lt_of_le_of_lt hk.1.gN hN
  |bW j last=>exact⟨Nat.lt_of_le_of_lt hk.1.gN hN,hk.2.2⟩
  |_=>trivial
 | .once c v k,hk=>by
  obtain⟨j,r,rfl,rfl,hj,hr,hv⟩:=hk;show Bi (A.once j.store.result v).2 (.results j v r);obtain⟨t',x,_⟩:=Ab t (hj.rc t) hv;intro lo hi q w _
  exact rG t' (.inr (hv.imp id fun y=>x.k y (by decide))) (by
   rcases hv with rfl|hv
   decide
   have:=aF (A:=A) (id:=v) (by rw[hv];decide);omega)
 | .zero,_=>trivial
end
theorem t33:dg prog 33=some (true,1,24,.slice none 0 0):=by kernel_rfl
theorem t47:dg prog 47=some (false,12,112,.agg #[.int .i64 0,.bool false,.int .i64 0,.int .i64 0,.int .i64 0,.int .i64 0,.int .i64 0,.bool false,.int .i64 0,.int .i64 0,.int .i64 0,.slice none 0 0]):=by kernel_rfl
theorem t57:dg prog 57=some (true,1,24,.slice none 0 0):=by kernel_rfl
theorem Vr:kW prog 87=some [(0,1,true),(1,1,true),(2,1,true),(3,1,true)]:=by kernel_rfl
set_option maxHeartbeats 4000000 in
theorem MN (pb xb ba:Nat) (W:Pw) (q:Ix) (r:cX) (tl:List oG) (M:aO) (left:List (Sl bA)) (la:Option Addr) (lc:Nat) (Ml:aO) (ops:List bA) (oa:Option Addr) (oc:Nat) (Mo:aO) (h:List mL) (ha:Option Addr) (hc:Nat) (Mh:aO) (hP:vE xb ba W ⟨q,r,tl,M,left,la,lc,Ml,ops,oa,oc,Mo,h,ha,hc,Mh⟩) (i:Nat) (hok:nO W i):aN prog 49 [.pointer (some ⟨pb,0,none⟩),.int .i64 (i:Int)] [ak r.rows,qz tl,sl q.ta q.tc 1 (tl.map kt),gq left,kx h] [nN pb xb left la lc ops oa oc h ha hc,Ml,Mo,Mh,M] (fun v Γ M'=>v= .bool (W.pick i).1/\DX pb xb ba (W.pick i).2 Γ M'):=by
 refine cb fun X H₀ L₀=>?_;obtain⟨hW,hL,hO,hH,eL,eO,eH⟩:=hP;obtain⟨k1,k2,k3,k4,k5,k6,k7⟩:=hok;simp only at hW hL hO hH eL eO eH;obtain⟨t,hi,et⟩:=hW.get k1;obtain⟨oo,hoo⟩:=aD (l:=ops) (i:=i) (by rw[<-eO];exact k3);obtain⟨z,hz0⟩:=aD (l:=left) (i:=i) (by have:=congrArg List.length eL;simp at this;omega);have hhl:h.length+2<=1000000:=by have:=congrArg List.length eH;simp only[List.length_map]at this;omega
 refine At.aJ (aC (⟨none,0,[]⟩:Sl Pr)) (fun _ h=>dh _ _ _ (Nat.zero_le _)) ?_;refine At.aJ (iW z) (fun _ h=>qA h.2.2.2.2.2.1 hz0) ?_;refine ca (wC hW hi) ?_;refine cv (fun hb=>?_) (fun hb=>?_);have hbT:t.th.busy=false:=bM hb;have hbz:(W.w.th i).busy=false:=by rw[et];exact hbT
 obtain⟨hnx,hrest⟩:=k7 hbz;rw[et]at hnx;refine mc ?_;refine qt (cA underlying25 t57 rfl hL (by simp) rfl rfl (by simpa using ae hz0)) ?_;refine ld (Rd.tG hL (i:=2) rfl (aI hz0) rfl) ?_;refine fi (fun hl=>?_) (fun hl=>?_);refine re ?_;exact rs (by rw[Pw.CA hbz (by rw[eL,List.getD_eq_getElem?_getD,List.getElem?_map,hz0];show z.l=[];exact List.length_eq_zero_iff.1 (by omega))];exact⟨rfl,⟨q,r,tl,M,left,la,lc,Ml,ops,oa,oc,Mo,h,ha,hc,Mh⟩,⟨hW,hL,hO,hH,eL,eO,eH⟩,rfl,rfl⟩);refine mc ?_
 obtain⟨o,rest,hzl⟩:∃o rest,z.l=o::rest:=by
  cases e:z.l with
  |nil=>rw[e]at hl;exact absurd rfl hl
  |cons o rest=>exact⟨o,rest,rfl⟩
 have hg:W.left.getD i []=o::rest:=by rw[eL,List.getD_eq_getElem?_getD,List.getElem?_map,hz0];exact hzl
 obtain⟨hm,hst⟩:=hrest o rest hg;have hz1:z.l[0]? =some o:=by rw[hzl];rfl
 refine mc ?_;refine qt (cA underlying25 t57 rfl hL (by simp) rfl rfl (by simpa using ae hz0)) ?_;refine ld (Rd.tG hL (i:=2) rfl (aI hz0) rfl) ?_;refine qt (bD underlying57 t41 rfl (.head _) (by simp) rfl rfl (ae hz1)) ?_;refine qt (bU t41 rfl (fc.kK (.head _) (aI hz1)) rfl) ?_;refine Qo 32 (o.val) rfl rfl ?_;refine al fun b1=>?_;refine mc ?_;refine At.aJ (iW (⟨bQ z.a z.c 4 1,z.c-1,z.l.drop 1⟩:Sl bA)) (fun _ h=>Hn h.1 (by rw[hzl];simp)) ?_;refine dv 21 [0,1,2,3,4,5,6,7,8,9,10,11,12,13,14,15,18,116,17,19,120] (k_ (k_ (k_ (d_ (k_ (k_ r_)))))) ?_;refine mc ?_;refine aQ.quiet rfl (cA underlying25 t57 rfl hL (by simp) rfl rfl (by simpa using ae hz0)) rfl (Calm.then (Calm.then bG.calm)) ?_;refine mc ?_;refine oM rfl (bF.eJ (aY t57 rfl (Rd.tG hL (i:=3) rfl (aI hz0) rfl))) ?_;refine mc ?_;refine aQ.quiet rfl (ga underlying57 t41 rfl rfl (l:=1) rfl (by rw[hzl];simp)) rfl (Calm.then (Calm.then bG.calm)) ?_;refine aQ.fZ 50 (Sl.val (⟨bQ z.a z.c 4 1,z.c-1,z.l.drop 1⟩:Sl bA)) rfl (DW.symm) ?_;refine aQ.quiet rfl (cA underlying25 t57 rfl hL (by simp) rfl rfl (by simpa using ae hz0)) rfl (Calm.then (Calm.then bG.calm)) ?_;refine yn rfl (iU t57 rfl rfl hL (i:=3) rfl (aI hz0) rfl rfl rfl) ?_;rintro _ _ _ ⟨Mow1,ow1,rfl,rfl⟩;refine mc ?_;have hL2:bR 57 1 ((left.set i (⟨bQ z.a z.c 4 1,z.c-1,z.l.drop 1⟩:Sl bA)).map iX) la lc Mow1:=by rw[List.map_set];exact ow1
 refine qt (cA underlying57 t41 rfl hO (by simp) rfl rfl (by simpa using ae hoo)) ?_;refine At.bC (iU t41 rfl rfl hO (i:=4) rfl (aI hoo) rfl rfl rfl) ?_;rintro _ _ _ ⟨Mow2,ow2,rfl,rfl⟩;refine mc ?_;have hO2:bR 41 4 ((ops.set i o).map kR) oa oc Mow2:=by rw[List.map_set];exact ow2
 refine dw 6 [] r_ ?_;refine ca (MM hW hi hbT hnx o hm (by omega)) ?_;rintro _ _ _ ⟨rfl,q1,r1,tl1,M1,hW1,rfl,rfl⟩;refine mc ?_;rw[<-et]at hW1;have len1:i<(W.w.call i (W.w.th i) o).zY.length:=by rw[Wd.z8];exact k1
 obtain⟨t1,hi1,et1⟩:=hW1.get len1;obtain⟨b1,⟨n1,hn1,hz1'⟩,hol1,hfin1⟩:=hst;have hb1:t1.th.busy=true:=by rw[<-et1];exact b1
 have hn1:t1.th.next=some n1:=by rw[<-et1];exact hn1
 have hz1:=hz1';refine dw 10 [8,9] (k_ (k_ (k_ (k_ (k_ (d_ r_)))))) ?_;refine mc (Qo 68 (.agg #[.int .i64 (i:Int),.bool false,.int .i64 o.kind,.int .i64 o.key,.int .i64 o.hi,.int .i64 o.v,.int .i64 0,.bool false,.int .i64 0,.int .i64 0,.int .i64 0,.slice none 0 0]) rfl rfl ?_);refine mO fun b2=>?_;refine yI rfl (dk rfl underlying33 t47 rfl rfl hH (by simp) (i:=6) rfl rfl (news:=[uX (mG i o)]) (by simp[uX,mG,Sl.val]) (fc.loc (i:=0) rfl (m:=12) rfl) rfl rfl rfl (by omega) (by unfold maxLen;omega)) ?_;rintro _ _ _ ⟨ha1,hc1,Mh1,rfl,ow1,rfl,rfl⟩;refine aQ.done ?_;refine At.bu 1 rfl rfl ?_;refine At.fZ 70 (.slice ha1 (h++[(mG i o)]).length hc1) rfl (by simp) ?_;refine At.quiet (aq Vr rfl rfl rfl) rfl ?_;refine At.bC (aw t33 rfl rfl (i:=3) rfl rfl rfl rfl) ?_;rintro _ _ _ ⟨rfl,rfl⟩;refine At.nil ?_;refine At.then ?_;refine At.seq ?_;refine At.seq ?_;refine At.region ?_;have hH1:bR 47 12 ((h++[(mG i o)]).map uX) ha1 hc1 Mh1:=by simpa using ow1
 refine At.front 3 rfl ?_;refine At.piece (B:=[(pb,.cells #[ptr xb,.slice la left.length lc,.slice oa ops.length oc,.slice ha1 (h++[(mG i o)]).length hc1] 87 (0,0))]) rfl ?_;refine At.piece (B:=nN pb xb (left.set i (⟨bQ z.a z.c 4 1,z.c-1,z.l.drop 1⟩:Sl bA)) la lc (ops.set i o) oa oc (h++[(mG i o)]) ha1 hc1) (by simp[nN]) ?_;have eL1:(W.bY i o rest).left=(left.set i (⟨bQ z.a z.c 4 1,z.c-1,z.l.drop 1⟩:Sl bA)).map (·.l):=by show W.left.set i rest=_;rw[eL,List.map_set];simp[hzl]
 have eO1:(W.bY i o rest).ops=ops.set i o:=by show W.ops.set i o=_;rw[eO]
 have eH1:(W.bY i o rest).h=(h++[(mG i o)]).map mL.p:=by show W.h++_=_;rw[eH,List.map_append];rfl
 have hhl1:(h++[(mG i o)]).length+1<=1000000:=by simp only[List.length_append,List.length_singleton];omega
 have hoo1:(ops.set i o)[i]? =some o:=List.getElem?_set_self (ae hoo);refine At.aJ (gq (left.set i (⟨bQ z.a z.c 4 1,z.c-1,z.l.drop 1⟩:Sl bA))) (fun _ h=>Hm h.2.2.2.2.2.2.2.2.2.2.1 h.2.2.2.1) ?_;refine At.aJ (kx (h++[(mG i o)])) (fun _ h=>rE h.2.2.2.2.2.2.2.2.2.2.2.2.1 h.2.2.2.2.2.2.1) ?_;refine ca (wC hW1 hi1) ?_;refine mc ?_;refine At.fZ 78 (.bool true) rfl (congrArg Value.bool (hb1)) ?_;refine ca (Lg hW1 hi1 hb1 hn1 hz1 hol1) ?_;rintro _ _ _ ⟨rfl,q2,r2,tl2,M2,hW2,rfl,rfl⟩;refine mc ?_;rw[<-et1]at hW2;obtain⟨t2,hi2,et2⟩:=hW2.get (by rw[Wd.uY];exact len1);have et2:(Pw.iQ (W.bY i o rest) i).w.th i=t2.th:=et2;refine ca (wC hW2 hi2) ?_;refine cv (fun h9=>?_) (fun h9=>?_);refine mc ?_;have hb2:t2.th.busy=false:=bM h9;obtain⟨hov2,hln2⟩:=hfin1 ((congrArg Th.busy et2).trans hb2);have hov2:t2.th.iR=true:=(congrArg Th.iR et2).symm.trans hov2;have hln2:t2.th.cR.l.length<=1000000:=by rw[<-et2];exact hln2
 refine ca (Cz hW2 hi2 hov2 hln2) ?_;rintro _ _ _ ⟨s2,rfl,hs2,rfl,rfl⟩;refine al fun b3=>?_;refine dw 17 [15,16] (k_ (k_ (k_ (k_ (k_ (k_ (k_ (d_ r_)))))))) ?_;refine mc ?_;refine aQ.quiet rfl (cA underlying57 t41 rfl hO2 (by simp) rfl rfl (by simpa using ae hoo1)) rfl (Calm.then bG.calm) ?_;refine aQ.quiet rfl (bU t41 rfl (fc.tG hO2 (i:=6) rfl (aI hoo1)) rfl) rfl (Calm.then bG.calm) ?_;refine mc (Qo 115 (.agg #[.int .i64 (i:Int),.bool true,.int .i64 o.kind,.int .i64 o.key,.int .i64 o.hi,.int .i64 o.v,.int .i64 t2.th.cR.err,.bool t2.th.cR.ok,.int .i64 t2.th.cR.p.k,.int .i64 t2.th.cR.p.v,.int .i64 t2.th.cR.n,s2.val]) rfl rfl ?_);refine mO fun b4=>?_;refine yI rfl (dk rfl underlying33 t47 rfl rfl hH1 (by simp) (i:=8) rfl rfl (news:=[uX (kI i o t2.th.cR s2)]) (by simp[uX,kI,BQ.of]) (fc.loc (i:=0) rfl (m:=12) rfl) rfl rfl rfl (by omega) (by unfold maxLen;omega)) ?_;rintro _ _ _ ⟨ha3,hc3,Mh3,rfl,ow3,rfl,rfl⟩;refine aQ.done ?_;refine At.bu 1 rfl rfl ?_;refine At.fZ 117 (.slice ha3 ((h++[(mG i o)])++[(kI i o t2.th.cR s2)]).length hc3) rfl (by simp) ?_;refine At.aJ (kx ((h++[(mG i o)])++[(kI i o t2.th.cR s2)])) (fun _ h=>rE h.2.2.2.2.1 h.1) ?_;refine At.quiet (aq Vr rfl rfl rfl) rfl ?_;refine At.bC (aw t33 rfl rfl (i:=3) rfl rfl rfl rfl) ?_;rintro _ _ _ ⟨rfl,rfl⟩;refine At.nil ?_;refine At.then ?_;refine At.seq ?_;refine At.region ?_;refine At.bu 1 rfl rfl ?_;refine At.nil ?_;refine At.then ?_;refine At.ret ?_;refine At.front 2 rfl ?_;refine At.front 8 rfl ?_;refine At.front 8 rfl ?_;refine At.front 8 rfl ?_;refine At.front 6 rfl ?_;exact At.results (Γr:=[_,_,_,_,_]) (M:=[nN pb xb (left.set i (⟨bQ z.a z.c 4 1,z.c-1,z.l.drop 1⟩:Sl bA)) la lc (ops.set i o) oa oc ((h++[(mG i o)])++[(kI i o t2.th.cR s2)]) ha3 hc3,_,_,_,_]) rfl (aT.cons (dU.tmp rfl) aT.nil) (ix 13 rfl) (fun _ h=>⟨h.2.2.1,h.2.2.2.1,h.2.2.2.2.1,h.2.2.2.2.2.2.1,h.1,trivial⟩) (k_ (k_ (k_ (k_ (k_ (d_ (d_ (d_ (d_ r_))))))))) ((by rw[Pw.uZ hbz hg];exact⟨rfl,sj (W1:=(W.bY i o rest)) hW2 et2 hb2 hL2 hO2 (by simpa using ow3) eL1 eO1 eH1 hoo1 hs2⟩));refine re ?_;exact rs (by rw[Pw.uZ hbz hg];exact⟨rfl,qB (W1:=(W.bY i o rest)) hW2 et2 (bV h9) hL2 hO2 hH1 eL1 eO1 eH1⟩);have hb0:t.th.busy=true:=bV hb;have hbz:(W.w.th i).busy=true:=by rw[et];exact hb0
 obtain⟨b0,⟨n0,hn0,hz0'⟩,hol0,hfin0⟩:=k6 hbz;have hn0:t.th.next=some n0:=by rw[<-et];exact hn0
 have hW0:=hW;have hi0:=hi;have et0:=et;have len0:=k1;have eL0:=eL;have eO0:=eO;have eH0:=eH;have hz0:=hz0';refine ca (wC hW0 hi0) ?_;refine mc ?_;refine At.fZ 78 (.bool true) rfl (congrArg Value.bool (hb0)) ?_;refine ca (Lg hW0 hi0 hb0 hn0 hz0 hol0) ?_;rintro _ _ _ ⟨rfl,q2,r2,tl2,M2,hW2,rfl,rfl⟩;refine mc ?_;rw[<-et0]at hW2;obtain⟨t2,hi2,et2⟩:=hW2.get (by rw[Wd.uY];exact len0);have et2:(Pw.iQ W i).w.th i=t2.th:=et2;refine ca (wC hW2 hi2) ?_;refine cv (fun h9=>?_) (fun h9=>?_);refine mc ?_;have hb2:t2.th.busy=false:=bM h9;obtain⟨hov2,hln2⟩:=hfin0 ((congrArg Th.busy et2).trans hb2);have hov2:t2.th.iR=true:=(congrArg Th.iR et2).symm.trans hov2;have hln2:t2.th.cR.l.length<=1000000:=by rw[<-et2];exact hln2
 refine ca (Cz hW2 hi2 hov2 hln2) ?_;rintro _ _ _ ⟨s2,rfl,hs2,rfl,rfl⟩;refine al fun b5=>?_;refine dw 17 [15,16] (k_ (k_ (k_ (k_ (k_ (d_ r_)))))) ?_;refine mc ?_;refine aQ.quiet rfl (cA underlying57 t41 rfl hO (by simp) rfl rfl (by simpa using ae hoo)) rfl (Calm.then bG.calm) ?_;refine aQ.quiet rfl (bU t41 rfl (fc.tG hO (i:=4) rfl (aI hoo)) rfl) rfl (Calm.then bG.calm) ?_;refine mc (Qo 115 (.agg #[.int .i64 (i:Int),.bool true,.int .i64 oo.kind,.int .i64 oo.key,.int .i64 oo.hi,.int .i64 oo.v,.int .i64 t2.th.cR.err,.bool t2.th.cR.ok,.int .i64 t2.th.cR.p.k,.int .i64 t2.th.cR.p.v,.int .i64 t2.th.cR.n,s2.val]) rfl rfl ?_);refine mO fun b6=>?_;refine yI rfl (dk rfl underlying33 t47 rfl rfl hH (by simp) (i:=6) rfl rfl (news:=[uX (kI i oo t2.th.cR s2)]) (by simp[uX,kI,BQ.of]) (fc.loc (i:=0) rfl (m:=12) rfl) rfl rfl rfl (by omega) (by unfold maxLen;omega)) ?_;rintro _ _ _ ⟨ha3,hc3,Mh3,rfl,ow3,rfl,rfl⟩;refine aQ.done ?_;refine At.bu 1 rfl rfl ?_;refine At.fZ 117 (.slice ha3 (h++[(kI i oo t2.th.cR s2)]).length hc3) rfl (by simp) ?_;refine At.aJ (kx (h++[(kI i oo t2.th.cR s2)])) (fun _ h=>rE h.2.2.2.2.2.2.2.2.2.2.2.1 h.1) ?_;refine At.quiet (aq Vr rfl rfl rfl) rfl ?_;refine At.bC (aw t33 rfl rfl (i:=3) rfl rfl rfl rfl) ?_;rintro _ _ _ ⟨rfl,rfl⟩;refine At.nil ?_;refine At.then ?_;refine At.seq ?_;refine At.region ?_;refine At.bu 1 rfl rfl ?_;refine At.nil ?_;refine At.then ?_;refine At.ret ?_;refine At.front 2 rfl ?_;refine At.front 6 rfl ?_;refine At.front 6 rfl ?_;refine At.front 6 rfl ?_;refine At.front 6 rfl ?_;exact At.results (Γr:=[_,_,_,_,_]) (M:=[nN pb xb (left) la lc (ops) oa oc (h++[(kI i oo t2.th.cR s2)]) ha3 hc3,_,_,_,_]) rfl (aT.cons (dU.tmp rfl) aT.nil) (ix 7 rfl) (fun _ h=>⟨h.2.2.1,h.2.2.2.1,h.2.2.2.2.1,h.2.2.2.2.2.2.2.2.2.2.2.1,h.1,trivial⟩) (k_ (k_ (k_ (k_ (k_ (d_ (d_ r_))))))) ((by rw[Pw.rF hbz];exact⟨rfl,sj (W1:=W) hW2 et2 hb2 hL hO (by simpa using ow3) eL0 eO0 eH0 hoo hs2⟩));refine re ?_;exact rs (by rw[Pw.rF hbz];exact⟨rfl,qB (W1:=W) hW2 et2 (bV h9) hL hO hH eL0 eO0 eH0⟩)
end Go.Proofs.YtcnohdmimheoaaaGreat
namespace Go.Proofs.YtcnohdmimheoaaaGreat
open E Go.Proofs.Tryz
def Wd.new (nt:Nat) (p:iH) (x:Int×Int×Ar):Wd:=⟨List.replicate nt H8,x.2.2,p.cp,x.1,[],0,0,0,0⟩
def Pw.new (nt:Nat) (p:iH) (x:Int×Int×Ar) (ops:List (List bA)):Pw:=⟨Wd.new nt p x,ops,List.replicate nt H9,[]⟩
def Bo (tb:Nat):oG:=⟨tb,H8,.nilFunc,⟨none,0,[]⟩,[],[]⟩
theorem CC {xb:Nat}:∀(l:List Nat),fB xb (l.map Bo)=Bm xb l
 | []=>rfl
 |a::l=>by
  have:=CC (xb:=xb) l;simp only[fB,Bm,List.map_cons,List.flatMap_cons]at this⊢;rw[this];simp[oG.Ej,Bo]
theorem MO {H:Hp} (l:List Nat):(qz (l.map Bo)).holds H:=fun t ht=>by
 obtain⟨b,_,rfl⟩:=List.mem_map.1 ht;exact⟨⟨(),rfl,trivial⟩,dh _ _ _ (Nat.zero_le _)⟩
section
variable (nt:Nat) (hn1:1<=nt) (hn2:nt<=6) (cells:Int) (hc0:0<=cells) (hc1:cells<=60000) (p:iH) (l:Sl Pr) (hl:l.l.length<=60000) (hr:dV l.l=true)
include nt hn1 hn2 cells hc0 hc1 p l hl hr
theorem JT (he:(fG cells l.l).2.1≠0):
  aN prog 103 [.int .i64 (nt:Int),.int .i64 cells,p.val,l.val] [aC l] [] (fun v Γ M'=>v= .tuple #[.pointer none,.int .i64 (fG cells l.l).2.1]/\Γ=[]/\M'=[]):=
 (Hh nt hn1 hn2 cells hc0 hc1 p l hl hr).mono (fun _ h=>h) fun v Γ M h=>by
  rcases h with⟨_,h⟩| ⟨h,_⟩;exact h;exact absurd h he
theorem JU (he:(fG cells l.l).2.1=0):
  aN prog 103 [.int .i64 (nt:Int),.int .i64 cells,p.val,l.val] [aC l] [] (fun v Γ M'=>∃xb ba q r tl M,v= .tuple #[ptr xb,.int .i64 0]/\nM xb ba (Wd.new nt p (fG cells l.l)) q r tl M/\Γ=wF q r tl/\M'=[M]):=fun X w H L hp hst=>by
 refine(Hh nt hn1 hn2 cells hc0 hc1 p l hl hr X w H L hp hst).mono fun e w' h=>?_;obtain⟨v,Γ',M',H',j1,h,j3,j4,j5⟩:=h;rcases h with⟨h,_⟩| ⟨_,xb,ba,ta,tc,r,N,tbs,rfl,rfl,rfl,hA,hrp,hlen⟩;exact absurd he h;refine⟨_,wF {JS p with root:=(fG cells l.l).1,ta:=ta,tn:=tbs.length,tc:=tc} r (tbs.map Bo),[ao xb ba {JS p with root:=(fG cells l.l).1,ta:=ta,tn:=tbs.length,tc:=tc}++([]++(N++fB xb (tbs.map Bo)))],H',j1,⟨xb,ba,_,r,tbs.map Bo,_,rfl,⟨[],N,rfl,bR.nil _ _,hA,fun t ht=>?_,by simp,?_⟩,rfl,rfl⟩,j3,⟨j4.1,MO tbs,?_,trivial⟩,?_⟩;obtain⟨b,_,rfl⟩:=List.mem_map.1 ht;exact⟨rfl,rfl⟩;unfold Wd.new JS;rw[hrp,List.map_map,<-hlen];congr 1;rw[<-List.map_const'];rfl;have e1:(tbs.map Bo).map kt=tbs.map zV:=by rw[List.map_map];rfl
 rw[e1];exact j4.2.1;exact j5.flat (by simp[CC])
end
structure kd where
 threads:Int
 cells:Int
 cF:iH
 aS:Sl Pr
 ops:Sl (Sl bA)
 aV:Sl Int
def kd.val (s:kd):Value:=.agg #[.int .i64 s.threads,.int .i64 s.cells,.int .i64 s.cF.high,.int .i64 s.cF.low,.int .i64 s.cF.cont,.int .i64 s.cF.gQ,.int .i64 s.cF.jN,s.aS.val,s.ops.val,s.aV.val]
structure MP (s:kd) (nt:Nat):Prop where
 th:s.threads=(nt:Int)
 n1:1<=nt
 n2:nt<=6
 c0:0<=s.cells
 c1:s.cells<=60000
 bl:s.aS.l.length<=60000
 br:dV s.aS.l=true
 ol:s.ops.l.length=nt
 pl:s.aV.l.length<=100000
def kd.pw (s:kd) (nt:Nat):Pw:=Pw.new nt s.cF (fG s.cells s.aS.l) (s.ops.l.map (·.l))
def MQ (s:kd) (nt:Nat) (v:Value) (Γ:List ag) (M':E.Loc):Prop:=∃pb xb ba,v= .tuple #[ptr pb,.int .i64 0]/\DX pb xb ba (s.pw nt) Γ M'
def Pw.aV (W:Pw) (l:List Int):Pw:=l.foldl (fun W i=>(W.pick i.toNat).2) W
theorem Pw.u0 {W:Pw} {l:List Int} {k:Nat} {i:Int} (h:l[k]? =some i):W.aV (l.take (k+1))=((W.aV (l.take k)).pick i.toNat).2:=by
 unfold Pw.aV;rw[List.take_add_one,h,List.foldl_append];rfl
def ya (W:Pw) (l:List Int):Prop:=∀k i,l[k]? =some i->0<=i/\nO (W.aV (l.take k)) i.toNat
theorem Lh {pb xb ba:Nat} {W:Pw} {x:Ek} (hP:vE xb ba W x) (i:Int) (h0:0<=i) (hok:nO W i.toNat):aN prog 49 [ptr pb,.int .i64 i] x.facts (x.Nq pb xb) (fun v Γ M'=>v= .bool (W.pick i.toNat).1/\DX pb xb ba (W.pick i.toNat).2 Γ M'):=by
 obtain⟨q,r,tl,M,left,la,lc,Ml,ops,oa,oc,Mo,h,ha,hc,Mh⟩:=x;have:=MN pb xb ba W q r tl M left la lc Ml ops oa oc Mo h ha hc Mh hP i.toNat hok;rw[show((i.toNat:Nat):Int)=i by omega]at this;exact this
def PQ (W:Pw) (v:Value) (Γ:List ag) (M':E.Loc):Prop:=∃pb xb ba,v= .tuple #[ptr pb,.int .i64 0]/\DX pb xb ba W Γ M'
end Go.Proofs.YtcnohdmimheoaaaGreat
namespace Go.Proofs.YtcnohdmimheoaaaGreat
open E Ar Go.Proofs.Tryz
theorem t28:dg prog 28=some (false,10,128,.agg #[.int .i64 0,.int .i64 0,.int .i64 0,.int .i64 0,.int .i64 0,.int .i64 0,.int .i64 0,.slice none 0 0,.slice none 0 0,.slice none 0 0]):=by kernel_rfl
theorem Xw:kW prog 28=some [(0,1,true),(1,1,true),(2,5,false),(7,1,true),(8,1,true),(9,1,true)]:=by kernel_rfl
section
variable (s:kd) (nt:Nat) (hok:MP s nt) (Ml:aO) (hL:bR 57 1 (s.ops.l.map iX) s.ops.a s.ops.c Ml)
include s nt hok Ml hL
theorem Hq (he:(fG s.cells s.aS.l).2.1≠0):aN prog 75 [s.val] [aC s.aS,gq s.ops.l] [Ml] (fun v Γ M'=>v= .tuple #[.pointer none,.int .i64 (fG s.cells s.aS.l).2.1]/\Γ=[]/\M'=[]):=by
 refine cb fun X H₀ L₀=>?_;have hn6:=hok.n2;refine bx fun b1=>?_;refine sv 8 (.int .i64 (nt:Int)) ?_ (e:=by exact congrArg (Value.int .i64) hok.th);refine sG 12 (s.cF.val) ?_;refine ca (JT nt hok.n1 hok.n2 s.cells hok.c0 hok.c1 s.cF s.aS hok.bl hok.br he) ?_;refine sv 19 (.bool true) ?_ (e:=by exact congrArg Value.bool (decide_eq_true he));refine re ?_;exact rs ⟨rfl,rfl,rfl⟩
theorem Hr (he:(fG s.cells s.aS.l).2.1=0):aN prog 75 [s.val] [aC s.aS,gq s.ops.l] [Ml] (MQ s nt):=by
 refine cb fun X H₀ L₀=>?_;have hn6:=hok.n2;refine bx fun b1=>?_;refine sv 8 (.int .i64 (nt:Int)) ?_ (e:=by exact congrArg (Value.int .i64) hok.th);refine sG 12 (s.cF.val) ?_;refine ca (JU nt hok.n1 hok.n2 s.cells hok.c0 hok.c1 s.cF s.aS hok.bl hok.br he) ?_;rintro _ _ _ ⟨xb,ba,q,r,tl,M,rfl,hW,rfl,rfl⟩;refine sv 19 (.bool false) ?_ (e:=by exact congrArg Value.bool (by simp));refine dw 6 [5] r_ ?_;refine sv 25 (.int .i64 (nt:Int)) ?_ (e:=by exact congrArg (Value.int .i64) hok.th);refine aQ.yH rfl (rW (m:=nt) underlying57 t41 rfl rfl rfl rfl rfl (by omega) (by unfold maxLen;omega)) rfl (by rintro _ _ _ ⟨_,_,rfl,_,rfl,rfl⟩;exact⟨fun _ h=>h,d_ r_⟩) ?_;rintro _ _ _ ⟨bo,Mos,rfl,hOs,rfl,rfl⟩;refine al fun b2=>?_;have hO2:bR 41 4 ((List.replicate nt H9).map kR) (some ⟨bo,0,none⟩) nt Mos:=by rw[List.map_replicate];exact hOs
 refine At.piece (B:=[(b2,.cells #[ptr xb,.slice s.ops.a s.ops.l.length s.ops.c,.slice (some ⟨bo,0,none⟩) nt nt,.slice none 0 0] 87 (0,0))]) rfl ?_;refine At.piece (B:=nN b2 xb s.ops.l s.ops.a s.ops.c (List.replicate nt H9) (some ⟨bo,0,none⟩) nt [] none 0) (by simp[nN]) ?_;refine At.ck ?_;refine At.aJ (kx []) (fun _ _=>fun _ h=>by cases h) ?_;refine re ?_;exact rs ⟨b2,xb,ba,rfl,⟨q,r,tl,M,s.ops.l,s.ops.a,s.ops.c,Ml,List.replicate nt H9,some ⟨bo,0,none⟩,nt,Mos,[],none,0,[]⟩,⟨hW,hL,hO2,bR.nil _ _,rfl,rfl,rfl⟩,rfl,rfl⟩
end
section
variable (s:kd) (nt:Nat) (hok:MP s nt) (Ml:aO) (hL:bR 57 1 (s.ops.l.map iX) s.ops.a s.ops.c Ml)
include s nt hok Ml hL
theorem CD (he:(fG s.cells s.aS.l).2.1≠0):aN prog 48 [s.val] [aC s.aS,gq s.ops.l,cw s.aV] [Ml] (fun v Γ M'=>v= .tuple #[.pointer none,.int .i64 (fG s.cells s.aS.l).2.1]/\Γ=[]/\M'=[]):=by
 refine cb fun X H₀ L₀=>?_;refine bx fun b1=>?_;refine sG 9 (s.val) ?_;refine ca (Hq s nt hok Ml hL he) ?_;refine sv 14 (.bool true) ?_ (e:=by exact congrArg Value.bool (decide_eq_true he));refine re ?_;exact rs ⟨rfl,rfl,rfl⟩
theorem CE (he:(fG s.cells s.aS.l).2.1=0) (hpk:ya (s.pw nt) s.aV.l):aN prog 48 [s.val] [aC s.aS,gq s.ops.l,cw s.aV] [Ml] (PQ (Pw.aV (s.pw nt) s.aV.l)):=by
 refine cb fun X H₀ L₀=>?_;have hpl:=hok.pl;refine bx fun b1=>?_;refine sG 9 (s.val) ?_;refine ca (Hr s nt hok Ml hL he) ?_;rintro _ _ _ ⟨pb,xb,ba,rfl,x0,hP0,rfl,rfl⟩;refine sv 14 (.bool false) ?_ (e:=by exact congrArg Value.bool (by simp));refine mc ?_;refine At.front 4 rfl ?_;refine At.front 4 rfl ?_;refine At.front 4 rfl ?_;refine At.front 4 rfl ?_;refine At.front 4 rfl ?_;refine At.dP (ι:=Nat×Ek) [7,19,20,21,22,23,24,25,26] (fun⟨k,x⟩=>[(19,.int .i64 (k:Int))]) (fun⟨k,x⟩=>[ak x.r.rows,qz x.tl,sl x.q.ta x.q.tc 1 (x.tl.map kt),gq x.left,kx x.h]) (fun⟨k,x⟩=>[x.box pb xb,x.Ml,x.Mo,x.Mh,x.M]) _ (fun⟨k,x⟩=>k<=s.aV.l.length/\vE xb ba (Pw.aV (s.pw nt) (s.aV.l.take k)) x) (fun⟨k,x⟩=>s.aV.l.length-k) (0,x0) ⟨Nat.zero_le _,hP0⟩ ⟨rfl,trivial⟩ (fun _ h=>⟨h.1,h.2.1,h.2.2.1,h.2.2.2.1,h.2.2.2.2.1,trivial⟩) (k_ (k_ (k_ (k_ (k_ r_))))) ?_;intro st hI;obtain⟨k,x⟩:=st;refine fi (fun hk=>?_) (fun hk=>?_);obtain⟨i,hi⟩:=aD (l:=s.aV.l) (i:=k) (by omega);obtain⟨hi0,hik⟩:=hpk k i hi;refine mc ?_;refine qt (bD underlying26 t3 rfl (.tail _ (.tail _ (.tail _ (.tail _ (.tail _ (.tail _ (.tail _ (.tail _ (.tail _ (.tail _ (.tail _ (.tail _ (.tail _ (.tail _ (.head _))))))))))))))) (by simp) rfl rfl (ae hi)) ?_;refine ld (Rd.kK (.tail _ (.tail _ (.tail _ (.tail _ (.tail _ (.tail _ (.tail _ (.tail _ (.tail _ (.tail _ (.tail _ (.tail _ (.tail _ (.tail _ (.head _))))))))))))))) (aI hi) rfl) ?_;refine ca (Lh hI.2 i hi0 hik) ?_;rintro _ _ _ ⟨rfl,x2,hP2,rfl,rfl⟩;refine mc ?_;refine At.front 4 rfl ?_;refine At.front 4 rfl ?_;refine At.front 4 rfl ?_;refine At.front 4 rfl ?_;refine At.front 4 rfl ?_;refine mc ?_;exact At.bX (k+1,x2) ⟨by omega,by rw[Pw.u0 hi];exact hP2⟩ (by(try dsimp only);omega) (bc.end 10 ⟨rfl,trivial⟩ rfl rfl) (fun _ h=>⟨h.1,⟨h.2.1,⟨h.2.2.1,⟨h.2.2.2.1,⟨h.2.2.2.2.1,h.2.2.2.2.2.2.2.2.2.2⟩⟩⟩⟩⟩) (k_ (k_ (k_ (k_ (k_ r_)))));refine re ?_;exact rs ⟨pb,xb,ba,rfl,x,by have h2:vE xb ba (Pw.aV (s.pw nt) (s.aV.l.take k)) x:=hI.2;rw[List.take_of_length_le (by omega)]at h2;exact h2,rfl,rfl⟩
end
end Go.Proofs.YtcnohdmimheoaaaGreat
namespace Go.Proofs.YtcnohdmimheoaaaGreat
open E Go.Proofs.Tryz
structure Rp where
 err:Int
 cW:List Ev
 cV:List Int
 tree:PT
 pending:Int
 steps:Int
 used:Int
 splits:Int
 aA:Int
structure nP where
 err:Int
 cW:Sl mL
 cV:Sl Int
 tree:Tr
 pending:Int
 steps:Int
 used:Int
 splits:Int
 aA:Int
def nP.p (u:nP):Rp:=⟨u.err,u.cW.l.map mL.p,u.cV.l,u.tree.p,u.pending,u.steps,u.used,u.splits,u.aA⟩
def nP.cells (u:nP):Array Value:= #[.int .i64 u.err,u.cW.val,u.cV.val,.int .i64 u.tree.root,u.tree.ns.val,.int .i64 u.pending,.int .i64 u.steps,.int .i64 u.used,.int .i64 u.splits,.int .i64 u.aA]
def nP.val (u:nP):Value:=.agg #[.int .i64 u.err,u.cW.val,u.cV.val,.int .i64 u.tree.root,u.tree.ns.val,.int .i64 u.pending,.int .i64 u.steps,.int .i64 u.used,.int .i64 u.splits,.int .i64 u.aA]
def u3 (s:Sl mL):ag:=sl s.a s.c 12 (s.l.map uX)
abbrev nP.facts (u:nP):List ag:=[u3 u.cW,kx u.cW.l,cw u.cV,pN u.tree.ns,pO u.tree.ns.l]
def Ac (b:Nat) (u:nP):aO:=[(b,.cells u.cells 38 (0,0))]
def nQ (R:Rp) (v:Value) (Γ:List ag) (M':E.Loc):Prop:=∃u:nP,v=u.val/\u.p=R/\Γ=u.facts/\M'=[]
def dS (w:Wd) (k:Nat):Nat:=(List.range k).countP fun i=>(w.th i).busy
theorem wD {w:Wd} {k:Nat} (h:(w.th k).busy=true):dS w (k+1)=dS w k+1:=by unfold dS;rw[List.range_succ,List.countP_append];simp[h]
theorem u4 {w:Wd} {k:Nat} (h:(w.th k).busy=false):dS w (k+1)=dS w k:=by unfold dS;rw[List.range_succ,List.countP_append];simp[h]
theorem Hs (w:Wd) (k:Nat):dS w k<=k:=by
 have:=List.countP_le_length (p:=fun i=>(w.th i).busy) (l:=List.range k);simpa[dS]using this
def Pw.report (n:Nat) (W:Pw):Rp:=⟨0,W.h,W.w.ord,⟨0,W.w.ar.iN W.w.cF n W.w.root 0⟩,(dS W.w W.ops.length:Int),W.w.steps,(W.w.ar.sl.length:Int),W.w.splits,W.w.aA⟩
def Rp.bad (e:Int):Rp:=⟨e,[],[],⟨0,[]⟩,0,0,0,0,0⟩
structure wE (W:Pw) (n:Nat):Prop where
 deep:W.w.ar.si n W.w.root
 gN:(W.w.ar.iN W.w.cF n W.w.root 0).length<=1000000
 ord:W.w.ord.length<1000000
 len:W.ops.length=W.w.zY.length
 ol:W.ops.length<=1000
end Go.Proofs.YtcnohdmimheoaaaGreat
namespace Go.Proofs.YtcnohdmimheoaaaGreat
open E Ar Go.Proofs.Tryz
theorem t38:dg prog 38=some (false,10,128,.agg #[.int .i64 0,.slice none 0 0,.slice none 0 0,.int .i64 0,.slice none 0 0,.int .i64 0,.int .i64 0,.int .i64 0,.int .i64 0,.int .i64 0]):=by kernel_rfl
theorem Ia:kW prog 38=some [(0,1,true),(1,1,true),(2,1,true),(3,2,false),(5,1,true),(6,1,true),(7,1,true),(8,1,true),(9,1,true)]:=by kernel_rfl
theorem Ad (pb xb ba:Nat) (W:Pw) (q:Ix) (r:cX) (tl:List oG) (M:aO) (left:List (Sl bA)) (la:Option Addr) (lc:Nat) (Ml:aO) (ops:List bA) (oa:Option Addr) (oc:Nat) (Mo:aO) (h:List mL) (ha:Option Addr) (hc:Nat) (Mh:aO) (hP:vE xb ba W ⟨q,r,tl,M,left,la,lc,Ml,ops,oa,oc,Mo,h,ha,hc,Mh⟩) (n:Nat) (hok:wE W n):aN prog 50 [.pointer (some ⟨pb,0,none⟩)] [ak r.rows,qz tl,sl q.ta q.tc 1 (tl.map kt),gq left,kx h] [nN pb xb left la lc ops oa oc h ha hc,Ml,Mo,Mh,M] (nQ (W.report n)):=by
 refine cb fun X H₀ L₀=>?_;obtain⟨hW,hL,hO,hH,eL,eO,eH⟩:=hP;obtain⟨hdeep,hfew,hol,hlen,hol1⟩:=hok;simp only at hW hL hO hH eL eO eH;have hlen2:W.ops.length=W.w.zY.length:=hlen;have heo:W.ops.length=ops.length:=by rw[eO]
 refine At.da 3 hH rfl ?_;refine al fun b1=>?_;refine At.nil ?_;refine At.then ?_;refine At.front 4 rfl ?_;refine At.C2 (ι:=Nat×(Sl Int×Tr)×(aO×Ar×cX×aO)) (.s .z) [3,5,6,7,8,9,10,11,12,13,14,15,16,17,18,19,20,21,22,23,24,25,26,27,28,29,30,31,32,33,34,35,36,37,38,39] (fun⟨b9,⟨ut,u⟩,⟨Mt,A2,r2,M2⟩⟩=>[(3,.pointer (some ⟨b9,0,none⟩))]) (fun⟨b9,⟨ut,u⟩,⟨Mt,A2,r2,M2⟩⟩=>[cw ut,pO u.ns.l,ak r2.rows,qz tl,sl q.ta q.tc 1 (tl.map kt)]) (fun⟨b9,⟨ut,u⟩,⟨Mt,A2,r2,M2⟩⟩=>[Ac b9 (⟨0,⟨ha,hc,h⟩,ut,u,0,W.w.steps,(W.w.ar.sl.length:Int),W.w.splits,W.w.aA⟩:nP),M2,Mt]) (fun⟨b9,⟨ut,u⟩,⟨Mt,A2,r2,M2⟩⟩=>ut.l=W.w.ord/\bR 104 6 (u.ns.l.map ke) u.ns.a u.ns.c Mt/\u.p=⟨0,W.w.ar.iN W.w.cF n W.w.root 0⟩/\A2.sl=W.w.ar.sl/\nM xb ba {W.w with ar:=A2} q r2 tl M2) ?_ ?_;refine At.draw 36 (.q 0 (.q 1 (.q 2 (.q 3 (.q 4 (.q 5 (.q 6 (.q 7 (.q 9 (.q 10 (.q 11 (.q 12 (.q 14 (.q 15 (.q 16 (.q 17 (.q 19 (.q 20 (.q 21 (.q 22 (.q 24 (.q 25 (.q 26 (.q 27 (.q 29 (.q 30 (.q 31 (.q 32 (.t 8 (.t 13 (.t 18 (.t 23 (.t 28 (.t 33 (.q 34 (.o 35 (.e))) 35 (.o 33 (.q 34 (.e)))) 35 (.o 28 (.o 33 (.q 34 (.e))))) 35 (.o 23 (.o 28 (.o 33 (.q 34 (.e)))))) 35 (.o 18 (.o 23 (.o 28 (.o 33 (.q 34 (.e))))))) 35 (.o 13 (.o 18 (.o 23 (.o 28 (.o 33 (.q 34 (.e)))))))) 35 (.o 8 (.o 13 (.o 18 (.o 23 (.o 28 (.o 33 (.q 34 (.e))))))))))))))))))))))))))))))))))))) (_::_::_::_::L₀) (d_ (k_ (k_ (k_ (k_ r_))))) mixed (by kernel_rfl) rfl ?_;refine mc ?_;refine aQ.two ?_ ?_;refine gf (Hk hW hol) ?_;rintro _ _ _ ⟨ut,rfl,hut,rfl,rfl⟩;refine aQ.two ?_ ?_;refine gf (Hl hW n hdeep hfew) ?_;rintro _ _ _ ⟨u,Mt,A2,r2,M2,rfl,rfl,rfl,hT,hup,hA2,hW2⟩;refine aQ.two ?_ ?_;refine gf (x8 hW2) ?_;refine mc ?_;refine aQ.two ?_ ?_;refine gf (zZ hW2) ?_;refine mc ?_;refine aQ.two ?_ ?_;refine gf (ox hW2) ?_;refine mc ?_;refine aQ.two ?_ ?_;refine oA (px hW2) ?_;refine nX fun b2=>?_;refine aQ.done ?_;refine At.fZ 39 ((⟨0,⟨ha,hc,h⟩,ut,u,0,W.w.steps,(W.w.ar.sl.length:Int),W.w.splits,W.w.aA⟩:nP).val) rfl (by show Value.agg #[.int .i64 0,.slice ha h.length hc,ut.val,.int .i64 u.root,u.ns.val,.int .i64 0,.int .i64 W.w.steps,.int .i64 (A2.sl.length:Int),.int .i64 W.w.splits,.int .i64 W.w.aA]=_;rw[hA2];rfl) ?_;refine At.bC (aw t38 rfl rfl (i:=0) rfl rfl rfl rfl) ?_;rintro _ _ _ ⟨rfl,rfl⟩;refine At.nil ?_;refine At.front 2 rfl ?_;refine At.front 2 rfl ?_;refine At.front 2 rfl ?_;refine At.then ?_;exact At.eh (b2,(ut,u),(Mt,A2,r2,M2)) ⟨hut,hT,hup,hA2,hW2⟩ (bc.meet 37 ⟨rfl,trivial⟩ rfl rfl) (fun _ h=>⟨h.2.2.2.2.1,⟨h.1,⟨h.2.1,⟨h.2.2.1,⟨h.2.2.2.1,h.2.2.2.2.2⟩⟩⟩⟩⟩) (k_ (k_ (k_ r_)));refine mO fun b3=>?_;refine oA (px hW2) ?_;refine sv 39 ((⟨0,⟨ha,hc,h⟩,ut,u,0,W.w.steps,(W.w.ar.sl.length:Int),W.w.splits,W.w.aA⟩:nP).val) ?_ (e:=by show Value.agg #[.int .i64 0,.slice ha h.length hc,ut.val,.int .i64 u.root,u.ns.val,.int .i64 0,.int .i64 W.w.steps,.int .i64 (A2.sl.length:Int),.int .i64 W.w.splits,.int .i64 W.w.aA]=_;rw[hA2];rfl)
 refine At.bC (aw t38 rfl rfl (i:=1) rfl rfl rfl rfl) ?_;rintro _ _ _ ⟨rfl,rfl⟩;refine At.nil ?_;refine At.front 2 rfl ?_;refine At.front 1 rfl ?_;refine At.front 2 rfl ?_;refine At.then ?_;exact At.eh (b3,(ut,u),(Mt,A2,r2,M2)) ⟨hut,hT,hup,hA2,hW2⟩ (bc.meet 37 ⟨rfl,trivial⟩ rfl rfl) (fun _ h=>⟨h.2.2.2.2.1,⟨h.1,⟨h.2.1,⟨h.2.2.1,⟨h.2.2.2.1,h.2.2.2.2.2⟩⟩⟩⟩⟩) (k_ (k_ (k_ r_)));refine mO fun b4=>?_;refine gf (ox hW2) ?_;refine oA (px hW2) ?_;refine sv 39 ((⟨0,⟨ha,hc,h⟩,ut,u,0,W.w.steps,(W.w.ar.sl.length:Int),W.w.splits,W.w.aA⟩:nP).val) ?_ (e:=by show Value.agg #[.int .i64 0,.slice ha h.length hc,ut.val,.int .i64 u.root,u.ns.val,.int .i64 0,.int .i64 W.w.steps,.int .i64 (A2.sl.length:Int),.int .i64 W.w.splits,.int .i64 W.w.aA]=_;rw[hA2];rfl);refine At.bC (aw t38 rfl rfl (i:=1) rfl rfl rfl rfl) ?_;rintro _ _ _ ⟨rfl,rfl⟩;refine At.nil ?_;refine At.front 2 rfl ?_;refine At.front 1 rfl ?_;refine At.front 2 rfl ?_;refine At.then ?_;exact At.eh (b4,(ut,u),(Mt,A2,r2,M2)) ⟨hut,hT,hup,hA2,hW2⟩ (bc.meet 37 ⟨rfl,trivial⟩ rfl rfl) (fun _ h=>⟨h.2.2.2.2.1,⟨h.1,⟨h.2.1,⟨h.2.2.1,⟨h.2.2.2.1,h.2.2.2.2.2⟩⟩⟩⟩⟩) (k_ (k_ (k_ r_)));refine mO fun b5=>?_;refine gf (zZ hW2) ?_;refine gf (ox hW2) ?_;refine oA (px hW2) ?_;refine sv 39 ((⟨0,⟨ha,hc,h⟩,ut,u,0,W.w.steps,(W.w.ar.sl.length:Int),W.w.splits,W.w.aA⟩:nP).val) ?_ (e:=by show Value.agg #[.int .i64 0,.slice ha h.length hc,ut.val,.int .i64 u.root,u.ns.val,.int .i64 0,.int .i64 W.w.steps,.int .i64 (A2.sl.length:Int),.int .i64 W.w.splits,.int .i64 W.w.aA]=_;rw[hA2];rfl);refine At.bC (aw t38 rfl rfl (i:=1) rfl rfl rfl rfl) ?_;rintro _ _ _ ⟨rfl,rfl⟩;refine At.nil ?_;refine At.front 2 rfl ?_;refine At.front 1 rfl ?_;refine At.front 2 rfl ?_;refine At.then ?_;exact At.eh (b5,(ut,u),(Mt,A2,r2,M2)) ⟨hut,hT,hup,hA2,hW2⟩ (bc.meet 37 ⟨rfl,trivial⟩ rfl rfl) (fun _ h=>⟨h.2.2.2.2.1,⟨h.1,⟨h.2.1,⟨h.2.2.1,⟨h.2.2.2.1,h.2.2.2.2.2⟩⟩⟩⟩⟩) (k_ (k_ (k_ r_)));refine mO fun b6=>?_;refine gf (x8 hW2) ?_;refine gf (zZ hW2) ?_;refine gf (ox hW2) ?_;refine oA (px hW2) ?_;refine sv 39 ((⟨0,⟨ha,hc,h⟩,ut,u,0,W.w.steps,(W.w.ar.sl.length:Int),W.w.splits,W.w.aA⟩:nP).val) ?_ (e:=by show Value.agg #[.int .i64 0,.slice ha h.length hc,ut.val,.int .i64 u.root,u.ns.val,.int .i64 0,.int .i64 W.w.steps,.int .i64 (A2.sl.length:Int),.int .i64 W.w.splits,.int .i64 W.w.aA]=_;rw[hA2];rfl);refine At.bC (aw t38 rfl rfl (i:=1) rfl rfl rfl rfl) ?_;rintro _ _ _ ⟨rfl,rfl⟩;refine At.nil ?_;refine At.front 2 rfl ?_;refine At.front 1 rfl ?_;refine At.front 2 rfl ?_;refine At.then ?_;exact At.eh (b6,(ut,u),(Mt,A2,r2,M2)) ⟨hut,hT,hup,hA2,hW2⟩ (bc.meet 37 ⟨rfl,trivial⟩ rfl rfl) (fun _ h=>⟨h.2.2.2.2.1,⟨h.1,⟨h.2.1,⟨h.2.2.1,⟨h.2.2.2.1,h.2.2.2.2.2⟩⟩⟩⟩⟩) (k_ (k_ (k_ r_)))
 refine mO fun b7=>?_;refine gf (Hl hW n hdeep hfew) ?_;rintro _ _ _ ⟨u,Mt,A2,r2,M2,rfl,rfl,rfl,hT,hup,hA2,hW2⟩;refine gf (x8 hW2) ?_;refine gf (zZ hW2) ?_;refine gf (ox hW2) ?_;refine oA (px hW2) ?_;refine sv 39 ((⟨0,⟨ha,hc,h⟩,ut,u,0,W.w.steps,(W.w.ar.sl.length:Int),W.w.splits,W.w.aA⟩:nP).val) ?_ (e:=by show Value.agg #[.int .i64 0,.slice ha h.length hc,ut.val,.int .i64 u.root,u.ns.val,.int .i64 0,.int .i64 W.w.steps,.int .i64 (A2.sl.length:Int),.int .i64 W.w.splits,.int .i64 W.w.aA]=_;rw[hA2];rfl);refine At.bC (aw t38 rfl rfl (i:=2) rfl rfl rfl rfl) ?_;rintro _ _ _ ⟨rfl,rfl⟩;refine At.nil ?_;refine At.front 1 rfl ?_;refine At.front 1 rfl ?_;refine At.front 2 rfl ?_;refine At.then ?_;exact At.eh (b7,(ut,u),(Mt,A2,r2,M2)) ⟨hut,hT,hup,hA2,hW2⟩ (bc.meet 37 ⟨rfl,trivial⟩ rfl rfl) (fun _ h=>⟨h.2.2.2.2.1,⟨h.1,⟨h.2.1,⟨h.2.2.1,⟨h.2.2.2.1,h.2.2.2.2.2⟩⟩⟩⟩⟩) (k_ (k_ (k_ r_)));refine mO fun b8=>?_;refine gf (Hk hW hol) ?_;rintro _ _ _ ⟨ut,rfl,hut,rfl,rfl⟩;refine gf (Hl hW n hdeep hfew) ?_;rintro _ _ _ ⟨u,Mt,A2,r2,M2,rfl,rfl,rfl,hT,hup,hA2,hW2⟩;refine gf (x8 hW2) ?_;refine gf (zZ hW2) ?_;refine gf (ox hW2) ?_;refine oA (px hW2) ?_;refine sv 39 ((⟨0,⟨ha,hc,h⟩,ut,u,0,W.w.steps,(W.w.ar.sl.length:Int),W.w.splits,W.w.aA⟩:nP).val) ?_ (e:=by show Value.agg #[.int .i64 0,.slice ha h.length hc,ut.val,.int .i64 u.root,u.ns.val,.int .i64 0,.int .i64 W.w.steps,.int .i64 (A2.sl.length:Int),.int .i64 W.w.splits,.int .i64 W.w.aA]=_;rw[hA2];rfl);refine At.bC (aw t38 rfl rfl (i:=2) rfl rfl rfl rfl) ?_;rintro _ _ _ ⟨rfl,rfl⟩;refine At.nil ?_;refine At.front 1 rfl ?_;refine At.front 1 rfl ?_;refine At.front 2 rfl ?_;refine At.then ?_;exact At.eh (b8,(ut,u),(Mt,A2,r2,M2)) ⟨hut,hT,hup,hA2,hW2⟩ (bc.meet 37 ⟨rfl,trivial⟩ rfl rfl) (fun _ h=>⟨h.2.2.2.2.1,⟨h.1,⟨h.2.1,⟨h.2.2.1,⟨h.2.2.2.1,h.2.2.2.2.2⟩⟩⟩⟩⟩) (k_ (k_ (k_ r_)));intro j0 hC;obtain⟨b9,⟨ut,u⟩,⟨Mt,A2,r2,M2⟩⟩:=j0;obtain⟨hut,hT,hup,hA2,hW2⟩:=hC;refine mc ?_;refine At.da 2 hT rfl ?_;refine mc ?_;refine At.piece (B:=Ac b9 (⟨0,⟨ha,hc,h⟩,ut,u,(dS W.w 0:Int),W.w.steps,(W.w.ar.sl.length:Int),W.w.splits,W.w.aA⟩:nP)) rfl ?_;refine mc ?_;refine At.front 1 rfl ?_;refine At.front 1 rfl ?_;refine At.dP (ι:=Nat) [4,45,46,47,48,49,50,51,52,53,54,55,56,57,58] (fun k=>[(45,.int .i64 (k:Int))]) (fun k=>[]) (fun k=>[Ac b9 (⟨0,⟨ha,hc,h⟩,ut,u,(dS W.w k:Int),W.w.steps,(W.w.ar.sl.length:Int),W.w.splits,W.w.aA⟩:nP),M2]) _ (fun k=>k<=W.ops.length) (fun k=>W.ops.length-k) 0 (Nat.zero_le _) ⟨rfl,trivial⟩ (fun _ _=>trivial) (k_ (k_ r_)) ?_;intro k hI;refine fi (fun hk=>?_) (fun hk=>?_);obtain⟨t,hi,et⟩:=hW2.get (i:=k) (by rw[<-hlen2];omega);have hpl:=Hs W.w k
 refine ca (wC hW2 hi) ?_;refine cv (fun hb=>?_) (fun hb=>?_);refine sG 55 (.int .i64 (dS W.w k:Int)) ?_;refine mc ?_;refine At.front 1 rfl ?_;refine At.piece (B:=Ac b9 (⟨0,⟨ha,hc,h⟩,ut,u,(dS W.w (k+1):Int),W.w.steps,(W.w.ar.sl.length:Int),W.w.splits,W.w.aA⟩:nP)) (by rw[wD (by rw[show W.w.th k=t.th from et];exact hb)];rfl) ?_;refine mc ?_;refine At.front 1 rfl ?_;refine At.front 1 rfl ?_;refine mc ?_;exact At.bX (k+1) (by omega) (by(try dsimp only);omega) (bc.end 17 ⟨rfl,trivial⟩ rfl rfl) (fun _ h=>h) (k_ (k_ r_));refine mc ?_;refine At.front 1 rfl ?_;refine At.piece (B:=Ac b9 (⟨0,⟨ha,hc,h⟩,ut,u,(dS W.w (k+1):Int),W.w.steps,(W.w.ar.sl.length:Int),W.w.splits,W.w.aA⟩:nP)) (by rw[u4 (by rw[show W.w.th k=t.th from et];exact hb)]) ?_;refine mc ?_;refine At.front 1 rfl ?_;refine At.front 1 rfl ?_;refine mc ?_;exact At.bX (k+1) (by omega) (by(try dsimp only);omega) (bc.end 12 ⟨rfl,trivial⟩ rfl rfl) (fun _ h=>h) (k_ (k_ r_));refine re ?_;exact rs ⟨(⟨0,⟨ha,hc,h⟩,ut,u,(dS W.w k:Int),W.w.steps,(W.w.ar.sl.length:Int),W.w.splits,W.w.aA⟩:nP),rfl,by rw[show k=W.ops.length by omega];simp[nP.p,Pw.report,eH,hut,hup],rfl,rfl⟩
end Go.Proofs.YtcnohdmimheoaaaGreat
namespace Go.Proofs.YtcnohdmimheoaaaGreat
open E Go.Proofs.Tryz
def gP (p:bA->Bool) (l ls:List bA) (i j:Nat):Prop:=ls.length=l.length/\i<=j/\j<=l.length/\ls.take i=(l.take j).filter (fun x=> !p x)/\ls.drop j=l.drop j
theorem gP.start {p:bA->Bool} {l:List bA} {j:Nat} {x:bA} (hx:l[j]? =some x) (hp:p x=true) (hno:∀y∈l.take j,p y=false):gP p l l j (j+1):=by
 have hj:=ae hx;refine⟨rfl,by omega,hj,?_,rfl⟩;have h1:(l.take j).filter (fun x=> !p x)=l.take j:=List.filter_eq_self.2 fun y hy=>by rw[hno y hy];rfl
 have h2:=jC (p:=fun x=> !p x) hx h1.symm;rw[<-h2];simp[hp]
section
variable {p:bA->Bool} {l ls:List bA} {i j:Nat} {x:bA} (h:gP p l ls i j) (hx:ls[j]? =some x)
include p l ls i j x h hx
theorem gP.get:l[j]? =some x:=by
 obtain⟨_,_,_,_,h5⟩:=h;have h6:=congrArg (fun q=>q[0]?) h5;simp only[List.getElem?_drop,Nat.add_zero]at h6;rw[<-h6];exact hx
theorem gP.skip (hp:p x=true):gP p l ls i (j+1):=by
 have hx':=h.get hx;obtain⟨h1,h2,h3,h4,h5⟩:=h;have hj:=ae hx';refine⟨h1,by omega,hj,?_,?_⟩;rw[<-jC (p:=fun x=> !p x) hx' h4];simp[hp];rw[<-List.drop_drop,<-List.drop_drop,h5]
theorem gP.bE (hp:p x=false):gP p l (ls.set i x) (i+1) (j+1):=by
 have hx':=h.get hx;obtain⟨h1,h2,h3,h4,h5⟩:=h;have hj:=ae hx';refine⟨by simp[h1],by omega,hj,?_,?_⟩;rw[<-jC (p:=fun x=> !p x) hx' h4];simp only[hp,Bool.not_false,if_true];rw[List.take_succ_eq_append_getElem (by rw[List.length_set,h1];omega),List.take_set_of_le (Nat.le_refl _)];simp;rw[List.drop_set_of_lt (by omega),<-List.drop_drop,<-List.drop_drop,h5]
end
theorem gP.done {p:bA->Bool} {l ls:List bA} {i j:Nat} (h:gP p l ls i j) (hj:l.length<=j):ls.take i=l.filter fun x=> !p x:=by
 obtain⟨h1,h2,h3,h4,h5⟩:=h;rw[h4,List.take_of_length_le hj]
structure Sc where
 threads:Int
 cells:Int
 cF:iH
 aS:List Pr
 ops:List (List bA)
 aV:List Int
def kd.p (s:kd):Sc:=⟨s.threads,s.cells,s.cF,s.aS.l,s.ops.l.map (·.l),s.aV.l⟩
namespace Sc
def nt (s:Sc):Nat:=(min (max s.threads 1) 6).toNat
theorem sn (s:Sc):(s.nt:Int)=min (max s.threads 1) 6:=by unfold nt;omega
theorem JV (s:Sc):1<=s.nt/\s.nt<=6:=by unfold nt;omega
def row (l:List bA):List bA:=(l.filter fj).take 60
def oH (n m:Int):Int:=Int.tmod (IntKind.i64.wrap (Int.tmod n m+m)) m
def clean (s:Sc):Sc:=⟨min (max s.threads 1) 6,min (max s.cells 0) 60000,s.cF.cp,(fh [] s.aS).take 200,(List.range s.nt).map fun i=>row (s.ops.getD i []),(s.aV.take 100000).map fun n=>oH n (s.nt:Int)⟩
end Sc
theorem u5 {α:Type} {l:List α} {n:Nat}:l.take (min n l.length)=l.take n:=by
 rcases Nat.le_total n l.length with h|h;rw[Nat.min_eq_left h];rw[Nat.min_eq_right h,List.take_of_length_le (Nat.le_refl _),List.take_of_length_le h]
theorem Ht {H:Hp} {s:Sl bA} {m:Nat} (h:(iW s).holds H) (hm:m<=s.l.length):(iW ⟨bQ s.a s.c 4 0,s.c,s.l.take m⟩).holds H:=by
 have h1:=oV (l:=0) (h:=m) h (Nat.zero_le _) (by simpa using hm);simpa[iW,List.map_take]using h1
theorem DZ {s:Sl bA} {m:Nat} (h:m<=s.l.length):Sl.val (⟨bQ s.a s.c 4 0,s.c,s.l.take m⟩:Sl bA)= .slice (bQ s.a s.c 4 0) m s.c:=by
 simp[Sl.val];omega
def u6 (b:Nat) (u:kd):aO:=[(b,.cells #[.int .i64 u.threads,.int .i64 u.cells,.int .i64 u.cF.high,.int .i64 u.cF.low,.int .i64 u.cF.cont,.int .i64 u.cF.gQ,.int .i64 u.cF.jN,u.aS.val,u.ops.val,u.aV.val] 28 (0,0))]
abbrev kd.facts (s:kd):List ag:=[aC s.aS,sl s.ops.a s.ops.c 1 (s.ops.l.map iX),gq s.ops.l,cw s.aV]
def Hu (s:Sc) (v:Value) (Γ:List ag) (M':E.Loc):Prop:=∃(u:kd) (Mo:aO),v=u.val/\Γ=[aC u.aS,gq u.ops.l,cw u.aV]/\M'=[Mo]/\bR 57 1 (u.ops.l.map iX) u.ops.a u.ops.c Mo/\u.p=s.clean
structure u7 (s:kd):Prop where
 b:s.aS.l.length<=100000
 o:∀z∈s.ops.l,z.l.length<=4398046511104
def tt:ag:=⟨fun _=>True,fun _ _ _ _=>trivial⟩
theorem wG {H:Hp} {l:List (Sl bA)} {z:Sl bA} (h:(gq l).holds H) (hz:(iW z).holds H):(gq (l++[z])).holds H:=fun x hx=>by
 rcases List.mem_append.1 hx with hx|hx;exact h x hx;rw[List.mem_singleton.1 hx];exact hz
namespace Sc
def rows (s:Sc) (k:Nat):List (List bA):=(List.range k).map fun i=>row (s.ops.getD i [])
theorem wH {s:Sc} {k:Nat}:s.rows (k+1)=s.rows k++[row (s.ops.getD k [])]:=by unfold rows;rw[List.range_succ,List.map_append];rfl
end Sc
end Go.Proofs.YtcnohdmimheoaaaGreat
namespace Go.Proofs.YtcnohdmimheoaaaGreat
open E Ar Go.Proofs.Tryz
theorem Vs:ah prog 44:=ah.mk' func44 rfl rfl
theorem Vt:ah prog 72:=ah.mk' func72 rfl rfl
theorem Hv (l:Sl bA) (f:FuncId) (cap:List Value) (p:bA->Bool) (φ:ag) (hen:ah prog f) (hcon:∀x,aN prog f (x.val::cap) [φ] [] (fun v Γ M=>v= .bool (p x)/\Γ=[]/\M=[])):aN prog 72 [l.val,.func (.func f) #[] cap.toArray] [iW l,φ] [] (fun v Γ M=>v= .int .i64 (mU p l.l)/\Γ=[]/\M=[]):=by
 refine cb fun X H₀ L₀=>?_;refine At.lenOf (hs:=(ix 1 rfl)) fun hlen=>?_;rw[List.length_map]at hlen;refine mc ?_;refine At.dP (ι:=Nat) [4,5,8,9,10,11,12,13,14,15,16,17,18] (fun k=>[(8,.int .i64 (k:Int))]) (fun k=>[]) (fun k=>[]) _ (fun k=>k<=l.l.length/\∀y∈l.l.take k,p y=false) (fun k=>l.l.length-k) 0 ⟨Nat.zero_le _,by simp⟩ ⟨rfl,trivial⟩ (fun _ _=>trivial) r_ ?_;intro k hI;refine fi (fun hk=>?_) (fun hk=>?_);obtain⟨x,hx⟩:=aD (l:=l.l) (i:=k) (by omega);have hk1:=ae hx;refine mc ?_;refine qt (bD underlying57 t41 rfl (.tail _ (.head _)) (by simp) rfl rfl (ae hx)) ?_;refine qt (bU t41 rfl (fc.kK (.tail _ (.head _)) (aI hx)) rfl) ?_;refine sG 15 (x.val) ?_;refine At.rS hen rfl rfl (by simp[bA.val,kR]) (hcon x) (fun _ h=>⟨h.2.2.1,trivial⟩) (List.Perm.refl _) rfl ?_;refine cv (fun hp=>?_) (fun hp=>?_);refine re ?_;exact rs ⟨congrArg (Value.int .i64) (EG hx hp hI.2).symm,rfl,rfl⟩;refine mc ?_;exact At.bX (k+1) ⟨hk1,yK hx hp hI.2⟩ (by(try dsimp only);omega) (bc.end 13 ⟨rfl,trivial⟩ rfl rfl) (fun _ h=>h) r_;refine re ?_;exact rs ⟨congrArg (Value.int .i64) (EH (by have h:=hI.2;rwa [List.take_of_length_le (by omega)]at h)).symm,rfl,rfl⟩
theorem JW (o:bA):aN prog 44 [o.val] [] [] (fun v Γ M=>v= .bool (!fj o)/\Γ=[]/\M=[]):=by
 refine cb fun X H₀ L₀=>?_;refine bx fun b1=>?_;refine ca (xd o) ?_;refine re ?_;exact rs ⟨rfl,rfl,rfl⟩
theorem Hw (l:Sl bA) (hl:l.l.length<=4398046511104):aN prog 43 [l.val] [iW l] [] (fun v Γ M'=>∃(a:Option Addr) (c:Nat) (M1:aO),v= .slice a l.l.length c/\Γ=[]/\M'=[M1]/\bR 41 4 (l.l.map kR) a c M1):=by
 refine cb fun X H₀ L₀=>?_;refine mc ?_;refine qt (gb underlying57 rfl rfl) ?_;refine cv (fun hn=>?_) (fun hn=>?_);refine At.vN (hs:=(ix 1 rfl)) (by simpa using hn) fun hnil=>?_;refine At.ck ?_;refine re ?_;exact rs ⟨none,0,[],by rw[hnil];rfl,rfl,rfl,by rw[hnil];exact bR.nil _ _⟩;refine mc ?_;refine lM (jK underlying57 t41) ?_;rintro _ _ _ ⟨be,o,rfl,hoe,rfl,rfl⟩;refine mc ?_;refine lM (fO rfl underlying57 t41 rfl rfl hoe (by simp) (i:=0) rfl (.tail _ (.head _)) (by simp) (jt (fun _=>rfl) _) rfl rfl (by omega) (by unfold maxLen;omega)) ?_;rintro _ _ _ ⟨a2,c2,M2,rfl,ow2,rfl,rfl⟩;refine re ?_;exact rs ⟨a2,c2,M2,by simp[cP],rfl,rfl,by simpa using ow2⟩
theorem D0 (l:List bA) (a:Option Addr) (c:Nat) (Mo:aO) (hO0:bR 41 4 (l.map kR) a c Mo) (f:FuncId) (cap:List Value) (p:bA->Bool) (φ:ag) (hl9:l.length<=8796093022208) (hen:ah prog f) (hcon:∀x,aN prog f (x.val::cap) [φ] [] (fun v Γ M=>v= .bool (p x)/\Γ=[]/\M=[])):aN prog 42 [.slice a l.length c,.func (.func f) #[] cap.toArray] [φ] [Mo] (fun v Γ M'=>∃u:Sl bA,v=u.val/\Γ=[iW u]/\M'=[]/\u.l=l.filter fun x=> !p x):=by
 refine cb fun X H₀ L₀=>?_;refine mc ?_;refine At.yG Vt rfl (Hv ⟨a,c,l⟩ f cap p φ hen hcon) hO0 (i:=0) rfl (fun _ h=>⟨h.1,h.2.2.1,trivial⟩) (List.Perm.refl _) rfl ?_;refine fi (fun h1=>?_) (fun h1=>?_);have hno:∀y∈l,p y=false:=(w8 (p:=p) (l:=l) (by have h:=h1;dsimp only at h;omega)).2;refine At.da 0 hO0 rfl ?_;refine re ?_;exact rs ⟨⟨a,c,l⟩,rfl,rfl,rfl,(List.filter_eq_self.2 fun y hy=>by rw[hno y hy];rfl).symm⟩;obtain⟨j0,x0,hj0,hx0,hp0,hno⟩:=w7 (p:=p) (l:=l) (by have h:=h1;dsimp only at h;have h2:=E7 p l;omega);have hjl:=ae hx0;refine At.fZ 5 (.int .i64 (j0:Int)) rfl (congrArg (Value.int .i64) hj0) ?_;refine mc ?_;refine At.dP (ι:=Nat×Nat×List bA×aO) [5,6,7,16,17,18,19,20,21,22,23,24,25,26,27,28,29,30,31,32,33,34,35] (fun⟨i,j,ls,M⟩=>[(5,.int .i64 (i:Int)),(6,.int .i64 (j:Int))]) (fun⟨i,j,ls,M⟩=>[]) (fun⟨i,j,ls,M⟩=>[M]) _ (fun⟨i,j,ls,M⟩=>gP p l ls i j/\bR 41 4 (ls.map kR) a c M) (fun⟨i,j,ls,M⟩=>l.length-j) (j0,j0+1,l,Mo) ⟨gP.start hx0 hp0 hno,hO0⟩ ⟨rfl,rfl,trivial⟩ (fun _ _=>trivial) (k_ r_) ?_;intro i0 hI0;obtain⟨i,j,ls,M⟩:=i0;obtain⟨hD,hO⟩:=hI0;obtain⟨hD1,hD2,hD3,hD4,hD5⟩:=id hD;refine fi (fun hj=>?_) (fun hj=>?_);obtain⟨x,hx⟩:=aD (l:=ls) (i:=j) (by omega);obtain⟨z,hz⟩:=aD (l:=ls) (i:=i) (by omega);have hjl1:=ae hx;have hil1:=ae hz;refine mc ?_;refine qt (cA underlying57 t41 rfl hO (by simp[hD1]) rfl rfl (by omega)) ?_;refine qt (bU t41 rfl (fc.tG hO (i:=0) rfl (aI hx)) rfl) ?_;refine al fun b1=>?_;refine sG 27 (x.val) ?_;refine At.rS hen rfl rfl (by simp[bA.val,kR]) (hcon x) (fun _ h=>⟨h.2.1,trivial⟩) (List.Perm.refl _) rfl ?_;refine cv (fun hp=>?_) (fun hp=>?_);refine sG 32 (x.val) ?_;refine qt (cA underlying57 t41 rfl hO (by simp[hD1]) rfl rfl (by omega)) ?_;refine At.bC (iU t41 rfl rfl hO (i:=1) rfl (aI hz) rfl rfl rfl) ?_;rintro _ _ _ ⟨Mow1,ow1,rfl,rfl⟩;refine mc ?_;have hO2:bR 41 4 ((ls.set i x).map kR) a c Mow1:=by rw[List.map_set];exact ow1
 refine mc ?_;refine At.front 1 rfl ?_;refine mc ?_;exact At.bX (i+1,j+1,ls.set i x,_) ⟨hD.bE hx (by simpa using hp),hO2⟩ (by(try dsimp only);omega) (bc.end 27 ⟨rfl,rfl,trivial⟩ rfl rfl) (fun _ h=>h) (k_ (d_ r_));refine mc ?_;refine At.front 1 rfl ?_;refine mc ?_;exact At.bX (i,j+1,ls,M) ⟨hD.skip hx (by simpa using hp),hO⟩ (by(try dsimp only);omega) (bc.end 19 ⟨rfl,rfl,trivial⟩ rfl rfl) (fun _ h=>h) (k_ (d_ r_));have hdone:=hD.done (by omega);have hcap:=w9 hO;rw[List.length_map]at hcap;refine mc ?_;refine qt (ga underlying57 t41 rfl rfl rfl (by omega)) ?_;refine At.bC (BJ (p:=i) rfl underlying57 t41 rfl hO (by simp[hD1]) (by omega) (i:=0) rfl rfl rfl) ?_;rintro _ _ _ ⟨M5,ow5,rfl,rfl⟩;refine mc ?_;refine qt (dj underlying57 t41 rfl rfl (h:=i) rfl (by omega)) ?_;refine At.da 0 (show bR 41 4 ((ls.take i).map kR) a c M5 by rw[List.map_take];exact ow5) rfl ?_;refine re ?_;exact rs ⟨⟨a,c,ls.take i⟩,by simp only[Sl.val,cP];rw[tW ow5,List.length_take,Nat.min_eq_left (show i<=ls.length by omega)],rfl,rfl,hdone⟩
theorem qC (l:Sl Pr) (n:Nat):aN prog 40 [l.val,.int .i64 (n:Int)] [aC l] [] (fun v Γ M'=>∃u:Sl Pr,v=u.val/\Γ=[aC u]/\M'=[]/\u.l=l.l.take n):=by
 refine cb fun X H₀ L₀=>?_;refine At.mS (hs:=(ix 1 rfl)) fun hcap=>?_;rw[List.length_map]at hcap;refine At.aJ (aC (⟨bQ l.a l.c 2 0,l.c,l.l.take (min n l.l.length)⟩:Sl Pr)) (fun _ h=>lg h.2.1 (Nat.min_le_right ..)) ?_;refine mc ?_;refine qt (rR rfl rfl) ?_;refine sv 9 (.int .i64 (((min n l.l.length):Nat):Int)) ?_ (e:=by exact congrArg (Value.int .i64) (by omega));refine qt (dj underlying24 t43 rfl rfl rfl (by omega)) ?_;refine sv 10 (Sl.val (⟨bQ l.a l.c 2 0,l.c,l.l.take (min n l.l.length)⟩:Sl Pr)) ?_ (e:=by exact(lj (Nat.min_le_right ..)).symm);refine re ?_;exact rs ⟨(⟨bQ l.a l.c 2 0,l.c,l.l.take (min n l.l.length)⟩:Sl Pr),rfl,rfl,rfl,u5⟩
theorem JX (l:Sl bA) (n:Nat):aN prog 41 [l.val,.int .i64 (n:Int)] [iW l] [] (fun v Γ M'=>∃u:Sl bA,v=u.val/\Γ=[iW u]/\M'=[]/\u.l=l.l.take n):=by
 refine cb fun X H₀ L₀=>?_;refine At.mS (hs:=(ix 1 rfl)) fun hcap=>?_;rw[List.length_map]at hcap;refine At.aJ (iW (⟨bQ l.a l.c 4 0,l.c,l.l.take (min n l.l.length)⟩:Sl bA)) (fun _ h=>Ht h.2.1 (Nat.min_le_right ..)) ?_;refine mc ?_;refine qt (rR rfl rfl) ?_;refine sv 9 (.int .i64 (((min n l.l.length):Nat):Int)) ?_ (e:=by exact congrArg (Value.int .i64) (by omega));refine qt (dj underlying57 t41 rfl rfl rfl (by omega)) ?_;refine sv 10 (Sl.val (⟨bQ l.a l.c 4 0,l.c,l.l.take (min n l.l.length)⟩:Sl bA)) ?_ (e:=by exact(DZ (Nat.min_le_right ..)).symm);refine re ?_;exact rs ⟨(⟨bQ l.a l.c 4 0,l.c,l.l.take (min n l.l.length)⟩:Sl bA),rfl,rfl,rfl,u5⟩
theorem JY (l:Sl Int) (n:Nat):aN prog 45 [l.val,.int .i64 (n:Int)] [cw l] [] (fun v Γ M'=>∃u:Sl Int,v=u.val/\Γ=[cw u]/\M'=[]/\u.l=l.l.take n):=by
 refine cb fun X H₀ L₀=>?_;refine At.mS (hs:=(ix 1 rfl)) fun hcap=>?_;rw[List.length_map]at hcap;refine At.aJ (cw (⟨bQ l.a l.c 1 0,l.c,l.l.take (min n l.l.length)⟩:Sl Int)) (fun _ h=>og h.2.1 (Nat.min_le_right ..)) ?_;refine mc ?_;refine qt (rR rfl rfl) ?_;refine sv 9 (.int .i64 (((min n l.l.length):Nat):Int)) ?_ (e:=by exact congrArg (Value.int .i64) (by omega));refine qt (dj underlying26 t3 rfl rfl rfl (by omega)) ?_;refine sv 10 (Sl.val (⟨bQ l.a l.c 1 0,l.c,l.l.take (min n l.l.length)⟩:Sl Int)) ?_ (e:=by exact(oh (Nat.min_le_right ..)).symm);refine re ?_;exact rs ⟨(⟨bQ l.a l.c 1 0,l.c,l.l.take (min n l.l.length)⟩:Sl Int),rfl,rfl,rfl,u5⟩
theorem PR (n m:Int) (hm:m≠0):aN prog 46 [.int .i64 n,.int .i64 m] [] [] (fun v Γ M=>v= .int .i64 (Sc.oH n m)/\Γ=[]/\M=[]):=by
 refine cb fun X H₀ L₀=>?_;refine mc ?_;refine qt (Eu rfl rfl hm) ?_;refine mc ?_;refine qt (dY rfl rfl) ?_;refine mc ?_;refine qt (Eu rfl rfl hm) ?_;refine re ?_;exact rs ⟨rfl,rfl,rfl⟩
theorem ti (b:Nat) (l:Sl Pr) (hl:l.l.length<=1000000):aN prog 27 [.pointer (some ⟨b,0,none⟩)] [aC l] [[(b,.cells #[l.val] 95 (0,0))]] (fun v Γ M'=>∃s:Sl Pr,v=s.val/\Γ=[aC s]/\M'=[[(b,.cells #[l.val] 95 (0,0))]]/\s.l=l.l):=by
 refine cb fun X H₀ L₀=>?_;refine ca (BP l hl) ?_;rintro _ _ _ ⟨s,rfl,hs,rfl,rfl⟩;refine re ?_;exact rs ⟨s,rfl,rfl,rfl,hs⟩
end Go.Proofs.YtcnohdmimheoaaaGreat
namespace Go.Proofs.YtcnohdmimheoaaaGreat
open E Go.Proofs.Tryz
theorem u9:∀(l m:List Pr),dV m=true->(fh m l).length<=m.length+l.length
 | [],m,_=>by simp[fh]
 |p::l,m,hm=>by
  have h1:fh m (p::l)=fh (eM m p) l:=by
   show(p::l).foldl _ m=l.foldl _ (eM m p);rw[List.foldl_cons];congr 1;exact LM hm
  have h2:=u9 l (eM m p) (dF.2 (w6 (dF.1 hm)));have h3:=yO p m;rw[h1];simp only[List.length_cons];omega
theorem D1:(fun x=> !!fj x)=fj:=by funext x;simp
theorem Hx (x:bA):aN prog 44 [x.val] [tt] [] (fun v Γ M=>v= .bool (!fj x)/\Γ=[]/\M=[]):=(JW x).mono (fun _ _=>trivial) fun _ _ _ h=>h
theorem Hy (n:Int) {m:Nat} (h1:1<=m) (h2:m<=6):0<=Sc.oH n m/\Sc.oH n m<m:=by
 unfold Sc.oH;have a1:=Int.tmod_lt_of_pos n (b:=(m:Int)) (by omega)
 have a2: -(m:Int)<Int.tmod n m:=by
  have:=Int.lt_tmod_of_pos n (b:=(m:Int)) (by omega);exact this
 rw[oI (by omega) (by omega)];exact⟨Int.tmod_nonneg _ (by omega),Int.tmod_lt_of_pos _ (by omega)⟩
end Go.Proofs.YtcnohdmimheoaaaGreat
namespace Go.Proofs.YtcnohdmimheoaaaGreat
open E Ar Go.Proofs.Tryz
set_option maxHeartbeats 1000000 in
theorem tj (s:kd) (hfew:u7 s):aN prog 13 [s.val] [aC s.aS,sl s.ops.a s.ops.c 1 (s.ops.l.map iX),gq s.ops.l,cw s.aV] [] (Hu s.p):=by
 refine cb fun X H₀ L₀=>?_;have hnt:=s.p.JV;have hpl:=u9 s.aS.l [] rfl;simp only[List.length_nil]at hpl;have hbl:=hfew.b;refine bx fun b1=>?_;refine al fun b2=>?_;refine At.nil ?_;refine At.then ?_;refine At.C2 (ι:=Nat×Sl Pr) .z [3,8,9,10,11,12,13,14,15,16,17,18,19,20,21,22,23,24] (fun⟨b90,ub⟩=>[(3,.pointer (some ⟨b90,0,none⟩))]) (fun⟨b90,ub⟩=>[aC ub]) (fun⟨b90,ub⟩=>[u6 b90 (⟨(s.p.nt:Int),min (max s.cells 0) 60000,s.cF.cp,ub,(⟨none,0,[]⟩:Sl (Sl bA)),(⟨none,0,[]⟩:Sl Int)⟩:kd)]) (fun⟨b90,ub⟩=>ub.l=(fh [] s.aS.l).take 200) ?_ ?_;refine At.draw 18 (.q 0 (.q 1 (.q 2 (.q 3 (.q 4 (.q 5 (.q 6 (.q 7 (.q 8 (.q 9 (.q 11 (.q 12 (.t 10 (.t 13 (.t 14 (.t 15 (.q 16 (.o 17 (.e))) 17 (.o 15 (.q 16 (.e)))) 17 (.o 14 (.o 15 (.q 16 (.e))))) 17 (.o 13 (.o 14 (.o 15 (.q 16 (.e)))))) 17 (.o 10 (.o 13 (.o 14 (.o 15 (.q 16 (.e))))))))))))))))))) _ (List.Sublist.refl _) mixed (by kernel_rfl) rfl ?_;refine mc ?_;refine aQ.quiet rfl (pH rfl rfl) rfl (Calm.then bG.calm) ?_;refine aQ.quiet rfl (rR rfl rfl) rfl (Calm.then bG.calm) ?_;refine mc ?_;refine aQ.quiet rfl (pH rfl rfl) rfl (Calm.then bG.calm) ?_;refine aQ.quiet rfl (rR rfl rfl) rfl (Calm.then bG.calm) ?_;refine mc ?_;refine aQ.two ?_ ?_;refine gf (m9 s.cF) ?_;refine mc ?_;refine aQ.two ?_ ?_;refine gf (Fm s.aS (by omega)) ?_;rintro _ _ _ ⟨mb,m1,rfl,rfl,rfl,hm1⟩;refine aQ.two ?_ ?_;refine oA (ti mb m1 (by rw[hm1];omega)) ?_;rintro _ _ _ ⟨m2,rfl,rfl,rfl,hm2⟩;refine aQ.two ?_ ?_;refine oA (qC m2 200) ?_;rintro _ _ _ ⟨ub,rfl,rfl,rfl,hub0⟩;refine nX fun b3=>?_;refine aQ.done ?_;refine At.fZ 24 (.agg #[.int .i64 (s.p.nt:Int),.int .i64 (min (max s.cells 0) 60000),.int .i64 s.cF.cp.high,.int .i64 s.cF.cp.low,.int .i64 s.cF.cp.cont,.int .i64 s.cF.cp.gQ,.int .i64 s.cF.cp.jN,ub.val,.slice none 0 0,.slice none 0 0]) rfl (by show Value.agg #[.int .i64 (min (max s.threads 1) 6),.int .i64 (min (max s.cells 0) 60000),_,_,_,_,_,ub.val,.slice none 0 0,.slice none 0 0]=_;rw[show min (max s.threads 1) 6=(s.p.nt:Int)from s.p.sn.symm]) ?_;refine At.bC (aw t28 rfl rfl (i:=0) rfl rfl rfl rfl) ?_;rintro _ _ _ ⟨rfl,rfl⟩;refine At.nil ?_;refine At.then ?_;exact At.eh (b3,ub) (hub0.trans (by rw[hm2,hm1])) (bc.meet 19 ⟨rfl,trivial⟩ rfl rfl) (fun _ h=>⟨h.1,h.2.2.2⟩) (k_ (d_ r_));refine nX fun b4=>?_;refine oA (qC m2 200) ?_;rintro _ _ _ ⟨ub,rfl,rfl,rfl,hub0⟩;refine sv 24 (.agg #[.int .i64 (s.p.nt:Int),.int .i64 (min (max s.cells 0) 60000),.int .i64 s.cF.cp.high,.int .i64 s.cF.cp.low,.int .i64 s.cF.cp.cont,.int .i64 s.cF.cp.gQ,.int .i64 s.cF.cp.jN,ub.val,.slice none 0 0,.slice none 0 0]) ?_ (e:=by show Value.agg #[.int .i64 (min (max s.threads 1) 6),.int .i64 (min (max s.cells 0) 60000),_,_,_,_,_,ub.val,.slice none 0 0,.slice none 0 0]=_;rw[show min (max s.threads 1) 6=(s.p.nt:Int)from s.p.sn.symm])
 refine At.bC (aw t28 rfl rfl (i:=0) rfl rfl rfl rfl) ?_;rintro _ _ _ ⟨rfl,rfl⟩;refine At.nil ?_;refine At.then ?_;exact At.eh (b4,ub) (hub0.trans (by rw[hm2,hm1])) (bc.meet 19 ⟨rfl,trivial⟩ rfl rfl) (fun _ h=>⟨h.1,h.2.2.2⟩) (k_ (d_ r_));refine mO fun b5=>?_;refine oA (ti mb m1 (by rw[hm1];omega)) ?_;rintro _ _ _ ⟨m2,rfl,rfl,rfl,hm2⟩;refine oA (qC m2 200) ?_;rintro _ _ _ ⟨ub,rfl,rfl,rfl,hub0⟩;refine sv 24 (.agg #[.int .i64 (s.p.nt:Int),.int .i64 (min (max s.cells 0) 60000),.int .i64 s.cF.cp.high,.int .i64 s.cF.cp.low,.int .i64 s.cF.cp.cont,.int .i64 s.cF.cp.gQ,.int .i64 s.cF.cp.jN,ub.val,.slice none 0 0,.slice none 0 0]) ?_ (e:=by show Value.agg #[.int .i64 (min (max s.threads 1) 6),.int .i64 (min (max s.cells 0) 60000),_,_,_,_,_,ub.val,.slice none 0 0,.slice none 0 0]=_;rw[show min (max s.threads 1) 6=(s.p.nt:Int)from s.p.sn.symm]);refine At.bC (aw t28 rfl rfl (i:=1) rfl rfl rfl rfl) ?_;rintro _ _ _ ⟨rfl,rfl⟩;refine At.nil ?_;refine At.front 1 rfl ?_;refine At.then ?_;exact At.eh (b5,ub) (hub0.trans (by rw[hm2,hm1])) (bc.meet 19 ⟨rfl,trivial⟩ rfl rfl) (fun _ h=>⟨h.1,h.2.2.2⟩) (k_ (d_ r_));refine mO fun b6=>?_;refine gf (Fm s.aS (by omega)) ?_;rintro _ _ _ ⟨mb,m1,rfl,rfl,rfl,hm1⟩;refine oA (ti mb m1 (by rw[hm1];omega)) ?_;rintro _ _ _ ⟨m2,rfl,rfl,rfl,hm2⟩;refine oA (qC m2 200) ?_;rintro _ _ _ ⟨ub,rfl,rfl,rfl,hub0⟩;refine sv 24 (.agg #[.int .i64 (s.p.nt:Int),.int .i64 (min (max s.cells 0) 60000),.int .i64 s.cF.cp.high,.int .i64 s.cF.cp.low,.int .i64 s.cF.cp.cont,.int .i64 s.cF.cp.gQ,.int .i64 s.cF.cp.jN,ub.val,.slice none 0 0,.slice none 0 0]) ?_ (e:=by show Value.agg #[.int .i64 (min (max s.threads 1) 6),.int .i64 (min (max s.cells 0) 60000),_,_,_,_,_,ub.val,.slice none 0 0,.slice none 0 0]=_;rw[show min (max s.threads 1) 6=(s.p.nt:Int)from s.p.sn.symm]);refine At.bC (aw t28 rfl rfl (i:=1) rfl rfl rfl rfl) ?_;rintro _ _ _ ⟨rfl,rfl⟩;refine At.nil ?_;refine At.front 1 rfl ?_;refine At.then ?_;exact At.eh (b6,ub) (hub0.trans (by rw[hm2,hm1])) (bc.meet 19 ⟨rfl,trivial⟩ rfl rfl) (fun _ h=>⟨h.1,h.2.2.2⟩) (k_ (d_ r_));refine mO fun b7=>?_;refine gf (m9 s.cF) ?_;refine gf (Fm s.aS (by omega)) ?_;rintro _ _ _ ⟨mb,m1,rfl,rfl,rfl,hm1⟩;refine oA (ti mb m1 (by rw[hm1];omega)) ?_;rintro _ _ _ ⟨m2,rfl,rfl,rfl,hm2⟩;refine oA (qC m2 200) ?_;rintro _ _ _ ⟨ub,rfl,rfl,rfl,hub0⟩;refine sv 24 (.agg #[.int .i64 (s.p.nt:Int),.int .i64 (min (max s.cells 0) 60000),.int .i64 s.cF.cp.high,.int .i64 s.cF.cp.low,.int .i64 s.cF.cp.cont,.int .i64 s.cF.cp.gQ,.int .i64 s.cF.cp.jN,ub.val,.slice none 0 0,.slice none 0 0]) ?_ (e:=by show Value.agg #[.int .i64 (min (max s.threads 1) 6),.int .i64 (min (max s.cells 0) 60000),_,_,_,_,_,ub.val,.slice none 0 0,.slice none 0 0]=_;rw[show min (max s.threads 1) 6=(s.p.nt:Int)from s.p.sn.symm])
 refine At.bC (aw t28 rfl rfl (i:=1) rfl rfl rfl rfl) ?_;rintro _ _ _ ⟨rfl,rfl⟩;refine At.nil ?_;refine At.front 1 rfl ?_;refine At.then ?_;exact At.eh (b7,ub) (hub0.trans (by rw[hm2,hm1])) (bc.meet 19 ⟨rfl,trivial⟩ rfl rfl) (fun _ h=>⟨h.1,h.2.2.2⟩) (k_ (d_ r_));intro j0 hub;obtain⟨b90,ub⟩:=j0;refine mc ?_;refine At.piece (B:=u6 b90 (⟨(s.p.nt:Int),min (max s.cells 0) 60000,s.cF.cp,ub,(⟨none,0,[]⟩:Sl (Sl bA)),(⟨none,0,[]⟩:Sl Int)⟩:kd)) rfl ?_;refine At.aJ (gq []) (fun _ _=>fun _ h=>by cases h) ?_;refine At.ck ?_;refine mc ?_;refine At.fZ 26 (.int .i64 (s.p.nt:Int)) rfl (rfl) ?_;refine mc ?_;refine At.front 0 rfl ?_;refine At.front 1 rfl ?_;refine At.dP (ι:=List (Sl bA)×Option Addr×Nat×aO) [4,5,27,28,29,30,31,32,33,34,35,36,37,38,39,40,41,42,43,44,45,46,47,48,49] (fun⟨rows,a,c,Mo⟩=>[(27,.int .i64 (rows.length:Int))]) (fun⟨rows,a,c,Mo⟩=>[gq rows]) (fun⟨rows,a,c,Mo⟩=>[u6 b90 (⟨(s.p.nt:Int),min (max s.cells 0) 60000,s.cF.cp,ub,⟨a,c,rows⟩,(⟨none,0,[]⟩:Sl Int)⟩:kd),Mo]) _ (fun⟨rows,a,c,Mo⟩=>rows.length<=s.p.nt/\bR 57 1 (rows.map iX) a c Mo/\rows.map (·.l)=s.p.rows rows.length) (fun⟨rows,a,c,Mo⟩=>s.p.nt-rows.length) ([],none,0,[]) ⟨Nat.zero_le _,bR.nil _ _,rfl⟩ ⟨rfl,trivial⟩ (fun _ h=>⟨h.1,trivial⟩) (k_ (k_ r_)) ?_;intro st hI;obtain⟨rows,a,c,Mo⟩:=st;have hol:=hI.1;refine fi (fun hk=>?_) (fun hk=>?_);refine fi (fun hlt=>?_) (fun hlt=>?_);obtain⟨z,hz⟩:=aD (l:=s.ops.l) (i:=rows.length) (by omega);have hzl:=hfew.o z (List.mem_of_getElem? hz);have hsz:s.p.ops.getD rows.length []=z.l:=by rw[show s.p.ops=s.ops.l.map (·.l)from rfl,List.getD_eq_getElem?_getD,List.getElem?_map,hz];rfl
 refine At.aJ (iW z) (fun _ h=>qA h.2.2.2.2.2.2.2.1 hz) ?_;refine mc ?_;refine qt (bD underlying25 t57 rfl (.tail _ (.tail _ (.tail _ (.tail _ (.tail _ (.tail _ (.tail _ (.head _)))))))) (by simp) rfl rfl (ae hz)) ?_;refine ld (Rd.kK (.tail _ (.tail _ (.tail _ (.tail _ (.tail _ (.tail _ (.tail _ (.head _)))))))) (aI hz) rfl) ?_;refine ca (Hw z hzl) ?_;rintro _ _ _ ⟨a1,c1,M1,rfl,rfl,rfl,hO1⟩;refine At.aJ (tt) (fun _ h=>trivial) ?_;refine ca (D0 z.l a1 c1 M1 hO1 44 [] (fun x=> !fj x) tt (by omega) Vs Hx) ?_;rintro _ _ _ ⟨u1,rfl,rfl,rfl,hu1⟩;refine ca (JX u1 60) ?_;rintro _ _ _ ⟨u2,rfl,rfl,rfl,hu2⟩;refine sG 44 (.slice a rows.length c) ?_;refine al fun b8=>?_;refine lM (dk rfl underlying25 t57 rfl rfl hI.2.1 (by simp) (i:=2) rfl rfl (news:=[iX u2]) (by simp[iX,Sl.val]) (fc.loc (i:=0) rfl (m:=1) rfl) rfl rfl rfl (by omega) (by unfold maxLen;omega)) ?_;rintro _ _ _ ⟨a2,c2,Mo2,rfl,ow,rfl,rfl⟩;refine sv 47 (.slice a2 (rows++[u2]).length c2) ?_ (e:=by simp);refine mc ?_;refine At.front 1 rfl ?_;refine At.piece (B:=u6 b90 (⟨(s.p.nt:Int),min (max s.cells 0) 60000,s.cF.cp,ub,⟨a2,c2,rows++[u2]⟩,(⟨none,0,[]⟩:Sl Int)⟩:kd)) rfl ?_;refine At.aJ (gq (rows++[u2])) (fun _ h=>wG h.2.2.2.2.1 h.1) ?_;refine sv 27 (.int .i64 ((rows++[u2]).length:Int)) ?_ (e:=by simp);refine At.front 2 rfl ?_;refine At.front 1 rfl ?_;refine mc ?_;exact At.bX (rows++[u2],a2,c2,Mo2) ⟨by simp only[List.length_append,List.length_singleton];omega,by simpa using ow,(by rw[List.map_append,hI.2.2,List.length_append,List.length_singleton,Sc.wH];congr 1;simp only[List.map_cons,List.map_nil];rw[hu2,hu1,D1,hsz];rfl)⟩ (by simp only[List.length_append,List.length_singleton];omega) (bc.end 30 ⟨rfl,trivial⟩ rfl rfl) (fun _ h=>⟨h.1,h.2.2.2.2.2.2⟩) (k_ (k_ (d_ r_)));have hsn:s.p.ops.getD rows.length []=[]:=by rw[show s.p.ops=s.ops.l.map (·.l)from rfl,List.getD_eq_getElem?_getD,List.getElem?_map,List.getElem?_eq_none (by omega)];rfl
 refine At.aJ (iW ⟨none,0,[]⟩) (fun _ h=>dh _ _ _ (Nat.zero_le _)) ?_;refine mc ?_;refine At.fZ 5 (Sl.val (⟨none,0,[]⟩:Sl bA)) rfl (rfl) ?_;refine mc ?_;refine At.fZ 44 (.slice a rows.length c) rfl (rfl) ?_;refine al fun b9=>?_;refine lM (dk rfl underlying25 t57 rfl rfl hI.2.1 (by simp) (i:=2) rfl rfl (news:=[iX (⟨none,0,[]⟩:Sl bA)]) (by simp[iX,Sl.val]) (fc.loc (i:=0) rfl (m:=1) rfl) rfl rfl rfl (by omega) (by unfold maxLen;omega)) ?_;rintro _ _ _ ⟨a2,c2,Mo2,rfl,ow,rfl,rfl⟩;refine sv 47 (.slice a2 (rows++[(⟨none,0,[]⟩:Sl bA)]).length c2) ?_ (e:=by simp);refine mc ?_;refine At.front 1 rfl ?_;refine At.piece (B:=u6 b90 (⟨(s.p.nt:Int),min (max s.cells 0) 60000,s.cF.cp,ub,⟨a2,c2,rows++[(⟨none,0,[]⟩:Sl bA)]⟩,(⟨none,0,[]⟩:Sl Int)⟩:kd)) rfl ?_;refine At.aJ (gq (rows++[(⟨none,0,[]⟩:Sl bA)])) (fun _ h=>wG h.2.1 h.1) ?_;refine sv 27 (.int .i64 ((rows++[(⟨none,0,[]⟩:Sl bA)]).length:Int)) ?_ (e:=by simp);refine At.front 2 rfl ?_;refine At.front 1 rfl ?_;refine mc ?_;exact At.bX (rows++[(⟨none,0,[]⟩:Sl bA)],a2,c2,Mo2) ⟨by simp only[List.length_append,List.length_singleton];omega,by simpa using ow,(by rw[List.map_append,hI.2.2,List.length_append,List.length_singleton,Sc.wH];congr 1;simp only[List.map_cons,List.map_nil];rw[hsn];rfl)⟩ (by simp only[List.length_append,List.length_singleton];omega) (bc.end 22 ⟨rfl,trivial⟩ rfl rfl) (fun _ h=>⟨h.1,h.2.2.2⟩) (k_ (k_ (d_ r_)));obtain hrl:rows.length=s.p.nt:=by omega
 refine ca (JY s.aV 100000) ?_;rintro _ _ _ ⟨up,rfl,rfl,rfl,hup⟩;have hupl:up.l.length<=100000:=by rw[hup];simp;omega
 have hend:∀{pl:List Int} {pa:Option Addr} {pc:Nat},rows.length=s.p.nt->pl=up.l.map (fun n=>Sc.oH n (s.p.nt:Int))->kd.p (⟨(s.p.nt:Int),min (max s.cells 0) 60000,s.cF.cp,ub,⟨a,c,rows⟩,⟨pa,pc,pl⟩⟩:kd)=s.p.clean:=by
  intro pl pa pc e1 e2;have h2:=hI.2.2;rw[e1]at h2;simp only[kd.p,Sc.clean,hub,e2,hup,h2];congr 1;exact s.p.sn
 refine At.ck ?_;refine mc ?_;refine At.front 0 rfl ?_;refine At.front 1 rfl ?_;refine At.dP (ι:=List Int×Option Addr×Nat×aO) [7,54,55,56,57,58,59,60,61,62,63,64,65,66,67] (fun⟨pl,pa,pc,Mp⟩=>[(54,.int .i64 (pl.length:Int))]) (fun⟨pl,pa,pc,Mp⟩=>[]) (fun⟨pl,pa,pc,Mp⟩=>[u6 b90 (⟨(s.p.nt:Int),min (max s.cells 0) 60000,s.cF.cp,ub,⟨a,c,rows⟩,⟨pa,pc,pl⟩⟩:kd),Mp]) _ (fun⟨pl,pa,pc,Mp⟩=>pl.length<=up.l.length/\bR 3 1 (pl.map aM) pa pc Mp/\pl=((up.l.take pl.length).map fun n=>Sc.oH n (s.p.nt:Int))) (fun⟨pl,pa,pc,Mp⟩=>up.l.length-pl.length) ([],none,0,[]) ⟨Nat.zero_le _,bR.nil _ _,rfl⟩ ⟨rfl,trivial⟩ (fun _ _=>trivial) (k_ (k_ r_)) ?_;intro st2 hJ;obtain⟨pl,pa,pc,Mp⟩:=st2;refine fi (fun hk2=>?_) (fun hk2=>?_);obtain⟨n,hn⟩:=aD (l:=up.l) (i:=pl.length) (by omega);refine mc ?_;refine qt (bD underlying26 t3 rfl (.head _) (by simp) rfl rfl (ae hn)) ?_;refine ld (Rd.kK (.head _) (aI hn) rfl) ?_;refine dw 7 [5,6] r_ ?_;refine sG 59 (.slice pa pl.length pc) ?_;refine sG 62 (.int .i64 (s.p.nt:Int)) ?_;refine oA (PR n (s.p.nt:Int) (by omega)) ?_;refine nX fun b10=>?_;refine mc ?_;refine lM (dk rfl underlying26 t3 rfl rfl hJ.2.1 (by simp) (i:=2) rfl rfl (news:=[aM (Sc.oH n (s.p.nt:Int))]) (by simp[aM]) (fc.loc (i:=0) rfl (m:=1) rfl) rfl rfl rfl (by omega) (by unfold maxLen;omega)) ?_;rintro _ _ _ ⟨pa2,pc2,Mp2,rfl,ow,rfl,rfl⟩;refine sv 65 (.slice pa2 (pl++[Sc.oH n (s.p.nt:Int)]).length pc2) ?_ (e:=by simp);refine mc ?_;refine At.front 1 rfl ?_;refine At.piece (B:=u6 b90 (⟨(s.p.nt:Int),min (max s.cells 0) 60000,s.cF.cp,ub,⟨a,c,rows⟩,⟨pa2,pc2,pl++[Sc.oH n (s.p.nt:Int)]⟩⟩:kd)) rfl ?_;refine sv 54 (.int .i64 ((pl++[Sc.oH n (s.p.nt:Int)]).length:Int)) ?_ (e:=by simp);refine At.front 2 rfl ?_;refine At.front 1 rfl ?_;refine mc ?_;exact At.bX (pl++[Sc.oH n (s.p.nt:Int)],pa2,pc2,Mp2) ⟨by simp only[List.length_append,List.length_singleton];omega,by simpa using ow,by rw[List.length_append,List.length_singleton,List.take_add_one,hn,List.map_append,<-hJ.2.2];rfl⟩ (by simp only[List.length_append,List.length_singleton];omega) (bc.end 20 ⟨rfl,trivial⟩ rfl rfl) (fun _ h=>h) (k_ (k_ (d_ r_)));refine At.da 1 hJ.2.1 rfl ?_;refine re ?_;exact rs ⟨(⟨(s.p.nt:Int),min (max s.cells 0) 60000,s.cF.cp,ub,⟨a,c,rows⟩,⟨pa,pc,pl⟩⟩:kd),Mo,rfl,rfl,rfl,hI.2.1,hend hrl (by rw[hJ.2.2,List.take_of_length_le (by omega)])⟩
end Go.Proofs.YtcnohdmimheoaaaGreat
namespace Go.Proofs.YtcnohdmimheoaaaGreat
open E Go.Proofs.Tryz
namespace Sc
def pw (c:Sc):Pw:=Pw.new c.threads.toNat c.cF (fG c.cells c.aS) c.ops
def err (c:Sc):Int:=(fG c.cells c.aS).2.1
end Sc
theorem mv {u s:kd} (h:u.p=s.p.clean):MP u s.p.nt/\u.pw s.p.nt=s.p.clean.pw/\(fG u.cells u.aS.l).2.1=s.p.clean.err/\u.aV.l=s.p.clean.aV:=by
 have hb:=s.p.JV;have h1:u.threads=min (max s.p.threads 1) 6:=congrArg Sc.threads h;have h2:u.cells=min (max s.p.cells 0) 60000:=congrArg Sc.cells h;have h3:u.aS.l=(fh [] s.p.aS).take 200:=congrArg Sc.aS h;have h4:u.ops.l.map (·.l)=s.p.rows s.p.nt:=congrArg Sc.ops h;have h5:u.aV.l=(s.p.aV.take 100000).map fun n=>Sc.oH n (s.p.nt:Int):=congrArg Sc.aV h;have h6:u.cF=s.p.cF.cp:=congrArg Sc.cF h;have e1:=s.p.sn;have hl:u.ops.l.length=s.p.nt:=by have:=congrArg List.length h4;simpa[Sc.rows]using this
 refine⟨⟨h1.trans e1.symm,hb.1,hb.2,by omega,by omega,?_,?_,hl,?_⟩,?_,?_,h5⟩;rw[h3];simp;omega;rw[h3];have:=vZ s.p.aS;rw[dF]at this⊢;exact this.sublist (List.take_sublist _ _);rw[h5];simp;omega;unfold kd.pw Sc.pw;rw[<-h];show Pw.new s.p.nt u.cF _ _=Pw.new u.threads.toNat u.cF _ _;rw[h1,show(min (max s.p.threads 1) 6).toNat=s.p.nt from rfl];rfl;unfold Sc.err;rw[<-h];rfl
def Pw.runs (W:Pw) (i:Nat):Nat->Pw
 |0=>W
 |n+1=>((W.runs i n).pick i).2
theorem Pw.Bp {W:Pw} {i:Nat} (h:(W.pick i).1=false):(W.pick i).2=W:=by
 unfold Pw.pick at h⊢;split;rename_i h1;rw[if_pos h1]at h;cases h;rename_i h1;rw[if_neg h1]at h;revert h;split;intro _;rfl;intro h;cases h
structure CF (W:Nat->Pw) (n:Nat->Nat) (nt:Nat):Prop where
 on:∀t,t<nt->∀k,k<n t->nO ((W t).runs t k) t/\(((W t).runs t k).pick t).1=true
 off:∀t,t<nt->nO ((W t).runs t (n t)) t/\(((W t).runs t (n t)).pick t).1=false
 next:∀t,t<nt->W (t+1)=(W t).runs t (n t)
 ops:∀t,t<=nt->(W t).ops.length=nt
 gN:nt<=1000
end Go.Proofs.YtcnohdmimheoaaaGreat
namespace Go.Proofs.YtcnohdmimheoaaaGreat
open E Ar Go.Proofs.Tryz
section
variable {A:Ar} {g:Gh} {root:Int}
structure lN (A:Ar) (g:Gh) (root:Int):Prop where
 tr:fz A.R g root
 cell:∀c,g.dn c->A.TC c
 rt:∀r,g.rt r->A.kind r=2/\A.val r 0=g.key r/\A.val r 1=r-5/\A.val r 2=r-3
 has:∀r∈g.j7,g.rt r
theorem D2 {c:Int} (h:A.aB c=true):(A.load c).1=A.holds c:=by unfold Ar.load;rw[if_pos h]
theorem lN.told (h:lN A g root) (p:iH):∀(n:Nat) {c lo hi:Int},g.live c->g.iv c=some (lo,hi)->(∀r,A.R c=some r->Gz g.j7 r<n)->
  A.si (n+1) c/\∀here,∃ks:List Int,(A.iN p (n+1) c here).length=2*ks.length+1/\ks.Pairwise (·<·)/\∀k∈ks,lo<k/\k<hi/\∃r∈g.j7,g.key r=k
 |n,c,lo,hi,hl,hi',hn=>by
  have hc:=D2 (h.cell c (h.tr.gH c hl)).1
  cases e:A.R c with
  |none=>
   have hk:=Ar.du.1 e;rw[<-hc]at hk;refine⟨fun q=>absurd q hk,fun here=>⟨[],?_,.nil,fun k hk=>by cases hk⟩⟩;rw[Ar.zR hk];rfl
  |some r=>
   obtain⟨hk,hr⟩:=Ar.fV.1 e;obtain⟨a,b,c1,c2⟩:=h.tr.kq c r lo hi hl hi' e;have hrt:=h.tr.oE c r (h.tr.gH c hl) e;have hkey:=h.tr.rk c r lo hi hi' e;obtain⟨_,v0,v1,v2⟩:=h.rt r hrt;have hmem:=h.tr.j7 c r hl e
   cases n with
   |zero=>exact absurd (hn r e) (Nat.not_lt_zero _)
   |succ n=>
    have lt:∀d r',(d=r-5\/d=r-3)->g.live d->A.R d=some r'->Gz g.j7 r'<n:=fun d r' hd hld e'=>by
     have h2:=h.tr.ord r r' hrt (by rcases hd with rfl|rfl<;>simp[e']);have:=xT h2 (h.tr.j7 _ _ hld e');have:=hn r e;omega
    obtain⟨d1,l1⟩:=h.told p n a c1 fun r' e'=>lt _ r' (.inl rfl) a e';obtain⟨d2,l2⟩:=h.told p n b c2 fun r' e'=>lt _ r' (.inr rfl) b e';have hl':(A.aj (A.load c).1).left=r-5:=by rw[hc,hr];exact v1
    have hr':(A.aj (A.load c).1).right=r-3:=by rw[hc,hr];exact v2
    have hk2:A.kind (A.load c).1=2:=by rw[hc];exact hk
    refine⟨fun _=>?_,fun here=>?_⟩;rw[hl',hr'];exact⟨d1,d2⟩;rw[Ar.zS hk2,hl',hr'];obtain⟨k1,a1,a2,a3⟩:=l1 (here+1);obtain⟨k2,b1,b2,b3⟩:=l2 (here+1+(A.iN p (n+1) (r-5) (here+1)).length);refine⟨k1++g.key r::k2,?_,?_,fun k hk=>?_⟩;rw[List.length_cons,List.length_append,b1,a1,List.length_append,List.length_cons];omega;refine List.pairwise_append.2 ⟨a2,List.pairwise_cons.2 ⟨fun x hx=>(b3 x hx).1,b2⟩,fun x hx y hy=>?_⟩;have:=(a3 x hx).2.1;rcases List.mem_cons.1 hy with rfl|hy;exact this;have:=(b3 y hy).1;omega;rcases List.mem_append.1 hk with hk|hk;have:=a3 k hk;exact⟨this.1,by omega,this.2.2⟩;rcases List.mem_cons.1 hk with rfl|hk;exact⟨hkey.1,hkey.2.1,r,hmem,rfl⟩;have:=b3 k hk;exact⟨by omega,this.2.1,this.2.2⟩
theorem Hz:∀{l:List Int} {n:Nat},l.Nodup->(∀x∈l,1<=x/\x<=(n:Int))->l.length<=n:=fun{l n} h hx=>by
 have:=eu l ((List.range n).map fun(i:Nat)=>(i:Int)+1) h fun x q=>List.mem_map.2 ⟨(x-1).toNat,List.mem_range.2 (by have:=hx x q;omega),by have:=hx x q;omega⟩;simpa using this
theorem lN.rep (h:lN A g root) (hok:A.Ok) (p:iH):∃n,A.si n root/\(A.iN p n root 0).length<=1000000/\(A.iN p n root 0).length<=2*g.j7.length+1:=by
 obtain⟨q1,q2⟩:=h.tr.rt;obtain⟨d,l⟩:=h.told p (g.j7.length+1) q1 q2 fun r _=>Nat.lt_succ_of_le (List.length_filter_le _ _);obtain⟨ks,a,b,c⟩:=l 0
 have h1:ks.length<=g.j7.length:=by
  have:=eu ks (g.j7.map g.key) (b.imp fun{x y} hxy e=>by omega) fun x hx=>by
   obtain⟨_,_,r,hr,e⟩:=c x hx;exact List.mem_map.2 ⟨r,hr,e⟩
  simpa using this
 have h2:g.j7.length<=A.sl.length:=Hz h.tr.nd fun x hx=>aF (A:=A) (by rw[(h.rt x (h.has x hx)).1];decide);unfold Ar.Ok at hok;exact⟨_,d,by omega,by omega⟩
end
theorem fz.congr {R R':Int->Option Int} {g:Gh} {root:Int} (h:fz R g root) (e:∀c,g.dn c->R' c=R c):fz R' g root:=by
 have el:∀c,g.live c->R' c=R c:=fun c hc=>e c (h.gH c hc)
 have e5:∀r,g.rt r->R' (r-5)=R (r-5)/\R' (r-3)=R (r-3):=fun r hr=>by
  obtain⟨a,b,c,d,e1,e2,_⟩:=h.j8 r hr;exact⟨e _ ⟨a,b,e1⟩,e _ ⟨c,d,e2⟩⟩
 exact{
  rt:=h.rt
  pt:=h.pt
  gH:=h.gH
  oE:=fun c r hc hr=>h.oE c r hc (by rw[<-e c hc];exact hr)
  rk:=fun c r lo hi hc hr=>h.rk c r lo hi hc (by rw[<-e c ⟨_,_,hc⟩];exact hr)
  kq:=fun c r lo hi hl hc hr=>h.kq c r lo hi hl hc (by rw[<-el c hl];exact hr)
  j8:=h.j8
  ord:=fun r r' hr hh=>h.ord r r' hr (by rw[<-(e5 r hr).1,<-(e5 r hr).2];exact hh)
  rm:=h.rm
  sep:=h.sep
  par:=fun c c' r a b x y=>h.par c c' r a b (by rw[<-el c a];exact x) (by rw[<-el c' b];exact y)
  up:=fun c a b=>by
   obtain⟨p,r,x,y,z⟩:=h.up c a b;exact⟨p,r,x,by rw[el p x];exact y,z⟩
  rq:=fun c c' lo hi lo' hi' k a b x y=>h.rq c c' lo hi lo' hi' k a b (by rw[<-el c a];exact x) (by rw[<-el c' b];exact y)
  str:=fun c p r lo hi a x b hp y=>h.str c p r lo hi a (by rw[<-el c a];exact x) b hp (by rw[<-el p hp];exact y)
  Ck:=fun c lo hi a b=>by
   have:=h.Ck c lo hi a b;refine⟨this.1.imp id ?_,this.2.imp id ?_⟩<;>(rintro⟨p,r,x,y,z⟩;exact⟨p,r,x,by rw[el p x];exact y,z⟩)
  qx:=fun p p' r r' a b x y=>h.qx p p' r r' a b (by rw[<-el p a];exact x) (by rw[<-el p' b];exact y)
  both:=h.both
  j7:=fun p r a x=>h.j7 p r a (by rw[<-el p a];exact x)
  nd:=h.nd
  Gy:=h.Gy
  Cl:=h.Cl
  Eg:=h.Eg
  Eh:=fun u c lo hi r a b d f x=>h.Eh u c lo hi r a b d f (by rw[<-e c ⟨_,_,f⟩];exact x)}
def Gh.JZ (g:Gh) (c d:Int):Prop:=∃l h l' h',g.iv c=some (l,h)/\g.iv d=some (l',h')/\l'<=l/\h<=h'
theorem Gh.JZ.refl {g:Gh} {c:Int} (h:g.dn c):g.JZ c c:=by
 obtain⟨l,v,e⟩:=h;exact⟨l,v,l,v,e,e,Int.le_refl _,Int.le_refl _⟩
namespace Ar
def gI (A:Ar) (b:Int):Int:=
 if A.kind b=5/\A.kind (A.st (A.val b 3))=8/\A.val (A.st (A.val b 3)) 0=b/\A.holds (A.val (A.st (A.val b 3)) 3)=A.val (A.st (A.val b 3)) 2 then A.val (A.st (A.val b 3)) 1 else b
structure nR (A:Ar) (b:Int):Prop where
 is:dr A b
 main:A.kind b=4->A.st b= -2
 ai:A.kind b=5->A.st (A.val b 3)= -2\/A.st (A.val b 3)= -3
def oc (A:Ar) (m p:Int):Int:=2*A.val p 2-8-A.val m 2
structure kS (A:Ar) (m p:Int):Prop where
 k:A.kind m=4/\A.kind p=8
 n:A.kind (A.val p 1)=5/\A.val (A.val p 1) 3=m
 jd:A.kind (A.val p 0)=5/\A.val (A.val p 0) 3=m
 u:A.kind (A.val p 2)=2
 side:A.val m 2=A.val p 2-5\/A.val m 2=A.val p 2-3
 lk:A.val p 4=0\/∃w,A.kind w=2/\A.val p 4=w-1/\w<A.val p 2
 rp:(A.val p 5=A.val p 0/\A.val (A.val p 1) 2=A.oc m p/\A.val (A.val p 0) 2=A.val p 3)\/(A.kind (A.val p 5)=2/\A.val p 2<A.val p 5/\A.val (A.val p 0) 2=A.val (A.val p 1) 2/\A.val (A.val p 1) 2≠A.oc m p)
 nm:A.val (A.val p 1) 2≠A.val m 2
 bp:A.bp (A.val p 0)=if A.val m 2=A.val p 2-5 then A.bp m++A.bp (A.val p 1)else A.bp (A.val p 1)++A.bp m
 lt:A.val p 1<A.val p 0/\A.val p 2<A.val p 0
structure Wp (A:Ar) (g:Gh) (root m p:Int):Prop where
 live:g.rt (A.val p 2)/\g.live (A.val p 2-5)
 pc:g.live (A.val p 3)/\A.holds (A.val p 3)=A.val p 2
 hm:A.holds (A.val m 2)=m
 lu:A.holds (A.val p 2-1)=m
 lw:(A.val p 4=0/\A.val p 3=root)\/∃w,g.rt w/\A.val p 4=w-1/\(A.val p 3=w-5\/A.val p 3=w-3)/\A.holds (A.val p 4)=m
 nc:g.live (A.val (A.val p 1) 2)/\(A.holds (A.val (A.val p 1) 2)=A.val p 1\/A.holds (A.val (A.val p 1) 2)=A.val p 0)
 oc:A.kind (A.val p 5)=2->A.holds (A.oc m p)=A.val p 5
 bl:g.bl (A.val p 2) (A.val (A.val p 1) 2)
 st:∃lo hi,g.iv (A.val (A.val p 1) 2)=some (lo,hi)/\(if A.val m 2=A.val p 2-5 then lo=A.val (A.val p 2) 0 else hi=A.val (A.val p 2) 0)
structure Dp (A:Ar) (g:Gh) (m p:Int):Prop where
 dead:g.rt (A.val p 2)/\¬g.live (A.val p 2-5)
 pc:A.val p 2<A.holds (A.val p 3)
 nc:A.val p 1<A.holds (A.val (A.val p 1) 2)
 jd:A.st m=p->g.live (A.val (A.val p 0) 2)/\A.holds (A.val (A.val p 0) 2)=A.val p 0
structure Inv (A:Ar) (K:eE) (g:Gh) (root:Int):Prop where
 bg:c9 A K root
 sk:lN A g root
 home:∀c,g.live c->A.R c=none->A.val (A.holds c) 2=c\/∃m,g.aa m≠0/\A.st m=g.aa m/\g.live (A.val (g.aa m) 2-5)/\A.val (g.aa m) 5=A.val (g.aa m) 0/\A.holds c=A.val (g.aa m) 0/\c=A.val (A.val (g.aa m) 1) 2
 cont:∀c lo hi,g.live c->A.R c=none->g.iv c=some (lo,hi)->(∀x∈A.bp (A.gI (A.holds c)),lo<=x.k/\x.k<hi)/\∀k,lo<=k->k<hi->lk (A.bp (A.gI (A.holds c))) k=lk g.cur k
 dead:∀c,g.dn c->¬g.live c->(A.kind (A.holds c)=4/\g.aa (A.holds c)≠0/\A.val (A.holds c) 2=c)\/A.kind (A.holds c)=2\/(A.kind (A.holds c)=5/\A.val (A.holds c) 2≠c/\g.JZ c (A.val (A.holds c) 2))
 lock:∀r,g.rt r->¬g.live (r-5)->A.kind (A.holds (r-1))=4/\g.aa (A.holds (r-1))≠0/\A.val (g.aa (A.holds (r-1))) 2=r
 main:∀m,A.kind m=4->(g.aa m=0/\(A.st m= -1\/A.st m= -2))\/(g.aa m≠0/\(A.st m=g.aa m\/A.st m= -3))
 aa:∀m,g.aa m≠0->kS A m (g.aa m)/\((A.st m=g.aa m/\Wp A g root m (g.aa m))\/Dp A g m (g.aa m))
end Ar
section
variable {A B:Ar} {K:eE} {g:Gh} {root:Int}
theorem Ar.dr.nr {b:Int} (h:dr A b):A.kind b≠2:=by unfold dr at h;omega
section
variable (h:Inv A K g root)
include h
theorem Ar.Inv.gu {c b:Int} (hc:g.dn c) (hh:A.holds c=b) (hb:nR A b) (hm:A.val b 2=c):g.live c/\A.R c=none:=by
 have hr:A.R c=none:=Ar.du.2 (by rw[hh];exact dr.nr hb.is);refine⟨Classical.byContradiction fun hl=>?_,hr⟩;rcases h.dead c hc hl with⟨k,q,_⟩|k| ⟨k,q⟩;rw[hh]at k q;have:=hb.main k;rcases h.main b k with⟨q2,_⟩| ⟨_,q2⟩;exact q q2;have hp:=(h.aa b q).1.k.2;rcases q2 with q2|q2;rw[this]at q2;rw[<-q2]at hp;have:=aF (A:=A) (id:= -2) (by rw[hp];decide);omega;omega;rw[hh]at k;exact dr.nr hb.is k;rw[hh]at q;exact q.1 hm
theorem Ar.Inv.seen {c:Int} (hc:g.dn c) (hb:dr A (A.holds c)):g.JZ c (A.val (A.holds c) 2):=by
 by_cases hl:g.live c;rcases h.home c hl (Ar.du.2 hb.nr)with q| ⟨m,a,b,l,d,f,f2⟩;rw[q];exact .refl hc;obtain⟨p,ph⟩:=h.aa m a;rcases ph with⟨_,w⟩|w;rw[f];rcases p.rp with⟨_,y,x⟩| ⟨x,_⟩;rw[x,f2,y];obtain⟨lo,hi,e⟩:=h.sk.tr.gH _ w.pc.1;have RP:A.R (A.val (g.aa m) 3)=some (A.val (g.aa m) 2):=Ar.fV.2 ⟨by rw[w.pc.2];exact p.u,w.pc.2⟩;obtain⟨_,_,e5,e3⟩:=h.sk.tr.kq _ _ lo hi w.pc.1 e RP;have:=h.sk.tr.rk _ _ lo hi e RP;unfold Ar.oc;rcases p.side with z|z<;>rw[z];rw[show 2*A.val (g.aa m) 2-8-(A.val (g.aa m) 2-5)=A.val (g.aa m) 2-3 by omega];exact⟨_,_,_,_,e3,e,by omega,by omega⟩;rw[show 2*A.val (g.aa m) 2-8-(A.val (g.aa m) 2-3)=A.val (g.aa m) 2-5 by omega];exact⟨_,_,_,_,e5,e,by omega,by omega⟩;rw[d,p.jd.1]at x;cases x;exact absurd l w.dead.2;rcases h.dead c hc hl with⟨k,_,q⟩|k| ⟨_,_,q⟩;rw[q];exact .refl hc;exact absurd k hb.nr;exact q
theorem Ar.Inv.py {m:Int} (hm:g.aa m≠0):1<=g.aa m:=by
 have hp:=(h.aa m hm).1.k.2;exact(aF (A:=A) (id:=g.aa m) (by rw[hp];decide)).1
theorem Ar.Inv.qD {m b:Int} (hm:g.aa m≠0) (hs:A.st m=g.aa m) (hb:nR A b):b≠m/\b≠A.val (g.aa m) 1/\b≠A.val (g.aa m) 0:=by
 have hp:=h.py hm;obtain⟨q,_⟩:=h.aa m hm;refine⟨?_,?_,?_⟩;rintro rfl;have:=hb.main q.k.1;omega;rintro rfl;have:=hb.ai q.n.1;rw[q.n.2]at this;omega;rintro rfl;have:=hb.ai q.jd.1;rw[q.jd.2]at this;omega
end
end
section
variable {A B:Ar} {K:eE} {g:Gh} {root:Int}
theorem dJ (t:c9 A K root) (e:Ext A B) {b:Int} (hb:dr A b):B.bp b=A.bp b:=by
 obtain⟨_,l,h,_⟩:=(t.cg b hb.ne).base hb;unfold Ar.bp;rw[e.val b 0 hb.ne,h.ps,(h.bE e.bE).ps]
theorem bL {b k:Int} (h:A.kind b=k) (h1:3<=k) (h2:k<=6):dr A b:=by unfold dr;omega
theorem k0 {b k:Int} (h:A.kind b=k) (h1:k≠0):A.kind b≠0:=by rw[h];exact h1
theorem Ar.kS.ext {m p:Int} (t:c9 A K root) (e:Ext A B) (h:kS A m p):kS B m p:=by
 have km:=k0 h.k.1 (by decide);have kp:=k0 h.k.2 (by decide);have kn:=k0 h.n.1 (by decide);have kj:=k0 h.jd.1 (by decide);have vm:=fun i=>e.val m i km;have vp:=fun i=>e.val p i kp;have o:B.oc m p=A.oc m p:=by unfold Ar.oc;rw[vm,vp]
 refine⟨⟨e.k h.k.1 (by decide),e.k h.k.2 (by decide)⟩,?_,?_,?_,?_,?_,?_,?_,?_,?_⟩;rw[vp,e.val _ _ kn];exact⟨e.k h.n.1 (by decide),h.n.2⟩;rw[vp,e.val _ _ kj];exact⟨e.k h.jd.1 (by decide),h.jd.2⟩;rw[vp];exact e.k h.u (by decide);rw[vp,vm];exact h.side;rw[vp,vp];exact h.lk.imp id fun⟨w,a,b⟩=>⟨w,e.k a (by decide),b⟩;rw[o];simp only[vp,e.val _ _ kn,e.val _ _ kj];exact h.rp.imp id fun⟨a,b⟩=>⟨e.k a (by decide),b⟩;simp only[vp,vm,e.val _ _ kn];exact h.nm;simp only[vp,vm];rw[dJ t e (bL h.jd.1 (by decide) (by decide)),dJ t e (bL h.k.1 (by decide) (by decide)),dJ t e (bL h.n.1 (by decide) (by decide))];exact h.bp;simp only[vp];exact h.lt
structure PS (A B:Ar) (g:Gh):Prop where
 tc:∀c,A.TC c->B.holds c=A.holds c
 st:∀m,A.kind m=4->B.st m=A.st m\/(g.aa m=0/\(A.st m= -1\/A.st m= -2)/\(B.st m= -1\/B.st m= -2))\/(g.aa m≠0/\A.st m=g.aa m/\B.st m= -3/\Dp A g m (g.aa m))
theorem fa {v k:Int} (h:v<1) (hk:k≠0):A.kind v≠k:=fun q=>by have:=aF (A:=A) (id:=v) (by rw[q];exact hk);omega
theorem HA (t:c9 A K root) (e:Ext A B) (s:PS A B g) {b:Int} (hb:dr A b):B.gI b=A.gI b:=by
 unfold Ar.gI;rw[e.kind b hb.ne];by_cases k5:A.kind b=5
 ·have k4:=(t.cg b hb.ne).ai k5;rw[e.val b 3 hb.ne];rcases s.st _ k4 with hst| ⟨_,q1,q2⟩| ⟨q0,q1,q2,d⟩
  rotate_left
  rw[if_neg (fun q=>fa (by omega) (by decide) q.2.1),if_neg (fun q=>fa (by omega) (by decide) q.2.1)];rw[if_neg (fun q=>fa (by omega) (by decide) q.2.1),if_neg (fun q=>?_)];rw[q1]at q;have:=d.pc;have:=q.2.2.2;omega;rw[hst];by_cases k8:A.kind (A.st (A.val b 3))=8;have hk:=k0 k8 (by decide);obtain⟨_,_,_,tc,_⟩:=(t.cg _ hk).GD k8;rw[e.kind _ hk,e.val _ 0 hk,e.val _ 1 hk,e.val _ 2 hk,e.val _ 3 hk,s.tc _ tc];have k8':B.kind (A.st (A.val b 3))≠8\/B.kind (A.st (A.val b 3))=8:=by omega
  have sc:A.SC (A.val b 3-1):=by
   obtain⟨_,q⟩:=(t.cg _ (k0 k4 (by decide))).main k4;exact⟨q,by rw[show A.val b 3-1+1=A.val b 3 by omega];exact k4⟩
  have hs:A.st (A.val b 3)= -1\/A.st (A.val b 3)= -2\/A.st (A.val b 3)= -3\/A.kind (A.st (A.val b 3))=8:=(t.mq _).sc sc
  have nk:B.kind (A.st (A.val b 3))≠8:=by
   intro q;have:=aF (A:=B) (id:=A.st (A.val b 3)) (by rw[q];decide);rcases hs with h|h|h|h;rw[h]at this;omega;rw[h]at this;omega;rw[h]at this;omega;exact k8 h
  rw[if_neg (fun q=>nk q.2.1),if_neg (fun q=>k8 q.2.1)]
 rw[if_neg (fun q=>k5 q.1),if_neg (fun q=>k5 q.1)]
theorem J0 (t:c9 A K root) {b:Int} (hb:dr A b):dr A (A.gI b):=by
 unfold Ar.gI;split;rename_i h;obtain⟨_,q,_⟩:=(t.cg _ (k0 h.2.1 (by decide))).GD h.2.1;exact bL q (by decide) (by decide);exact hb
theorem Ar.Inv.bE (h:Inv A K g root) (t:c9 B K root) (e:Ext A B) (s:PS A B g)
  (hl:∀r,g.rt r->¬g.live (r-5)->B.holds (r-1)=A.holds (r-1))
  (hw:∀m,g.aa m≠0->Wp A g root m (g.aa m)->B.holds (A.val (g.aa m) 2-1)=A.holds (A.val (g.aa m) 2-1)/\∀w,g.rt w->A.val (g.aa m) 4=w-1->B.holds (A.val (g.aa m) 4)=A.holds (A.val (g.aa m) 4))
  (hm:∀m,A.kind m=0->B.kind m=4->B.st m= -1):Inv B K g root:=by
 have hR:∀c,g.dn c->B.R c=A.R c:=fun c hc=>by
  have tc:=h.sk.cell c hc;have hh:=(h.bg.mq c).tc tc;unfold Ar.R;rw[s.tc c tc,e.kind _ (by rcases hh with q|q;exact q.ne;exact k0 q (by decide))]
 have lR:∀c,g.live c->B.R c=A.R c:=fun c hc=>hR c (h.sk.tr.gH c hc);have lT:∀c,g.live c->A.TC c:=fun c hc=>h.sk.cell c (h.sk.tr.gH c hc);have lh:∀c,g.live c->B.holds c=A.holds c:=fun c hc=>s.tc c (lT c hc);have leafB:∀c,g.live c->A.R c=none->dr A (A.holds c):=fun c hc hr=>((h.bg.mq c).tc (lT c hc)).resolve_right (Ar.du.1 hr)
 have pk:∀m,g.aa m≠0->A.kind m≠0/\A.kind (g.aa m)≠0/\A.kind (A.val (g.aa m) 0)≠0/\A.kind (A.val (g.aa m) 1)≠0:=fun m q=>by
  have p:=(h.aa m q).1;exact⟨k0 p.k.1 (by decide),k0 p.k.2 (by decide),k0 p.jd.1 (by decide),k0 p.n.1 (by decide)⟩
 have pst:∀m,g.aa m≠0->B.st m=A.st m\/(A.st m=g.aa m/\B.st m= -3/\Dp A g m (g.aa m)):=fun m q=>(s.st m (h.aa m q).1.k.1).imp id fun x=>x.elim (fun y=>absurd y.1 q) fun y=>y.2;refine⟨t,⟨h.sk.tr.congr hR,fun c hc=>e.TC (h.sk.cell c hc),fun r hr=>?_,h.sk.has⟩,fun c hc hr=>?_,fun c lo hi hc hr hi'=>?_,fun c hc hn=>?_,fun r hr hn=>?_,fun m hm'=>?_,fun m q=>?_⟩;obtain⟨a,b,c,d⟩:=h.sk.rt r hr;have hk:=k0 a (by decide);rw[e.val r 0 hk,e.val r 1 hk,e.val r 2 hk];exact⟨e.k a (by decide),b,c,d⟩;rw[lR c hc]at hr;rw[lh c hc,e.val _ _ (leafB c hc hr).ne];rcases h.home c hc hr with q| ⟨m,q1,q2,q3,q4,q5,q6⟩;exact .inl q;obtain⟨a,b,c1,d⟩:=pk m q1
 exact .inr ⟨m,q1,by
  rcases pst m q1 with f| ⟨_,_,f⟩;rw[f];exact q2;exact absurd q3 f.dead.2,by rw[e.val _ _ b];exact q3,by rw[e.val _ _ b,e.val _ _ b];exact q4,by rw[e.val _ _ b];exact q5,by rw[e.val _ _ b,e.val _ _ d];exact q6⟩
 rw[lR c hc]at hr;have hb:=leafB c hc hr;rw[lh c hc,HA h.bg e s hb,dJ h.bg e (J0 h.bg hb)];exact h.cont c lo hi hc hr hi';have tc:=h.sk.cell c hc;rw[s.tc c tc];rcases h.dead c hc hn with⟨a,b⟩|a| ⟨a,b⟩;exact .inl ⟨e.k a (by decide),by rw[e.val _ _ (k0 a (by decide))];exact b⟩;exact .inr (.inl (e.k a (by decide)));exact .inr (.inr ⟨e.k a (by decide),by rw[e.val _ _ (k0 a (by decide))];exact b⟩);rw[hl r hr hn];obtain⟨a,b,c⟩:=h.lock r hr hn;exact⟨e.k a (by decide),b,by rw[e.val _ _ (pk _ b).2.1];exact c⟩;by_cases k:A.kind m=0;have hp:g.aa m=0:=Classical.byContradiction fun q=>(pk m q).1 k;exact .inl ⟨hp,.inl (hm m k hm')⟩;have k4:A.kind m=4:=(e.kind m k).symm.trans hm';rcases s.st m k4 with f| ⟨f1,_,f2⟩| ⟨f1,_,f2,_⟩;rw[f];exact h.main m k4;exact .inl ⟨f1,f2⟩;exact .inr ⟨f1,.inr f2⟩;obtain⟨p,ph⟩:=h.aa m q;obtain⟨km,kp,kj,kn⟩:=pk m q;have vm:=fun i=>e.val m i km;have vp:=fun i=>e.val (g.aa m) i kp;have vj:=fun i=>e.val (A.val (g.aa m) 0) i kj;have vn:=fun i=>e.val (A.val (g.aa m) 1) i kn;refine⟨p.ext h.bg e,?_⟩;have tcn:A.TC (A.val (A.val (g.aa m) 1) 2):=((h.bg.cg _ kn).base (bL p.n.1 (by decide) (by decide))).1;have tcj:A.TC (A.val (A.val (g.aa m) 0) 2):=((h.bg.cg _ kj).base (bL p.jd.1 (by decide) (by decide))).1;have tcm:A.TC (A.val m 2):=((h.bg.cg _ km).base (bL p.k.1 (by decide) (by decide))).1;have tcp:A.TC (A.val (g.aa m) 3):=((h.bg.cg _ kp).GD p.k.2).2.2.2.1;rcases ph with⟨a,w⟩|d;have hs:B.st m=A.st m:=(pst m q).elim id fun y=>absurd w.live.2 y.2.2.dead.2;refine .inl ⟨hs.trans a,?_⟩;obtain⟨w1,w2⟩:=hw m q w;have ku:=(h.sk.rt _ w.live.1).1;refine⟨by rw[vp];exact w.live,?_,?_,?_,?_,?_,?_,?_,?_⟩;rw[vp,vp,s.tc _ tcp];exact w.pc;rw[vm,s.tc _ tcm];exact w.hm;rw[vp,w1];exact w.lu;rw[vp,vp];exact w.lw.imp id fun⟨x,x1,x2,x3,x4⟩=>⟨x,x1,x2,x3,by rw[w2 x x1 x2];exact x4⟩;rw[vp,vp,vn,s.tc _ tcn];exact w.nc;rw[vp];intro k2;have o:B.oc m (g.aa m)=A.oc m (g.aa m):=by unfold Ar.oc;rw[vm,vp]
 have k2':A.kind (A.val (g.aa m) 5)=2:=by
  rcases p.rp with⟨x,_⟩| ⟨x,_⟩;rw[x,e.k p.jd.1 (by decide)]at k2;cases k2;exact x
 have tco:A.TC (A.oc m (g.aa m)):=by
  have r:=(h.bg.cg _ (k0 ku (by decide))).ro ku;unfold Ar.oc;rcases p.side with x|x<;>rw[x];rw[show 2*A.val (g.aa m) 2-8-(A.val (g.aa m) 2-5)=A.val (g.aa m) 2-3 by omega];exact r.2.2.2.2.1;rw[show 2*A.val (g.aa m) 2-8-(A.val (g.aa m) 2-3)=A.val (g.aa m) 2-5 by omega];exact r.2.2.2.1
 rw[o,s.tc _ tco];exact w.oc k2';rw[vp,vp,vn];exact w.bl;rw[vp,vp,vn,vm,e.val _ _ (k0 ku (by decide))];exact w.st;refine .inr ⟨by rw[vp];exact d.dead,?_,?_,?_⟩;rw[vp,vp,s.tc _ tcp];exact d.pc;rw[vp,vn,s.tc _ tcn];exact d.nc;rw[vp,vj,s.tc _ tcj];intro z;rcases pst m q with f| ⟨_,f,_⟩;exact d.jd (f.symm.trans z);have:=h.py q;omega
theorem gw (t:c9 A K root) {m:Int} (h:A.kind m=4):A.SC (m-1):=by
 obtain⟨_,q⟩:=(t.cg _ (k0 h (by decide))).main h;exact⟨q,by rw[show m-1+1=m by omega];exact h⟩
section
variable (h:Inv A K g root)
include h
theorem Ar.Inv.grow (o:vB A B) (t:c9 B K root) (hm:∀m,A.kind m=0->B.kind m=4->B.st m= -1):Inv B K g root:=by
 have e:=o.ext;refine h.bE t e ⟨fun c hc=>o.holds c (dc hc.1).2,fun m hm=>.inl (o.holds _ (dc (gw h.bg hm).1).2)⟩ (fun r hr hn=>?_) (fun m q w=>⟨?_,fun x hx _=>?_⟩) hm;have:=aF (A:=A) (id:=r) (k0 (h.sk.rt r hr).1 (by decide));exact o.holds _ (by omega);have:=aF (A:=A) (id:=A.val (g.aa m) 2) (k0 (h.sk.rt _ w.live.1).1 (by decide));exact o.holds _ (by omega);have:=aF (A:=A) (id:=x) (k0 (h.sk.rt _ hx).1 (by decide));exact o.holds _ (by omega)
theorem Ar.Inv.gF {c v:Int} (u:ka A B c v) (t:c9 B K root) (e:Ext A B) (h1:¬A.TC c) (h2:¬A.SC c) (hl:∀r,g.rt r->¬g.live (r-5)->c≠r-1) (hw:∀m,g.aa m≠0->Wp A g root m (g.aa m)->c≠A.val (g.aa m) 2-1/\∀w,g.rt w->A.val (g.aa m) 4=w-1->c≠w-1):Inv B K g root:=by
 have o:∀x,x≠c->B.holds x=A.holds x:=fun x hx=>by rw[u.holds,if_neg hx]
 refine h.bE t e ⟨fun x hx=>o x fun q=>h1 (q▸hx),fun m hm=>.inl (o _ fun q=>h2 (q▸gw h.bg hm))⟩ (fun r hr hn=>o _ fun q=>hl r hr hn q.symm) (fun m q w=>⟨o _ fun z=>(hw m q w).1 z.symm,fun x hx hx2=>o _ fun z=>(hw m q w).2 x hx hx2 (by omega)⟩) (fun m k k4=>?_);rw[u.kind]at k4;omega
theorem Ar.Inv.state {m v:Int} (hm:A.kind m=4) (u:ka A B (m-1) v) (t:c9 B K root) (e:Ext A B) (hv:(g.aa m=0/\v= -2)\/(g.aa m≠0/\A.st m=g.aa m/\v= -3/\Dp A g m (g.aa m))):Inv B K g root:=by
 have o:∀x,x≠m-1->B.holds x=A.holds x:=fun x hx=>by rw[u.holds,if_neg hx]
 have ne:∀r,A.kind r=2->r-1≠m-1:=fun r hr q=>by
  have:r=m:=by omega
  subst this;rw[hm]at hr;cases hr
 refine h.bE t e ⟨fun x hx=>o x fun q=>?_,fun m' hm'=>?_⟩ (fun r hr hn=>o _ (ne r (h.sk.rt r hr).1)) (fun m' q w=>⟨o _ (ne _ (h.sk.rt _ w.live.1).1),fun x hx hx2=>by rw[hx2];exact o _ (ne x (h.sk.rt x hx).1)⟩) (fun m k k4=>?_);have:=hx.2;rw[q,show m-1+1=m by omega,hm]at this;cases this;by_cases e:m'=m;subst e;have hs:B.st m'=v:=by unfold Ar.st;rw[u.holds,if_pos rfl]
 rcases hv with⟨a,b⟩| ⟨a,b,c,d⟩;rcases h.main m' hm' with⟨_,x⟩| ⟨x,_⟩;exact .inr (.inl ⟨a,x,.inr (hs.trans b)⟩);exact absurd a x;exact .inr (.inr ⟨a,b,hs.trans c,d⟩);exact .inl (o _ (by omega));rw[u.kind]at k4;omega
end
end
section
variable {A B:Ar} {K:eE} {g:Gh} {root:Int}
def Gh.mM (g:Gh) (l:List Pr):Gh:={g with cur:=l}
theorem fz.cur {R:Int->Option Int} (h:fz R g root) (l:List Pr):fz R (g.mM l) root:=
 ⟨h.rt,h.pt,h.gH,h.oE,h.rk,h.kq,h.j8,h.ord,h.rm,h.sep,h.par,h.up,h.rq,h.str,h.Ck,h.qx,h.both,h.j7,h.nd,h.Gy,h.Cl,h.Eg,h.Eh⟩
theorem Ar.lN.cur (h:lN A g root) (l:List Pr):lN A (g.mM l) root:=⟨h.tr.cur l,h.cell,h.rt,h.has⟩
structure Ae (A:Ar) (g:Gh) (c v:Int) (l:List Pr):Prop where
 live:g.live c
 leaf:A.R c=none
 is:dr A v
 lt:A.holds c<v
 home:A.val v 2=c\/∃m,g.aa m≠0/\A.st m=g.aa m/\g.live (A.val (g.aa m) 2-5)/\A.val (g.aa m) 5=A.val (g.aa m) 0/\v=A.val (g.aa m) 0/\c=A.val (A.val (g.aa m) 1) 2
 cont:∀lo hi,g.iv c=some (lo,hi)->(∀x∈A.bp (A.gI v),lo<=x.k/\x.k<hi)/\(∀k,lo<=k->k<hi->lk (A.bp (A.gI v)) k=lk l k)/\∀k,¬(lo<=k/\k<hi)->lk l k=lk g.cur k
 main:∀m,g.aa m≠0->A.st m=g.aa m->A.holds c≠m/\A.holds c≠A.val (g.aa m) 0/\(A.holds c=A.val (g.aa m) 1->v=A.val (g.aa m) 0)
section
variable (h:Inv A K g root)
include h
theorem PU {m:Int} (q:g.aa m≠0):A.TC (A.oc m (g.aa m)):=by
 obtain⟨p,_⟩:=h.aa m q;have r:=(h.bg.cg _ (k0 p.u (by decide))).ro p.u;unfold Ar.oc;rcases p.side with x|x<;>rw[x];rw[show 2*A.val (g.aa m) 2-8-(A.val (g.aa m) 2-5)=A.val (g.aa m) 2-3 by omega];exact r.2.2.2.2.1;rw[show 2*A.val (g.aa m) 2-8-(A.val (g.aa m) 2-3)=A.val (g.aa m) 2-5 by omega];exact r.2.2.2.1
theorem Ar.Inv.kC {c v:Int} {l:List Pr} (u:ka A B c v) (t:c9 B K root) (e:Ext A B) (q:Ae A g c v l):Inv B K (g.mM l) root:=by
 have hk:∀x,B.kind x=A.kind x:=u.kind;have hv:∀x i,B.val x i=A.val x i:=u.val;have hc:B.holds c=v:=by rw[u.holds,if_pos rfl]
 have o:∀x,x≠c->B.holds x=A.holds x:=fun x hx=>by rw[u.holds,if_neg hx]
 have pz:∀x,A.holds x<=B.holds x:=fun x=>by
  by_cases z:x=c;subst z;rw[hc];have:=q.lt;omega;rw[o x z];omega
 have tcc:A.TC c:=h.sk.cell c (h.sk.tr.gH c q.live);have nl:∀r,A.kind r=2->r-1≠c:=fun r hr z=>by have:=tcc.2;rw[<-z,show r-1+1=r by omega,hr]at this;cases this
 have hst:∀m,A.kind m=4->B.st m=A.st m:=fun m hm=>o _ fun z=>by have:=tcc.2;rw[<-z,show m-1+1=m by omega,hm]at this;cases this
 have bB:dr A (A.holds c):=((h.bg.mq c).tc tcc).resolve_right (Ar.du.1 q.leaf)
 have noR:∀x r,A.kind r=2->(B.holds x=r<->A.holds x=r):=fun x r hr=>by
  by_cases z:x=c;subst z;rw[hc];exact⟨fun w=>by rw[<-w]at hr;exact absurd hr q.is.nr,fun w=>by rw[<-w]at hr;exact absurd hr bB.nr⟩;rw[o x z]
 have hR:∀x,B.R x=A.R x:=fun x=>by
  by_cases z:x=c;subst z;rw[q.leaf];exact Ar.du.2 (by rw[hc,hk];exact q.is.nr);unfold Ar.R;rw[o x z,hk]
 have hbp:∀b,B.bp b=A.bp b:=fun b=>by unfold Ar.bp;rw[u.ps,hv]
 have hvis:∀b,dr A b->B.gI b=A.gI b:=fun b hb=>by
  unfold Ar.gI;rw[hk,hv];by_cases k5:A.kind b=5;rw[hst _ ((h.bg.cg b hb.ne).ai k5)];simp only[hk,hv];by_cases k8:A.kind (A.st (A.val b 3))=8;obtain⟨_,_,ku,_⟩:=(h.bg.cg _ (k0 k8 (by decide))).GD k8;simp only[noR _ _ ku];rw[if_neg (fun z=>k8 z.2.1),if_neg (fun z=>k8 z.2.1)];rw[if_neg (fun z=>k5 z.1),if_neg (fun z=>k5 z.1)]
 have leafB:∀x,g.live x->A.R x=none->dr A (A.holds x):=fun x hx hr=>((h.bg.mq x).tc (h.sk.cell x (h.sk.tr.gH x hx))).resolve_right (Ar.du.1 hr);refine⟨t,?_,fun x hx hr=>?_,fun x lo hi hx hr hi'=>?_,fun x hx hn=>?_,fun r hr hn=>?_,fun m hm'=>?_,fun m z=>?_⟩;refine lN.cur ⟨h.sk.tr.congr fun x _=>hR x,fun x hx=>e.TC (h.sk.cell x hx),fun r hr=>?_,h.sk.has⟩ l;simp only[hk,hv];exact h.sk.rt r hr;rw[hR]at hr
 have conv:∀w x,(∃m,g.aa m≠0/\A.st m=g.aa m/\g.live (A.val (g.aa m) 2-5)/\A.val (g.aa m) 5=A.val (g.aa m) 0/\w=A.val (g.aa m) 0/\x=A.val (A.val (g.aa m) 1) 2)->∃m,(g.mM l).aa m≠0/\B.st m=(g.mM l).aa m/\(g.mM l).live (B.val ((g.mM l).aa m) 2-5)/\B.val ((g.mM l).aa m) 5=B.val ((g.mM l).aa m) 0/\w=B.val ((g.mM l).aa m) 0/\x=B.val (B.val ((g.mM l).aa m) 1) 2:=fun w x ⟨m,a,b,c,d,f,f2⟩=>
  ⟨m,a,(hst m (h.aa m a).1.k.1).trans b,by rw[hv];exact c,by rw[hv,hv];exact d,by rw[hv];exact f,by rw[hv,hv];exact f2⟩
 rw[hv];by_cases z:x=c;subst z;rw[hc];exact q.home.imp id (conv v _);rw[o x z];exact(h.home x hx hr).imp id (conv _ _);rw[hR]at hr;have hi'':g.iv x=some (lo,hi):=hi';show(∀y∈B.bp (B.gI (B.holds x)),lo<=y.k/\y.k<hi)/\∀k,lo<=k->k<hi->lk (B.bp (B.gI (B.holds x))) k=lk l k;by_cases z:x=c;subst z;rw[hc,hvis v q.is,hbp];obtain⟨a,b,_⟩:=q.cont lo hi hi'';exact⟨a,b⟩;rw[o x z,hvis _ (leafB x hx hr),hbp];obtain⟨a,b⟩:=h.cont x lo hi hx hr hi'';refine⟨a,fun k k1 k2=>?_⟩;obtain⟨l1,h1,ic⟩:=h.sk.tr.gH c q.live;obtain⟨_,_,d⟩:=q.cont l1 h1 ic;rw[d k fun w=>z (h.sk.tr.rq x c lo hi l1 h1 k hx q.live hr q.leaf hi'' ic k1 k2 w.1 w.2)];exact b k k1 k2;have hx':g.dn x:=hx;have hn':¬g.live x:=hn;have z:x≠c:=fun z=>hn' (z▸q.live);rw[o x z];simp only[hk,hv];exact h.dead x hx' hn';rw[o _ (nl r (h.sk.rt r hr).1)];simp only[hk,hv];exact h.lock r hr hn;rw[hk]at hm';rw[hst m hm'];exact h.main m hm';have z':g.aa m≠0:=z;obtain⟨p,ph⟩:=h.aa m z';refine⟨p.ext h.bg e,?_⟩;show(B.st m=g.aa m/\Wp B (g.mM l) root m (g.aa m))\/Dp B (g.mM l) m (g.aa m);have ho:B.oc m (g.aa m)=A.oc m (g.aa m):=by unfold Ar.oc;rw[hv,hv]
 rw[hst m p.k.1];rcases ph with⟨a,w⟩|d;obtain⟨x1,x2,x3⟩:=q.main m z' a;refine .inl ⟨a,?_,?_,?_,?_,?_,?_,?_,?_,?_⟩;rw[hv];exact w.live;rw[hv,hv,noR _ _ p.u];exact w.pc;rw[hv,o _ (fun y=>x1 (by rw[<-y];exact w.hm))];exact w.hm;rw[hv,o _ (nl _ p.u)];exact w.lu;rw[hv,hv];exact w.lw.imp id fun⟨y,y1,y2,y3,y4⟩=>⟨y,y1,y2,y3,by rw[y2,o _ (nl y (h.sk.rt y y1).1),<-y2];exact y4⟩;rw[hv,hv,hv];refine⟨w.nc.1,?_⟩;by_cases y:A.val (A.val (g.aa m) 1) 2=c;rw[y,hc];rcases w.nc.2 with y2|y2;rw[y]at y2;exact .inr (x3 y2);rw[y]at y2;exact absurd y2 x2;rw[o _ y];exact w.nc.2;rw[hv,ho,hk];intro k2;rw[noR _ _ k2];exact w.oc k2;simp only[hv];exact w.bl;simp only[hv];exact w.st;refine .inr ⟨?_,?_,?_,?_⟩;rw[hv];exact d.dead;rw[hv,hv];have:=pz (A.val (g.aa m) 3);have:=d.pc;omega;rw[hv,hv];have:=pz (A.val (A.val (g.aa m) 1) 2);have:=d.nc;omega;rw[hst m p.k.1,hv,hv];intro y;obtain⟨y1,y2⟩:=d.jd y;refine⟨y1,?_⟩;rw[o _ fun y3=>(q.main m z' y).2.1 (by rw[<-y3];exact y2)];exact y2
theorem Ar.Inv.leaf {c b v:Int} {l:List Pr} (u:ka A B c v) (t:c9 B K root) (e:Ext A B) (hc:g.dn c) (hh:A.holds c=b) (hb:nR A b) (hm:A.val b 2=c) (hv:dr A v) (hv2:A.val v 2=c) (hlt:b<v) (hcont:∀lo hi,g.iv c=some (lo,hi)->(∀x∈A.bp (A.gI v),lo<=x.k/\x.k<hi)/\(∀k,lo<=k->k<hi->lk (A.bp (A.gI v)) k=lk l k)/\∀k,¬(lo<=k/\k<hi)->lk l k=lk g.cur k):Inv B K (g.mM l) root:=by
 obtain⟨a1,a2⟩:=h.gu hc hh hb hm;refine h.kC u t e ⟨a1,a2,hv,by rw[hh];exact hlt,.inl hv2,hcont,fun m m1 m2=>?_⟩;obtain⟨x1,x2,x3⟩:=h.qD m1 m2 hb;rw[hh];exact⟨x1,x3,fun y=>absurd y x2⟩
theorem Ar.Inv.HB {m p:Int} (hm:g.aa m=p) (hp:p≠0) (hn:A.holds (A.val (A.val p 1) 2)=A.val p 1):Ae A g (A.val (A.val p 1) 2) (A.val p 0) g.cur/\A.st m=p:=by
 subst hm;obtain⟨q,ph⟩:=h.aa m hp;rcases ph with⟨a,w⟩|d;have bn:dr A (A.val (g.aa m) 1):=bL q.n.1 (by decide) (by decide);have bj:dr A (A.val (g.aa m) 0):=bL q.jd.1 (by decide) (by decide);have lf:A.R (A.val (A.val (g.aa m) 1) 2)=none:=Ar.du.2 (by rw[hn];exact bn.nr)
 have vn:A.gI (A.val (g.aa m) 1)=A.val (g.aa m) 1:=by
  unfold Ar.gI;rw[if_neg];rw[q.n.2,a];intro z;have:=q.lt.1;omega
 have vj:A.gI (A.val (g.aa m) 0)=A.val (g.aa m) 1:=by
  unfold Ar.gI;rw[q.jd.2,a,if_pos ⟨q.jd.1,q.k.2,rfl,w.pc.2⟩]
 refine⟨⟨w.nc.1,lf,bj,by rw[hn];exact q.lt.1,?_,fun lo hi hi'=>?_,fun m' m1 m2=>?_⟩,a⟩;rcases q.rp with⟨x1,x2,x3⟩| ⟨x1,x2,x3,x4⟩;exact .inr ⟨m,hp,a,w.live.2,x1,rfl,rfl⟩;exact .inl x3;have:=h.cont _ lo hi w.nc.1 lf hi';rw[hn,vn]at this;rw[vj];exact⟨this.1,this.2,fun _ _=>rfl⟩;obtain⟨q',_⟩:=h.aa m' m1;rw[hn];refine⟨?_,?_,?_⟩;intro z;have x1:=q'.k.1;have x2:=q.n.1;rw[z]at x2;omega;intro z;have:=q'.jd.2;rw[<-z,q.n.2]at this;subst this;have:=q.lt.1;omega;intro z;have:=q'.n.2;rw[<-z,q.n.2]at this;subst this;rfl;have:=d.nc;omega
theorem Ar.Inv.fQ {m p:Int} (hm:g.aa m=p) (hp:p≠0) (u:ka A B (A.val (A.val p 1) 2) (A.val p 0)) (t:c9 B K root) (e:Ext A B) (hn:A.holds (A.val (A.val p 1) 2)=A.val p 1):Inv B K (g.mM g.cur) root:=
 h.kC u t e (h.HB hm hp hn).1
end
end
section
variable {A B:Ar} {K:eE} {g:Gh} {root:Int}
theorem rH {la lb:List Pr} {k z:Int} (hb:∀x∈lb,k<=x.k) (hz:z<k):lk (la++lb) z=lk la z:=by
 unfold lk;rw[List.find?_append];have:lb.find? (pD z)=none:=List.find?_eq_none.2 fun x hx=>by have:=hb x hx;simp[pD];omega
 rw[this,Option.or_none]
theorem oy {la lb:List Pr} {k z:Int} (ha:∀x∈la,x.k<k) (hz:k<=z):lk (la++lb) z=lk lb z:=by
 unfold lk;rw[List.find?_append];have:la.find? (pD z)=none:=List.find?_eq_none.2 fun x hx=>by have:=ha x hx;simp[pD];omega
 rw[this,Option.none_or]
theorem Ar.nR.gI {b:Int} (h:nR A b):A.gI b=b:=by
 unfold Ar.gI;rw[if_neg];rintro⟨a,c,_⟩;rcases h.ai a with q|q<;>exact fa (by omega) (by decide) c
theorem sO {b:Int} (h:A.kind b≠5):A.gI b=b:=by
 unfold Ar.gI;rw[if_neg fun q=>h q.1]
structure Bq (A:Ar) (g:Gh) (root c n k lo hi:Int):Prop where
 dn:g.dn c
 free:nR A (A.holds c)
 at_:A.val (A.holds c) 2=c
 iv:g.iv c=some (lo,hi)
 rt:A.kind n=2/\A.val n 0=k
 low:A.kind (n-4)=3/\A.holds (n-5)=n-4/\A.val (n-4) 2=n-5
 high:A.kind (n-2)=3/\A.holds (n-3)=n-2/\A.val (n-2) 2=n-3
 bp:A.bp (A.holds c)=A.bp (n-4)++A.bp (n-2)
 lt:(∀x∈A.bp (n-4),x.k<k)/\(∀x∈A.bp (n-2),k<=x.k)/\(∃x∈A.bp (n-4),True)/\∃x∈A.bp (n-2),x.k=k
 new:¬g.rt n/\g.iv (n-5)=none/\g.iv (n-3)=none/\root+1<n-5/\A.holds c<n/\∀r,g.rt r->(c=r-5\/c=r-3)->r<n
theorem Ar.Inv.split (h:Inv A K g root) {c n k lo hi:Int} (u:ka A B c n) (t:c9 B K root) (e:Ext A B) (q:Bq A g root c n k lo hi):Inv B K (g.split n k lo hi) root:=by
 obtain⟨cl,cr⟩:=h.gu q.dn rfl q.free q.at_;have hk:∀x,B.kind x=A.kind x:=u.kind;have hv:∀x i,B.val x i=A.val x i:=u.val;have hc:B.holds c=n:=by rw[u.holds,if_pos rfl]
 have o:∀x,x≠c->B.holds x=A.holds x:=fun x hx=>by rw[u.holds,if_neg hx]
 obtain⟨n1,n5,n3,nr,nlt,nq⟩:=q.new
 have pz:∀x,A.holds x<=B.holds x:=fun x=>by
  by_cases z:x=c;subst z;rw[hc];omega;rw[o x z];omega
 have tcc:A.TC c:=h.sk.cell c q.dn;have nl:∀r,A.kind r=2->r-1≠c:=fun r hr z=>by have:=tcc.2;rw[<-z,show r-1+1=r by omega,hr]at this;cases this
 have hst:∀m,A.kind m=4->B.st m=A.st m:=fun m hm=>o _ fun z=>by have:=tcc.2;rw[<-z,show m-1+1=m by omega,hm]at this;cases this
 have bB:dr A (A.holds c):=q.free.is;have ro:=(h.bg.cg n (k0 q.rt.1 (by decide))).ro q.rt.1;have c5:c≠n-5:=fun z=>by obtain⟨a,b,w⟩:=q.dn;rw[z,n5]at w;cases w
 have c3:c≠n-3:=fun z=>by obtain⟨a,b,w⟩:=q.dn;rw[z,n3]at w;cases w
 have hR:B.R=fW A.R c n:=by
  funext x
  by_cases z:x=c;subst z;rw[show fW A.R x n x=some n by simp[fW]];exact Ar.fV.2 ⟨by rw[hc,hk];exact q.rt.1,hc⟩;rw[show fW A.R c n x=A.R x by simp[fW,z]];unfold Ar.R;rw[o x z,hk]
 have R5:A.R (n-5)=none:=Ar.du.2 (by rw[q.low.2.1,q.low.1];decide);have R3:A.R (n-3)=none:=Ar.du.2 (by rw[q.high.2.1,q.high.1];decide);have inC:=h.cont c lo hi cl cr q.iv;rw[q.free.gI,q.bp]at inC;obtain⟨in1,in2⟩:=inC;obtain⟨lt1,lt2,⟨x0,x1,_⟩,y0,y1,y2⟩:=q.lt
 have hkk:lo<k/\k<hi:=by
  have a:=in1 x0 (List.mem_append_left _ x1);have b:=in1 y0 (List.mem_append_right _ y1);have:=lt1 x0 x1;omega
 have hbp:∀b,B.bp b=A.bp b:=fun b=>by unfold Ar.bp;rw[u.ps,hv]
 have noU:∀x r,r≠n->(A.kind r=2)->(B.holds x=r<->A.holds x=r):=fun x r hn hr=>by
  by_cases z:x=c;subst z;rw[hc];exact⟨fun w=>absurd w.symm hn,fun w=>by rw[<-w]at hr;exact absurd hr bB.nr⟩;rw[o x z]
 have hvis:∀b,dr A b->(∀m,A.kind m=4->A.kind (A.st m)=8->A.val (A.st m) 2≠n)->B.gI b=A.gI b:=fun b hb hnn=>by
  unfold Ar.gI;rw[hk,hv];by_cases k5:A.kind b=5;have k4:=(h.bg.cg b hb.ne).ai k5;rw[hst _ k4];simp only[hk,hv];by_cases k8:A.kind (A.st (A.val b 3))=8;obtain⟨_,_,ku,_⟩:=(h.bg.cg _ (k0 k8 (by decide))).GD k8;simp only[noU _ _ (hnn _ k4 k8) ku];rw[if_neg (fun z=>k8 z.2.1),if_neg (fun z=>k8 z.2.1)];rw[if_neg (fun z=>k5 z.1),if_neg (fun z=>k5 z.1)]
 have hnn:∀m,A.kind m=4->A.kind (A.st m)=8->A.val (A.st m) 2≠n:=fun m hm k8 z=>by
  have hst':=(k0 k8 (by decide));rcases h.main m hm with⟨_,w⟩| ⟨w1,w2⟩;exact fa (by omega) (by decide) k8;rcases w2 with w2|w2;rw[w2]at z;obtain⟨_,ph⟩:=h.aa m w1;rcases ph with⟨_,w⟩|w;exact n1 (z▸w.live.1);exact n1 (z▸w.dead.1);exact fa (by omega) (by decide) k8
 have leafB:∀x,g.live x->A.R x=none->dr A (A.holds x):=fun x hx hr=>((h.bg.mq x).tc (h.sk.cell x (h.sk.tr.gH x hx))).resolve_right (Ar.du.1 hr);have rtu:∀m,g.aa m≠0->g.rt (A.val (g.aa m) 2):=fun m z=>(h.aa m z).2.elim (fun w=>w.2.live.1) fun w=>w.dead.1;have bZ:∀x,g.dn x->x≠n-5/\x≠n-3:=fun x ⟨a,b,w⟩=>⟨fun z=>by(rw[z,n5]at w;cases w),fun z=>by(rw[z,n3]at w;cases w)⟩
 have ivo:∀x,g.dn x->g.jG n k lo hi x=g.iv x:=fun x hx=>by
  obtain⟨z1,z2⟩:=bZ x hx;unfold Gh.jG;rw[if_neg z1,if_neg z2]
 have yb:∀r,g.rt r->g.dn (r-5)/\g.dn (r-3):=fun r hr=>by
  obtain⟨a,b,c,d,e1,e2,_⟩:=h.sk.tr.j8 r hr;exact⟨⟨a,b,e1⟩,⟨c,d,e2⟩⟩
 have kk:∀r,g.rt r->g.gp n k r=g.key r:=fun r hr=>by unfold Gh.gp;rw[if_neg (fun z:r=n=>n1 (z▸hr))]
 have conv:∀x,g.live x->B.R x=none->A.R x=none:=fun x hx hr=>by
  have z:x≠c:=fun z=>by rw[z,hR]at hr;simp[fW]at hr
  rw[hR]at hr;simpa[fW,z]using hr
 have ncc:∀x,B.R x=none->x≠c:=fun x hr z=>by rw[z,hR]at hr;simp[fW]at hr
 refine⟨t,⟨?_,fun x hx=>?_,fun r hr=>?_,fun r hr=>?_⟩,fun x hx hr=>?_,fun x l v hx hr hi'=>?_,fun x hx hn=>?_,fun r hr hn=>?_,fun m hm'=>?_,fun m z=>?_⟩;rw[hR];exact h.sk.tr.split cl cr q.iv hkk n5 n3 R5 R3 n1 (fun z=>n1 (h.sk.has n z)) nr nq;obtain⟨a,b,w⟩:=hx
 change g.jG n k lo hi x=some (a,b)at w
 by_cases z5:x=n-5;rw[z5];exact e.TC ro.2.2.2.1;by_cases z3:x=n-3;rw[z3];exact e.TC ro.2.2.2.2.1;unfold Gh.jG at w;rw[if_neg z5,if_neg z3]at w;exact e.TC (h.sk.cell x ⟨a,b,w⟩);simp only[hk,hv];rcases hr with rfl|hr;exact⟨q.rt.1,by rw[q.rt.2];simp[Gh.split,Gh.gp],ro.1,ro.2.1⟩;have:=h.sk.rt r hr;exact⟨this.1,by rw[this.2.1];exact(kk r hr).symm,this.2.2⟩;rcases List.mem_cons.1 hr with rfl|hr;exact .inl rfl;exact .inr (h.sk.has r hr);rw[o x (ncc x hr)];simp only[hv];rcases hx with rfl|rfl|hx;left;rw[q.low.2.1];exact q.low.2.2;left;rw[q.high.2.1];exact q.high.2.2;refine(h.home x hx (conv x hx hr)).imp id fun⟨m,a,b,c,d,f⟩=>⟨m,a,(hst m (h.aa m a).1.k.1).trans b,.inr (.inr c),d,f⟩
 change g.jG n k lo hi x=some (l,v)at hi'
 show(∀y∈B.bp (B.gI (B.holds x)),l<=y.k/\y.k<v)/\∀z,l<=z->z<v->lk (B.bp (B.gI (B.holds x))) z=lk g.cur z;rw[o x (ncc x hr),hbp];rcases hx with rfl|rfl|hx;unfold Gh.jG at hi';rw[if_pos rfl]at hi';cases hi';rw[q.low.2.1,sO (by rw[hk,q.low.1];decide)];refine⟨fun y hy=>⟨(in1 y (List.mem_append_left _ hy)).1,lt1 y hy⟩,fun z z1 z2=>?_⟩;rw[<-in2 z z1 (by omega),rH lt2 z2];unfold Gh.jG at hi';rw[if_neg (by omega),if_pos rfl]at hi';cases hi';rw[q.high.2.1,sO (by rw[hk,q.high.1];decide)];refine⟨fun y hy=>⟨lt2 y hy,(in1 y (List.mem_append_right _ hy)).2⟩,fun z z1 z2=>?_⟩;rw[<-in2 z (by omega) z2,oy lt1 z1];rw[ivo x (h.sk.tr.gH x hx)]at hi';rw[hvis _ (leafB x hx (conv x hx hr)) hnn];exact h.cont x l v hx (conv x hx hr) hi'
 have hx':g.dn x:=by
  obtain⟨a,b,w⟩:=hx
  change g.jG n k lo hi x=some (a,b)at w
  unfold Gh.jG at w;rw[if_neg fun z=>hn (.inl z),if_neg fun z=>hn (.inr (.inl z))]at w;exact⟨a,b,w⟩
 have hn':¬g.live x:=fun z=>hn (.inr (.inr z));rw[o x fun z=>hn' (z▸cl)];simp only[hk,hv]
 exact(h.dead x hx' hn').imp id (Or.imp id fun⟨y1,y2,y3⟩=>⟨y1,y2,by
  obtain⟨a,b,a',b',y4,y5,y6⟩:=y3;exact⟨a,b,a',b',(ivo _ ⟨a,b,y4⟩).trans y4,(ivo _ ⟨a',b',y5⟩).trans y5,y6⟩⟩)
 rcases hr with rfl|hr;exact absurd (Or.inl rfl) hn;rw[o _ (nl r (h.sk.rt r hr).1)];simp only[hk,hv];exact h.lock r hr fun z=>hn (.inr (.inr z));rw[hk]at hm';rw[hst m hm'];exact h.main m hm';have z':g.aa m≠0:=z;obtain⟨p,ph⟩:=h.aa m z';have un:=rtu m z';have une:A.val (g.aa m) 2≠n:=fun y=>n1 (y▸un);refine⟨p.ext h.bg e,?_⟩;show(B.st m=g.aa m/\Wp B (g.split n k lo hi) root m (g.aa m))\/Dp B (g.split n k lo hi) m (g.aa m);have ho:B.oc m (g.aa m)=A.oc m (g.aa m):=by unfold Ar.oc;rw[hv,hv]
 rw[hst m p.k.1];rcases ph with⟨a,w⟩|d;obtain⟨x1,x2,x3⟩:=h.qD z' a q.free;refine .inl ⟨a,?_,?_,?_,?_,?_,?_,?_,?_,?_⟩;rw[hv];exact⟨.inr w.live.1,.inr (.inr w.live.2)⟩;rw[hv,hv,noU _ _ une p.u];exact⟨.inr (.inr w.pc.1),w.pc.2⟩;rw[hv,o _ (fun y=>x1 (by rw[<-y];exact w.hm))];exact w.hm;rw[hv,o _ (nl _ p.u)];exact w.lu;rw[hv,hv];exact w.lw.imp id fun⟨y,y1,y2,y3,y4⟩=>⟨y,.inr y1,y2,y3,by rw[y2,o _ (nl y (h.sk.rt y y1).1),<-y2];exact y4⟩;rw[hv,hv,hv];refine⟨.inr (.inr w.nc.1),?_⟩;rw[o _ fun y=>?_];exact w.nc.2;rcases w.nc.2 with y2|y2;rw[y]at y2;exact x2 y2;rw[y]at y2;exact x3 y2;rw[hv,ho,hk];intro k2;by_cases y:A.oc m (g.aa m)=c;have:=w.oc k2;rw[y]at this;rw[<-this]at k2;exact absurd k2 bB.nr;rw[o _ y];exact w.oc k2;simp only[hv];exact .inl ⟨une,w.bl⟩;simp only[hv];obtain⟨l1,h1,y1,y2⟩:=w.st;exact⟨l1,h1,by show g.jG n k lo hi _=_;rw[ivo _ ⟨l1,h1,y1⟩];exact y1,y2⟩;refine .inr ⟨?_,?_,?_,?_⟩;rw[hv];obtain⟨o5,o3⟩:=bZ _ (yb _ un).1;exact⟨.inr d.dead.1,fun y=>y.elim o5 fun y=>y.elim o3 d.dead.2⟩;rw[hv,hv];have:=pz (A.val (g.aa m) 3);have:=d.pc;omega;rw[hv,hv];have:=pz (A.val (A.val (g.aa m) 1) 2);have:=d.nc;omega;rw[hst m p.k.1,hv,hv];intro y;obtain⟨y1,y2⟩:=d.jd y;refine⟨.inr (.inr y1),?_⟩;rw[o _ fun y3=>(h.qD z' y q.free).2.2 (by rw[<-y3];exact y2)];exact y2
end
end Go.Proofs.YtcnohdmimheoaaaGreat
