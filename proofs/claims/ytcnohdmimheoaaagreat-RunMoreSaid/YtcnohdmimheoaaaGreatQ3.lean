/- Texts of this seat, joined: part 3. -/
import Derived.Test.YtcnohdmimheoaaaGreatQ2
set_option linter.all false
set_option maxRecDepth 4000
namespace Go.Proofs.YtcnohdmimheoaaaGreat
open E Go.Proofs.Tryz
namespace Ar
section
variable {A:Ar} {id:Int}
include A id
theorem qo:A.has id=true<->1<=id/\id<=(A.sl.length:Int):=by simp[has]
theorem eT {s:Slot} (h:A.bP id=some s):1<=id/\id<=(A.sl.length:Int):=by
 unfold bP at h;split at h;rename_i h1;exact qo.1 h1
 cases h
theorem nD {s:Slot}:A.bP id=some s<->1<=id/\A.sl[(id-1).toNat]? =some s:=by
 constructor;intro h;have h1:=eT h;unfold bP at h;rw[if_pos (qo.2 h1)]at h;exact⟨h1.1,h⟩;rintro⟨h1,h2⟩
 have h3:(id-1).toNat<A.sl.length:=by
  rcases Nat.lt_or_ge (id-1).toNat A.sl.length with h|h;exact h;rw[List.getElem?_eq_none h]at h2;cases h2
 unfold bP;rw[if_pos (qo.2 ⟨h1,by omega⟩)];exact h2
theorem zy (h1:1<=id) (h2:id<=(A.sl.length:Int)):∃s,A.bP id=some s:=by
 have h3:(id-1).toNat<A.sl.length:=by omega
 exact⟨A.sl[(id-1).toNat],nD.2 ⟨h1,List.getElem?_eq_getElem h3⟩⟩
end
def Gr (A B:Ar) (xs:List Slot):Prop:=B={A with sl:=A.sl++xs}
theorem Gr.refl (A:Ar):Gr A A []:=by unfold Gr;simp
theorem Gr.trans {A B C:Ar} {xs ys:List Slot} (h:Gr A B xs) (h2:Gr B C ys):Gr A C (xs++ys):=by unfold Gr at*;subst h;subst h2;simp
theorem Gr.len {A B:Ar} {xs:List Slot} (h:Gr A B xs):(B.sl.length:Int)=A.sl.length+xs.length:=by unfold Gr at h;subst h;simp
theorem Gr.room {A B:Ar} {xs:List Slot} (h:Gr A B xs):B.room=A.room:=by unfold Gr at h;subst h;rfl
section
variable {A B:Ar} {xs:List Slot} (h:Gr A B xs)
include A B xs h
theorem Gr.bZ {id:Int} {s:Slot} (hs:A.bP id=some s):B.bP id=some s:=by
 unfold Gr at h;subst h;obtain⟨h1,h2⟩:=nD.1 hs;refine nD.2 ⟨h1,?_⟩;rw[List.getElem?_append_left (by rcases Nat.lt_or_ge (id-1).toNat A.sl.length with h|h;exact h;rw[List.getElem?_eq_none h]at h2;cases h2)];exact h2
theorem Gr.new {i:Nat} {s:Slot} (hs:xs[i]? =some s):B.bP ((A.sl.length:Int)+1+i)=some s:=by
 unfold Gr at h;subst h;refine nD.2 ⟨by omega,?_⟩;rw[show((A.sl.length:Int)+1+i-1).toNat=A.sl.length+i by omega,List.getElem?_append_right (by omega)];simpa using hs
theorem Gr.OI {id:Int} (hi:id<=(A.sl.length:Int)):B.bP id=A.bP id:=by
 by_cases h1:1<=id;obtain⟨s,hs⟩:=zy h1 hi;rw[hs,h.bZ hs]
 have e1:A.bP id=none:=by
  cases e:A.bP id with
  |none=>rfl
  |some s=>exact absurd (eT e).1 h1
 have e2:B.bP id=none:=by
  cases e:B.bP id with
  |none=>rfl
  |some s=>exact absurd (eT e).1 h1
 rw[e1,e2]
theorem Gr.from {id:Int} {s:Slot} (hs:B.bP id=some s):A.bP id=some s\/∃i:Nat,id=(A.sl.length:Int)+1+i/\xs[i]? =some s:=by
 by_cases h1:id<=(A.sl.length:Int);left;rw[<-h.OI h1];exact hs;right;refine⟨(id-1-A.sl.length).toNat,by omega,?_⟩;obtain⟨h2,h3⟩:=nD.1 hs;unfold Gr at h;subst h;rw[List.getElem?_append_right (by omega)]at h3;rw[<-h3];congr 1;omega
end
def kg (A B:Ar):Prop:=∀id k vs,A.bP id=some (.cg k vs)->B.bP id=some (.cg k vs)
theorem kg.refl (A:Ar):kg A A:=fun _ _ _ h=>h
theorem kg.trans {A B C:Ar} (h:kg A B) (h2:kg B C):kg A C:=fun id k vs hs=>h2 id k vs (h id k vs hs)
theorem Gr.bE {A B:Ar} {xs:List Slot} (h:Gr A B xs):kg A B:=fun _ _ _ hs=>h.bZ hs
theorem jY {A:Ar} {id k:Int} {vs:List Int} (h:A.bP id=some (.cg k vs)):A.kind id=k:=by simp[kind,h]
theorem nE {A:Ar} {id:Int} (h:A.kind id≠0):∃vs,A.bP id=some (.cg (A.kind id) vs):=by
 unfold kind at h⊢;split at h;rename_i k vs e;exact⟨vs,by rw[e]⟩;exact absurd rfl h
theorem kg.kind {A B:Ar} (h:kg A B) {id:Int} (hk:A.kind id≠0):B.kind id=A.kind id:=by
 obtain⟨vs,e⟩:=nE hk;exact jY (h _ _ _ e)
theorem kg.val {A B:Ar} (h:kg A B) {id i:Int} (hk:A.kind id≠0):B.val id i=A.val id i:=by
 obtain⟨vs,e⟩:=nE hk;unfold Ar.val;rw[e,h _ _ _ e]
theorem kg.isNode {A B:Ar} (h:kg A B) {id:Int} (hk:A.isNode id=true):B.isNode id=true:=by
 simp only[Ar.isNode,decide_eq_true_eq]at hk⊢;rw[h.kind (by omega),hk]
theorem kg.node {A B:Ar} (h:kg A B) {id:Int} (hk:A.isNode id=true):B.node id=A.node id:=by
 have h2:=h.isNode hk;have h3:A.kind id≠0:=by simp only[Ar.isNode,decide_eq_true_eq]at hk;omega
 unfold Ar.node;rw[if_pos hk,if_pos h2,h.val h3,h.val h3,h.val h3,h.val h3,h.val h3,h.val h3]
section
variable {A:Ar} {id:Int}
include A id
theorem OJ (h:id<1):A.kind id=0:=by
 have:A.bP id=none:=by
  cases e:A.bP id with
  |none=>rfl
  |some s=>exact absurd (eT e).1 (by omega)
 simp[kind,this]
theorem Cc (h:id<1):A.isNode id=false:=by simp[isNode,OJ h]
theorem di (h:A.isNode id=true):1<=id/\id<=(A.sl.length:Int):=by
 simp only[isNode,decide_eq_true_eq]at h;obtain⟨vs,e⟩:=nE (A:=A) (id:=id) (by omega);exact eT e
end
end Ar
theorem uG {a b:Int} (h:bh a b=true):bh b a=false:=by
 unfold bh at*;by_cases e:prio a=prio b;rw[if_neg (by simp[e])]at h;rw[if_neg (by simp[e])];simp at h⊢;omega;rw[if_pos e]at h;rw[if_pos (Ne.symm e)];simp at h⊢;omega
theorem nF {a b:Int} (h:bh a b=false) (hn:a≠b):bh b a=true:=by
 unfold bh at*;by_cases e:prio a=prio b;rw[if_neg (by simp[e])]at h;rw[if_neg (by simp[e])];simp at h⊢;omega;rw[if_pos e]at h;rw[if_pos (Ne.symm e)];simp at h⊢;omega
theorem fU {a b c:Int} (h:bh a b=true) (h2:bh b c=true):bh a c=true:=by
 unfold bh at*;split at h<;>split at h2<;>split<;>simp at* <;>omega
def jv (l:List Pr):Prop:=l.Pairwise fun a b=>a.k<b.k
inductive Tp (A:Ar):Int->List Pr->Prop
 |nil:Tp A 0 []
 |node {t:Int} {p:Pr} {l r s h:Int} {la lb:List Pr}:A.isNode t=true->A.node t=⟨p,l,r,s,h⟩->l<t->r<t->Tp A l la->Tp A r lb->s=(la.length:Int)+lb.length+1->
   (∀x∈la,x.k<p.k/\bh p.k x.k=true)->(∀x∈lb,p.k<x.k/\bh p.k x.k=true)->Tp A t (la++p::lb)
theorem Tp.bE {A B:Ar} (h:Ar.kg A B) {t:Int} {l:List Pr} (ht:Tp A t l):Tp B t l:=by
 induction ht with
 |nil=>exact .nil
 |node h1 h2 h3 h4 _ _ h5 h6 h7 i1 i2=>exact .node (h.isNode h1) (by rw[h.node h1];exact h2) h3 h4 i1 i2 h5 h6 h7
section
variable {A:Ar} {t:Int} {l:List Pr} (ht:Tp A t l)
include A t l ht
theorem Tp.is:t=0\/A.isNode t=true:=by cases ht with
 |nil=>exact .inl rfl
 |node h1=>exact .inr h1
theorem Tp.nn:0<=t/\t<=(A.sl.length:Int):=by
 rcases ht.is with h|h;omega;have:=Ar.di h;omega
end
theorem Tp.zero {A:Ar} {l:List Pr} (ht:Tp A 0 l):l=[]:=by cases ht with
 |nil=>rfl
 |node h1=>rw[Ar.Cc (by omega)]at h1;cases h1
section
variable {A:Ar} {t:Int} {l:List Pr} (ht:Tp A t l)
include A t l ht
theorem Tp.empty (h:A.isNode t=false):t=0/\l=[]:=by cases ht with
 |nil=>exact⟨rfl,rfl⟩
 |node h1=>rw[h1]at h;cases h
theorem Tp.iA:jv l:=by
 induction ht with
 |nil=>exact .nil
 |node h1 h2 h3 h4 _ _ h5 h6 h7 i1 i2=>
  refine List.pairwise_append.2 ⟨i1,List.pairwise_cons.2 ⟨fun x hx=>(h7 x hx).1,i2⟩,fun a ha b hb=>?_⟩;rcases List.mem_cons.1 hb with rfl|hb;exact(h6 a ha).1;have:=(h6 a ha).1;have:=(h7 b hb).1;omega
theorem Tp.Me:∀x∈l,∃id,1<=id/\id<=t/\A.isNode id=true/\(A.node id).p=x:=by
 induction ht with
 |nil=>intro x hx;cases hx
 |node h1 h2 h3 h4 _ _ h5 h6 h7 i1 i2=>
  intro x hx;rcases List.mem_append.1 hx with hx|hx;obtain⟨id,a,b,c⟩:=i1 x hx;exact⟨id,a,by omega,c⟩;rcases List.mem_cons.1 hx with rfl|hx;exact⟨_,(Ar.di h1).1,Int.le_refl _,h1,by rw[h2]⟩;obtain⟨id,a,b,c⟩:=i2 x hx;exact⟨id,a,by omega,c⟩
end
theorem eu {α:Type} [DecidableEq α]:∀(l m:List α),l.Nodup->(∀x∈l,x∈m)->l.length<=m.length
 | [],m,_,_=>Nat.zero_le _
 |a::l,m,hn,hs=>by
  have h1:=List.nodup_cons.1 hn
  have h2:l.length<=(m.erase a).length:=eu l (m.erase a) h1.2 fun x hx=>by
   refine(List.mem_erase_of_ne ?_).2 (hs x (List.mem_cons_of_mem _ hx));rintro rfl;exact h1.1 hx
  have h3:=List.length_erase_of_mem (hs a (List.mem_cons_self ..));have h4:=List.length_pos_of_mem (hs a (List.mem_cons_self ..));simp only[List.length_cons];omega
theorem jv.nodup {l:List Pr} (h:jv l):l.Nodup:=h.imp fun{a b} hab e=>by subst e;omega
theorem Tp.gN {A:Ar} {t:Int} {l:List Pr} (ht:Tp A t l):l.length<=A.sl.length:=by
 have h:=eu l ((List.range A.sl.length).map fun(i:Nat)=>(A.node ((i:Int)+1)).p) ht.iA.nodup (fun x hx=>by
  obtain⟨id,a,b,c,d⟩:=ht.Me x hx;have:=Ar.di c;exact List.mem_map.2 ⟨(id-1).toNat,List.mem_range.2 (by omega),by rw[show(((id-1).toNat:Nat):Int)+1=id by omega];exact d⟩)
 simpa using h
theorem jv.ext:∀{l m:List Pr},jv l->jv m->(∀x,x∈l<->x∈m)->l=m
 | [],[],_,_,_=>rfl
 | [],b::m,_,_,h=>by have:=(h b).2 (List.mem_cons_self ..);cases this
 |a::l,[],_,_,h=>by have:=(h a).1 (List.mem_cons_self ..);cases this
 |a::l,b::m,h1,h2,h=>by
  have p1:=List.pairwise_cons.1 h1;have p2:=List.pairwise_cons.1 h2
  have e:a=b:=by
   rcases List.mem_cons.1 ((h a).1 (List.mem_cons_self ..))with e|e;exact e;rcases List.mem_cons.1 ((h b).2 (List.mem_cons_self ..))with e2|e2;exact e2.symm;have:=p2.1 a e;have:=p1.1 b e2;omega
  subst e;rw[jv.ext p1.2 p2.2 fun x=>?_];constructor;intro hx;rcases List.mem_cons.1 ((h x).1 (List.mem_cons_of_mem _ hx))with e|e;subst e;have:=p1.1 x hx;omega;exact e;intro hx;rcases List.mem_cons.1 ((h x).2 (List.mem_cons_of_mem _ hx))with e|e;subst e;have:=p2.1 x hx;omega;exact e
theorem jv.key {l:List Pr} (h:jv l) {a b:Pr} (ha:a∈l) (hb:b∈l) (e:a.k=b.k):a=b:=by
 induction l with
 |nil=>cases ha
 |cons x l ih=>
  have p1:=List.pairwise_cons.1 h;rcases List.mem_cons.1 ha with e1|h1<;>rcases List.mem_cons.1 hb with e2|h2;exact e1.trans e2.symm;subst e1;have:=p1.1 b h2;omega;subst e2;have:=p1.1 a h1;omega;exact ih p1.2 h1 h2
theorem jv.filter {l:List Pr} (h:jv l) (f:Pr->Bool):jv (l.filter f):=List.Pairwise.filter f h
def lk (l:List Pr) (k:Int):Option Int:=(l.find? (pD k)).map (·.v)
theorem fq {l:List Pr} (h:jv l) {k v:Int}:lk l k=some v<->⟨k,v⟩∈l:=by
 unfold lk;constructor;intro e;obtain⟨p,hp,rfl⟩:=Option.map_eq_some_iff.1 e;have h1:=List.mem_of_find?_eq_some hp;have h2:=List.find?_some hp;simp[pD]at h2;subst h2;exact h1;intro hm
 cases e:l.find? (pD k)with
 |none=>
  have:=List.find?_eq_none.1 e _ hm;simp[pD]at this
 |some p=>
  have h1:=List.mem_of_find?_eq_some e;have h2:=List.find?_some e;simp[pD]at h2;have:=h.key h1 hm h2;subst this;rfl
theorem sY {l:List Pr} {k:Int}:lk l k=none<->∀x∈l,x.k≠k:=by
 unfold lk;rw[Option.map_eq_none_iff,List.find?_eq_none];simp[pD]
theorem Tp.cases {A:Ar} {t:Int} {l:List Pr} (ht:Tp A t l) (hn:A.isNode t=true):∃la lb,l=la++(A.node t).p::lb/\(A.node t).left<t/\(A.node t).right<t/\Tp A (A.node t).left la/\Tp A (A.node t).right lb/\
  (A.node t).size=(la.length:Int)+lb.length+1/\(∀x∈la,x.k<(A.node t).p.k/\bh (A.node t).p.k x.k=true)/\(∀x∈lb,(A.node t).p.k<x.k/\bh (A.node t).p.k x.k=true):=by
 cases ht with
 |nil=>rw[Ar.Cc (by omega)]at hn;cases hn
 |node h1 h2 h3 h4 h5 h6 h7 h8 h9=>rw[h2];exact⟨_,_,rfl,h3,h4,h5,h6,h7,h8,h9⟩
theorem Tp.aK {A:Ar} {u t:Int} {l:List Pr} (ht:Tp A u l) (h:u<t):A.aK t u=u:=by
 unfold Ar.aK;rcases ht.is with e|e;subst e;simp;rw[if_neg];rintro(a|a);rw[e]at a;cases a;omega
theorem Tp.look {A:Ar} {t:Int} {l:List Pr} (ht:Tp A t l) (hn:A.isNode t=true):A.look t=A.node t:=by
 obtain⟨la,lb,_,h1,h2,h3,h4,_⟩:=ht.cases hn;unfold Ar.look;rw[h3.aK h1,h4.aK h2]
theorem Tp.size {A:Ar} {t:Int} {l:List Pr} (ht:Tp A t l):A.sizeOf t=(l.length:Int):=by
 unfold Ar.sizeOf
 cases hn:A.isNode t
 obtain⟨rfl,rfl⟩:=ht.empty hn;unfold Ar.node;rw[hn];rfl;obtain⟨la,lb,rfl,_,_,_,_,h5,_⟩:=ht.cases hn;rw[h5];simp;omega
theorem F2 {la lb:List Pr} {p:Pr} {k:Int}:(la++p::lb).find? (pD k)=((la.find? (pD k)).or (if p.k=k then some p else lb.find? (pD k))):=by
 rw[List.find?_append,List.find?_cons];congr 1;by_cases e:p.k=k<;>simp[pD,e]
theorem Mf {la lb:List Pr} {p:Pr} {k:Int}:lk (la++p::lb) k=(lk la k).or (if p.k=k then some p.v else lk lb k):=by
 unfold lk;rw[F2]
 cases la.find? (pD k)<;>simp
 split<;>simp
theorem Tp.pT {A:Ar} {key:Int}:∀(n:Nat) {t:Int} {l:List Pr},Tp A t l->t.toNat<n->A.pT key n t=((lk l key).getD 0,(lk l key).isSome)
 |0,t,l,_,h=>absurd h (Nat.not_lt_zero _)
 |n+1,t,l,ht,h=>by
  unfold Ar.pT
  cases hn:A.isNode t
  obtain⟨rfl,rfl⟩:=ht.empty hn;simp[lk];have h0:=Ar.di hn;rw[if_pos rfl,ht.look hn];obtain⟨la,lb,rfl,h1,h2,h3,h4,h5,h6,h7⟩:=ht.cases hn;have na:∀{k},¬k<(A.node t).p.k->lk la k=none:=fun{k} hk=>sY.2 fun x hx e=>by have:=(h6 x hx).1;omega
  have nb:∀{k},¬(A.node t).p.k<k->lk lb k=none:=fun{k} hk=>sY.2 fun x hx e=>by have:=(h7 x hx).1;omega
  rw[Mf];by_cases e:(A.node t).p.k=key;rw[if_pos e,if_pos e,na (by omega)];rfl;rw[if_neg e,if_neg e];by_cases e2:key<(A.node t).p.k;rw[if_pos e2,Tp.pT n h3 (by have:=h3.nn;omega),nb (by omega)];simp;rw[if_neg e2,Tp.pT n h4 (by have:=h4.nn;omega),na e2];rfl
theorem Tp.get {A:Ar} {t key:Int} {l:List Pr} (ht:Tp A t l):A.get t key=((lk l key).getD 0,(lk l key).isSome):=Tp.pT _ ht (by unfold Ar.fuel;omega)
theorem Tp.kO {A:Ar}:∀(n:Nat) {t:Int} {l:List Pr},Tp A t l->t.toNat<n->∀p l',l=p::l'->A.kO n t=p
 |0,t,l,_,h=>absurd h (Nat.not_lt_zero _)
 |n+1,t,l,ht,h=>fun p l' e=>by
  unfold Ar.kO
  cases hn:A.isNode t
  obtain⟨_,rfl⟩:=ht.empty hn
  cases e
  have h0:=Ar.di hn;rw[ht.look hn];obtain⟨la,lb,rfl,h1,h2,h3,h4,h5,h6,h7⟩:=ht.cases hn;by_cases e2:(A.node t).left=0;rw[if_neg (fun h=>h.2 e2)];rw[e2]at h3;rw[h3.zero]at e;simp at e;exact e.1;rw[if_pos ⟨rfl,e2⟩];rcases h3.is with h8|h8;exact absurd h8 e2;obtain⟨a,b,rfl,_⟩:=h3.cases h8
  cases ha:a with
  |nil=>subst ha;simp at e;exact Tp.kO n h3 (by have:=h3.nn;omega) p b (by simp[e.1])
  |cons x a'=>subst ha;simp at e;exact Tp.kO n h3 (by have:=h3.nn;omega) p (a'++(A.node (A.node t).left).p::b) (by simp[e.1])
theorem Tp.lq {A:Ar}:∀(n:Nat) {t:Int} {l:List Pr},Tp A t l->t.toNat<n->∀p l',l=l'++[p]->A.lq n t=p
 |0,t,l,_,h=>absurd h (Nat.not_lt_zero _)
 |n+1,t,l,ht,h=>fun p l' e=>by
  unfold Ar.lq
  cases hn:A.isNode t
  obtain⟨_,rfl⟩:=ht.empty hn;simp at e;have h0:=Ar.di hn;rw[ht.look hn];obtain⟨la,lb,rfl,h1,h2,h3,h4,h5,h6,h7⟩:=ht.cases hn;by_cases e2:(A.node t).right=0;rw[if_neg (fun h=>h.2 e2)];rw[e2]at h4;rw[h4.zero]at e;have:=congrArg List.getLast? e;simpa using this;rw[if_pos ⟨rfl,e2⟩]
  have hl:lb≠[]:=by
   rcases h4.is with h8|h8;exact absurd h8 e2;obtain⟨a,b,rfl,_⟩:=h4.cases h8;simp
  have e3:=congrArg List.getLast? e;simp only[List.getLast?_append,List.getLast?_cons,List.getLast?_singleton,List.getLast?_nil]at e3
  have e4:lb.getLast?=some p:=by
   cases hb:lb.getLast? with
   |none=>exact absurd (List.getLast?_eq_none_iff.1 hb) hl
   |some q=>rw[hb]at e3;simpa using e3
  obtain⟨l5,e5⟩:=List.getLast?_eq_some_iff.1 e4;exact Tp.lq n h4 (by have:=h4.nn;omega) p l5 e5
theorem Tp.ig {A:Ar} {t:Int} {l:List Pr} (ht:Tp A t l):(l=[]/\(A.ig t).2=false)\/∃p l',l=p::l'/\A.ig t=(p,true):=by
 unfold Ar.ig
 cases hn:A.isNode t
 exact .inl ⟨(ht.empty hn).2,rfl⟩;right
 cases l with
 |nil=>obtain⟨la,lb,e,_⟩:=ht.cases hn;simp at e
 |cons p l'=>exact⟨p,l',rfl,by rw[Tp.kO _ ht (by unfold Ar.fuel;omega) p l' rfl]⟩
theorem Tp.g6 {A:Ar} {t:Int} {l:List Pr} (ht:Tp A t l):(l=[]/\(A.g6 t).2=false)\/∃p l',l=l'++[p]/\A.g6 t=(p,true):=by
 unfold Ar.g6
 cases hn:A.isNode t
 exact .inl ⟨(ht.empty hn).2,rfl⟩;right;rcases List.eq_nil_or_concat l with e| ⟨l',p,e⟩;obtain⟨la,lb,e2,_⟩:=ht.cases hn;rw[e2]at e;simp at e;rw[List.concat_eq_append]at e;exact⟨p,l',e,by rw[Tp.lq _ ht (by unfold Ar.fuel;omega) p l' e]⟩
namespace Ar
def Ok (A:Ar):Prop:=(A.sl.length:Int)<=A.room/\A.room<=60000
def Xm (x:Slot):Prop:=∃vs,x= .cg 1 vs
def qK (A:Ar) (N:Nat) (e:Int) (B:Ar):Prop:=(e=0\/(e=2/\B.room=(B.sl.length:Int)))/\B.Ok/\∃xs,Gr A B xs/\xs.length<=N/\∀x∈xs,Xm x
theorem qK.refl {A:Ar} (h:A.Ok) {N:Nat}:qK A N 0 A:=⟨.inl rfl,h,[],.refl A,Nat.zero_le _,fun _ hx=>by cases hx⟩
theorem qK.ok {A B:Ar} {N:Nat} {e:Int} (h:qK A N e B):B.Ok:=h.2.1
theorem qK.bE {A B:Ar} {N:Nat} {e:Int} (h:qK A N e B):kg A B:=by obtain⟨_,_,xs,h1,_⟩:=h;exact h1.bE
theorem qK.trans {A B C:Ar} {N M:Nat} {e e2:Int} (h:qK A N e B) (h2:qK B M e2 C):qK A (N+M) e2 C:=by
 obtain⟨_,_,xs,a1,a2,a3⟩:=h;obtain⟨b0,b1,ys,b2,b3,b4⟩:=h2;refine⟨b0,b1,xs++ys,a1.trans b2,by simp;omega,fun x hx=>?_⟩;rcases List.mem_append.1 hx with h|h;exact a3 x h;exact b4 x h
theorem qK.le {A B:Ar} {N M:Nat} {e:Int} (h:qK A N e B) (hl:N<=M):qK A M e B:=by
 obtain⟨a0,a1,xs,a2,a3,a4⟩:=h;exact⟨a0,a1,xs,a2,by omega,a4⟩
theorem fy {A:Ar} (hA:A.Ok) {k:Int} {vs:List Int} (hk:1<=k) (hl:vs.length<=12):
  (A.make k vs=(0,2,A)/\A.room=(A.sl.length:Int))\/(A.make k vs=((A.sl.length:Int)+1,0,{A with sl:=A.sl++[.cg k vs]})/\({A with sl:=A.sl++[.cg k vs]}:Ar).Ok):=by
 rw[ud (by omega) (by omega)];by_cases h:A.room-(A.sl.length:Int)=0;exact .inl ⟨ly h,by omega⟩;refine .inr ⟨qX h,?_⟩;unfold Ok at*;simp;omega
theorem lF {A:Ar} (hA:A.Ok) {v:Int}:
  (A.aH v=(0,2,A)/\A.room=(A.sl.length:Int))\/(A.aH v=((A.sl.length:Int)+1,0,{A with sl:=A.sl++[.cell v]})/\({A with sl:=A.sl++[.cell v]}:Ar).Ok):=by
 unfold aH;by_cases h:A.room-(A.sl.length:Int)=0;exact .inl ⟨ly h,by omega⟩;refine .inr ⟨qX h,?_⟩;unfold Ok at*;simp;omega
theorem sZ {n:Int} (h1:0<=n) (h2:n<=1000000):IntKind.i64.wrap n=n:=oI (by omega) (by omega)
theorem Gr.one (A:Ar) (x:Slot):Gr A {A with sl:=A.sl++[x]} [x]:=rfl
theorem Gr.last {A:Ar} {x:Slot}:({A with sl:=A.sl++[x]}:Ar).bP ((A.sl.length:Int)+1)=some x:=by
 have:=(Gr.one A x).new (i:=0) (s:=x) rfl;simpa using this
theorem Dt (A:Ar) (k v l r s h:Int):isNode {A with sl:=A.sl++[.cg 1 [k,v,l,r,s,h]]} ((A.sl.length:Int)+1)=true/\node {A with sl:=A.sl++[.cg 1 [k,v,l,r,s,h]]} ((A.sl.length:Int)+1)=⟨⟨k,v⟩,l,r,s,h⟩:=by
 have hs:=Gr.last (A:=A) (x:=.cg 1 [k,v,l,r,s,h]);have hi:isNode {A with sl:=A.sl++[.cg 1 [k,v,l,r,s,h]]} ((A.sl.length:Int)+1)=true:=by unfold isNode;rw[jY hs];rfl
 refine⟨hi,?_⟩;unfold node;rw[if_pos hi];unfold val;rw[hs];rfl
theorem dz {A:Ar} (hA:A.Ok) {p:Pr} {l r:Int} {la lb:List Pr} (h1:Tp A l la) (h2:Tp A r lb) (h3:∀x∈la,x.k<p.k/\bh p.k x.k=true) (h4:∀x∈lb,p.k<x.k/\bh p.k x.k=true):
  qK A 1 (A.mkNode p l r).2.1 (A.mkNode p l r).2.2/\((A.mkNode p l r).2.1=0->Tp (A.mkNode p l r).2.2 (A.mkNode p l r).1 (la++p::lb)):=by
 rw[pZ h1.is h2.is];rcases fy hA (k:=1) (vs:=[p.k,p.v,l,r,IntKind.i64.wrap (IntKind.i64.wrap ((A.node l).size+(A.node r).size)+1),IntKind.i64.wrap (max (A.node l).high (A.node r).high+1)]) (by omega) (by simp)with⟨e,e2⟩| ⟨e,e2⟩;rw[e];exact⟨⟨.inr ⟨rfl,e2⟩,hA,[],.refl A,Nat.zero_le _,fun _ hx=>by cases hx⟩,fun h=>by cases h⟩;rw[e];refine⟨⟨.inl rfl,e2,_,Gr.one A _,Nat.le_refl _,fun x hx=>⟨_,List.mem_singleton.1 hx⟩⟩,fun _=>?_⟩;have hk:=(Gr.one A (.cg 1 [p.k,p.v,l,r,IntKind.i64.wrap (IntKind.i64.wrap ((A.node l).size+(A.node r).size)+1),IntKind.i64.wrap (max (A.node l).high (A.node r).high+1)])).bE;have hn:=h1.nn;have hn2:=h2.nn;have hf1:=h1.gN;have hf2:=h2.gN;have hA':=hA;unfold Ok at hA';have sz1:=h1.size;have sz2:=h2.size;unfold sizeOf at sz1 sz2;obtain⟨hi,hnode⟩:=Dt A p.k p.v l r (IntKind.i64.wrap (IntKind.i64.wrap ((A.node l).size+(A.node r).size)+1)) (IntKind.i64.wrap (max (A.node l).high (A.node r).high+1));refine .node (l:=l) (r:=r) (s:=IntKind.i64.wrap (IntKind.i64.wrap ((A.node l).size+(A.node r).size)+1)) (h:=IntKind.i64.wrap (max (A.node l).high (A.node r).high+1)) hi hnode (by omega) (by omega) (h1.bE hk) (h2.bE hk) ?_ h3 h4;rw[sz1,sz2,sZ (n:=(la.length:Int)+lb.length) (by omega) (by omega),sZ (by omega) (by omega)]
def Lt (key:Int) (l:List Pr):List Pr:=l.filter fun x=>decide (x.k<key)
def Ge (key:Int) (l:List Pr):List Pr:=l.filter fun x=>decide (key<=x.k)
section
variable {key:Int} {l:List Pr}
include key l
theorem F3 (h:∀x∈l,x.k<key):Lt key l=l:=List.filter_eq_self.2 fun x hx=>by have:=h x hx;simpa using this
theorem OK (h:∀x∈l,key<=x.k):Lt key l=[]:=List.filter_eq_nil_iff.2 fun x hx=>by have:=h x hx;simp;omega
theorem Mg (h:∀x∈l,key<=x.k):Ge key l=l:=List.filter_eq_self.2 fun x hx=>by have:=h x hx;simpa using this
theorem OL (h:∀x∈l,x.k<key):Ge key l=[]:=List.filter_eq_nil_iff.2 fun x hx=>by have:=h x hx;simp;omega
end
section
variable {key:Int} {la lb:List Pr} {p:Pr}
include key la lb p
theorem F4:Lt key (la++p::lb)=Lt key la++((if p.k<key then[p]else[])++Lt key lb):=by
 unfold Lt;rw[List.filter_append,List.filter_cons];by_cases h:p.k<key<;>simp[h]
theorem F5:Ge key (la++p::lb)=Ge key la++((if key<=p.k then[p]else[])++Ge key lb):=by
 unfold Ge;rw[List.filter_append,List.filter_cons];by_cases h:key<=p.k<;>simp[h]
theorem AZ (h:p.k<key) (ha:∀x∈la,x.k<p.k):Lt key (la++p::lb)=la++p::Lt key lb:=by
 rw[F4,if_pos h,F3 (fun x hx=>by have:=ha x hx;omega)];rfl
theorem F6 (h:p.k<key) (ha:∀x∈la,x.k<p.k):Ge key (la++p::lb)=Ge key lb:=by
 rw[F5,if_neg (by omega),OL (fun x hx=>by have:=ha x hx;omega)];rfl
theorem qp (h:¬p.k<key) (hb:∀x∈lb,p.k<x.k):Lt key (la++p::lb)=Lt key la:=by
 rw[F4,if_neg h,OK (l:=lb) (fun x hx=>by have:=hb x hx;omega)];simp
theorem xK (h:¬p.k<key) (hb:∀x∈lb,p.k<x.k):Ge key (la++p::lb)=Ge key la++p::lb:=by
 rw[F5,if_pos (by omega),Mg (l:=lb) (fun x hx=>by have:=hb x hx;omega)];rfl
end
def Gt (key:Int) (l:List Pr):List Pr:=l.filter fun x=>decide (key<x.k)
section
variable {key:Int}
include key
theorem F7 {l:List Pr} (h:∀x∈l,key<x.k):Gt key l=l:=List.filter_eq_self.2 fun x hx=>by have:=h x hx;simpa using this
theorem K5 {l:List Pr} (h:∀x∈l,x.k<=key):Gt key l=[]:=List.filter_eq_nil_iff.2 fun x hx=>by have:=h x hx;simp;omega
theorem A1 {la lb:List Pr} {p:Pr}:Gt key (la++p::lb)=Gt key la++((if key<p.k then[p]else[])++Gt key lb):=by
 unfold Gt;rw[List.filter_append,List.filter_cons];by_cases h:key<p.k<;>simp[h]
theorem pe {l:List Pr} {x:Pr}:x∈Lt key l<->x∈l/\x.k<key:=by simp[Lt]
theorem pf {l:List Pr} {x:Pr}:x∈Ge key l<->x∈l/\key<=x.k:=by simp[Ge]
end
theorem pg {key:Int}:∀(n:Nat) {A:Ar} (hA:A.Ok) {t:Int} {l:List Pr} (ht:Tp A t l) (hn:t.toNat<n),
  qK A l.length (db key n A t).2.2.1 (db key n A t).2.2.2/\((db key n A t).2.2.1=0->Tp (db key n A t).2.2.2 (db key n A t).1 (Lt key l)/\Tp (db key n A t).2.2.2 (db key n A t).2.1 (Ge key l))
 |0,A,hA,t,l,ht,hn=>absurd hn (Nat.not_lt_zero _)
 |n+1,A,hA,t,l,ht,hn=>by
  cases hi:A.isNode t
  obtain⟨rfl,rfl⟩:=ht.empty hi;rw[qZ hi];exact⟨.refl hA,fun _=>⟨.nil,.nil⟩⟩;have h0:=di hi;obtain⟨la,lb,rfl,h1,h2,h3,h4,h5,h6,h7⟩:=ht.cases hi;by_cases e:(A.node t).p.k<key;rw[ng hi e,h3.aK h1,h4.aK h2,AZ e (fun x hx=>(h6 x hx).1),F6 e (fun x hx=>(h6 x hx).1)];obtain⟨r1,r2⟩:=pg (key:=key) n hA h4 (by have:=h4.nn;omega);by_cases e2:(db key n A (A.node t).right).2.2.1=0;obtain⟨r3,r4⟩:=r2 e2;rw[AJ e2];obtain⟨m1,m2⟩:=dz r1.ok (p:=(A.node t).p) (h3.bE r1.bE) r3 h6 (fun x hx=>h7 x (pe.1 hx).1);exact⟨(r1.trans m1).le (by simp only[List.length_append,List.length_cons];omega),fun h=>⟨m2 h,r4.bE m1.bE⟩⟩;rw[AK e2];exact⟨r1.le (by simp only[List.length_append,List.length_cons];omega),fun h=>absurd h e2⟩;rw[ni hi e,h3.aK h1,h4.aK h2,qp e (fun x hx=>(h7 x hx).1),xK e (fun x hx=>(h7 x hx).1)];obtain⟨r1,r2⟩:=pg (key:=key) n hA h3 (by have:=h3.nn;omega);by_cases e2:(db key n A (A.node t).left).2.2.1=0;obtain⟨r3,r4⟩:=r2 e2;rw[xj e2];obtain⟨m1,m2⟩:=dz r1.ok (p:=(A.node t).p) r4 (h4.bE r1.bE) (fun x hx=>h6 x (pf.1 hx).1) h7;exact⟨(r1.trans m1).le (by simp only[List.length_append,List.length_cons];omega),fun h=>⟨r3.bE m1.bE,m2 h⟩⟩;rw[xk e2];exact⟨r1.le (by simp only[List.length_append,List.length_cons];omega),fun h=>absurd h e2⟩
theorem pj {key:Int}:∀(n:Nat) {A:Ar} (hA:A.Ok) {t:Int} {l:List Pr} (ht:Tp A t l) (hn:t.toNat<n),
  qK A l.length (cQ key n A t).2.2.1 (cQ key n A t).2.2.2/\((cQ key n A t).2.2.1=0->Tp (cQ key n A t).2.2.2 (cQ key n A t).1 (Lt key l)/\Tp (cQ key n A t).2.2.2 (cQ key n A t).2.1 (Ge key l))
 |0,A,hA,t,l,ht,hn=>absurd hn (Nat.not_lt_zero _)
 |n+1,A,hA,t,l,ht,hn=>by
  cases hi:A.isNode t
  obtain⟨rfl,rfl⟩:=ht.empty hi;rw[q8 hi];exact⟨.refl hA,fun _=>⟨.nil,.nil⟩⟩;have h0:=di hi;obtain⟨la,lb,rfl,h1,h2,h3,h4,h5,h6,h7⟩:=ht.cases hi;by_cases e:(A.node t).p.k<key;rw[ny hi e,h3.aK h1,h4.aK h2,AZ e (fun x hx=>(h6 x hx).1),F6 e (fun x hx=>(h6 x hx).1)];obtain⟨r1,r2⟩:=pj (key:=key) n hA h4 (by have:=h4.nn;omega);by_cases e2:(cQ key n A (A.node t).right).2.2.1=0;obtain⟨r3,r4⟩:=r2 e2;rw[AM (by omega)];obtain⟨m1,m2⟩:=dz r1.ok (p:=(A.node t).p) (h3.bE r1.bE) r3 h6 (fun x hx=>h7 x (pe.1 hx).1);exact⟨(r1.trans m1).le (by simp only[List.length_append,List.length_cons];omega),fun h=>⟨m2 h,r4.bE m1.bE⟩⟩;rw[AL e2];exact⟨r1.le (by simp only[List.length_append,List.length_cons];omega),fun h=>absurd h e2⟩;rw[nz hi e,h3.aK h1,h4.aK h2,qp e (fun x hx=>(h7 x hx).1),xK e (fun x hx=>(h7 x hx).1)];obtain⟨r1,r2⟩:=pj (key:=key) n hA h3 (by have:=h3.nn;omega);by_cases e2:(cQ key n A (A.node t).left).2.2.1=0;obtain⟨r3,r4⟩:=r2 e2;rw[xr (by omega)];obtain⟨m1,m2⟩:=dz r1.ok (p:=(A.node t).p) r4 (h4.bE r1.bE) (fun x hx=>h6 x (pf.1 hx).1) h7;exact⟨(r1.trans m1).le (by simp only[List.length_append,List.length_cons];omega),fun h=>⟨r3.bE m1.bE,m2 h⟩⟩;rw[xq e2];exact⟨r1.le (by simp only[List.length_append,List.length_cons];omega),fun h=>absurd h e2⟩
def yo (p:Pr) (l:List Pr):List Pr:=Lt p.k l++p::Gt p.k l
theorem mn {p x:Pr} {l:List Pr}:x∈yo p l<->x=p\/(x∈l/\x.k≠p.k):=by
 unfold yo Gt;simp only[List.mem_append,List.mem_cons,pe,List.mem_filter,decide_eq_true_eq];constructor;rintro(⟨a,b⟩|rfl| ⟨a,b⟩);exact .inr ⟨a,by omega⟩;exact .inl rfl;exact .inr ⟨a,by omega⟩;rintro(rfl| ⟨a,b⟩);exact .inr (.inl rfl);by_cases h:x.k<p.k;exact .inl ⟨a,h⟩;exact .inr (.inr ⟨a,by omega⟩)
theorem qs {p:Pr} {l:List Pr} (h:jv l):jv (yo p l):=by
 refine List.pairwise_append.2 ⟨h.filter _,List.pairwise_cons.2 ⟨fun x hx=>by simpa using(List.mem_filter.1 hx).2,h.filter _⟩,fun a ha b hb=>?_⟩;have h1:=(pe.1 ha).2;rcases List.mem_cons.1 hb with rfl|hb;exact h1;have:=(List.mem_filter.1 hb).2;simp at this;omega
theorem uH {p:Pr}:∀(n:Nat) {A:Ar} (hA:A.Ok) {t:Int} {l:List Pr} (ht:Tp A t l) (hn:t.toNat<n),
  qK A (l.length+1) (gi p n A t).2.1 (gi p n A t).2.2/\((gi p n A t).2.1=0->Tp (gi p n A t).2.2 (gi p n A t).1 (yo p l))
 |0,A,hA,t,l,ht,hn=>absurd hn (Nat.not_lt_zero _)
 |n+1,A,hA,t,l,ht,hn=>by
  cases hi:A.isNode t
  obtain⟨rfl,rfl⟩:=ht.empty hi;rw[xm hi];exact dz hA (.nil) (.nil) (fun _ hx=>by cases hx) (fun _ hx=>by cases hx);have h0:=di hi;have htl:=ht;obtain⟨la,lb,rfl,h1,h2,h3,h4,h5,h6,h7⟩:=ht.cases hi;have hasc:=htl.iA;by_cases e:(A.node t).p.k=p.k;rw[xn hi e,h3.aK h1,h4.aK h2];obtain⟨m1,m2⟩:=dz hA (p:=p) h3 h4 (by rw[<-e];exact h6) (by rw[<-e];exact h7);refine⟨m1.le (by omega),fun h=>?_⟩
  have:yo p (la++(A.node t).p::lb)=la++p::lb:=by
   unfold yo;rw[qp (by omega) (fun x hx=>(h7 x hx).1),F3 (fun x hx=>by have:=(h6 x hx).1;omega),A1,if_neg (by omega),K5 (l:=la) (fun x hx=>by have:=(h6 x hx).1;omega),F7 (l:=lb) (fun x hx=>by have:=(h7 x hx).1;omega)];rfl
  rw[this];exact m2 h
  cases e2:bh p.k (A.node t).p.k
  have ab:=nF e2 (Ne.symm e);by_cases e3:p.k<(A.node t).p.k;rw[uh hi e e2 e3,h3.aK h1,h4.aK h2];obtain⟨r1,r2⟩:=uH (p:=p) n hA h3 (by have:=h3.nn;omega);by_cases e4:(gi p n A (A.node t).left).2.1=0;rw[jS (by omega)]
  obtain⟨m1,m2⟩:=dz r1.ok (p:=(A.node t).p) (r2 e4) (h4.bE r1.bE) (fun x hx=>by
   rcases mn.1 hx with rfl| ⟨a,_⟩;exact⟨e3,ab⟩;exact h6 x a) h7
  refine⟨(r1.trans m1).le (by simp only[List.length_append,List.length_cons];omega),fun h=>?_⟩
  have:yo p (la++(A.node t).p::lb)=yo p la++(A.node t).p::lb:=by
   unfold yo;rw[qp (by omega) (fun x hx=>(h7 x hx).1),A1,if_pos e3,F7 (l:=lb) (fun x hx=>by have:=(h7 x hx).1;omega)];simp
  rw[this];exact m2 h;rw[jR e4];exact⟨r1.le (by simp only[List.length_append,List.length_cons];omega),fun h=>absurd h e4⟩;rw[ui hi e e2 e3,h3.aK h1,h4.aK h2];obtain⟨r1,r2⟩:=uH (p:=p) n hA h4 (by have:=h4.nn;omega);by_cases e4:(gi p n A (A.node t).right).2.1=0;rw[jU (by omega)]
  obtain⟨m1,m2⟩:=dz r1.ok (p:=(A.node t).p) (h3.bE r1.bE) (r2 e4) h6 (fun x hx=>by
   rcases mn.1 hx with rfl| ⟨a,_⟩;exact⟨by omega,ab⟩;exact h7 x a)
  refine⟨(r1.trans m1).le (by simp only[List.length_append,List.length_cons];omega),fun h=>?_⟩
  have:yo p (la++(A.node t).p::lb)=la++(A.node t).p::yo p lb:=by
   unfold yo;rw[AZ (by omega) (fun x hx=>(h6 x hx).1),A1,if_neg (by omega),K5 (l:=la) (fun x hx=>by have:=(h6 x hx).1;omega)];simp
  rw[this];exact m2 h;rw[jT e4];exact⟨r1.le (by simp only[List.length_append,List.length_cons];omega),fun h=>absurd h e4⟩;rw[p9 hi e e2];obtain⟨r1,r2⟩:=pg (key:=p.k) (fuel t) hA htl (by unfold fuel;omega)
  have hab:∀x∈la++(A.node t).p::lb,x.k≠p.k/\bh p.k x.k=true:=fun x hx=>by
   rcases List.mem_append.1 hx with hx|hx;have:=h6 x hx;have h8:=fU e2 this.2;exact⟨fun e=>by rw[e]at h8;exact(by have:=uG h8;rw[h8]at this;cases this),h8⟩;rcases List.mem_cons.1 hx with rfl|hx;exact⟨e,e2⟩;have:=h7 x hx;have h8:=fU e2 this.2;exact⟨fun e=>by rw[e]at h8;exact(by have:=uG h8;rw[h8]at this;cases this),h8⟩
  by_cases e4:(db p.k (fuel t) A t).2.2.1=0;rw[if_neg (by omega)];obtain⟨r3,r4⟩:=r2 e4;obtain⟨m1,m2⟩:=dz r1.ok (p:=p) r3 r4 (fun x hx=>⟨(pe.1 hx).2,(hab x (pe.1 hx).1).2⟩) (fun x hx=>⟨by have h1:=(pf.1 hx).2;have h2:=(hab x (pf.1 hx).1).1;omega,(hab x (pf.1 hx).1).2⟩);refine⟨r1.trans m1,fun h=>?_⟩
  have:yo p (la++(A.node t).p::lb)=Lt p.k (la++(A.node t).p::lb)++p::Ge p.k (la++(A.node t).p::lb):=by
   unfold yo Ge Gt;congr 2;refine List.filter_congr fun x hx=>?_;have:=(hab x hx).1;rw[decide_eq_decide];omega
  rw[this];exact m2 h;rw[if_pos e4];exact⟨r1.le (by omega),fun h=>absurd h e4⟩
theorem mo:∀(n:Nat) {A:Ar} (hA:A.Ok) {l r:Int} {la lb:List Pr} (hl:Tp A l la) (hr:Tp A r lb) (hn:l.toNat+r.toNat<n) (hab:∀x∈la,∀y∈lb,x.k<y.k),
  qK A (la.length+lb.length) (dA n A l r).2.1 (dA n A l r).2.2/\((dA n A l r).2.1=0->Tp (dA n A l r).2.2 (dA n A l r).1 (la++lb))
 |0,A,hA,l,r,la,lb,hl,hr,hn,hab=>absurd hn (Nat.not_lt_zero _)
 |n+1,A,hA,l,r,la,lb,hl,hr,hn,hab=>by
  cases hi:A.isNode l
  obtain⟨rfl,rfl⟩:=hl.empty hi;rw[nj hi];exact⟨.refl hA,fun _=>by simpa using hr⟩
  cases hj:A.isNode r
  obtain⟨rfl,rfl⟩:=hr.empty hj;rw[nu hi hj];exact⟨.refl hA,fun _=>by simpa using hl⟩;have h0:=di hi;have h0':=di hj;have hl':=hl;have hr':=hr;obtain⟨a1,a2,rfl,h1,h2,h3,h4,h5,h6,h7⟩:=hl.cases hi;obtain⟨b1,b2,rfl,k1,k2,k3,k4,k5,k6,k7⟩:=hr.cases hj;have hpq:=hab (A.node l).p (by simp) (A.node r).p (by simp)
  cases e:bh (A.node l).p.k (A.node r).p.k
  have ab:=nF e (by omega);rw[gk hi hj e,k3.aK k1];obtain⟨r1,r2⟩:=mo n hA hl' k3 (by have:=k3.nn;omega) (fun x hx y hy=>hab x hx y (by simp[hy]));rw[(k4.bE r1.bE).aK k2];by_cases e4:(dA n A l (A.node r).left).2.1=0;rw[jS (by omega)]
  obtain⟨m1,m2⟩:=dz r1.ok (p:=(A.node r).p) (r2 e4) (k4.bE r1.bE) (fun x hx=>by
   rcases List.mem_append.1 hx with hx|hx;refine⟨hab x hx _ (by simp),?_⟩;rcases List.mem_append.1 hx with hx|hx;exact fU ab (h6 x hx).2;rcases List.mem_cons.1 hx with rfl|hx;exact ab;exact fU ab (h7 x hx).2;exact k6 x hx) k7
  refine⟨(r1.trans m1).le (by simp only[List.length_append,List.length_cons];omega),fun h=>?_⟩;have:=m2 h;simpa using this;rw[jR e4];exact⟨r1.le (by simp only[List.length_append,List.length_cons];omega),fun h=>absurd h e4⟩;rw[gj hi hj e,h4.aK h2];obtain⟨r1,r2⟩:=mo n hA h4 hr' (by have:=h4.nn;omega) (fun x hx y hy=>hab x (by simp[hx]) y hy);rw[(h3.bE r1.bE).aK h1];by_cases e4:(dA n A (A.node l).right r).2.1=0;rw[jU (by omega)]
  obtain⟨m1,m2⟩:=dz r1.ok (p:=(A.node l).p) (h3.bE r1.bE) (r2 e4) h6 (fun x hx=>by
   rcases List.mem_append.1 hx with hx|hx;exact h7 x hx;refine⟨hab _ (by simp) x hx,?_⟩;rcases List.mem_append.1 hx with hx|hx;exact fU e (k6 x hx).2;rcases List.mem_cons.1 hx with rfl|hx;exact e;exact fU e (k7 x hx).2)
  refine⟨(r1.trans m1).le (by simp only[List.length_append,List.length_cons];omega),fun h=>?_⟩;have:=m2 h;simpa using this;rw[jT e4];exact⟨r1.le (by simp only[List.length_append,List.length_cons];omega),fun h=>absurd h e4⟩
theorem zA {key:Int} {la lb:List Pr} {p:Pr}:cc (la++p::lb) key=cc la key++(if p.k=key then cc lb key else p::cc lb key):=by
 unfold cc;rw[List.filter_append,List.filter_cons];by_cases e:p.k=key<;>simp[pD,e]
theorem iw {key:Int} {l:List Pr} (h:∀x∈l,x.k≠key):cc l key=l:=List.filter_eq_self.2 fun x hx=>by simp[pD,h x hx]
theorem uI {key:Int}:∀(n:Nat) {A:Ar} (hA:A.Ok) {t:Int} {l:List Pr} (ht:Tp A t l) (hn:t.toNat<n),
  qK A l.length (gK key n A t).2.1 (gK key n A t).2.2/\((gK key n A t).2.1=0->Tp (gK key n A t).2.2 (gK key n A t).1 (cc l key))
 |0,A,hA,t,l,ht,hn=>absurd hn (Nat.not_lt_zero _)
 |n+1,A,hA,t,l,ht,hn=>by
  cases hi:A.isNode t
  obtain⟨rfl,rfl⟩:=ht.empty hi;rw[xo hi];exact⟨.refl hA,fun _=>.nil⟩;have h0:=di hi;obtain⟨la,lb,rfl,h1,h2,h3,h4,h5,h6,h7⟩:=ht.cases hi;rw[zA];by_cases e:(A.node t).p.k=key;rw[xp hi e,h3.aK h1,h4.aK h2,if_pos e,iw (fun x hx=>by have:=(h6 x hx).1;omega),iw (fun x hx=>by have:=(h7 x hx).1;omega)];obtain⟨r1,r2⟩:=mo (mZ (A.node t).left (A.node t).right) hA h3 h4 (by unfold mZ;omega) (fun x hx y hy=>by have:=(h6 x hx).1;have:=(h7 y hy).1;omega);exact⟨r1.le (by simp only[List.length_append,List.length_cons];omega),r2⟩;rw[if_neg e];by_cases e3:key<(A.node t).p.k;rw[uj hi e e3,h3.aK h1,h4.aK h2,iw (l:=lb) (fun x hx=>by have:=(h7 x hx).1;omega)];obtain⟨r1,r2⟩:=uI (key:=key) n hA h3 (by have:=h3.nn;omega);by_cases e4:(gK key n A (A.node t).left).2.1=0;rw[jS (by omega)];obtain⟨m1,m2⟩:=dz r1.ok (p:=(A.node t).p) (r2 e4) (h4.bE r1.bE) (fun x hx=>h6 x (List.mem_filter.1 hx).1) h7;exact⟨(r1.trans m1).le (by simp only[List.length_append,List.length_cons];omega),m2⟩;rw[jR e4];exact⟨r1.le (by simp only[List.length_append,List.length_cons];omega),fun h=>absurd h e4⟩;rw[um hi e e3,h3.aK h1,h4.aK h2,iw (l:=la) (fun x hx=>by have:=(h6 x hx).1;omega)];obtain⟨r1,r2⟩:=uI (key:=key) n hA h4 (by have:=h4.nn;omega);by_cases e4:(gK key n A (A.node t).right).2.1=0;rw[jU (by omega)];obtain⟨m1,m2⟩:=dz r1.ok (p:=(A.node t).p) (h3.bE r1.bE) (r2 e4) h6 (fun x hx=>h7 x (List.mem_filter.1 hx).1);exact⟨(r1.trans m1).le (by simp only[List.length_append,List.length_cons];omega),m2⟩;rw[jT e4];exact⟨r1.le (by simp only[List.length_append,List.length_cons];omega),fun h=>absurd h e4⟩
end Ar
end Go.Proofs.YtcnohdmimheoaaaGreat
namespace Go.Proofs.YtcnohdmimheoaaaGreat
open E Ar Go.Proofs.Tryz
theorem OM:ah prog 124:=ah.mk' func124 rfl rfl
theorem ON:ah prog 164:=ah.mk' func164 rfl rfl
theorem OO:ah prog 236:=ah.mk' func236 rfl rfl
section
variable (tb xb ba:Nat) (bz:Bool) (op:bA) (call:Int) (lt ov:Bool) (an:An) (s:Sl Pr) (hs:s.l=an.l) (q:Ix) (Mo:aO) (hO:bR 3 1 (q.ord.map aM) q.oa q.oc Mo) (hol:q.ord.length<1000000) (r:cX) (M:aO) (hA:aR ba r M)
include tb xb ba bz op call lt ov an s hs q Mo hO hol r M hA
theorem F8 (b1 b2 b3:Nat) (key:Int) (g:KG) (gv:Value):aN prog 164 [.pointer (some ⟨b1,0,none⟩),.pointer (some ⟨b2,0,none⟩),.pointer (some ⟨b3,0,none⟩)] [ak r.rows,aC s,eY tb b1,aW b2 (cI key),aW b3 #[gv],oD tb g gv] [aE tb xb (⟨bz,op,call,lt,none,ov,an⟩:Th) .nilFunc s,ao xb ba q,Mo,M] (aX tb xb ba q ((sy (⟨bz,op,call,lt,none,ov,an⟩:Th) q r).looks key g)):=by
 refine cb fun X H₀ L₀=>?_;refine ca (nC tb xb _ _ s ba q key g gv) ?_;rintro _ _ _ ⟨nv,bf,rfl,rfl⟩;refine re ?_;exact rs ⟨q,r,nv,s,Mo,M,_,(bf,.nilFunc)::[],rfl,rfl,hO,hA,⟨_,rfl,rfl⟩,rfl,Ix.az q,hs⟩
theorem F9 (b1 b2 b3 b4:Nat) (a:Nat×Value) (j:Jb) (key:Int) (k:KR) (l:Ax) (rv:Value) (Mj:aO) (hJ:ql j k (a::l) Mj):aN prog 236 [.pointer (some ⟨b1,0,none⟩),.pointer (some ⟨b2,0,none⟩),.pointer (some ⟨b3,0,none⟩),.pointer (some ⟨b4,0,none⟩)] [ak r.rows,aC s,eY tb b1,aW b2 #[ptr a.1],aW b3 (cI key),aW b4 #[rv],fT tb k a.1 l rv] [aE tb xb (⟨bz,op,call,lt,none,ov,an⟩:Th) .nilFunc s,ao xb ba q,Mo,M,Mj] (aX tb xb ba q ((sy (⟨bz,op,call,lt,none,ov,an⟩:Th) q r).dx j key k)):=by
 refine cb fun X H₀ L₀=>?_;refine ca (lE tb xb _ _ s ba q a j key k l rv) ?_;rintro _ _ _ ⟨nv,bf,rfl,rfl⟩;refine mc ?_;refine At.front 5 rfl ?_;refine At.front 3 rfl ?_;refine At.cH ?_;refine re ?_;exact rs ⟨q,r,nv,s,Mo,M,_,(bf,.nilFunc)::a::l,rfl,rfl,hO,hA,⟨_,rfl,hJ⟩,rfl,Ix.az q,hs⟩
theorem uJ:aN prog 124 [ptr tb] [ak r.rows,aC s] [aE tb xb (⟨bz,op,call,lt,none,ov,an⟩:Th) .nilFunc s,ao xb ba q,Mo,M] (aX tb xb ba q (sy (⟨bz,op,call,lt,none,ov,an⟩:Th) q r).update):=
 fun X w H L hp hst=>by
  have h1:=Ds tb xb (⟨bz,op,call,lt,none,ov,an⟩:Th) .nilFunc s ba q X w H (Mo::M::L) trivial hst;refine h1.mono fun e w' h=>?_;obtain⟨v,Γ',M',H',e1,⟨nv,bf,e2,e3⟩,hle,h4,h5⟩:=h;subst e2;subst e3;refine⟨v,[_,_,_],_,H',e1,⟨q,r,nv,s,Mo,M,nB bf (Qq q.root),[(bf,.nilFunc)],rfl,rfl,hO,hA,⟨_,rfl,rfl⟩,rfl,Ix.az q,hs⟩,hle,⟨(hp.mono hle).1,h4.1,(hp.mono hle).2.1,trivial⟩,?_⟩;exact h5.perm (.cons _ (.cons _ (List.perm_middle (l₁:=[Mo,M]))))
theorem uK {u:KU} {l:Ax} {v:Value} {H:Hp} {Mj:aO} (hr:(ak r.rows).holds H) (hps:(aC s).holds H) (h:(qh tb u l v).holds H) (hJ:AX u l Mj):
  eI v [] H [aE tb xb (⟨bz,op,call,lt,none,ov,an⟩:Th) .nilFunc s,ao xb ba q,Mo,M,Mj] (aX tb xb ba q ((sy (⟨bz,op,call,lt,none,ov,an⟩:Th) q r).mJ u)):=by
 match u,l,h,hJ with
 | .looks key g,[],h,hJ=>
  obtain⟨x,rfl,h1,h2,h3,h4,_⟩:=h
  cases hJ
  exact .of (aN.fI (F8 tb xb ba bz op call lt ov an s hs q Mo hO hol r M hA x.1 x.2.1 x.2.2.1 key g x.2.2.2)) rfl ON ⟨hr,hps,h1,h2,h3,h4,trivial⟩
 | .update,[],h,hJ=>
  obtain⟨x,rfl,_⟩:=h
  cases hJ
  exact .of (aN.fI (uJ tb xb ba bz op call lt ov an s hs q Mo hO hol r M hA)) rfl OM ⟨hr,hps,trivial⟩
 | .leaf j key k,a::l,h,hJ=>
  obtain⟨x,rfl,h1,h2,h3,h4,h5,_⟩:=h;exact .of (F9 tb xb ba bz op call lt ov an s hs q Mo hO hol r M hA x.1 x.2.1 x.2.2.1 x.2.2.2.1 a j key k l x.2.2.2.2 Mj hJ) rfl OO ⟨hr,hps,h1,h2,h3,h4,h5,trivial⟩
 | .looks ..,_::_,h,_=>exact False.elim h
 | .update,_::_,h,_=>exact False.elim h
 | .leaf ..,[],h,_=>exact False.elim h
end
end Go.Proofs.YtcnohdmimheoaaaGreat
namespace Go.Proofs.YtcnohdmimheoaaaGreat
open E Go.Proofs.Tryz
theorem Du (ba:Nat) (r:cX) (M:aO) (hA:aR ba r M) (t lo hi:Int):aN prog 185 [.pointer (some ⟨ba,0,none⟩),.int .i64 t,.int .i64 lo,.int .i64 hi] [ak r.rows] [M]
  (fun v Γ M'=>∃u:Sl Pr,v=u.val/\Γ=[aC u]/\M'=[M]/\u.l=r.p.range t lo hi):=
 fun X w H L hp hst=>(zn ba r M hA t lo hi X w H L hp hst).mono fun e w' h=>by
  obtain⟨v,Γ',M',H',e1,⟨a,c,N,e2,e3,e4,hO⟩,hle,h4,h5⟩:=h;subst e2;subst e3;subst e4;obtain⟨H2,q1,q2,q3⟩:=hO.frozen (i:=1) rfl h5;exact⟨_,_,_,H2,e1,⟨⟨a,c,r.p.range t lo hi⟩,rfl,rfl,rfl,rfl⟩,Hp.le_trans hle q2,⟨q3,trivial⟩,q1⟩
theorem Dv (xb ba:Nat) (q:Ix) (r:cX) (M:aO) (hA:aR ba r M) (id:Int) (l:List Int) (hb:r.p.au id=some l):aN prog 221 [.pointer (some ⟨xb,0,none⟩),.int .i64 id] [ak r.rows] [ao xb ba q,M]
  (fun v Γ M'=>∃u:Sl Int,v=u.val/\Γ=[cw u]/\M'=[ao xb ba q,M]/\u.l=l):=
 fun X w H L hp hst=>(FY xb ba q r M hA id l hb X w H L hp hst).mono fun e w' h=>by
  obtain⟨v,Γ',M',H',e1,⟨a,c,N,e2,e3,e4,hO⟩,hle,h4,h5⟩:=h;subst e2;subst e3;subst e4;obtain⟨H2,q1,q2,q3⟩:=hO.frozen (i:=2) rfl h5;exact⟨_,_,_,H2,e1,⟨⟨a,c,l⟩,rfl,rfl,rfl,rfl⟩,Hp.le_trans hle q2,⟨q3,trivial⟩,q1⟩
theorem K6 (k v:Int) (ok:Bool):(tX k v ok).l=[]:=by unfold tX;split<;>rfl
def xL (A:Ar) (kind:Int) (a:An) (id:Int):An:=
 if(if kind=8 then A.g6 (A.base id).af else A.ig (A.base id).af).2=true/\(a.ok=false\/kind=8)then⟨0,true,(if kind=8 then A.g6 (A.base id).af else A.ig (A.base id).af).1,0,[]⟩else a
def pq (A:Ar) (o:bA) (a:An) (id:Int):An:=
 if o.kind=6 then{a with n:=IntKind.i64.wrap (a.n+((A.range (A.base id).af o.key o.hi).length:Int))}
 else{a with l:=a.l++A.range (A.base id).af o.key o.hi,n:=((a.l++A.range (A.base id).af o.key o.hi).length:Int)}
theorem gV {α:Type} {f:α->Int->α} {z:α} {l:List Int} {k:Nat} {x:Int} (h:l[k]? =some x):(l.take (k+1)).foldl f z=f ((l.take k).foldl f z) x:=by
 rw[List.take_succ,h];simp
theorem xM {A:Ar} {kind:Int}:∀(l:List Int) (a:An),a.l=[]->(l.foldl (xL A kind) a).l=[]
 | [],a,h=>h
 |x::l,a,h=>by
  refine xM l _ ?_;unfold xL
  repeat' split
  all_goals first|rfl|exact h
theorem uL {A:Ar} {o:bA}:∀(l:List Int) (a:An),(l.foldl (pq A o) a).l.length<=a.l.length+60000*l.length
 | [],a=>by simp
 |x::l,a=>by
  have h1:=uL (A:=A) (o:=o) l (pq A o a x)
  have h2:(pq A o a x).l.length<=a.l.length+60000:=by
   unfold pq;split;simp;have:=Ar.wh (A:=A) (t:=(A.base x).af) (lo:=o.key) (hi:=o.hi);simp only[List.length_append];omega
  simp only[List.foldl_cons,List.length_cons];omega
end Go.Proofs.YtcnohdmimheoaaaGreat
namespace Go.Proofs.YtcnohdmimheoaaaGreat
open E Ar Go.Proofs.Tryz
section
variable (tb xb ba:Nat) (bz:Bool) (op:bA) (call:Int) (lt ov:Bool) (an:An) (s:Sl Pr) (hs:s.l=an.l) (q:Ix) (Mo:aO) (hO:bR 3 1 (q.ord.map aM) q.oa q.oc Mo) (hol:q.ord.length<1000000) (r:cX) (M:aO) (hA:aR ba r M)
include tb xb ba bz op call lt ov an s hs q Mo hO hol r M hA
theorem Jd (f:Fo):aN prog 126 [.pointer (some ⟨tb,0,none⟩),f.val] [ak r.rows,aC s] [aE tb xb (⟨bz,op,call,lt,none,ov,an⟩:Th) .nilFunc s,ao xb ba q,Mo,M] (aX tb xb ba q ((sy (⟨bz,op,call,lt,none,ov,an⟩:Th) q r).gD f .qV)):=by
 refine cb fun X H₀ L₀=>?_;refine At.aJ (aC (⟨none,0,[]⟩:Sl Pr)) (fun _ h=>dh _ _ _ (Nat.zero_le _)) ?_;refine At.aJ (jX tb none [] .nilFunc) (fun _ h=>bK () rfl trivial) ?_;refine bx fun b1=>?_;refine dw 20 [15] (k_ (k_ (k_ (d_ r_)))) ?_;refine oA (uy ba r _ hA _ _) ?_;refine ca (o9 _ _ _) ?_;refine ca (lA tb xb _ _ _ ba q Mo hO hol (tX op.key (r.p.get f.b.af op.key).1 (r.p.get f.b.af op.key).2) (⟨none,0,[]⟩:Sl Pr)) ?_;rintro _ _ _ ⟨oa,ok,No,rfl,rfl,hO2⟩;refine mc ?_;refine At.ck ?_;refine re ?_;exact rs ⟨{q with ord:=q.ord++[call],oa:=oa,oc:=ok},r,_,(⟨none,0,[]⟩:Sl Pr),No,M,[],[],rfl,rfl,hO2,hA,rfl,rfl,⟨rfl,rfl,rfl,rfl,rfl⟩,(K6 _ _ _).symm⟩
theorem wm (bs:Sl Int):aN prog 170 [.pointer (some ⟨tb,0,none⟩),bs.val] [ak r.rows,cw bs] [aE tb xb (⟨bz,op,call,lt,none,ov,an⟩:Th) .nilFunc s,ao xb ba q,M] (fun v Γ M'=>v=((sy (⟨bz,op,call,lt,none,ov,an⟩:Th) q r).gC bs.l).val (⟨none,0,[]⟩:Sl Pr)/\Γ=[]/\M'=[aE tb xb (⟨bz,op,call,lt,none,ov,an⟩:Th) .nilFunc s,ao xb ba q,M]):=by
 refine cb fun X H₀ L₀=>?_;refine al fun b1=>?_;refine al fun b2=>?_;refine mc ?_;refine At.lenOf (hs:=(ix 2 rfl)) fun hvl=>?_;rw[List.length_map]at hvl;refine mc ?_;refine At.front 4 rfl ?_;refine At.front 4 rfl ?_;refine At.front 4 rfl ?_;refine At.front 3 rfl ?_;refine At.dP (ι:=Nat×An) [7,8,9,10,13,14,15,16,17,18,19,20,21,22,23,24,25,26,27,28,29,30,31,32,33,34,35,36,37,38,39,40,41,42,43,44,45,46,47,48,49,50,51,52,53,54,55,56,57,58,59,60,61,62,63,64,65,66,67,68,69,70] (fun⟨k,a⟩=>[(13,.int .i64 (k:Int))]) (fun⟨k,a⟩=>[]) (fun⟨k,a⟩=>[[(b2,.cells (An.cells a (⟨none,0,[]⟩:Sl Pr)) 45 (0,0))],aE tb xb (⟨bz,op,call,lt,none,ov,an⟩:Th) .nilFunc s,ao xb ba q,M]) _ (fun⟨k,a⟩=>k<=bs.l.length/\a=(bs.l.take k).foldl (xL r.p op.kind) .zero) (fun⟨k,a⟩=>bs.l.length-k) (0,.zero) ⟨Nat.zero_le _,rfl⟩ ⟨rfl,trivial⟩ (fun _ _=>trivial) (k_ (k_ (k_ (k_ r_)))) ?_;intro st hI;obtain⟨k,a⟩:=st;obtain⟨hk,ha⟩:=hI;refine fi (fun h1=>?_) (fun h1=>?_);obtain⟨x,hx⟩:=aD (l:=bs.l) (i:=k) (by omega);refine mc ?_;refine qt (bD underlying26 t3 rfl (.tail _ (.tail _ (.head _))) (by simp) rfl rfl (ae hx)) ?_;refine ld (Rd.kK (.tail _ (.tail _ (.head _))) (aI hx) rfl) ?_;refine ca (ea xb ba q r _ hA _) ?_;refine ca (FI ba r _ hA _) ?_;refine al fun b3=>?_;refine fi (fun h2=>?_) (fun h2=>?_);have h2:op.kind=8:=h2;refine ca (FJ ba r _ hA _) ?_;refine mc ?_;refine At.split (d:=55) rfl (fun h3=>?_) (fun h3=>?_);refine mc ?_;refine At.split (d:=59) rfl (fun h4=>?_) (fun h4=>?_);have h4:=bM h4;refine mc ?_;refine At.front 0 rfl ?_;refine At.front 2 rfl ?_;refine At.front 4 rfl ?_;refine At.front 4 rfl ?_;refine mc ?_;exact At.bX (k+1,⟨0,true,(r.p.g6 (r.p.base x).af).1,0,[]⟩) ⟨by omega,by rw[gV hx,<-ha];simp[xL,h2,h3,h4]⟩ (by(try dsimp only);omega) (bc.end 66 ⟨rfl,trivial⟩ rfl rfl) (fun _ h=>h) (k_ (k_ (k_ (k_ (d_ r_)))));refine sv 67 (.bool true) ?_ (e:=by exact congrArg Value.bool (by simp[h2]));refine mc ?_;have h4:=bV h4;refine mc ?_;refine At.front 0 rfl ?_;refine At.front 2 rfl ?_;refine At.front 4 rfl ?_;refine At.front 4 rfl ?_;refine mc ?_;exact At.bX (k+1,⟨0,true,(r.p.g6 (r.p.base x).af).1,0,[]⟩) ⟨by omega,by rw[gV hx,<-ha];simp[xL,h2,h3,h4]⟩ (by(try dsimp only);omega) (bc.end 67 ⟨rfl,trivial⟩ rfl rfl) (fun _ h=>h) (k_ (k_ (k_ (k_ (d_ r_)))));refine mc ?_;refine At.front 0 rfl ?_;refine At.front 2 rfl ?_;refine At.front 4 rfl ?_;refine At.front 4 rfl ?_;refine mc ?_;exact At.bX (k+1,a) ⟨by omega,by rw[gV hx,<-ha];simp[xL,h2,h3]⟩ (by(try dsimp only);omega) (bc.end 63 ⟨rfl,trivial⟩ rfl rfl) (fun _ h=>h) (k_ (k_ (k_ (k_ (d_ r_)))));have h2:¬op.kind=8:=h2;refine mc ?_;refine At.split (d:=55) rfl (fun h3=>?_) (fun h3=>?_)
 refine mc ?_;refine At.split (d:=59) rfl (fun h4=>?_) (fun h4=>?_);have h4:=bM h4;refine mc ?_;refine At.front 1 rfl ?_;refine At.front 2 rfl ?_;refine At.front 4 rfl ?_;refine At.front 4 rfl ?_;refine mc ?_;exact At.bX (k+1,⟨0,true,(r.p.ig (r.p.base x).af).1,0,[]⟩) ⟨by omega,by rw[gV hx,<-ha];simp[xL,h2,h3,h4]⟩ (by(try dsimp only);omega) (bc.end 53 ⟨rfl,trivial⟩ rfl rfl) (fun _ h=>h) (k_ (k_ (k_ (k_ (d_ r_)))));refine sv 67 (.bool false) ?_ (e:=by exact congrArg Value.bool (by simp[h2]));refine mc ?_;have h4:=bV h4;refine mc ?_;refine At.front 1 rfl ?_;refine At.front 2 rfl ?_;refine At.front 4 rfl ?_;refine At.front 4 rfl ?_;refine mc ?_;exact At.bX (k+1,a) ⟨by omega,by rw[gV hx,<-ha];simp[xL,h2,h3,h4]⟩ (by(try dsimp only);omega) (bc.end 52 ⟨rfl,trivial⟩ rfl rfl) (fun _ h=>h) (k_ (k_ (k_ (k_ (d_ r_)))));refine mc ?_;refine At.front 1 rfl ?_;refine At.front 2 rfl ?_;refine At.front 4 rfl ?_;refine At.front 4 rfl ?_;refine mc ?_;exact At.bX (k+1,a) ⟨by omega,by rw[gV hx,<-ha];simp[xL,h2,h3]⟩ (by(try dsimp only);omega) (bc.end 50 ⟨rfl,trivial⟩ rfl rfl) (fun _ h=>h) (k_ (k_ (k_ (k_ (d_ r_)))));obtain rfl:k=bs.l.length:=by omega
 rw[List.take_length]at ha;have hE:(sy (⟨bz,op,call,lt,none,ov,an⟩:Th) q r).gC bs.l=a:=ha.symm;refine re ?_;exact rs ⟨by rw[hE];rfl,rfl,rfl⟩
end
theorem nG (tb xb ba:Nat) (bz:Bool) (op:bA) (call:Int) (lt ov:Bool) (an:An) (s:Sl Pr) (hs:s.l=an.l) (q:Ix) (Mo:aO) (hO:bR 3 1 (q.ord.map aM) q.oa q.oc Mo) (hol:q.ord.length<1000000) (r:cX) (M:aO) (hA:aR ba r M) (bs:Sl Int) (hbl:bs.l.length<=1000000):aN prog 175 [.pointer (some ⟨tb,0,none⟩),bs.val] [ak r.rows,cw bs] [aE tb xb (⟨bz,op,call,lt,none,ov,an⟩:Th) .nilFunc s,ao xb ba q,M] (fun v Γ M'=>∃u:Sl Pr,v=((sy (⟨bz,op,call,lt,none,ov,an⟩:Th) q r).cy bs.l).val u/\Γ=[aC u]/\M'=[aE tb xb (⟨bz,op,call,lt,none,ov,an⟩:Th) .nilFunc s,ao xb ba q,M]/\u.l=((sy (⟨bz,op,call,lt,none,ov,an⟩:Th) q r).cy bs.l).l):=by
 refine cb fun X H₀ L₀=>?_;refine At.ck ?_;refine al fun b1=>?_;refine al fun b2=>?_;refine mc ?_;refine At.front 5 rfl ?_;refine At.front 5 rfl ?_;refine At.front 5 rfl ?_;refine At.front 5 rfl ?_;refine At.front 4 rfl ?_;refine At.dP (ι:=Nat×An×Option Addr×Nat×aO) [7,8,11,12,13,14,15,16,17,18,19,20,21,22,23,24,25,26,27,28,29,30,31,32,33,34,35,36,37,38,39,40,41,42,43,44,45,46,47,48,49,50,51,52,53,54,55,56,57,58,59,60,61,62,63,64,65,66,67,68,69,70,71,72,73,74,75,76,77,78] (fun⟨k,a,sa,sc,Ms⟩=>[(11,.int .i64 (k:Int))]) (fun⟨k,a,sa,sc,Ms⟩=>[]) (fun⟨k,a,sa,sc,Ms⟩=>[[(b2,.cells (An.cells a ⟨sa,sc,a.l⟩) 45 (0,0))],Ms,aE tb xb (⟨bz,op,call,lt,none,ov,an⟩:Th) .nilFunc s,ao xb ba q,M]) _ (fun⟨k,a,sa,sc,Ms⟩=>k<=bs.l.length/\a=(bs.l.take k).foldl (pq r.p op) .zero/\bR 43 2 (a.l.map js) sa sc Ms) (fun⟨k,a,sa,sc,Ms⟩=>bs.l.length-k) (0,.zero,none,0,[]) ⟨Nat.zero_le _,rfl,bR.nil _ _⟩ ⟨rfl,trivial⟩ (fun _ _=>trivial) (k_ (k_ (k_ (k_ (k_ r_))))) ?_;intro st hI;obtain⟨k,a,sa,sc,Ms⟩:=st;obtain⟨hk,ha,hOr⟩:=hI
 have hal:a.l.length<=60000*1000000:=by
  have h0:=uL (A:=r.p) (o:=op) (bs.l.take k) .zero;rw[<-ha]at h0;simp only[An.zero,List.length_nil,List.length_take]at h0;omega
 refine fi (fun h1=>?_) (fun h1=>?_);obtain⟨x,hx⟩:=aD (l:=bs.l) (i:=k) (by omega);have hrl:=Ar.wh (A:=r.p) (t:=(r.p.base x).af) (lo:=op.key) (hi:=op.hi);refine mc ?_;refine qt (bD underlying26 t3 rfl (.tail _ (.tail _ (.head _))) (by simp) rfl rfl (ae hx)) ?_;refine ld (Rd.kK (.tail _ (.tail _ (.head _))) (aI hx) rfl) ?_;refine ca (ea xb ba q r _ hA _) ?_;refine fi (fun h2=>?_) (fun h2=>?_);have h2:op.kind=6:=h2;refine dw 21 [20] (k_ (d_ (k_ (k_ (k_ (k_ r_)))))) ?_;refine oA (FV ba r _ hA _ _ _) ?_;refine mc ?_;refine qt (dY rfl rfl) ?_;refine mc ?_;refine At.front 0 rfl ?_;refine At.front 1 rfl ?_;refine At.front 4 rfl ?_;refine At.front 4 rfl ?_;refine At.front 4 rfl ?_;refine mc ?_;exact At.bX (k+1,{a with n:=IntKind.i64.wrap (a.n+((r.p.range (r.p.base x).af op.key op.hi).length:Int))},sa,sc,Ms) ⟨by omega,by rw[gV hx,<-ha];simp[pq,h2],hOr⟩ (by(try dsimp only);omega) (bc.end 44 ⟨rfl,trivial⟩ rfl rfl) (fun _ h=>h) (k_ (k_ (k_ (k_ (k_ r_)))));have h2:¬op.kind=6:=h2;refine dw 21 [20] (k_ (d_ (k_ (k_ (k_ (k_ r_)))))) ?_;refine oA (Du ba r _ hA _ _ _) ?_;rintro _ _ _ ⟨u,rfl,rfl,rfl,hu⟩;refine mc ?_;have hu:u.l=(r.p.range (r.p.base x).af op.key op.hi):=hu;have hul:u.l.length<=60000:=by rw[hu];exact hrl
 have hsl:(⟨sa,sc,a.l⟩:Sl Pr).l.length<=60000*1000000:=hal;refine lM (fO rfl underlying24 t43 rfl rfl hOr (by simp) (i:=3) rfl (.head _) (by simp) (jt (fun _=>rfl) _) rfl rfl (by omega) (by unfold maxLen;omega)) ?_;rintro _ _ _ ⟨sa2,sc2,Ms2,rfl,ow,rfl,rfl⟩;have ow2:bR 43 2 ((a.l++(r.p.range (r.p.base x).af op.key op.hi)).map js) sa2 sc2 Ms2:=by rw[<-hu];simpa using ow
 refine sv 72 (.slice sa2 (a.l++(r.p.range (r.p.base x).af op.key op.hi)).length sc2) ?_ (e:=by rw[<-hu];simp);refine mc ?_;refine At.front 0 rfl ?_;refine At.front 1 rfl ?_;refine At.front 4 rfl ?_;refine At.front 4 rfl ?_;refine At.front 4 rfl ?_;refine mc ?_;exact At.bX (k+1,{a with l:=a.l++(r.p.range (r.p.base x).af op.key op.hi),n:=((a.l++(r.p.range (r.p.base x).af op.key op.hi)).length:Int)},sa2,sc2,Ms2) ⟨by omega,by rw[gV hx,<-ha];simp[pq,h2],ow2⟩ (by(try dsimp only);omega) (bc.end 49 ⟨rfl,trivial⟩ rfl rfl) (fun _ h=>h.2) (k_ (k_ (k_ (k_ (k_ r_)))));obtain rfl:k=bs.l.length:=by omega
 rw[List.take_length]at ha;have hE:(sy (⟨bz,op,call,lt,none,ov,an⟩:Th) q r).cy bs.l=a:=ha.symm;refine At.da 1 hOr rfl ?_;refine re ?_;exact rs ⟨⟨sa,sc,a.l⟩,by rw[hE];rfl,rfl,rfl,by rw[hE]⟩
end Go.Proofs.YtcnohdmimheoaaaGreat
namespace Go.Proofs.YtcnohdmimheoaaaGreat
open E Go.Proofs.Tryz
theorem zB {s:Sy} {lo hi qt:Int} {w:KW} (h:(s.ar.aH 0).2.1≠0\/((s.ar.aH 0).2.2.make 7 [lo,hi,(s.ar.aH 0).1,qt,s.th.call]).2.1≠0):
  s.whole lo hi qt w=(s.bq ((s.ar.aH 0).2.2.make 7 [lo,hi,(s.ar.aH 0).1,qt,s.th.call]).2.2).full:=by
 unfold Sy.whole;generalize s.ar.aH 0=q at h⊢;rcases q with⟨a,b,c⟩;simp only[]at h⊢;generalize c.make 7 [lo,hi,a,qt,s.th.call]=q at h⊢;rcases q with⟨d,e,f⟩;exact if_pos h
theorem Dw {s:Sy} {lo hi qt:Int} {w:KW} (h:¬(s.ar.aH 0).2.1≠0) (h2:¬((s.ar.aH 0).2.2.make 7 [lo,hi,(s.ar.aH 0).1,qt,s.th.call]).2.1≠0):
  s.whole lo hi qt w=(s.bq ((s.ar.aH 0).2.2.make 7 [lo,hi,(s.ar.aH 0).1,qt,s.th.call]).2.2).dx
   ⟨((s.ar.aH 0).2.2.make 7 [lo,hi,(s.ar.aH 0).1,qt,s.th.call]).2.2.store ((s.ar.aH 0).2.2.make 7 [lo,hi,(s.ar.aH 0).1,qt,s.th.call]).1,[],false⟩ lo (.whole lo hi qt w):=by
 unfold Sy.whole;generalize s.ar.aH 0=q at h h2⊢;rcases q with⟨a,b,c⟩;simp only[]at h h2⊢;generalize c.make 7 [lo,hi,a,qt,s.th.call]=q at h2⊢;rcases q with⟨d,e,f⟩;exact if_neg (fun h3=>h3.elim h h2)
end Go.Proofs.YtcnohdmimheoaaaGreat
namespace Go.Proofs.YtcnohdmimheoaaaGreat
open E Ar Go.Proofs.Tryz
theorem OP:kW prog 255=some [(0,6,false),(6,1,true),(7,1,true)]:=by kernel_rfl
theorem uM (tb xb ba:Nat) (bz:Bool) (op:bA) (call:Int) (lt ov:Bool) (an:An) (s:Sl Pr) (hs:s.l=an.l) (q:Ix) (Mo:aO) (hO:bR 3 1 (q.ord.map aM) q.oa q.oc Mo) (hol:q.ord.length<1000000) (r:cX) (M:aO) (hA:aR ba r M) (lo hi qt:Int) (w:KW) (wv:Value):aN prog 171 [.pointer (some ⟨tb,0,none⟩),.int .i64 lo,.int .i64 hi,.int .i64 qt,wv] [ak r.rows,aC s,AW tb w wv] [aE tb xb (⟨bz,op,call,lt,none,ov,an⟩:Th) .nilFunc s,ao xb ba q,Mo,M] (aX tb xb ba q ((sy (⟨bz,op,call,lt,none,ov,an⟩:Th) q r).whole lo hi qt w)):=by
 refine cb fun X H₀ L₀=>?_;refine At.have (eN wv) (fun _ h=>I4 h.2.2.2.1) fun hf=>?_;obtain⟨f_wv,a_wv,c_wv,rfl⟩:=hf;refine At.aJ (aC (⟨none,0,[]⟩:Sl Pr)) (fun _ h=>dh _ _ _ (Nat.zero_le _)) ?_;refine At.aJ (jX tb none [] .nilFunc) (fun _ h=>bK () rfl trivial) ?_;refine bx fun b1=>?_;refine bx fun b2=>?_;refine bx fun b3=>?_;refine bx fun b4=>?_;refine bx fun b5=>?_;refine ca (sS ba r _ hA _) ?_;intro r2 N2 hA2 hr2;refine dw 21 [15,16] (d_ (k_ (k_ (k_ r_)))) ?_;refine mc ?_;refine oM rfl (aP (rows:=[lo,hi,(r.p.aH 0).1,qt,call].map aM) underlying26 t3 rfl rfl rfl rfl rfl (by simp[aM]) rfl rfl (by decide)) ?_;rintro _ _ _ ⟨b6,rfl,rfl,rfl⟩;refine oA (cJ ba r2 _ hA2 7 ⟨some ⟨b6,0,none⟩,5,[lo,hi,(r.p.aH 0).1,qt,call]⟩) ?_;intro r3 N3 hA3 hr3;refine sp 48 (fun h1=>?_) (fun h1=>?_);refine ca (sV tb xb _ _ _) ?_;rintro _ _ _ ⟨rfl,rfl⟩;refine mc ?_;refine At.ck ?_;refine re ?_;exact rs (by rw[zB (s:=sy _ q r) (.inl h1)];dsimp only[sy];rw[<-hr2,<-hr3];exact⟨q,r3,.nilFunc,(⟨none,0,[]⟩:Sl Pr),_,_,[],[],rfl,rfl,hO,hA3,rfl,rfl,Ix.az q,rfl⟩);refine fi (fun h2=>?_) (fun h2=>?_);refine ca (sV tb xb _ _ _) ?_;rintro _ _ _ ⟨rfl,rfl⟩;refine mc ?_;refine At.ck ?_;refine re ?_;exact rs (by rw[zB (s:=sy _ q r) (.inr (by rw[hr2]at h2;exact h2))];dsimp only[sy];rw[<-hr2,<-hr3];exact⟨q,r3,.nilFunc,(⟨none,0,[]⟩:Sl Pr),_,_,[],[],rfl,rfl,hO,hA3,rfl,rfl,Ix.az q,rfl⟩);refine ca (uC xb ba q r3 _ hA3 _) ?_;refine sG 60 (.agg #[.int .i64 (r3.p.store (r2.p.make 7 [lo,hi,(r.p.aH 0).1,qt,call]).1).id,.int .i64 (r3.p.store (r2.p.make 7 [lo,hi,(r.p.aH 0).1,qt,call]).1).lo,.int .i64 (r3.p.store (r2.p.make 7 [lo,hi,(r.p.aH 0).1,qt,call]).1).hi,.int .i64 (r3.p.store (r2.p.make 7 [lo,hi,(r.p.aH 0).1,qt,call]).1).result,.bool (r3.p.store (r2.p.make 7 [lo,hi,(r.p.aH 0).1,qt,call]).1).quiet,.int .i64 (r3.p.store (r2.p.make 7 [lo,hi,(r.p.aH 0).1,qt,call]).1).call,.slice none 0 0,.bool false]) ?_;refine al fun b7=>?_;refine al fun b8=>?_;refine mc ?_;refine At.freeze 0 (φ:=aW b8 _) rfl (fun _ h=>cO.2 ⟨_,_,h⟩) ?_;refine mc ?_;refine At.aJ (fT tb (.whole lo hi qt w) b7 [] (dE 220 [b5,b1,b8,b2,b3,b4])) (fun _ h=>bK ((b5,b1,b8),b2,b3,b4,.func f_wv a_wv c_wv) rfl ⟨h.2.2.2.2.1,h.2.2.2.2.2.2.2.2.1,h.1,h.2.2.2.2.2.2.2.1,h.2.2.2.2.2.2.1,h.2.2.2.2.2.1,h.2.2.2.2.2.2.2.2.2.2.2.2.2.2.1,trivial⟩) ?_;refine ca (lE tb xb _ _ s ba q (b7,.nilFunc) ⟨(r3.p.store (r2.p.make 7 [lo,hi,(r.p.aH 0).1,qt,call]).1),[],false⟩ lo (.whole lo hi qt w) [] _) ?_;rintro _ _ _ ⟨nv,bf,rfl,rfl⟩;refine mc ?_;refine At.front 3 rfl ?_;refine At.front 3 rfl ?_;refine At.cH ?_;refine re ?_;exact rs (by rw[Dw (s:=sy _ q r) h1 (by rw[hr2]at h2;exact h2)];dsimp only[sy];rw[<-hr2,<-hr3];exact⟨q,r3,nv,s,Mo,_,_,(bf,.nilFunc)::[(b7,.nilFunc)],rfl,rfl,hO,hA3,⟨_,rfl,⟨_,[],rfl,⟨none,0,[],rfl,bR.nil _ _⟩,rfl⟩⟩,rfl,Ix.az q,hs⟩)
end Go.Proofs.YtcnohdmimheoaaaGreat
namespace Go.Proofs.YtcnohdmimheoaaaGreat
open E Go.Proofs.Tryz
section
variable {s:Sy} {f:Fo}
include s f
theorem zC (h:(s.gC [f.b.id]).ok=true\/f.up=0):s.gD f .ends=s.gU (s.gC [f.b.id]):=by unfold Sy.gD;exact if_pos h
theorem Je (h:¬(s.gC [f.b.id]).ok=true) (h2:¬f.up=0):s.gD f .ends=s.whole Ar.jP Ar.jf 1 .ends:=by unfold Sy.gD;exact if_neg (fun h3=>h3.elim h h2)
theorem wq (h:f.cY=false\/s.th.op.hi<f.dW):s.gD f .dL=s.gU (s.cy [f.b.id]):=by unfold Sy.gD;exact if_pos h
theorem Ga (h:¬f.cY=false) (h2:¬s.th.op.hi<f.dW):s.gD f .dL=s.whole s.th.op.key s.th.op.hi 0 .dL:=by unfold Sy.gD;exact if_neg (fun h3=>h3.elim h h2)
end
end Go.Proofs.YtcnohdmimheoaaaGreat
namespace Go.Proofs.YtcnohdmimheoaaaGreat
open E Ar Go.Proofs.Tryz
theorem OQ:ah prog 126:=ah.mk' func126 rfl rfl
theorem OR:ah prog 127:=ah.mk' func127 rfl rfl
theorem OS:ah prog 174:=ah.mk' func174 rfl rfl
section
variable (tb xb ba:Nat) (bz:Bool) (op:bA) (call:Int) (lt ov:Bool) (an:An) (s:Sl Pr) (hs:s.l=an.l) (q:Ix) (Mo:aO) (hO:bR 3 1 (q.ord.map aM) q.oa q.oc Mo) (hol:q.ord.length<1000000) (r:cX) (M:aO) (hA:aR ba r M)
include tb xb ba bz op call lt ov an s hs q Mo hO hol r M hA
theorem Jf (f:Fo):aN prog 127 [.pointer (some ⟨tb,0,none⟩),f.val] [ak r.rows,aC s] [aE tb xb (⟨bz,op,call,lt,none,ov,an⟩:Th) .nilFunc s,ao xb ba q,Mo,M] (aX tb xb ba q ((sy (⟨bz,op,call,lt,none,ov,an⟩:Th) q r).gD f .ends)):=by
 refine cb fun X H₀ L₀=>?_;refine At.aJ (aC (⟨none,0,[]⟩:Sl Pr)) (fun _ h=>dh _ _ _ (Nat.zero_le _)) ?_;refine At.aJ (jX tb none [] .nilFunc) (fun _ h=>bK () rfl trivial) ?_;refine bx fun b1=>?_;refine bx fun b2=>?_;refine mc ?_;refine lM (aP (rows:=[f.b.id].map aM) underlying26 t3 rfl rfl rfl rfl rfl (by simp[aM]) rfl rfl (by decide)) ?_;rintro _ _ _ ⟨b3,rfl,rfl,rfl⟩;refine ca (wm tb xb ba bz op call lt ov an s hs q Mo hO hol r M hA (⟨some ⟨b3,0,none⟩,1,[f.b.id]⟩:Sl Int)) ?_;refine al fun b4=>?_;refine mc ?_;refine At.split (d:=13) rfl (fun h1=>?_) (fun h1=>?_);refine ca (lA tb xb _ _ _ ba q Mo hO hol ((sy (⟨bz,op,call,lt,none,ov,an⟩:Th) q r).gC [f.b.id]) (⟨none,0,[]⟩:Sl Pr)) ?_;rintro _ _ _ ⟨oa,ok,No,rfl,rfl,hO2⟩;refine mc ?_;refine At.ck ?_;refine At.front 0 rfl ?_;refine At.front 5 rfl ?_;refine At.front 4 rfl ?_;refine At.front 4 rfl ?_;refine At.front 4 rfl ?_;exact At.results (Γr:=[_,_,_]) (M:=[_,_,_,_,[]]) rfl aT.nil (ix 5 rfl) (fun _ h=>⟨h.2.2.2.2.2.2.1,h.2.2.2.1,h.2.2.2.2.1,trivial⟩) (k_ (k_ (k_ (k_ (k_ (d_ r_)))))) ((by rw[zC (s:=(sy (⟨bz,op,call,lt,none,ov,an⟩:Th) q r)) (.inl h1)];exact⟨{q with ord:=q.ord++[call],oa:=oa,oc:=ok},r,_,(⟨none,0,[]⟩:Sl Pr),No,M,[],[],rfl,rfl,hO2,hA,rfl,rfl,⟨rfl,rfl,rfl,rfl,rfl⟩,(xM _ _ rfl).symm⟩));refine fi (fun h2=>?_) (fun h2=>?_);refine ca (lA tb xb _ _ _ ba q Mo hO hol ((sy (⟨bz,op,call,lt,none,ov,an⟩:Th) q r).gC [f.b.id]) (⟨none,0,[]⟩:Sl Pr)) ?_;rintro _ _ _ ⟨oa,ok,No,rfl,rfl,hO2⟩;refine mc ?_;refine At.ck ?_;refine At.front 0 rfl ?_;refine At.front 5 rfl ?_;refine At.front 4 rfl ?_;refine At.front 4 rfl ?_;refine At.front 4 rfl ?_;exact At.results (Γr:=[_,_,_]) (M:=[_,_,_,_,[]]) rfl aT.nil (ix 5 rfl) (fun _ h=>⟨h.2.2.2.2.2.2.1,h.2.2.2.1,h.2.2.2.2.1,trivial⟩) (k_ (k_ (k_ (k_ (k_ (d_ r_)))))) ((by rw[zC (s:=(sy (⟨bz,op,call,lt,none,ov,an⟩:Th) q r)) (.inr h2)];exact⟨{q with ord:=q.ord++[call],oa:=oa,oc:=ok},r,_,(⟨none,0,[]⟩:Sl Pr),No,M,[],[],rfl,rfl,hO2,hA,rfl,rfl,⟨rfl,rfl,rfl,rfl,rfl⟩,(xM _ _ rfl).symm⟩));refine mc ?_;refine At.aJ (AW tb .ends (dE 172 [b1])) (fun _ h=>bK b1 rfl ⟨h.2.2.1,trivial⟩) ?_;refine ca (uM tb xb ba bz op call lt ov an s hs q Mo hO hol r M hA Ar.jP Ar.jf 1 .ends _) ?_;rintro _ _ _ ⟨q9,r9,nv9,sl9,No9,Na9,Nj9,l9,rfl,rfl,hE⟩;refine re ?_;exact rs (by rw[Je (s:=(sy (⟨bz,op,call,lt,none,ov,an⟩:Th) q r)) (by rw[show((sy (⟨bz,op,call,lt,none,ov,an⟩:Th) q r).gC [f.b.id]).ok=false from h1];simp) h2];exact⟨q9,r9,nv9,sl9,No9,Na9,Nj9,l9,rfl,rfl,hE⟩)
theorem Gb (b:Nat) (f:Fo):aN prog 174 [f.val,.pointer (some ⟨b,0,none⟩)] [ak r.rows,aC s,eY tb b] [aE tb xb (⟨bz,op,call,lt,none,ov,an⟩:Th) .nilFunc s,ao xb ba q,Mo,M] (aX tb xb ba q ((sy (⟨bz,op,call,lt,none,ov,an⟩:Th) q r).gD f .dL)):=by
 refine cb fun X H₀ L₀=>?_;refine At.aJ (aC (⟨none,0,[]⟩:Sl Pr)) (fun _ h=>dh _ _ _ (Nat.zero_le _)) ?_;refine At.aJ (jX tb none [] .nilFunc) (fun _ h=>bK () rfl trivial) ?_;refine bx fun b1=>?_;refine dw 11 [] r_ ?_;refine mc ?_;refine aQ.split (d:=6) rfl (fun h1=>?_) (fun h1=>?_);refine dw 7 [5,6] (d_ (d_ (k_ (d_ r_)))) ?_;refine mc ?_;refine oM rfl (aP (rows:=[f.b.id].map aM) underlying26 t3 rfl rfl rfl rfl rfl (by simp[aM]) rfl rfl (by decide)) ?_;rintro _ _ _ ⟨b2,rfl,rfl,rfl⟩;refine oA (nG tb xb ba bz op call lt ov an s hs q Mo hO hol r M hA (⟨some ⟨b2,0,none⟩,1,[f.b.id]⟩:Sl Int) (by simp)) ?_;rintro _ _ _ ⟨u,rfl,rfl,rfl,hu⟩;refine ca (lA tb xb _ _ _ ba q Mo hO hol ((sy (⟨bz,op,call,lt,none,ov,an⟩:Th) q r).cy [f.b.id]) u) ?_;rintro _ _ _ ⟨oa,ok,No,rfl,rfl,hO2⟩;refine mc ?_;refine At.ck ?_;refine At.front 0 rfl ?_;refine At.front 4 rfl ?_;refine At.front 4 rfl ?_;refine At.front 4 rfl ?_;refine At.front 4 rfl ?_;exact At.results (Γr:=[_,_,_]) (M:=[_,_,_,_,[]]) rfl aT.nil (ix 5 rfl) (fun _ h=>⟨h.2.2.2.2.2.2.1,h.2.2.2.1,h.1,trivial⟩) (k_ (k_ (k_ (k_ (k_ r_))))) ((by rw[wq (s:=(sy (⟨bz,op,call,lt,none,ov,an⟩:Th) q r)) (.inl (bM h1))];exact⟨{q with ord:=q.ord++[call],oa:=oa,oc:=ok},r,_,u,No,M,[],[],rfl,rfl,hO2,hA,rfl,rfl,⟨rfl,rfl,rfl,rfl,rfl⟩,hu⟩));refine fi (fun h2=>?_) (fun h2=>?_);refine dw 7 [5,6] (d_ (d_ (k_ (d_ r_)))) ?_;refine mc ?_;refine oM rfl (aP (rows:=[f.b.id].map aM) underlying26 t3 rfl rfl rfl rfl rfl (by simp[aM]) rfl rfl (by decide)) ?_;rintro _ _ _ ⟨b3,rfl,rfl,rfl⟩;refine oA (nG tb xb ba bz op call lt ov an s hs q Mo hO hol r M hA (⟨some ⟨b3,0,none⟩,1,[f.b.id]⟩:Sl Int) (by simp)) ?_;rintro _ _ _ ⟨u,rfl,rfl,rfl,hu⟩;refine ca (lA tb xb _ _ _ ba q Mo hO hol ((sy (⟨bz,op,call,lt,none,ov,an⟩:Th) q r).cy [f.b.id]) u) ?_;rintro _ _ _ ⟨oa,ok,No,rfl,rfl,hO2⟩;refine mc ?_;refine At.ck ?_;refine At.front 0 rfl ?_;refine At.front 4 rfl ?_;refine At.front 4 rfl ?_;refine At.front 4 rfl ?_;refine At.front 4 rfl ?_;exact At.results (Γr:=[_,_,_]) (M:=[_,_,_,_,[]]) rfl aT.nil (ix 5 rfl) (fun _ h=>⟨h.2.2.2.2.2.2.1,h.2.2.2.1,h.1,trivial⟩) (k_ (k_ (k_ (k_ (k_ r_))))) ((by rw[wq (s:=(sy (⟨bz,op,call,lt,none,ov,an⟩:Th) q r)) (.inr h2)];exact⟨{q with ord:=q.ord++[call],oa:=oa,oc:=ok},r,_,u,No,M,[],[],rfl,rfl,hO2,hA,rfl,rfl,⟨rfl,rfl,rfl,rfl,rfl⟩,hu⟩));refine dw 12 [] r_ ?_;refine mc ?_;refine At.aJ (AW tb .dL (dE 176 [b])) (fun _ h=>bK b rfl ⟨h.2.2.2.2.2.2.1,trivial⟩) ?_;refine ca (uM tb xb ba bz op call lt ov an s hs q Mo hO hol r M hA op.key op.hi 0 .dL _) ?_;rintro _ _ _ ⟨q9,r9,nv9,sl9,No9,Na9,Nj9,l9,rfl,rfl,hE⟩;refine re ?_;exact rs (by rw[Ga (s:=(sy (⟨bz,op,call,lt,none,ov,an⟩:Th) q r)) (by rw[bV h1];simp) h2];exact⟨q9,r9,nv9,sl9,No9,Na9,Nj9,l9,rfl,rfl,hE⟩)
theorem Gc (f:Fo) {g:KG} {v:Value} {H:Hp} (hr:(ak r.rows).holds H) (hps:(aC s).holds H) (h:(oD tb g v).holds H):
  eI v [f.val] H [aE tb xb (⟨bz,op,call,lt,none,ov,an⟩:Th) .nilFunc s,ao xb ba q,Mo,M] (aX tb xb ba q ((sy (⟨bz,op,call,lt,none,ov,an⟩:Th) q r).gD f g)):=by
 cases g with
 |qV=>
  obtain⟨x,rfl,_⟩:=h;exact .of (Jd tb xb ba bz op call lt ov an s hs q Mo hO hol r M hA f) rfl OQ ⟨hr,hps,trivial⟩
 |ends=>
  obtain⟨x,rfl,_⟩:=h;exact .of (Jf tb xb ba bz op call lt ov an s hs q Mo hO hol r M hA f) rfl OR ⟨hr,hps,trivial⟩
 |dL=>
  obtain⟨x,rfl,h1,_⟩:=h;exact .of (Gb tb xb ba bz op call lt ov an s hs q Mo hO hol r M hA x f) rfl OS ⟨hr,hps,h1,trivial⟩
end
theorem OT:ah prog 162:=ah.mk' func162 rfl rfl
theorem OU:ah prog 179:=ah.mk' func179 rfl rfl
section
variable (tb xb ba:Nat) (bz:Bool) (op:bA) (call:Int) (lt ov:Bool) (an:An) (s:Sl Pr) (hs:s.l=an.l) (q:Ix) (Mo:aO) (hO:bR 3 1 (q.ord.map aM) q.oa q.oc Mo) (hol:q.ord.length<1000000) (r:cX) (M:aO) (hA:aR ba r M)
include tb xb ba bz op call lt ov an s hs q Mo hO hol r M hA
theorem Mi (b1 b2:Nat) (a:An) (sa:Sl Pr) (hsa:sa.l=a.l):aN prog 162 [.pointer (some ⟨b1,0,none⟩),.pointer (some ⟨b2,0,none⟩)] [ak r.rows,aC s,eY tb b1,aW b2 (a.cells sa),aC sa] [aE tb xb (⟨bz,op,call,lt,none,ov,an⟩:Th) .nilFunc s,ao xb ba q,Mo,M] (aX tb xb ba q ((sy (⟨bz,op,call,lt,none,ov,an⟩:Th) q r).ret a)):=by
 refine cb fun X H₀ L₀=>?_;refine At.aJ (jX tb none [] .nilFunc) (fun _ h=>bK () rfl trivial) ?_;refine ca (gR tb xb _ _ _ a sa) ?_;rintro _ _ _ ⟨rfl,rfl⟩;refine mc ?_;refine At.ck ?_;refine re ?_;exact rs ⟨q,r,_,sa,_,_,[],[],rfl,rfl,hO,hA,rfl,rfl,Ix.az q,hsa⟩
theorem Mn (b1 b2:Nat) (a:An) (sa:Sl Pr) (hsa:sa.l=a.l):aN prog 179 [.pointer (some ⟨b1,0,none⟩),.pointer (some ⟨b2,0,none⟩)] [ak r.rows,aC s,eY tb b1,aW b2 (a.cells sa),aC sa] [aE tb xb (⟨bz,op,call,lt,none,ov,an⟩:Th) .nilFunc s,ao xb ba q,Mo,M] (aX tb xb ba q ((sy (⟨bz,op,call,lt,none,ov,an⟩:Th) q r).ret a)):=by
 refine cb fun X H₀ L₀=>?_;refine At.aJ (jX tb none [] .nilFunc) (fun _ h=>bK () rfl trivial) ?_;refine ca (gR tb xb _ _ _ a sa) ?_;rintro _ _ _ ⟨rfl,rfl⟩;refine mc ?_;refine At.ck ?_;refine re ?_;exact rs ⟨q,r,_,sa,_,_,[],[],rfl,rfl,hO,hA,rfl,rfl,Ix.az q,hsa⟩
theorem gA {a:An} {v:Value} {H:Hp} (hr:(ak r.rows).holds H) (hps:(aC s).holds H) (h:(eS tb a v).holds H):
  eI v [] H [aE tb xb (⟨bz,op,call,lt,none,ov,an⟩:Th) .nilFunc s,ao xb ba q,Mo,M] (aX tb xb ba q ((sy (⟨bz,op,call,lt,none,ov,an⟩:Th) q r).ret a)):=by
 obtain⟨⟨f,b1,b2,sa⟩,⟨hf,rfl,hsa⟩,h1,h2,h3,_⟩:=h;rcases hf with hf|hf
 cases hf;exact .of (Mi tb xb ba bz op call lt ov an s hs q Mo hO hol r M hA b1 b2 a sa hsa) rfl OT ⟨hr,hps,h1,h2,h3,trivial⟩
 cases hf;exact .of (Mn tb xb ba bz op call lt ov an s hs q Mo hO hol r M hA b1 b2 a sa hsa) rfl OU ⟨hr,hps,h1,h2,h3,trivial⟩
end
theorem eI.fI {v:Value} {args:List Value} {H:Hp} {A B C D:aO} {R:Value->List ag->E.Loc->Prop} (h:eI v args H [A,B,C,D] R):eI v args H [A,B,C,D,[]] R:=by
 obtain⟨f,fi,ca,all,pre,e1,e2,e3,e4,e5⟩:=h;exact⟨f,fi,ca,all,pre,e1,e2,e3,e4,aN.fI e5⟩
section
variable (tb xb ba:Nat) (bz:Bool) (op:bA) (call:Int) (lt ov:Bool) (an:An) (s:Sl Pr) (hs:s.l=an.l) (q:Ix) (Mo:aO) (hO:bR 3 1 (q.ord.map aM) q.oa q.oc Mo) (hol:q.ord.length<1000000) (r:cX) (M:aO) (hA:aR ba r M)
include tb xb ba bz op call lt ov an s hs q Mo hO hol r M hA
theorem Gf {t:KT} {l:Ax} {v:Value} {H:Hp} {Mj:aO} (hr:(ak r.rows).holds H) (hps:(aC s).holds H) (h:(ju tb t l v).holds H) (hJ:qi t l Mj):
  eI v [] H [aE tb xb (⟨bz,op,call,lt,none,ov,an⟩:Th) .nilFunc s,ao xb ba q,Mo,M,Mj] (aX tb xb ba q ((sy (⟨bz,op,call,lt,none,ov,an⟩:Th) q r).runT t)):=by
 match t,l,h,hJ with
 | .ret a,[],h,hJ=>cases hJ;exact(gA tb xb ba bz op call lt ov an s hs q Mo hO hol r M hA hr hps h).fI
 | .u u,l,h,hJ=>exact uK tb xb ba bz op call lt ov an s hs q Mo hO hol r M hA hr hps h hJ
 | .ret _,_::_,h,_=>exact False.elim h
theorem jE (m:MB) (t:KT) (l:Ax) (tv:Value) (Mj:aO) (hJ:qi t l Mj):aN prog 234 [.pointer (some ⟨tb,0,none⟩),m.val,tv] [ak r.rows,aC s,ju tb t l tv] [aE tb xb (⟨bz,op,call,lt,none,ov,an⟩:Th) .nilFunc s,ao xb ba q,Mo,M,Mj] (aX tb xb ba q ((sy (⟨bz,op,call,lt,none,ov,an⟩:Th) q r).cK m t)):=by
 refine cb fun X H₀ L₀=>?_;refine At.have (eN tv) (fun _ h=>B9 h.2.2.2.1) fun hf=>?_;obtain⟨f_tv,a_tv,c_tv,rfl⟩:=hf;refine bx fun b1=>?_;refine bx fun b2=>?_;refine mc ?_;refine At.aJ (eZ tb (.cK t) l (dE 256 [b2])) (fun _ h=>bK (b2,.func f_tv a_tv c_tv) rfl ⟨h.1,h.2.2.2.2.2.1,trivial⟩) ?_;refine ca (dR tb xb _ _ _ (m.state) (-1) (-2) (.cK t) (l) _) ?_;rintro _ _ _ ⟨nv,rfl,rfl⟩;refine re ?_;exact rs ⟨q,r,nv,s,Mo,_,Mj,l,rfl,rfl,hO,hA,hJ,rfl,Ix.az q,hs⟩
theorem sf (m:MB) (u:KU) (l:Ax) (uv:Value) (Mj:aO) (hJ:AX u l Mj):aN prog 203 [.pointer (some ⟨tb,0,none⟩),m.val,uv] [ak r.rows,aC s,qh tb u l uv] [aE tb xb (⟨bz,op,call,lt,none,ov,an⟩:Th) .nilFunc s,ao xb ba q,Mo,M,Mj] (aX tb xb ba q ((sy (⟨bz,op,call,lt,none,ov,an⟩:Th) q r).go (.load m.state (.cE m u)))):=by
 refine cb fun X H₀ L₀=>?_;refine At.have (eN uv) (fun _ h=>xH h.2.2.2.1) fun hf=>?_;obtain⟨f_uv,a_uv,c_uv,rfl⟩:=hf;refine bx fun b1=>?_;refine bx fun b2=>?_;refine bx fun b3=>?_;refine mc ?_;refine At.aJ (iu tb (.cE m u) l (dE 233 [b1,b2,b3])) (fun _ h=>bK ((b1,b2,b3),.func f_uv a_uv c_uv) rfl ⟨h.2.2.1,h.2.1,h.1,h.2.2.2.2.2.2.1,trivial⟩) ?_;refine ca (gn tb xb _ _ _ (m.state) (.cE m u) (l) _) ?_;rintro _ _ _ ⟨nv,rfl,rfl⟩;refine re ?_;exact rs ⟨q,r,nv,s,Mo,_,Mj,l,rfl,rfl,hO,hA,hJ,rfl,Ix.az q,hs⟩
theorem qu (m:MB) (p:Pl) (t:KT) (l:Ax) (tv:Value) (Mj:aO) (hJ:qi t l Mj):aN prog 235 [.pointer (some ⟨tb,0,none⟩),m.val,p.val,tv] [ak r.rows,aC s,ju tb t l tv] [aE tb xb (⟨bz,op,call,lt,none,ov,an⟩:Th) .nilFunc s,ao xb ba q,Mo,M,Mj] (aX tb xb ba q ((sy (⟨bz,op,call,lt,none,ov,an⟩:Th) q r).eD m p t)):=by
 refine cb fun X H₀ L₀=>?_;refine At.have (eN tv) (fun _ h=>B9 h.2.2.2.1) fun hf=>?_;obtain⟨f_tv,a_tv,c_tv,rfl⟩:=hf;refine bx fun b1=>?_;refine bx fun b2=>?_;refine bx fun b3=>?_;refine bx fun b4=>?_;refine al fun b5=>?_;refine mc ?_;refine At.aJ (xG tb m p (ju tb t l) (dE 257 [b1,b2,b3,b4])) (fun _ h=>bK ((b1,b2,b3,b4),.func f_tv a_tv c_tv) rfl ⟨h.2.2.2.1,h.2.2.1,h.2.1,h.1,h.2.2.2.2.2.2.2.1,trivial⟩) ?_;refine At.freeze 0 (φ:=aW b5 _) rfl (fun _ h=>cO.2 ⟨_,_,h⟩) ?_;refine dv 14 [0,1,2,3,4,5,6,9,10,11,12,13,107,8] (k_ (d_ (k_ (d_ (k_ r_))))) ?_;refine oA (ea xb ba q r _ hA _) ?_;refine mc ?_;refine At.aJ (eZ tb (.fQ m p t) l (dE 259 [b1,b3,b5,b2])) (fun _ h=>bK ((b1,b3,b5,b2),dE 257 [b1,b2,b3,b4]) rfl ⟨h.2.2.2.2.2.1,h.2.2.2.1,h.1,h.2.2.2.2.1,h.2.1,trivial⟩) ?_;refine ca (dR tb xb _ _ _ ((r.p.base p.ai).home) (p.ai) (p.dZ) (.fQ m p t) (l) _) ?_;rintro _ _ _ ⟨nv,rfl,rfl⟩;refine re ?_;exact rs ⟨q,r,nv,s,Mo,_,Mj,l,rfl,rfl,hO,hA,hJ,rfl,Ix.az q,hs⟩
theorem Gg (b:Bs) (key:Int) (a:An) (av:Value):aN prog 212 [.pointer (some ⟨tb,0,none⟩),b.val,.int .i64 key,av] [ak r.rows,aC s,eS tb a av] [aE tb xb (⟨bz,op,call,lt,none,ov,an⟩:Th) .nilFunc s,ao xb ba q,Mo,M] (aX tb xb ba q ((sy (⟨bz,op,call,lt,none,ov,an⟩:Th) q r).find key (.aA b a))):=by
 refine cb fun X H₀ L₀=>?_;refine At.have (eN av) (fun _ h=>sU h.2.2.2.1) fun hf=>?_;obtain⟨f_av,a_av,c_av,rfl⟩:=hf;refine bx fun b1=>?_;refine bx fun b2=>?_;refine bx fun b3=>?_;refine mc ?_;refine At.aJ (uF tb (.aA b a) [] (dE 247 [b2,b3,b1])) (fun _ h=>bK ((b2,b3,b1),.func f_av a_av c_av) rfl ⟨h.2.1,h.1,h.2.2.1,h.2.2.2.2.2.2.1,trivial⟩) ?_;refine ca (sX tb xb _ _ s ba q key (.aA b a) [] _) ?_;rintro _ _ _ ⟨nv,bf,rfl,rfl⟩;refine re ?_;exact rs ⟨q,r,nv,s,Mo,M,_,(bf,.nilFunc)::[],rfl,rfl,hO,hA,⟨_,rfl,rfl⟩,rfl,Ix.az q,hs⟩
end
end Go.Proofs.YtcnohdmimheoaaaGreat
namespace Go.Proofs.YtcnohdmimheoaaaGreat
open E Go.Proofs.Tryz
abbrev Ni (A:Ar) (t:Int):=A.half t
abbrev Nk (A:Ar) (t:Int):=cellOf (Ni A t).2.2.2.2 (Ni A t).2.1
abbrev Nl (A:Ar) (t:Int):=cellOf (Nk A t).2.2.2 (Ni A t).2.2.1
abbrev Nm (A:Ar) (t:Int):=(Nl A t).2.2.2.aH 0
abbrev Jg (A:Ar) (t:Int):=(Nm A t).2.2.make 2 [(Ni A t).1,(Nk A t).1,(Nl A t).1,(Nm A t).1]
theorem Dx {s:Sy} {b:Bs} {a:An} (h:(s.ar.half b.af).2.2.2.1≠0):s.split b a=(s.bq (s.ar.half b.af).2.2.2.2).ret a:=by
 unfold Sy.split;generalize s.ar.half b.af=q at h⊢;rcases q with⟨q1,q2,q3,q4,q5⟩;exact if_pos h
def A3 (s:Sy) (b:Bs) (a:An) (q1:Int×Int×Int×Int×Ar) (q2 q3:Int×Int×Int×Ar) (q4 q5:Int×Int×Ar):Sy:=
 if q2.2.2.1≠0\/q3.2.2.1≠0\/q4.2.1≠0\/q5.2.1≠0 then(s.bq q5.2.2).ret a else(s.bq q5.2.2).go (.swap b.home b.id q5.1 (.split a))
theorem Gi {s:Sy} {b:Bs} {a:An} (h:¬(s.ar.half b.af).2.2.2.1≠0):s.split b a=A3 s b a (Ni s.ar b.af) (Nk s.ar b.af) (Nl s.ar b.af) (Nm s.ar b.af) (Jg s.ar b.af):=by
 unfold Sy.split Jg Nm Nl Nk Ni;generalize s.ar.half b.af=q at h⊢;rcases q with⟨q1,q2,q3,q4,q5⟩;show(if q4≠0 then _ else _)=_;rw[if_neg h];rfl
section
variable {s:Sy} {b:Bs} {a:An} (h0:¬(s.ar.half b.af).2.2.2.1≠0)
include s b a h0
theorem s6 (h:(Nk s.ar b.af).2.2.1≠0\/(Nl s.ar b.af).2.2.1≠0\/(Nm s.ar b.af).2.1≠0\/(Jg s.ar b.af).2.1≠0):s.split b a=(s.bq (Jg s.ar b.af).2.2).ret a:=by
 rw[Gi h0];unfold A3;rw[if_pos h]
theorem Gj (h1:¬(Nk s.ar b.af).2.2.1≠0) (h2:¬(Nl s.ar b.af).2.2.1≠0) (h3:¬(Nm s.ar b.af).2.1≠0) (h4:¬(Jg s.ar b.af).2.1≠0):
  s.split b a=(s.bq (Jg s.ar b.af).2.2).go (.swap b.home b.id (Jg s.ar b.af).1 (.split a)):=by
 rw[Gi h0];unfold A3;rw[if_neg (fun h=>h.elim h1 fun h=>h.elim h2 fun h=>h.elim h3 h4)]
end
section
variable {s:Sy} {b:Bs} {key:Int} {a:An}
include s b key a
theorem Dy (h:gg s.cF b.stat=1):s.kQ b key a=s.split b a:=by unfold Sy.kQ;rw[if_pos h]
theorem Gk (h:¬gg s.cF b.stat=1) (h2:gg s.cF b.stat=2):s.kQ b key a=s.find key (.aA b a):=by unfold Sy.kQ;rw[if_neg h,if_pos h2]
theorem Mq (h:¬gg s.cF b.stat=1) (h2:¬gg s.cF b.stat=2):s.kQ b key a=s.ret a:=by unfold Sy.kQ;rw[if_neg h,if_neg h2]
end
end Go.Proofs.YtcnohdmimheoaaaGreat
namespace Go.Proofs.YtcnohdmimheoaaaGreat
open E Ar Go.Proofs.Tryz
theorem Gl (tb xb ba:Nat) (bz:Bool) (op:bA) (call:Int) (lt ov:Bool) (an:An) (s:Sl Pr) (hs:s.l=an.l) (q:Ix) (Mo:aO) (hO:bR 3 1 (q.ord.map aM) q.oa q.oc Mo) (hol:q.ord.length<1000000) (r:cX) (M:aO) (hA:aR ba r M) (b:Bs) (a:An) (av:Value):aN prog 211 [.pointer (some ⟨tb,0,none⟩),b.val,av] [ak r.rows,aC s,eS tb a av] [aE tb xb (⟨bz,op,call,lt,none,ov,an⟩:Th) .nilFunc s,ao xb ba q,Mo,M] (aX tb xb ba q ((sy (⟨bz,op,call,lt,none,ov,an⟩:Th) q r).split b a)):=by
 refine cb fun X H₀ L₀=>?_;refine At.have (eN av) (fun _ h=>sU h.2.2.2.1) fun hf=>?_;obtain⟨f_av,a_av,c_av,rfl⟩:=hf;refine bx fun b1=>?_;refine bx fun b2=>?_;refine bx fun b3=>?_;refine dw 18 [9] (k_ (k_ (k_ (d_ r_)))) ?_;refine oA (I1 ba r _ hA _) ?_;intro r2 N2 hA2 hr2;refine fi (fun h1=>?_) (fun h1=>?_);refine te ?_;exact lU (by rw[Dx (s:=sy _ q r) h1];dsimp only[sy];rw[<-hr2]<;>rfl) fun _ h=>gA tb xb ba bz op call lt ov an s hs q Mo hO hol r2 _ hA2 (de h) (de h) (de h);refine ca (rh xb ba q r2 _ hA2 _) ?_;intro r3 N3 hA3 hr3;refine ca (rh xb ba q r3 _ hA3 _) ?_;intro r4 N4 hA4 hr4;refine ca (sS ba r4 _ hA4 _) ?_;intro r5 N5 hA5 hr5;refine mc ?_;refine lM (aP (rows:=[(r.p.half b.af).1,(cellOf r2.p (r.p.half b.af).2.1).1,(cellOf r3.p (r.p.half b.af).2.2.1).1,(r4.p.aH 0).1].map aM) underlying26 t3 rfl rfl rfl rfl rfl (by simp[aM]) rfl rfl (by decide)) ?_;rintro _ _ _ ⟨b4,rfl,rfl,rfl⟩;refine ca (cJ ba r5 _ hA5 2 ⟨some ⟨b4,0,none⟩,4,[(r.p.half b.af).1,(cellOf r2.p (r.p.half b.af).2.1).1,(cellOf r3.p (r.p.half b.af).2.2.1).1,(r4.p.aH 0).1]⟩) ?_;intro r6 N6 hA6 hr6;refine mc ?_;have e6:r6.p=(Jg r.p b.af).2.2:=by rw[hr6,hr5,hr4,hr3,hr2]
 have e7:(r5.p.make 2 [(r.p.half b.af).1,(cellOf r2.p (r.p.half b.af).2.1).1,(cellOf r3.p (r.p.half b.af).2.2.1).1,(r4.p.aH 0).1]).1=(Jg r.p b.af).1:=by rw[hr5,hr4,hr3,hr2]
 refine sp 87 (fun h2=>?_) (fun h2=>?_);refine te ?_;exact lU (by rw[s6 (s:=sy _ q r) h1 (.inl (by rw[hr2]at h2;exact h2))];dsimp only[sy];rw[<-e6]<;>rfl) fun _ h=>gA tb xb ba bz op call lt ov an s hs q Mo hO hol r6 _ hA6 (de h) (de h) (de h);refine sp 91 (fun h3=>?_) (fun h3=>?_);refine te ?_;exact lU (by rw[s6 (s:=sy _ q r) h1 (.inr (.inl (by rw[hr3,hr2]at h3;exact h3)))];dsimp only[sy];rw[<-e6]<;>rfl) fun _ h=>gA tb xb ba bz op call lt ov an s hs q Mo hO hol r6 _ hA6 (de h) (de h) (de h);refine sp 95 (fun h4=>?_) (fun h4=>?_);refine te ?_;exact lU (by rw[s6 (s:=sy _ q r) h1 (.inr (.inr (.inl (by rw[hr4,hr3,hr2]at h4;exact h4))))];dsimp only[sy];rw[<-e6]<;>rfl) fun _ h=>gA tb xb ba bz op call lt ov an s hs q Mo hO hol r6 _ hA6 (de h) (de h) (de h);refine fi (fun h5=>?_) (fun h5=>?_);refine te ?_;exact lU (by rw[s6 (s:=sy _ q r) h1 (.inr (.inr (.inr (by rw[hr5,hr4,hr3,hr2]at h5;exact h5))))];dsimp only[sy];rw[<-e6]<;>rfl) fun _ h=>gA tb xb ba bz op call lt ov an s hs q Mo hO hol r6 _ hA6 (de h) (de h) (de h);refine mc ?_;refine At.aJ (eZ tb (.split a) [] (dE 246 [b1,b3])) (fun _ h=>bK ((b1,b3),.func f_av a_av c_av) rfl ⟨h.2.2.2.2.2.2.2.2.1,h.2.2.2.2.2.2.1,h.2.2.2.2.2.2.2.2.2.2.2.2.1,trivial⟩) ?_;refine ca (dR tb xb _ _ _ (b.home) (b.id) (_) (.split a) ([]) _) ?_;rintro _ _ _ ⟨nv,rfl,rfl⟩;refine mc ?_;refine At.ck ?_;refine re ?_;exact rs (by rw[Gj (s:=sy _ q r) h1 (by rw[hr2]at h2;exact h2) (by rw[hr3,hr2]at h3;exact h3) (by rw[hr4,hr3,hr2]at h4;exact h4) (by rw[hr5,hr4,hr3,hr2]at h5;exact h5)];dsimp only[sy];rw[<-e6,<-e7];exact⟨q,r6,nv,s,Mo,_,[],[],rfl,rfl,hO,hA6,rfl,rfl,Ix.az q,hs⟩)
end Go.Proofs.YtcnohdmimheoaaaGreat
namespace Go.Proofs.YtcnohdmimheoaaaGreat
open E Go.Proofs.Tryz
section
variable {s:Sy} {l:List Int} {r x:Int} (hx:l[0]? =some x)
include s l r x hx
theorem zD (h:s.ar.val r 0=0):s.kf l r .dL=s.ret (s.cy l):=by unfold Sy.kf;exact if_pos h
theorem wu (h:¬s.ar.val r 0=0):s.kf l r .dL=s.kQ {s.ar.base x with stat:=fx s.ar s.cF (s.ar.base x) r} s.th.op.key (s.cy l):=by
 have e:l.headD 0=x:=by cases l with
  |nil=>simp at hx
  |cons a l=>simp at hx;exact hx
 unfold Sy.kf;simp only[e];exact if_neg h
end
end Go.Proofs.YtcnohdmimheoaaaGreat
namespace Go.Proofs.YtcnohdmimheoaaaGreat
open E Ar Go.Proofs.Tryz
section
variable (tb xb ba:Nat) (bz:Bool) (op:bA) (call:Int) (lt ov:Bool) (an:An) (s:Sl Pr) (hs:s.l=an.l) (q:Ix) (Mo:aO) (hO:bR 3 1 (q.ord.map aM) q.oa q.oc Mo) (hol:q.ord.length<1000000) (r:cX) (M:aO) (hA:aR ba r M)
include tb xb ba bz op call lt ov an s hs q Mo hO hol r M hA
theorem xN (b:Bs) (key:Int) (a:An) (av:Value):aN prog 160 [.pointer (some ⟨tb,0,none⟩),b.val,.int .i64 key,av] [ak r.rows,aC s,eS tb a av] [aE tb xb (⟨bz,op,call,lt,none,ov,an⟩:Th) .nilFunc s,ao xb ba q,Mo,M] (aX tb xb ba q ((sy (⟨bz,op,call,lt,none,ov,an⟩:Th) q r).kQ b key a)):=by
 refine cb fun X H₀ L₀=>?_;refine bx fun b1=>?_;refine dw 9 [] r_ ?_;refine ca (Fj _ _) ?_;refine fi (fun h1=>?_) (fun h1=>?_);refine ca (Gl tb xb ba bz op call lt ov an s hs q Mo hO hol r M hA b a _) ?_;rintro _ _ _ ⟨q9,r9,nv9,sl9,No9,Na9,Nj9,l9,rfl,rfl,hE⟩;refine re ?_;exact rs (by rw[Dy (s:=(sy (⟨bz,op,call,lt,none,ov,an⟩:Th) q r)) h1];exact⟨q9,r9,nv9,sl9,No9,Na9,Nj9,l9,rfl,rfl,hE⟩);refine fi (fun h2=>?_) (fun h2=>?_);refine ca (Gg tb xb ba bz op call lt ov an s hs q Mo hO hol r M hA b key a _) ?_;rintro _ _ _ ⟨q9,r9,nv9,sl9,No9,Na9,Nj9,l9,rfl,rfl,hE⟩;refine re ?_;exact rs (by rw[Gk (s:=(sy (⟨bz,op,call,lt,none,ov,an⟩:Th) q r)) h1 h2];exact⟨q9,r9,nv9,sl9,No9,Na9,Nj9,l9,rfl,rfl,hE⟩);refine te ?_;exact lU (by rw[Mq (s:=(sy (⟨bz,op,call,lt,none,ov,an⟩:Th) q r)) h1 h2]<;>rfl) fun _ h=>gA tb xb ba bz op call lt ov an s hs q Mo hO hol r _ hA (de h) (de h) (de h)
theorem Gm (b:Nat) (bs:Sl Int) (z:Int):aN prog 172 [bs.val,.int .i64 z,.pointer (some ⟨b,0,none⟩)] [ak r.rows,aC s,eY tb b,cw bs] [aE tb xb (⟨bz,op,call,lt,none,ov,an⟩:Th) .nilFunc s,ao xb ba q,Mo,M] (aX tb xb ba q ((sy (⟨bz,op,call,lt,none,ov,an⟩:Th) q r).kf bs.l z .ends)):=by
 refine cb fun X H₀ L₀=>?_;refine At.aJ (aC (⟨none,0,[]⟩:Sl Pr)) (fun _ h=>dh _ _ _ (Nat.zero_le _)) ?_;refine At.aJ (jX tb none [] .nilFunc) (fun _ h=>bK () rfl trivial) ?_;refine dw 4 [3] (d_ (d_ (k_ (d_ r_)))) ?_;refine oA (wm tb xb ba bz op call lt ov an s hs q Mo hO hol r M hA bs) ?_;refine ca (gR tb xb _ _ _ ((sy (⟨bz,op,call,lt,none,ov,an⟩:Th) q r).gC bs.l) (⟨none,0,[]⟩:Sl Pr)) ?_;rintro _ _ _ ⟨rfl,rfl⟩;refine mc ?_;refine At.ck ?_;refine re ?_;exact rs ⟨q,r,.nilFunc,(⟨none,0,[]⟩:Sl Pr),_,_,[],[],rfl,rfl,hO,hA,rfl,rfl,Ix.az q,(xM _ _ rfl).symm⟩
theorem Dz (b:Nat) (bs:Sl Int) (hbl:bs.l.length<=1000000) (x:Int) (hx:bs.l[0]? =some x) (z:Int):aN prog 176 [bs.val,.int .i64 z,.pointer (some ⟨b,0,none⟩)] [ak r.rows,aC s,eY tb b,cw bs] [aE tb xb (⟨bz,op,call,lt,none,ov,an⟩:Th) .nilFunc s,ao xb ba q,Mo,M] (aX tb xb ba q ((sy (⟨bz,op,call,lt,none,ov,an⟩:Th) q r).kf bs.l z .dL)):=by
 refine cb fun X H₀ L₀=>?_;refine At.aJ (jX tb none [] .nilFunc) (fun _ h=>bK () rfl trivial) ?_;refine ca (nG tb xb ba bz op call lt ov an s hs q Mo hO hol r M hA bs hbl) ?_;rintro _ _ _ ⟨u,rfl,rfl,rfl,hu⟩;refine al fun b1=>?_;refine mc ?_;refine At.draw 9 (.q 0 (.q 1 (.q 2 (.q 3 (.q 4 (.q 5 (.q 6 (.t 7 (.o 8 (.e)) 8 (.o 7 (.e)))))))))) (_::_::_::L₀) (k_ (k_ (d_ (d_ (k_ r_))))) mixed (by kernel_rfl) rfl ?_;refine mc ?_;refine aQ.quiet rfl (bD underlying26 t3 rfl (ix 6 rfl) (by simp) rfl rfl (ae hx)) rfl (Calm.then bG.calm) ?_;refine aQ.quiet rfl (aY t3 rfl (Rd.kK (ix 6 rfl) (aI hx) rfl)) rfl (Calm.then bG.calm) ?_;refine aQ.two ?_ ?_;refine oA (ea xb ba q r _ hA _) ?_;refine nX fun b2=>?_;refine dw 6 [] r_ ?_;refine ca (jV xb ba q r _ hA _ _) ?_;refine ca (c6 ba r _ hA _ _) ?_;refine fi (fun h1=>?_) (fun h1=>?_);refine ca (gR tb xb _ _ _ ((sy (⟨bz,op,call,lt,none,ov,an⟩:Th) q r).cy bs.l) u) ?_;rintro _ _ _ ⟨rfl,rfl⟩;refine mc ?_;refine At.ck ?_;refine At.front 0 rfl ?_;refine At.front 2 rfl ?_;refine At.front 6 rfl ?_;refine At.front 4 rfl ?_;refine At.front 4 rfl ?_;exact At.results (Γr:=[_,_,_]) (M:=[_,_,_,_,[]]) rfl aT.nil (ix 2 rfl) (fun _ h=>⟨h.2.2.2.1,h.2.1,h.1,trivial⟩) (k_ (k_ (k_ (k_ (k_ (d_ (d_ r_))))))) ((by rw[(show(sy (⟨bz,op,call,lt,none,ov,an⟩:Th) q r).kf bs.l z .dL=(sy (⟨bz,op,call,lt,none,ov,an⟩:Th) q r).ret ((sy (⟨bz,op,call,lt,none,ov,an⟩:Th) q r).cy bs.l)from zD hx h1)];exact⟨q,r,_,u,_,_,[],[],rfl,rfl,hO,hA,rfl,rfl,Ix.az q,hu⟩));refine mc ?_;refine At.freeze 3 (φ:=aW b1 _) rfl (fun _ h=>cO.2 ⟨_,_,h⟩) ?_;refine dw 8 [] r_ ?_;refine mc ?_;refine At.aJ (eS tb ((sy (⟨bz,op,call,lt,none,ov,an⟩:Th) q r).cy bs.l) (dE 179 [b,b1])) (fun _ h=>bK (179,b,b1,u) ⟨.inr rfl,rfl,hu⟩ ⟨h.2.2.2.2.2.2.1,h.1,h.2.1,trivial⟩) ?_;refine ca (xN tb xb ba bz op call lt ov an s hs q Mo hO hol r M hA ({r.p.base x with stat:=fx r.p q.cF (r.p.base x) z}:Bs) op.key ((sy (⟨bz,op,call,lt,none,ov,an⟩:Th) q r).cy bs.l) _) ?_;rintro _ _ _ ⟨q9,r9,nv9,sl9,No9,Na9,Nj9,l9,rfl,rfl,hE⟩;refine re ?_;exact rs (by rw[wu (s:=sy _ q r) hx h1];exact⟨q9,r9,nv9,sl9,No9,Na9,Nj9,l9,rfl,rfl,hE⟩);refine mO fun b3=>?_;refine oA (ea xb ba q r _ hA _) ?_;refine dw 6 [] r_ ?_;refine ca (jV xb ba q r _ hA _ _) ?_;refine ca (c6 ba r _ hA _ _) ?_;refine fi (fun h1=>?_) (fun h1=>?_);refine ca (gR tb xb _ _ _ ((sy (⟨bz,op,call,lt,none,ov,an⟩:Th) q r).cy bs.l) u) ?_;rintro _ _ _ ⟨rfl,rfl⟩;refine mc ?_;refine At.ck ?_;refine At.front 0 rfl ?_;refine At.front 2 rfl ?_;refine At.front 6 rfl ?_;refine At.front 4 rfl ?_;refine At.front 4 rfl ?_;exact At.results (Γr:=[_,_,_]) (M:=[_,_,_,_,[]]) rfl aT.nil (ix 2 rfl) (fun _ h=>⟨h.2.2.2.1,h.2.1,h.1,trivial⟩) (k_ (k_ (k_ (k_ (k_ (d_ (d_ r_))))))) ((by rw[(show(sy (⟨bz,op,call,lt,none,ov,an⟩:Th) q r).kf bs.l z .dL=(sy (⟨bz,op,call,lt,none,ov,an⟩:Th) q r).ret ((sy (⟨bz,op,call,lt,none,ov,an⟩:Th) q r).cy bs.l)from zD hx h1)];exact⟨q,r,_,u,_,_,[],[],rfl,rfl,hO,hA,rfl,rfl,Ix.az q,hu⟩))
 refine mc ?_;refine At.freeze 3 (φ:=aW b1 _) rfl (fun _ h=>cO.2 ⟨_,_,h⟩) ?_;refine dw 8 [] r_ ?_;refine mc ?_;refine At.aJ (eS tb ((sy (⟨bz,op,call,lt,none,ov,an⟩:Th) q r).cy bs.l) (dE 179 [b,b1])) (fun _ h=>bK (179,b,b1,u) ⟨.inr rfl,rfl,hu⟩ ⟨h.2.2.2.2.2.2.1,h.1,h.2.1,trivial⟩) ?_;refine ca (xN tb xb ba bz op call lt ov an s hs q Mo hO hol r M hA ({r.p.base x with stat:=fx r.p q.cF (r.p.base x) z}:Bs) op.key ((sy (⟨bz,op,call,lt,none,ov,an⟩:Th) q r).cy bs.l) _) ?_;rintro _ _ _ ⟨q9,r9,nv9,sl9,No9,Na9,Nj9,l9,rfl,rfl,hE⟩;refine re ?_;exact rs (by rw[wu (s:=sy _ q r) hx h1];exact⟨q9,r9,nv9,sl9,No9,Na9,Nj9,l9,rfl,rfl,hE⟩)
end
end Go.Proofs.YtcnohdmimheoaaaGreat
namespace Go.Proofs.YtcnohdmimheoaaaGreat
open E Go.Proofs.Tryz
section
variable {s:Sy} {j:Jb} {z lo hi qt:Int} {w:KW}
include s j z lo hi qt w
theorem Gn {l:List Int} (h:z≠-1) (hb:s.ar.au z=some l):s.iV j z (.whole lo hi qt w)=s.kf l z w:=by
 show(if z≠-1 then s.kf ((s.ar.au z).getD []) z w else _)=_;rw[if_pos h,hb];rfl
theorem DA (h:¬z≠-1) (hf:j.full=true):s.iV j z (.whole lo hi qt w)=s.full:=by
 show(if z≠-1 then s.kf ((s.ar.au z).getD []) z w else if j.full then s.full else s.whole lo hi qt w)=_;rw[if_neg h,if_pos hf]
theorem DB (h:¬z≠-1) (hf:j.full=false):s.iV j z (.whole lo hi qt w)=s.whole lo hi qt w:=by
 show(if z≠-1 then s.kf ((s.ar.au z).getD []) z w else if j.full then s.full else s.whole lo hi qt w)=_;rw[if_neg h,if_neg (by rw[hf];simp)]
end
theorem DC {r:cX} {M:aO} {ba:Nat} (hA:aR ba r M) {z:Int} {l:List Int} (hb:r.p.au z=some l):l.length<=1000000:=by
 have h1:=rf _ _ _ hb;rw[cX.r8]at h1;have:=hA.2.1;omega
def nH (A:Ar) (z:Int):Prop:=z≠-1->∃l,A.au z=some l/\l≠[]
end Go.Proofs.YtcnohdmimheoaaaGreat
namespace Go.Proofs.YtcnohdmimheoaaaGreat
open E Ar Go.Proofs.Tryz
theorem OV:ah prog 172:=ah.mk' func172 rfl rfl
theorem OW:ah prog 176:=ah.mk' func176 rfl rfl
theorem Gp:ah prog 205:=ah.mk' func205 rfl rfl
theorem OX:ah prog 220:=ah.mk' func220 rfl rfl
section
variable (tb xb ba:Nat) (bz:Bool) (op:bA) (call:Int) (lt ov:Bool) (an:An) (s:Sl Pr) (hs:s.l=an.l) (q:Ix) (Mo:aO) (hO:bR 3 1 (q.ord.map aM) q.oa q.oc Mo) (hol:q.ord.length<1000000) (r:cX) (M:aO) (hA:aR ba r M)
include tb xb ba bz op call lt ov an s hs q Mo hO hol r M hA
theorem OY {w:KW} {v:Value} {H:Hp} (bs:Sl Int) (hbl:bs.l.length<=1000000) (hne:bs.l≠[]) (z:Int) (hr:(ak r.rows).holds H) (hps:(aC s).holds H) (hb:(cw bs).holds H) (h:(AW tb w v).holds H):
  eI v [bs.val,.int .i64 z] H [aE tb xb (⟨bz,op,call,lt,none,ov,an⟩:Th) .nilFunc s,ao xb ba q,Mo,M] (aX tb xb ba q ((sy (⟨bz,op,call,lt,none,ov,an⟩:Th) q r).kf bs.l z w)):=by
 cases w with
 |ends=>
  obtain⟨b,rfl,h1,_⟩:=h;exact .of (Gm tb xb ba bz op call lt ov an s hs q Mo hO hol r M hA b bs z) rfl OV ⟨hr,hps,h1,hb,trivial⟩
 |dL=>
  obtain⟨b,rfl,h1,_⟩:=h;obtain⟨x,hx⟩:=aD (l:=bs.l) (i:=0) (List.length_pos_iff.2 hne);exact .of (Dz tb xb ba bz op call lt ov an s hs q Mo hO hol r M hA b bs hbl x hx z) rfl OW ⟨hr,hps,h1,hb,trivial⟩
theorem Gq (b1 b2 b3 b4 b5 b6 jp:Nat) (lo hi qt:Int) (w:KW) (wv:Value) (j:Jb) (ja:Option Addr) (jn jc:Nat) (z:Int) (hz:nH r.p z):aN prog 220 [.int .i64 z,.pointer (some ⟨b1,0,none⟩),.pointer (some ⟨b2,0,none⟩),.pointer (some ⟨b3,0,none⟩),.pointer (some ⟨b4,0,none⟩),.pointer (some ⟨b5,0,none⟩),.pointer (some ⟨b6,0,none⟩)] [ak r.rows,aC s,aW b1 #[wv],eY tb b2,aW b3 #[ptr jp],aW b4 (cI lo),aW b5 (cI hi),aW b6 (cI qt),AW tb w wv] [aE tb xb (⟨bz,op,call,lt,none,ov,an⟩:Th) .nilFunc s,ao xb ba q,Mo,M,jg jp j ja jn jc] (aX tb xb ba q ((sy (⟨bz,op,call,lt,none,ov,an⟩:Th) q r).iV j z (.whole lo hi qt w))):=by
 refine cb fun X H₀ L₀=>?_;refine At.aJ (aC (⟨none,0,[]⟩:Sl Pr)) (fun _ h=>dh _ _ _ (Nat.zero_le _)) ?_;refine At.aJ (jX tb none [] .nilFunc) (fun _ h=>bK () rfl trivial) ?_;refine fi (fun h1=>?_) (fun h1=>?_);obtain⟨l,hl,hne⟩:=hz h1;have hfew:=DC hA hl;refine dv 8 [0,1,2,3,4,5,7,106] (k_ (d_ (k_ (d_ (k_ r_))))) ?_;refine oA (Dv xb ba q r _ hA z l hl) ?_;rintro _ _ _ ⟨u,rfl,rfl,rfl,hul⟩;refine mc ?_;subst hul;refine te ?_;exact lU (by rw[Gn (s:=sy _ q r) h1 hl]<;>rfl) fun _ h=>OY tb xb ba bz op call lt ov an s hs q Mo hO hol r M hA u hfew hne z (de h) (de h) (de h) (de h);refine cv (fun h2=>?_) (fun h2=>?_);refine ca (sV tb xb _ _ _) ?_;rintro _ _ _ ⟨rfl,rfl⟩;refine mc ?_;refine At.ck ?_;refine re ?_;exact rs (by rw[DA (s:=sy _ q r) h1 h2];exact⟨q,r,.nilFunc,(⟨none,0,[]⟩:Sl Pr),_,_,[],[],rfl,rfl,hO,hA,rfl,rfl,Ix.az q,rfl⟩);refine ca (uM tb xb ba bz op call lt ov an s hs q Mo hO hol r M hA lo hi qt w _) ?_;rintro _ _ _ ⟨q9,r9,nv9,sl9,No9,Na9,Nj9,l9,rfl,rfl,hE⟩;refine re ?_;exact rs (by rw[DB (s:=sy _ q r) h1 h2];exact⟨q9,r9,nv9,sl9,No9,Na9,Nj9,l9,rfl,rfl,hE⟩)
theorem xO (b1:Nat) (u:KU) (l:Ax) (uv:Value) (Mj:aO) (hJ:AX u l Mj) (z:Int):aN prog 205 [.int .i64 z,.pointer (some ⟨b1,0,none⟩)] [ak r.rows,aC s,aW b1 #[uv],qh tb u l uv] [aE tb xb (⟨bz,op,call,lt,none,ov,an⟩:Th) .nilFunc s,ao xb ba q,Mo,M,Mj] (aX tb xb ba q ((sy (⟨bz,op,call,lt,none,ov,an⟩:Th) q r).mJ u)):=by
 refine cb fun X H₀ L₀=>?_;refine te ?_;exact td fun _ h=>uK tb xb ba bz op call lt ov an s hs q Mo hO hol r M hA (de h) (de h) (de h) hJ
end
end Go.Proofs.YtcnohdmimheoaaaGreat
namespace Go.Proofs.YtcnohdmimheoaaaGreat
open E Go.Proofs.Tryz
theorem DD {s:Sy} {b:Bs} {u:KU} (h:b.kind=4):s.iI b u=s.go (.load (s.ar.main b.id).state (.cE (s.ar.main b.id) u)):=by unfold Sy.iI;rw[if_pos h]
section
variable {s:Sy} {b:Bs} {u:KU} (h:¬b.kind=4)
include s b u h
theorem A4 (h2:b.kind=5):s.iI b u=s.go (.load (s.ar.main (s.ar.val b.id 3)).state (.cE (s.ar.main (s.ar.val b.id 3)) u)):=by unfold Sy.iI;rw[if_neg h,if_pos h2]
theorem uN (h2:¬b.kind=5) (h3:b.kind=6):s.iI b u=s.dx ⟨s.ar.store (s.ar.val b.id 3),[],false⟩ (s.ar.store (s.ar.val b.id 3)).lo u.BO:=by unfold Sy.iI;rw[if_neg h,if_neg h2,if_pos h3]
theorem DE (h2:¬b.kind=5) (h3:¬b.kind=6):s.iI b u=s.mJ u:=by unfold Sy.iI;rw[if_neg h,if_neg h2,if_neg h3]
end
theorem Cd {tb jp b:Nat} {u:KU} {l:Ax} {v:Value} {H:Hp} (h:(qh tb u l v).holds H) (hb:(aW b #[v]).holds H):(fT tb u.BO jp l (dE 205 [b])).holds H:=by
 cases u<;>cases l<;>first|exact False.elim h|exact⟨(b,v),rfl,hb,h,trivial⟩
theorem aN.Gs {f:Nat} {all:List Value} {pre:List ag} {A B C D F G:aO} {R:Value->List ag->E.Loc->Prop} (h:aN prog f all pre [A,B,C,D,G] R):aN prog f all pre [A,B,C,D,F++G] R:=
 fun X w H L hp hst=>h X w H L hp ((hst.flat (L':=[A,B,C,D,F,G]++L) (by simp)).drop (by
  simp only[List.cons_append,List.nil_append];exact .cons_cons _ (.cons_cons _ (.cons_cons _ (.cons_cons _ (.cons _ (.refl _)))))))
theorem oK (tb xb ba:Nat) (bz:Bool) (op:bA) (call:Int) (lt ov:Bool) (an:An) (s:Sl Pr) (hs:s.l=an.l) (q:Ix) (Mo:aO) (hO:bR 3 1 (q.ord.map aM) q.oa q.oc Mo) (hol:q.ord.length<1000000) (r:cX) (M:aO) (hA:aR ba r M) {k:KR} {a:Nat×Value} {l:Ax} {v:Value} {H:Hp} {j:Jb} {Mj:aO} (z:Int) (hz:∀lo hi qt w,k= .whole lo hi qt w->nH r.p z)
  (hr:(ak r.rows).holds H) (hps:(aC s).holds H) (h:(fT tb k a.1 l v).holds H) (hJ:AY j k (a::l) Mj):
  eI v [.int .i64 z] H [aE tb xb (⟨bz,op,call,lt,none,ov,an⟩:Th) .nilFunc s,ao xb ba q,Mo,M,Mj] (aX tb xb ba q ((sy (⟨bz,op,call,lt,none,ov,an⟩:Th) q r).iV j z k)):=by
 obtain⟨M1,M2,rfl,⟨ja,jn,jc,rfl⟩,hO2⟩:=hJ
 match k,l,h,hO2 with
 | .whole lo hi qt w,[],h,hO2=>
  cases hO2
  rw[List.append_nil];obtain⟨x,rfl,h1,h2,h3,h4,h5,h6,h7,_⟩:=h;exact .of (Gq tb xb ba bz op call lt ov an s hs q Mo hO hol r M hA x.1.1 x.1.2.1 x.1.2.2 x.2.1 x.2.2.1 x.2.2.2.1 a.1 lo hi qt w x.2.2.2.2 j ja jn jc z (hz lo hi qt w rfl)) rfl OX ⟨hr,hps,h1,h2,h3,h4,h5,h6,h7,trivial⟩
 | .looks key g,[],h,hO2=>
  obtain⟨x,rfl,h1,h2,_⟩:=h;exact .of (aN.Gs (xO tb xb ba bz op call lt ov an s hs q Mo hO hol r M hA x.1 (.looks key g) [] x.2 M2 hO2 z)) rfl Gp ⟨hr,hps,h1,h2,trivial⟩
 | .update,[],h,hO2=>
  obtain⟨x,rfl,h1,h2,_⟩:=h;exact .of (aN.Gs (xO tb xb ba bz op call lt ov an s hs q Mo hO hol r M hA x.1 .update [] x.2 M2 hO2 z)) rfl Gp ⟨hr,hps,h1,h2,trivial⟩
 | .leaf j2 key k2,a2::l2,h,hO2=>
  obtain⟨x,rfl,h1,h2,_⟩:=h;exact .of (aN.Gs (xO tb xb ba bz op call lt ov an s hs q Mo hO hol r M hA x.1 (.leaf j2 key k2) (a2::l2) x.2 M2 hO2 z)) rfl Gp ⟨hr,hps,h1,h2,trivial⟩
 | .whole ..,_::_,h,_=>exact False.elim h
 | .looks ..,_::_,h,_=>exact False.elim h
 | .update,_::_,h,_=>exact False.elim h
 | .leaf ..,[],h,_=>exact False.elim h
end Go.Proofs.YtcnohdmimheoaaaGreat
namespace Go.Proofs.YtcnohdmimheoaaaGreat
open E Ar Go.Proofs.Tryz
theorem OZ:ah prog 182:=ah.mk' func182 rfl rfl
theorem xP (tb xb ba:Nat) (bz:Bool) (op:bA) (call:Int) (lt ov:Bool) (an:An) (s:Sl Pr) (hs:s.l=an.l) (q:Ix) (Mo:aO) (hO:bR 3 1 (q.ord.map aM) q.oa q.oc Mo) (hol:q.ord.length<1000000) (r:cX) (M:aO) (hA:aR ba r M) (b:Bs) (u:KU) (l:Ax) (uv:Value) (Mj:aO) (hJ:AX u l Mj):aN prog 154 [.pointer (some ⟨tb,0,none⟩),b.val,uv] [ak r.rows,aC s,qh tb u l uv] [aE tb xb (⟨bz,op,call,lt,none,ov,an⟩:Th) .nilFunc s,ao xb ba q,Mo,M,Mj] (aX tb xb ba q ((sy (⟨bz,op,call,lt,none,ov,an⟩:Th) q r).iI b u)):=by
 refine cb fun X H₀ L₀=>?_;refine At.have (eN uv) (fun _ h=>xH h.2.2.2.1) fun hf=>?_;obtain⟨f_uv,a_uv,c_uv,rfl⟩:=hf;refine bx fun b1=>?_;refine bx fun b2=>?_;refine fi (fun h1=>?_) (fun h1=>?_);refine dv 9 [0,1,2,3,4,5,6,8,107] (k_ (d_ (k_ (d_ (k_ r_))))) ?_;refine oA (oe xb ba q r _ hA _) ?_;refine ca (sf tb xb ba bz op call lt ov an s hs q Mo hO hol r M hA (r.p.main b.id) u l _ Mj hJ) ?_;rintro _ _ _ ⟨q9,r9,nv9,sl9,No9,Na9,Nj9,l9,rfl,rfl,hE⟩;refine re ?_;exact rs (by rw[DD (s:=(sy (⟨bz,op,call,lt,none,ov,an⟩:Th) q r)) h1];exact⟨q9,r9,nv9,sl9,No9,Na9,Nj9,l9,rfl,rfl,hE⟩);refine fi (fun h2=>?_) (fun h2=>?_);refine dv 10 [0,1,2,3,4,5,6,9,107,8] (k_ (d_ (k_ (d_ (k_ r_))))) ?_;refine oA (qe xb ba q r _ hA _) ?_;refine ca (sf tb xb ba bz op call lt ov an s hs q Mo hO hol r M hA (r.p.main (r.p.val b.id 3)) u l _ Mj hJ) ?_;rintro _ _ _ ⟨q9,r9,nv9,sl9,No9,Na9,Nj9,l9,rfl,rfl,hE⟩;refine re ?_;exact rs (by rw[A4 (s:=(sy (⟨bz,op,call,lt,none,ov,an⟩:Th) q r)) h1 h2];exact⟨q9,r9,nv9,sl9,No9,Na9,Nj9,l9,rfl,rfl,hE⟩);refine fi (fun h3=>?_) (fun h3=>?_);refine At.draw 21 (.q 0 (.q 1 (.q 2 (.q 3 (.q 4 (.q 5 (.q 6 (.q 11 (.q 12 (.q 13 (.q 14 (.q 15 (.q 16 (.q 20 (.o 7 (.q 8 (.q 9 (.t 10 (.o 17 (.q 18 (.q 19 (.e)))) 17 (.q 18 (.q 19 (.o 10 (.e)))))))))))))))))))))) (_::_::_::L₀) (k_ (d_ (k_ (d_ (k_ r_))))) mixed (by kernel_rfl) rfl ?_;refine gf (iK xb ba q r _ hA _) ?_;refine mc ?_;refine aQ.two ?_ ?_;refine mO fun b3=>?_;refine oA (iK xb ba q r _ hA _) ?_;refine mc ?_;refine At.aJ (fT tb u.BO b3 l (dE 205 [b2])) (fun _ h=>Cd h.2.2.2.2.2.1 h.1) ?_;refine ca (lE tb xb _ _ s ba q (b3,.nilFunc) ⟨(r.p.store (r.p.val b.id 3)),[],false⟩ (r.p.store (r.p.val b.id 3)).lo u.BO l _) ?_;rintro _ _ _ ⟨nv,bf,rfl,rfl⟩;refine mc ?_;refine At.front 6 rfl ?_;refine At.front 5 rfl ?_;refine At.cH ?_;refine mc ?_;refine At.front 0 rfl ?_;refine At.front 3 rfl ?_;refine At.cH ?_;refine re ?_;exact rs (by rw[uN (s:=sy _ q r) h1 h2 h3];exact⟨q,r,nv,s,Mo,_,_,(bf,.nilFunc)::((b3,.nilFunc)::l),rfl,rfl,hO,hA,⟨_,rfl,⟨_,_,rfl,⟨none,0,[],rfl,bR.nil _ _⟩,hJ⟩⟩,rfl,Ix.az q,hs⟩);refine oA (iK xb ba q r _ hA _) ?_;refine nX fun b4=>?_;refine mc ?_;refine At.aJ (fT tb u.BO b4 l (dE 205 [b2])) (fun _ h=>Cd h.2.2.2.2.2.1 h.1) ?_;refine ca (lE tb xb _ _ s ba q (b4,.nilFunc) ⟨(r.p.store (r.p.val b.id 3)),[],false⟩ (r.p.store (r.p.val b.id 3)).lo u.BO l _) ?_;rintro _ _ _ ⟨nv,bf,rfl,rfl⟩;refine mc ?_;refine At.front 6 rfl ?_;refine At.front 4 rfl ?_;refine At.cH ?_;refine mc ?_;refine At.front 0 rfl ?_;refine At.front 3 rfl ?_;refine At.cH ?_;refine re ?_;exact rs (by rw[uN (s:=sy _ q r) h1 h2 h3];exact⟨q,r,nv,s,Mo,_,_,(bf,.nilFunc)::((b4,.nilFunc)::l),rfl,rfl,hO,hA,⟨_,rfl,⟨_,_,rfl,⟨none,0,[],rfl,bR.nil _ _⟩,hJ⟩⟩,rfl,Ix.az q,hs⟩)
 refine te ?_;exact lU (by rw[DE (s:=(sy (⟨bz,op,call,lt,none,ov,an⟩:Th) q r)) h1 h2 h3]<;>rfl) fun _ h=>uK tb xb ba bz op call lt ov an s hs q Mo hO hol r M hA (de h) (de h) (de h) hJ
theorem results262 (tb xb ba:Nat) (bz:Bool) (op:bA) (call:Int) (lt ov:Bool) (an:An) (s:Sl Pr) (hs:s.l=an.l) (q:Ix) (Mo:aO) (hO:bR 3 1 (q.ord.map aM) q.oa q.oc Mo) (hol:q.ord.length<1000000) (r:cX) (M:aO) (hA:aR ba r M) (a:Nat×Value) (j:Jb) (ja:Option Addr) (jn jc:Nat) (z:Int) (k:KR) (l:Ax) (rv:Value) (Mj:aO) (hJ:sM k l Mj):aN prog 262 [.pointer (some ⟨tb,0,none⟩),.pointer (some ⟨a.1,0,none⟩),.int .i64 z,rv] [ak r.rows,aC s,fT tb k a.1 l rv] [aE tb xb (⟨bz,op,call,lt,none,ov,an⟩:Th) .nilFunc s,ao xb ba q,Mo,M,jg a.1 j ja jn jc,Mj] (aX tb xb ba q ((sy (⟨bz,op,call,lt,none,ov,an⟩:Th) q r).results j z k)):=by
 refine cb fun X H₀ L₀=>?_;refine At.have (eN rv) (fun _ h=>qm h.2.2.2.1) fun hf=>?_;obtain⟨f_rv,a_rv,c_rv,rfl⟩:=hf;refine bx fun b1=>?_;refine bx fun b2=>?_;refine bx fun b3=>?_;refine bx fun b4=>?_;refine dw 8 [] r_ ?_;refine mc ?_;refine At.aJ (eZ tb (.results j z k) (a::l) (dE 275 [b1,b2,b4,b3])) (fun _ h=>bK ((b1,b2,b4,b3),.func f_rv a_rv c_rv) rfl ⟨h.2.2.2.1,h.2.2.1,h.1,h.2.1,h.2.2.2.2.2.2.2.1,trivial⟩) ?_;refine ca (Jc tb xb _ _ _ j.store.result z (.results j z k) (a::l) _) ?_;rintro _ _ _ ⟨nv,rfl,rfl⟩;refine mc ?_;refine At.front 5 rfl ?_;refine At.front 5 rfl ?_;refine At.cH ?_;refine re ?_;exact rs ⟨q,r,nv,s,Mo,_,_,(a::l),rfl,rfl,hO,hA,⟨_,_,rfl,⟨ja,jn,jc,rfl⟩,hJ⟩,rfl,Ix.az q,hs⟩
end Go.Proofs.YtcnohdmimheoaaaGreat
namespace Go.Proofs.YtcnohdmimheoaaaGreat
open E Go.Proofs.Tryz
def mj (j:Jb) (id:Int):Jb:=if j.au.getLast?=some id then j else{j with au:=j.au++[id]}
def Mu (j:Jb):Int:=if 1<j.au.length/\j.store.quiet=false then 1 else 0
abbrev dX (A:Ar) (j:Jb):=Ar.aZ (Mu j) (j.au.length+1) A j.au
theorem zE {s:Sy} {j:Jb} {f:Fo} {k:KR} (h1:f.cY=true) (h2:f.dW<=(mj j f.b.id).store.hi):s.marked j f k=s.dx (mj j f.b.id) f.dW k:=by
 show(if f.cY=true/\f.dW<=(mj j f.b.id).store.hi then _ else _)=_;rw[if_pos ⟨h1,h2⟩];rfl
section
variable {s:Sy} {j:Jb} {f:Fo} {k:KR} (h:¬(f.cY=true/\f.dW<=(mj j f.b.id).store.hi))
include s j f k h
theorem gW (h2:(dX s.ar (mj j f.b.id)).2.1≠0):
  s.marked j f k=(s.bq (dX s.ar (mj j f.b.id)).2.2).results {mj j f.b.id with full:=true} (-1) k:=by
 show(if f.cY=true/\f.dW<=(mj j f.b.id).store.hi then _ else(let(r,e,B):=dX s.ar (mj j f.b.id);if e≠0 then(s.bq B).results {mj j f.b.id with full:=true} (-1) k else(s.bq B).results (mj j f.b.id) r k))=_;rw[if_neg h];generalize dX s.ar (mj j f.b.id)=q at h2⊢;rcases q with⟨a,b,c⟩;exact if_pos h2
theorem jF (h2:¬(dX s.ar (mj j f.b.id)).2.1≠0):
  s.marked j f k=(s.bq (dX s.ar (mj j f.b.id)).2.2).results (mj j f.b.id) (dX s.ar (mj j f.b.id)).1 k:=by
 show(if f.cY=true/\f.dW<=(mj j f.b.id).store.hi then _ else(let(r,e,B):=dX s.ar (mj j f.b.id);if e≠0 then(s.bq B).results {mj j f.b.id with full:=true} (-1) k else(s.bq B).results (mj j f.b.id) r k))=_;rw[if_neg h];generalize dX s.ar (mj j f.b.id)=q at h2⊢;rcases q with⟨a,b,c⟩;exact if_neg h2
end
theorem Gu {j:Jb} {id:Int} (h:¬j.au.getLast?=some id):mj j id={j with au:=j.au++[id]}:=if_neg h
theorem Mv {j:Jb} {id:Int} (h:j.au.getLast?=some id):mj j id=j:=if_pos h
theorem K7 {l:List Int} {n:Nat} {x:Int} (h:l[n]? =some x) (hn:n+1=l.length):l.getLast?=some x:=by
 rw[List.getLast?_eq_getElem?,<-hn];exact h
end Go.Proofs.YtcnohdmimheoaaaGreat
namespace Go.Proofs.YtcnohdmimheoaaaGreat
open E Ar Go.Proofs.Tryz
theorem wx (tb xb ba:Nat) (bz:Bool) (op:bA) (call:Int) (lt ov:Bool) (an:An) (s:Sl Pr) (hs:s.l=an.l) (q:Ix) (Mo:aO) (hO:bR 3 1 (q.ord.map aM) q.oa q.oc Mo) (hol:q.ord.length<1000000) (r:cX) (M:aO) (hA:aR ba r M) (a:Nat×Value) (j:Jb) (ja:Option Addr) (jc:Nat) (Mb:aO) (hB:bR 3 1 (j.au.map aM) ja jc Mb) (hbl:j.au.length<1000000) (f:Fo) (k:KR) (l:Ax) (rv:Value) (Mj:aO) (hJ:sM k l Mj):aN prog 238 [.pointer (some ⟨tb,0,none⟩),.pointer (some ⟨a.1,0,none⟩),f.val,rv] [ak r.rows,aC s,fT tb k a.1 l rv] [aE tb xb (⟨bz,op,call,lt,none,ov,an⟩:Th) .nilFunc s,ao xb ba q,Mo,M,jg a.1 j ja j.au.length jc,Mb,Mj] (aX tb xb ba q ((sy (⟨bz,op,call,lt,none,ov,an⟩:Th) q r).marked j f k)):=by
 refine cb fun X H₀ L₀=>?_;refine At.have (eN rv) (fun _ h=>qm h.2.2.2.1) fun hf=>?_;obtain⟨f_rv,a_rv,c_rv,rfl⟩:=hf;refine bx fun b1=>?_;refine At.nil ?_;refine At.then ?_;refine At.front 5 rfl ?_;refine At.front 5 rfl ?_;refine At.C2 (ι:=Jb×Option Addr×Nat×aO) (.s (.s .z)) [8,12,13,14,15,16,17,18,19,20,21,22,23,24,25,26,27,28,29,30,31,32,33,34,35,36,37,38,39,40,41,42,43,44] (fun⟨j1,ja1,jc1,Mb1⟩=>[]) (fun⟨j1,ja1,jc1,Mb1⟩=>[]) (fun⟨j1,ja1,jc1,Mb1⟩=>[jg a.1 j1 ja1 j1.au.length jc1,Mb1]) (fun⟨j1,ja1,jc1,Mb1⟩=>j1=(mj j f.b.id)/\bR 3 1 (j1.au.map aM) ja1 jc1 Mb1) ?_ ?_;refine dw 14 [] r_ ?_;refine mc ?_;refine aQ.eV (d:=19) rfl (fun h0=>?_) (fun h0=>?_);refine dw 10 [8,9] (k_ (d_ (k_ (k_ (k_ (k_ (k_ r_))))))) ?_;refine mO fun b2=>?_;refine yI rfl (dk rfl underlying26 t3 rfl rfl hB (by simp) (i:=2) rfl rfl (news:=[aM f.b.id]) (by simp[aM]) (fc.loc (i:=0) rfl (m:=1) rfl) rfl rfl rfl (by omega) (by unfold maxLen;omega)) ?_;rintro _ _ _ ⟨ja2,jc2,Mb2,rfl,ow,rfl,rfl⟩;refine sv 42 (.slice ja2 (j.au++[f.b.id]).length jc2) ?_ (e:=by simp);refine At.bu 1 rfl rfl ?_;refine At.quiet (aq OP rfl rfl rfl) rfl ?_;refine At.bC (aw t26 rfl rfl (i:=1) rfl rfl rfl rfl) ?_;rintro _ _ _ ⟨rfl,rfl⟩;refine At.nil ?_;refine At.front 2 rfl ?_;refine At.front 2 rfl ?_;refine At.then ?_;exact At.eh ({j with au:=j.au++[f.b.id]},ja2,jc2,Mb2) ⟨(Gu (by rw[List.length_eq_zero_iff.1 (show j.au.length=0 by omega)];simp)).symm,by simpa using ow⟩ (bc.meet 36 trivial rfl rfl) (fun _ h=>h) (k_ (k_ (d_ r_)));obtain⟨n0,hn0⟩:∃n0,n0+1=j.au.length:=⟨j.au.length-1,by omega⟩;obtain⟨y,hy⟩:=aD (l:=j.au) (i:=n0) (by omega);have hly:=K7 hy hn0;refine mc ?_;refine aQ.dt rfl rfl rfl (cA underlying26 t3 rfl hB (by simp) rfl (show _=((n0:Nat):Int)from by omega) (by omega)) rfl (Calm.then (Calm.then bG.calm)) ?_;refine aQ.dt rfl rfl rfl (aY t3 rfl (Rd.tG hB (i:=1) rfl (aI hy) rfl)) rfl (Calm.then (Calm.then bG.calm)) ?_;refine fi (fun h2=>?_) (fun h2=>?_);refine dw 10 [8,9] (k_ (d_ (k_ (k_ (k_ (k_ (k_ r_))))))) ?_;refine mO fun b3=>?_;refine yI rfl (dk rfl underlying26 t3 rfl rfl hB (by simp) (i:=2) rfl rfl (news:=[aM f.b.id]) (by simp[aM]) (fc.loc (i:=0) rfl (m:=1) rfl) rfl rfl rfl (by omega) (by unfold maxLen;omega)) ?_;rintro _ _ _ ⟨ja2,jc2,Mb2,rfl,ow,rfl,rfl⟩;refine sv 42 (.slice ja2 (j.au++[f.b.id]).length jc2) ?_ (e:=by simp);refine At.bu 1 rfl rfl ?_;refine At.quiet (aq OP rfl rfl rfl) rfl ?_;refine At.bC (aw t26 rfl rfl (i:=1) rfl rfl rfl rfl) ?_;rintro _ _ _ ⟨rfl,rfl⟩;refine At.nil ?_;refine At.front 2 rfl ?_;refine At.front 2 rfl ?_;refine At.then ?_;exact At.eh ({j with au:=j.au++[f.b.id]},ja2,jc2,Mb2) ⟨(Gu (by rw[hly];intro e;cases e;exact h2 rfl)).symm,by simpa using ow⟩ (bc.meet 36 trivial rfl rfl) (fun _ h=>h) (k_ (k_ (d_ r_)))
 refine At.skip ?_;refine At.front 1 rfl ?_;refine At.front 1 rfl ?_;refine At.then ?_;exact At.eh (j,ja,jc,Mb) ⟨(Mv (by rw[hly,show y=f.b.id by omega])).symm,hB⟩ (bc.meet 23 trivial rfl rfl) (fun _ h=>h) (k_ (k_ r_));intro st hCut;obtain⟨j1,ja1,jc1,Mb1⟩:=st;obtain⟨hj1,hB1⟩:=hCut;refine dw 10 [] r_ ?_;refine mc ?_;refine aQ.split (d:=47) rfl (fun h3=>?_) (fun h3=>?_);refine fi (fun h4=>?_) (fun h4=>?_);refine ca (lE tb xb _ _ s ba q a j1 f.dW k l _) ?_;rintro _ _ _ ⟨nv,bf,rfl,rfl⟩;refine mc ?_;refine At.front 4 rfl ?_;refine At.front 4 rfl ?_;refine At.cH ?_;refine At.front 6 rfl ?_;refine At.front 1 rfl ?_;refine At.cH ?_;refine mc ?_;refine At.front 0 rfl ?_;refine At.front 3 rfl ?_;refine At.cH ?_;refine re ?_;exact rs (by rw[(show(sy (⟨bz,op,call,lt,none,ov,an⟩:Th) q r).marked j f k=(sy (⟨bz,op,call,lt,none,ov,an⟩:Th) q r).dx j1 f.dW k from by rw[hj1];exact zE h3 (by rw[<-hj1];exact h4))];exact⟨q,r,nv,s,Mo,_,_,(bf,.nilFunc)::(a::l),rfl,rfl,hO,hA,⟨_,rfl,⟨_,_,rfl,⟨ja1,jc1,Mb1,rfl,hB1⟩,hJ⟩⟩,rfl,Ix.az q,hs⟩);refine sp 69 (fun h5=>?_) (fun h5=>?_);refine cv (fun h6=>?_) (fun h6=>?_);have hsev:Mu j1=1:=if_pos ⟨by omega,bM h6⟩;have hno:¬(f.cY=true/\f.dW<=j1.store.hi):=fun h=>h4 h.2;refine mc ?_;refine At.da 1 hB1 rfl ?_;refine dw 14 [9] (k_ (k_ (d_ (k_ (d_ (k_ r_)))))) ?_;refine oA (jW 1 (j1.au.length+1) xb ba q r _ hA ⟨ja1,jc1,j1.au⟩ (Nat.lt_succ_self _)) ?_;intro r2 N2 hA2 hr2;refine fi (fun h9=>?_) (fun h9=>?_);refine ca (results262 tb xb ba bz op call lt ov an s hs q Mo hO hol r2 _ hA2 a {j1 with full:=true} ja1 _ jc1 (-1) k l _ Mj hJ) ?_;rintro _ _ _ ⟨q9,r9,nv9,sl9,No9,Na9,Nj9,l9,rfl,rfl,hE⟩;refine re ?_;exact rs (by rw[(show(sy (⟨bz,op,call,lt,none,ov,an⟩:Th) q r).marked j f k=(Sy.bq (sy (⟨bz,op,call,lt,none,ov,an⟩:Th) q r) (Ar.aZ 1 (j1.au.length+1) r.p j1.au).2.2).results {j1 with full:=true} (-1) k from by have:=gW (s:=(sy (⟨bz,op,call,lt,none,ov,an⟩:Th) q r)) (j:=j) (f:=f) (k:=k) (by rw[<-hj1];exact hno) (by rw[<-hj1];unfold dX;rw[hsev];exact h9);rw[<-hj1]at this;unfold dX at this;rw[hsev]at this;exact this),<-hr2];exact⟨q9,r9,nv9,sl9,No9,Na9,Nj9,l9,rfl,rfl,hE⟩);refine ca (results262 tb xb ba bz op call lt ov an s hs q Mo hO hol r2 _ hA2 a j1 ja1 _ jc1 (Ar.aZ 1 (j1.au.length+1) r.p j1.au).1 k l _ Mj hJ) ?_;rintro _ _ _ ⟨q9,r9,nv9,sl9,No9,Na9,Nj9,l9,rfl,rfl,hE⟩;refine re ?_;exact rs (by rw[(show(sy (⟨bz,op,call,lt,none,ov,an⟩:Th) q r).marked j f k=(Sy.bq (sy (⟨bz,op,call,lt,none,ov,an⟩:Th) q r) (Ar.aZ 1 (j1.au.length+1) r.p j1.au).2.2).results j1 (Ar.aZ 1 (j1.au.length+1) r.p j1.au).1 k from by have:=jF (s:=(sy (⟨bz,op,call,lt,none,ov,an⟩:Th) q r)) (j:=j) (f:=f) (k:=k) (by rw[<-hj1];exact hno) (by rw[<-hj1];unfold dX;rw[hsev];exact h9);rw[<-hj1]at this;unfold dX at this;rw[hsev]at this;exact this),<-hr2];exact⟨q9,r9,nv9,sl9,No9,Na9,Nj9,l9,rfl,rfl,hE⟩)
 have hsev:Mu j1=0:=if_neg (fun h=>by rw[bV h6]at h;cases h.2);have hno:¬(f.cY=true/\f.dW<=j1.store.hi):=fun h=>h4 h.2;refine mc ?_;refine At.da 1 hB1 rfl ?_;refine dw 14 [9] (k_ (k_ (d_ (k_ (d_ (k_ r_)))))) ?_;refine oA (jW 0 (j1.au.length+1) xb ba q r _ hA ⟨ja1,jc1,j1.au⟩ (Nat.lt_succ_self _)) ?_;intro r2 N2 hA2 hr2;refine fi (fun h9=>?_) (fun h9=>?_);refine ca (results262 tb xb ba bz op call lt ov an s hs q Mo hO hol r2 _ hA2 a {j1 with full:=true} ja1 _ jc1 (-1) k l _ Mj hJ) ?_;rintro _ _ _ ⟨q9,r9,nv9,sl9,No9,Na9,Nj9,l9,rfl,rfl,hE⟩;refine re ?_;exact rs (by rw[(show(sy (⟨bz,op,call,lt,none,ov,an⟩:Th) q r).marked j f k=(Sy.bq (sy (⟨bz,op,call,lt,none,ov,an⟩:Th) q r) (Ar.aZ 0 (j1.au.length+1) r.p j1.au).2.2).results {j1 with full:=true} (-1) k from by have:=gW (s:=(sy (⟨bz,op,call,lt,none,ov,an⟩:Th) q r)) (j:=j) (f:=f) (k:=k) (by rw[<-hj1];exact hno) (by rw[<-hj1];unfold dX;rw[hsev];exact h9);rw[<-hj1]at this;unfold dX at this;rw[hsev]at this;exact this),<-hr2];exact⟨q9,r9,nv9,sl9,No9,Na9,Nj9,l9,rfl,rfl,hE⟩);refine ca (results262 tb xb ba bz op call lt ov an s hs q Mo hO hol r2 _ hA2 a j1 ja1 _ jc1 (Ar.aZ 0 (j1.au.length+1) r.p j1.au).1 k l _ Mj hJ) ?_;rintro _ _ _ ⟨q9,r9,nv9,sl9,No9,Na9,Nj9,l9,rfl,rfl,hE⟩;refine re ?_;exact rs (by rw[(show(sy (⟨bz,op,call,lt,none,ov,an⟩:Th) q r).marked j f k=(Sy.bq (sy (⟨bz,op,call,lt,none,ov,an⟩:Th) q r) (Ar.aZ 0 (j1.au.length+1) r.p j1.au).2.2).results j1 (Ar.aZ 0 (j1.au.length+1) r.p j1.au).1 k from by have:=jF (s:=(sy (⟨bz,op,call,lt,none,ov,an⟩:Th) q r)) (j:=j) (f:=f) (k:=k) (by rw[<-hj1];exact hno) (by rw[<-hj1];unfold dX;rw[hsev];exact h9);rw[<-hj1]at this;unfold dX at this;rw[hsev]at this;exact this),<-hr2];exact⟨q9,r9,nv9,sl9,No9,Na9,Nj9,l9,rfl,rfl,hE⟩);have hsev:Mu j1=0:=if_neg (fun h=>h5 (by omega));have hno:¬(f.cY=true/\f.dW<=j1.store.hi):=fun h=>h4 h.2;refine mc ?_;refine At.da 1 hB1 rfl ?_;refine dw 14 [9] (k_ (k_ (d_ (k_ (d_ (k_ r_)))))) ?_;refine oA (jW 0 (j1.au.length+1) xb ba q r _ hA ⟨ja1,jc1,j1.au⟩ (Nat.lt_succ_self _)) ?_;intro r2 N2 hA2 hr2;refine fi (fun h9=>?_) (fun h9=>?_);refine ca (results262 tb xb ba bz op call lt ov an s hs q Mo hO hol r2 _ hA2 a {j1 with full:=true} ja1 _ jc1 (-1) k l _ Mj hJ) ?_;rintro _ _ _ ⟨q9,r9,nv9,sl9,No9,Na9,Nj9,l9,rfl,rfl,hE⟩;refine re ?_;exact rs (by rw[(show(sy (⟨bz,op,call,lt,none,ov,an⟩:Th) q r).marked j f k=(Sy.bq (sy (⟨bz,op,call,lt,none,ov,an⟩:Th) q r) (Ar.aZ 0 (j1.au.length+1) r.p j1.au).2.2).results {j1 with full:=true} (-1) k from by have:=gW (s:=(sy (⟨bz,op,call,lt,none,ov,an⟩:Th) q r)) (j:=j) (f:=f) (k:=k) (by rw[<-hj1];exact hno) (by rw[<-hj1];unfold dX;rw[hsev];exact h9);rw[<-hj1]at this;unfold dX at this;rw[hsev]at this;exact this),<-hr2];exact⟨q9,r9,nv9,sl9,No9,Na9,Nj9,l9,rfl,rfl,hE⟩)
 refine ca (results262 tb xb ba bz op call lt ov an s hs q Mo hO hol r2 _ hA2 a j1 ja1 _ jc1 (Ar.aZ 0 (j1.au.length+1) r.p j1.au).1 k l _ Mj hJ) ?_;rintro _ _ _ ⟨q9,r9,nv9,sl9,No9,Na9,Nj9,l9,rfl,rfl,hE⟩;refine re ?_;exact rs (by rw[(show(sy (⟨bz,op,call,lt,none,ov,an⟩:Th) q r).marked j f k=(Sy.bq (sy (⟨bz,op,call,lt,none,ov,an⟩:Th) q r) (Ar.aZ 0 (j1.au.length+1) r.p j1.au).2.2).results j1 (Ar.aZ 0 (j1.au.length+1) r.p j1.au).1 k from by have:=jF (s:=(sy (⟨bz,op,call,lt,none,ov,an⟩:Th) q r)) (j:=j) (f:=f) (k:=k) (by rw[<-hj1];exact hno) (by rw[<-hj1];unfold dX;rw[hsev];exact h9);rw[<-hj1]at this;unfold dX at this;rw[hsev]at this;exact this),<-hr2];exact⟨q9,r9,nv9,sl9,No9,Na9,Nj9,l9,rfl,rfl,hE⟩);refine sp 69 (fun h5=>?_) (fun h5=>?_);refine cv (fun h6=>?_) (fun h6=>?_);have hsev:Mu j1=1:=if_pos ⟨by omega,bM h6⟩;have hno:¬(f.cY=true/\f.dW<=j1.store.hi):=fun h=>by rw[h3]at h;cases h.1
 refine mc ?_;refine At.da 1 hB1 rfl ?_;refine dw 14 [9] (k_ (k_ (d_ (k_ (d_ (k_ r_)))))) ?_;refine oA (jW 1 (j1.au.length+1) xb ba q r _ hA ⟨ja1,jc1,j1.au⟩ (Nat.lt_succ_self _)) ?_;intro r2 N2 hA2 hr2;refine fi (fun h9=>?_) (fun h9=>?_);refine ca (results262 tb xb ba bz op call lt ov an s hs q Mo hO hol r2 _ hA2 a {j1 with full:=true} ja1 _ jc1 (-1) k l _ Mj hJ) ?_;rintro _ _ _ ⟨q9,r9,nv9,sl9,No9,Na9,Nj9,l9,rfl,rfl,hE⟩;refine re ?_;exact rs (by rw[(show(sy (⟨bz,op,call,lt,none,ov,an⟩:Th) q r).marked j f k=(Sy.bq (sy (⟨bz,op,call,lt,none,ov,an⟩:Th) q r) (Ar.aZ 1 (j1.au.length+1) r.p j1.au).2.2).results {j1 with full:=true} (-1) k from by have:=gW (s:=(sy (⟨bz,op,call,lt,none,ov,an⟩:Th) q r)) (j:=j) (f:=f) (k:=k) (by rw[<-hj1];exact hno) (by rw[<-hj1];unfold dX;rw[hsev];exact h9);rw[<-hj1]at this;unfold dX at this;rw[hsev]at this;exact this),<-hr2];exact⟨q9,r9,nv9,sl9,No9,Na9,Nj9,l9,rfl,rfl,hE⟩);refine ca (results262 tb xb ba bz op call lt ov an s hs q Mo hO hol r2 _ hA2 a j1 ja1 _ jc1 (Ar.aZ 1 (j1.au.length+1) r.p j1.au).1 k l _ Mj hJ) ?_;rintro _ _ _ ⟨q9,r9,nv9,sl9,No9,Na9,Nj9,l9,rfl,rfl,hE⟩;refine re ?_;exact rs (by rw[(show(sy (⟨bz,op,call,lt,none,ov,an⟩:Th) q r).marked j f k=(Sy.bq (sy (⟨bz,op,call,lt,none,ov,an⟩:Th) q r) (Ar.aZ 1 (j1.au.length+1) r.p j1.au).2.2).results j1 (Ar.aZ 1 (j1.au.length+1) r.p j1.au).1 k from by have:=jF (s:=(sy (⟨bz,op,call,lt,none,ov,an⟩:Th) q r)) (j:=j) (f:=f) (k:=k) (by rw[<-hj1];exact hno) (by rw[<-hj1];unfold dX;rw[hsev];exact h9);rw[<-hj1]at this;unfold dX at this;rw[hsev]at this;exact this),<-hr2];exact⟨q9,r9,nv9,sl9,No9,Na9,Nj9,l9,rfl,rfl,hE⟩);have hsev:Mu j1=0:=if_neg (fun h=>by rw[bV h6]at h;cases h.2);have hno:¬(f.cY=true/\f.dW<=j1.store.hi):=fun h=>by rw[h3]at h;cases h.1
 refine mc ?_;refine At.da 1 hB1 rfl ?_;refine dw 14 [9] (k_ (k_ (d_ (k_ (d_ (k_ r_)))))) ?_;refine oA (jW 0 (j1.au.length+1) xb ba q r _ hA ⟨ja1,jc1,j1.au⟩ (Nat.lt_succ_self _)) ?_;intro r2 N2 hA2 hr2;refine fi (fun h9=>?_) (fun h9=>?_);refine ca (results262 tb xb ba bz op call lt ov an s hs q Mo hO hol r2 _ hA2 a {j1 with full:=true} ja1 _ jc1 (-1) k l _ Mj hJ) ?_;rintro _ _ _ ⟨q9,r9,nv9,sl9,No9,Na9,Nj9,l9,rfl,rfl,hE⟩;refine re ?_;exact rs (by rw[(show(sy (⟨bz,op,call,lt,none,ov,an⟩:Th) q r).marked j f k=(Sy.bq (sy (⟨bz,op,call,lt,none,ov,an⟩:Th) q r) (Ar.aZ 0 (j1.au.length+1) r.p j1.au).2.2).results {j1 with full:=true} (-1) k from by have:=gW (s:=(sy (⟨bz,op,call,lt,none,ov,an⟩:Th) q r)) (j:=j) (f:=f) (k:=k) (by rw[<-hj1];exact hno) (by rw[<-hj1];unfold dX;rw[hsev];exact h9);rw[<-hj1]at this;unfold dX at this;rw[hsev]at this;exact this),<-hr2];exact⟨q9,r9,nv9,sl9,No9,Na9,Nj9,l9,rfl,rfl,hE⟩);refine ca (results262 tb xb ba bz op call lt ov an s hs q Mo hO hol r2 _ hA2 a j1 ja1 _ jc1 (Ar.aZ 0 (j1.au.length+1) r.p j1.au).1 k l _ Mj hJ) ?_;rintro _ _ _ ⟨q9,r9,nv9,sl9,No9,Na9,Nj9,l9,rfl,rfl,hE⟩;refine re ?_;exact rs (by rw[(show(sy (⟨bz,op,call,lt,none,ov,an⟩:Th) q r).marked j f k=(Sy.bq (sy (⟨bz,op,call,lt,none,ov,an⟩:Th) q r) (Ar.aZ 0 (j1.au.length+1) r.p j1.au).2.2).results j1 (Ar.aZ 0 (j1.au.length+1) r.p j1.au).1 k from by have:=jF (s:=(sy (⟨bz,op,call,lt,none,ov,an⟩:Th) q r)) (j:=j) (f:=f) (k:=k) (by rw[<-hj1];exact hno) (by rw[<-hj1];unfold dX;rw[hsev];exact h9);rw[<-hj1]at this;unfold dX at this;rw[hsev]at this;exact this),<-hr2];exact⟨q9,r9,nv9,sl9,No9,Na9,Nj9,l9,rfl,rfl,hE⟩);have hsev:Mu j1=0:=if_neg (fun h=>h5 (by omega));have hno:¬(f.cY=true/\f.dW<=j1.store.hi):=fun h=>by rw[h3]at h;cases h.1
 refine mc ?_;refine At.da 1 hB1 rfl ?_;refine dw 14 [9] (k_ (k_ (d_ (k_ (d_ (k_ r_)))))) ?_;refine oA (jW 0 (j1.au.length+1) xb ba q r _ hA ⟨ja1,jc1,j1.au⟩ (Nat.lt_succ_self _)) ?_;intro r2 N2 hA2 hr2;refine fi (fun h9=>?_) (fun h9=>?_);refine ca (results262 tb xb ba bz op call lt ov an s hs q Mo hO hol r2 _ hA2 a {j1 with full:=true} ja1 _ jc1 (-1) k l _ Mj hJ) ?_;rintro _ _ _ ⟨q9,r9,nv9,sl9,No9,Na9,Nj9,l9,rfl,rfl,hE⟩;refine re ?_;exact rs (by rw[(show(sy (⟨bz,op,call,lt,none,ov,an⟩:Th) q r).marked j f k=(Sy.bq (sy (⟨bz,op,call,lt,none,ov,an⟩:Th) q r) (Ar.aZ 0 (j1.au.length+1) r.p j1.au).2.2).results {j1 with full:=true} (-1) k from by have:=gW (s:=(sy (⟨bz,op,call,lt,none,ov,an⟩:Th) q r)) (j:=j) (f:=f) (k:=k) (by rw[<-hj1];exact hno) (by rw[<-hj1];unfold dX;rw[hsev];exact h9);rw[<-hj1]at this;unfold dX at this;rw[hsev]at this;exact this),<-hr2];exact⟨q9,r9,nv9,sl9,No9,Na9,Nj9,l9,rfl,rfl,hE⟩);refine ca (results262 tb xb ba bz op call lt ov an s hs q Mo hO hol r2 _ hA2 a j1 ja1 _ jc1 (Ar.aZ 0 (j1.au.length+1) r.p j1.au).1 k l _ Mj hJ) ?_;rintro _ _ _ ⟨q9,r9,nv9,sl9,No9,Na9,Nj9,l9,rfl,rfl,hE⟩;refine re ?_;exact rs (by rw[(show(sy (⟨bz,op,call,lt,none,ov,an⟩:Th) q r).marked j f k=(Sy.bq (sy (⟨bz,op,call,lt,none,ov,an⟩:Th) q r) (Ar.aZ 0 (j1.au.length+1) r.p j1.au).2.2).results j1 (Ar.aZ 0 (j1.au.length+1) r.p j1.au).1 k from by have:=jF (s:=(sy (⟨bz,op,call,lt,none,ov,an⟩:Th) q r)) (j:=j) (f:=f) (k:=k) (by rw[<-hj1];exact hno) (by rw[<-hj1];unfold dX;rw[hsev];exact h9);rw[<-hj1]at this;unfold dX at this;rw[hsev]at this;exact this),<-hr2];exact⟨q9,r9,nv9,sl9,No9,Na9,Nj9,l9,rfl,rfl,hE⟩)
end Go.Proofs.YtcnohdmimheoaaaGreat
namespace Go.Proofs.YtcnohdmimheoaaaGreat
open E Go.Proofs.Tryz
section
variable {s:Sy} {j:Jb} {key:Int} {f:Fo} {z:Int} {k:KR}
include s j key f z k
theorem pr (h:(s.ar.make 6 [f.b.af,z,f.b.home,j.store.id]).2.1≠0):
  s.marks j key f z k=(s.bq (s.ar.make 6 [f.b.af,z,f.b.home,j.store.id]).2.2).results {j with full:=true} (-1) k:=by
 unfold Sy.marks;generalize s.ar.make 6 [f.b.af,z,f.b.home,j.store.id]=q at h⊢;rcases q with⟨a,b,c⟩;exact if_pos h
theorem uO (h:¬(s.ar.make 6 [f.b.af,z,f.b.home,j.store.id]).2.1≠0):
  s.marks j key f z k=(s.bq (s.ar.make 6 [f.b.af,z,f.b.home,j.store.id]).2.2).go (.swap f.b.home f.b.id (s.ar.make 6 [f.b.af,z,f.b.home,j.store.id]).1 (.marks j key f (s.ar.make 6 [f.b.af,z,f.b.home,j.store.id]).1 k)):=by
 unfold Sy.marks;generalize s.ar.make 6 [f.b.af,z,f.b.home,j.store.id]=q at h⊢;rcases q with⟨a,b,c⟩;exact if_neg h
end
end Go.Proofs.YtcnohdmimheoaaaGreat
namespace Go.Proofs.YtcnohdmimheoaaaGreat
open E Ar Go.Proofs.Tryz
theorem Gv (tb xb ba:Nat) (bz:Bool) (op:bA) (call:Int) (lt ov:Bool) (an:An) (s:Sl Pr) (hs:s.l=an.l) (q:Ix) (Mo:aO) (hO:bR 3 1 (q.ord.map aM) q.oa q.oc Mo) (hol:q.ord.length<1000000) (r:cX) (M:aO) (hA:aR ba r M) (a:Nat×Value) (j:Jb) (ja:Option Addr) (jc:Nat) (Mb:aO) (hB:bR 3 1 (j.au.map aM) ja jc Mb) (key:Int) (f:Fo) (z:Int) (k:KR) (l:Ax) (gv rv:Value) (Mj:aO) (hJ:sM k l Mj):aN prog 241 [.pointer (some ⟨tb,0,none⟩),.pointer (some ⟨a.1,0,none⟩),f.val,.int .i64 z,gv,rv] [ak r.rows,aC s,qg tb a.1 key (fT tb k a.1 l) gv,fT tb k a.1 l rv] [aE tb xb (⟨bz,op,call,lt,none,ov,an⟩:Th) .nilFunc s,ao xb ba q,Mo,M,jg a.1 j ja j.au.length jc,Mb,Mj] (aX tb xb ba q ((sy (⟨bz,op,call,lt,none,ov,an⟩:Th) q r).marks j key f z k)):=by
 refine cb fun X H₀ L₀=>?_;refine At.have (eN gv) (fun _ h=>B8 h.2.2.2.1) fun hf=>?_;obtain⟨f_gv,a_gv,c_gv,rfl⟩:=hf;refine At.have (eN rv) (fun _ h=>qm h.2.2.2.2.1) fun hf=>?_;obtain⟨f_rv,a_rv,c_rv,rfl⟩:=hf;refine bx fun b1=>?_;refine bx fun b2=>?_;refine al fun b3=>?_;refine bx fun b4=>?_;refine bx fun b5=>?_;refine mc ?_;refine At.draw 26 (.q 0 (.q 1 (.q 2 (.q 3 (.q 4 (.q 5 (.q 6 (.q 7 (.q 8 (.q 9 (.q 10 (.q 11 (.q 12 (.q 13 (.q 14 (.q 15 (.q 16 (.q 17 (.q 18 (.t 19 (.t 20 (.q 21 (.q 22 (.q 23 (.o 24 (.o 25 (.e)))))) 24 (.o 20 (.q 21 (.q 22 (.q 23 (.o 25 (.e))))))) 24 (.o 19 (.o 20 (.q 21 (.q 22 (.q 23 (.o 25 (.e))))))))))))))))))))))))))) (_::_::_::_::L₀) (k_ (k_ (k_ (d_ (d_ (k_ (d_ (d_ r_)))))))) mixed (by kernel_rfl) rfl ?_;refine mc ?_;refine aQ.two ?_ ?_;refine oM rfl (aP (rows:=[f.b.af,z,f.b.home,j.store.id].map aM) underlying26 t3 rfl rfl rfl rfl rfl (by simp[aM]) rfl rfl (by decide)) ?_;rintro _ _ _ ⟨b6,rfl,rfl,rfl⟩;refine aQ.two ?_ ?_;refine gf (cJ ba r _ hA 6 ⟨some ⟨b6,0,none⟩,4,[f.b.af,z,f.b.home,j.store.id]⟩) ?_;intro r2 N2 hA2 hr2;refine mO fun b7=>?_;refine yn rfl (aw t3 rfl rfl (i:=0) rfl rfl rfl rfl) ?_;rintro _ _ _ ⟨rfl,rfl⟩;refine fi (fun h1=>?_) (fun h1=>?_);refine ca (results262 tb xb ba bz op call lt ov an s hs q Mo hO hol r2 _ hA2 a {j with full:=true} ja _ jc (-1) k l _ Mj hJ) ?_;rintro _ _ _ ⟨q9,r9,nv9,sl9,No9,Na9,Nj9,l9,rfl,rfl,hE⟩;refine re ?_;exact rs (by rw[pr (s:=sy _ q r) h1];dsimp only[sy];rw[<-hr2];exact⟨q9,r9,nv9,sl9,No9,Na9,Nj9,l9,rfl,rfl,hE⟩);refine mc ?_;refine At.freeze 0 (φ:=aW b7 _) rfl (fun _ h=>cO.2 ⟨_,_,h⟩) ?_;refine mc ?_;refine At.aJ (eZ tb (.marks j key f (r.p.make 6 [f.b.af,z,f.b.home,j.store.id]).1 k) ((b3,.nilFunc)::a::l) (dE 263 [b4,b1,b7,b3,b2,b5])) (fun _ h=>bK ((b4,b1,b7,b2,b5),.func f_gv a_gv c_gv,.func f_rv a_rv c_rv) rfl ⟨h.2.2.2.2.1,h.2.2.2.2.2.2.1,h.1,h.2.2.2.2.2.1,h.2.2.2.1,h.2.2.2.2.2.2.2.2.2.2.1,h.2.2.2.2.2.2.2.2.2.2.2.1,trivial⟩) ?_;refine ca (dR tb xb _ _ _ (f.b.home) (f.b.id) ((r.p.make 6 [f.b.af,z,f.b.home,j.store.id]).1) (.marks j key f (r.p.make 6 [f.b.af,z,f.b.home,j.store.id]).1 k) ((b3,.nilFunc)::a::l) _) ?_;rintro _ _ _ ⟨nv,rfl,rfl⟩;refine mc ?_;refine At.front 6 rfl ?_;refine At.front 6 rfl ?_;refine At.cH ?_;refine At.front 6 rfl ?_;refine At.front 1 rfl ?_;refine At.cH ?_;refine At.front 0 rfl ?_;refine At.front 3 rfl ?_;refine At.cH ?_;refine re ?_;exact rs (by rw[uO (s:=sy _ q r) h1];dsimp only[sy];rw[<-hr2];exact⟨q,r2,nv,s,Mo,_,_,((b3,.nilFunc)::a::l),rfl,rfl,hO,hA2,⟨_,rfl,⟨_,_,rfl,⟨ja,jc,Mb,rfl,hB⟩,hJ⟩⟩,rfl,Ix.az q,hs⟩);refine mO fun b8=>?_;refine gf (cJ ba r _ hA 6 ⟨some ⟨b6,0,none⟩,4,[f.b.af,z,f.b.home,j.store.id]⟩) ?_
 intro r2 N2 hA2 hr2;refine mc ?_;refine yn rfl (aw t3 rfl rfl (i:=1) rfl rfl rfl rfl) ?_;rintro _ _ _ ⟨rfl,rfl⟩;refine fi (fun h1=>?_) (fun h1=>?_);refine ca (results262 tb xb ba bz op call lt ov an s hs q Mo hO hol r2 _ hA2 a {j with full:=true} ja _ jc (-1) k l _ Mj hJ) ?_;rintro _ _ _ ⟨q9,r9,nv9,sl9,No9,Na9,Nj9,l9,rfl,rfl,hE⟩;refine re ?_;exact rs (by rw[pr (s:=sy _ q r) h1];dsimp only[sy];rw[<-hr2];exact⟨q9,r9,nv9,sl9,No9,Na9,Nj9,l9,rfl,rfl,hE⟩);refine mc ?_;refine At.freeze 1 (φ:=aW b8 _) rfl (fun _ h=>cO.2 ⟨_,_,h⟩) ?_;refine mc ?_;refine At.aJ (eZ tb (.marks j key f (r.p.make 6 [f.b.af,z,f.b.home,j.store.id]).1 k) ((b3,.nilFunc)::a::l) (dE 263 [b4,b1,b8,b3,b2,b5])) (fun _ h=>bK ((b4,b1,b8,b2,b5),.func f_gv a_gv c_gv,.func f_rv a_rv c_rv) rfl ⟨h.2.2.2.2.1,h.2.2.2.2.2.2.1,h.1,h.2.2.2.2.2.1,h.2.2.2.1,h.2.2.2.2.2.2.2.2.2.2.1,h.2.2.2.2.2.2.2.2.2.2.2.1,trivial⟩) ?_;refine ca (dR tb xb _ _ _ (f.b.home) (f.b.id) ((r.p.make 6 [f.b.af,z,f.b.home,j.store.id]).1) (.marks j key f (r.p.make 6 [f.b.af,z,f.b.home,j.store.id]).1 k) ((b3,.nilFunc)::a::l) _) ?_;rintro _ _ _ ⟨nv,rfl,rfl⟩;refine mc ?_;refine At.front 6 rfl ?_;refine At.front 6 rfl ?_;refine At.cH ?_;refine At.front 6 rfl ?_;refine At.front 1 rfl ?_;refine At.cH ?_;refine At.front 0 rfl ?_;refine At.front 3 rfl ?_;refine At.cH ?_;refine re ?_;exact rs (by rw[uO (s:=sy _ q r) h1];dsimp only[sy];rw[<-hr2];exact⟨q,r2,nv,s,Mo,_,_,((b3,.nilFunc)::a::l),rfl,rfl,hO,hA2,⟨_,rfl,⟨_,_,rfl,⟨ja,jc,Mb,rfl,hB⟩,hJ⟩⟩,rfl,Ix.az q,hs⟩);refine mO fun b9=>?_;refine oM rfl (aP (rows:=[f.b.af,z,f.b.home,j.store.id].map aM) underlying26 t3 rfl rfl rfl rfl rfl (by simp[aM]) rfl rfl (by decide)) ?_;rintro _ _ _ ⟨b10,rfl,rfl,rfl⟩;refine gf (cJ ba r _ hA 6 ⟨some ⟨b10,0,none⟩,4,[f.b.af,z,f.b.home,j.store.id]⟩) ?_;intro r2 N2 hA2 hr2;refine mc ?_;refine yn rfl (aw t3 rfl rfl (i:=1) rfl rfl rfl rfl) ?_;rintro _ _ _ ⟨rfl,rfl⟩;refine fi (fun h1=>?_) (fun h1=>?_);refine ca (results262 tb xb ba bz op call lt ov an s hs q Mo hO hol r2 _ hA2 a {j with full:=true} ja _ jc (-1) k l _ Mj hJ) ?_;rintro _ _ _ ⟨q9,r9,nv9,sl9,No9,Na9,Nj9,l9,rfl,rfl,hE⟩;refine re ?_;exact rs (by rw[pr (s:=sy _ q r) h1];dsimp only[sy];rw[<-hr2];exact⟨q9,r9,nv9,sl9,No9,Na9,Nj9,l9,rfl,rfl,hE⟩);refine mc ?_;refine At.freeze 1 (φ:=aW b9 _) rfl (fun _ h=>cO.2 ⟨_,_,h⟩) ?_;refine mc ?_;refine At.aJ (eZ tb (.marks j key f (r.p.make 6 [f.b.af,z,f.b.home,j.store.id]).1 k) ((b3,.nilFunc)::a::l) (dE 263 [b4,b1,b9,b3,b2,b5])) (fun _ h=>bK ((b4,b1,b9,b2,b5),.func f_gv a_gv c_gv,.func f_rv a_rv c_rv) rfl ⟨h.2.2.2.2.1,h.2.2.2.2.2.2.1,h.1,h.2.2.2.2.2.1,h.2.2.2.1,h.2.2.2.2.2.2.2.2.2.2.1,h.2.2.2.2.2.2.2.2.2.2.2.1,trivial⟩) ?_
 refine ca (dR tb xb _ _ _ (f.b.home) (f.b.id) ((r.p.make 6 [f.b.af,z,f.b.home,j.store.id]).1) (.marks j key f (r.p.make 6 [f.b.af,z,f.b.home,j.store.id]).1 k) ((b3,.nilFunc)::a::l) _) ?_;rintro _ _ _ ⟨nv,rfl,rfl⟩;refine mc ?_;refine At.front 6 rfl ?_;refine At.front 6 rfl ?_;refine At.cH ?_;refine At.front 6 rfl ?_;refine At.front 1 rfl ?_;refine At.cH ?_;refine At.front 0 rfl ?_;refine At.front 3 rfl ?_;refine At.cH ?_;refine re ?_;exact rs (by rw[uO (s:=sy _ q r) h1];dsimp only[sy];rw[<-hr2];exact⟨q,r2,nv,s,Mo,_,_,((b3,.nilFunc)::a::l),rfl,rfl,hO,hA2,⟨_,rfl,⟨_,_,rfl,⟨ja,jc,Mb,rfl,hB⟩,hJ⟩⟩,rfl,Ix.az q,hs⟩)
end Go.Proofs.YtcnohdmimheoaaaGreat
namespace Go.Proofs.YtcnohdmimheoaaaGreat
open E Go.Proofs.Tryz
abbrev Q5:=Int×Int×Bool×Int×Ar
def ed (A:Ar) (o:bA) (t:Int):Q5:=if o.kind=1 then A.jO t ⟨o.key,o.v⟩else if o.kind=2 then A.pU t ⟨o.key,o.v⟩else A.oC t o.key
section
variable {A:Ar} {o:bA} {t:Int}
include A o t
theorem Ce (h:o.kind=1):ed A o t=A.jO t ⟨o.key,o.v⟩:=if_pos h
theorem Cg (h:¬o.kind=1) (h2:o.kind=2):ed A o t=A.pU t ⟨o.key,o.v⟩:=by unfold ed;rw[if_neg h,if_pos h2]
theorem Ch (h:¬o.kind=1) (h2:¬o.kind=2):ed A o t=A.oC t o.key:=by unfold ed;rw[if_neg h,if_neg h2]
end
theorem lG {s:Sy} {b:Bs} {z:Int} (h:(ed s.ar s.th.op b.af).2.2.2.1≠0):s.made b z=(0,.zero,(ed s.ar s.th.op b.af).2.2.2.1,(ed s.ar s.th.op b.af).2.2.2.2):=by
 show(let(af,v,ok,e,B):=ed s.ar s.th.op b.af;if e≠0 then(0,An.zero,e,B)else(let(id,e2,C):=B.make 3 [af,cS s.cF z (if s.th.late then 1 else 2),b.home];(id,tX s.th.op.key v ok,e2,C)))=_;generalize ed s.ar s.th.op b.af=q at h⊢;rcases q with⟨q1,q2,q3,q4,q5⟩;exact if_pos h
theorem jw {s:Sy} {b:Bs} {z:Int} (h:¬(ed s.ar s.th.op b.af).2.2.2.1≠0):s.made b z=
  (((ed s.ar s.th.op b.af).2.2.2.2.make 3 [(ed s.ar s.th.op b.af).1,cS s.cF z (if s.th.late then 1 else 2),b.home]).1,tX s.th.op.key (ed s.ar s.th.op b.af).2.1 (ed s.ar s.th.op b.af).2.2.1,
   ((ed s.ar s.th.op b.af).2.2.2.2.make 3 [(ed s.ar s.th.op b.af).1,cS s.cF z (if s.th.late then 1 else 2),b.home]).2.1,((ed s.ar s.th.op b.af).2.2.2.2.make 3 [(ed s.ar s.th.op b.af).1,cS s.cF z (if s.th.late then 1 else 2),b.home]).2.2):=by
 show(let(af,v,ok,e,B):=ed s.ar s.th.op b.af;if e≠0 then(0,An.zero,e,B)else(let(id,e2,C):=B.make 3 [af,cS s.cF z (if s.th.late then 1 else 2),b.home];(id,tX s.th.op.key v ok,e2,C)))=_;generalize ed s.ar s.th.op b.af=q at h⊢;rcases q with⟨q1,q2,q3,q4,q5⟩;exact if_neg h
def Jh (tb xb ba:Nat) (th:Th) (s:Sl Pr) (q:Ix) (m:Int×An×Int×Ar) (v:Value) (Γ:List ag) (M':E.Loc):Prop:=
 v= .tuple #[.int .i64 m.1,m.2.1.val ⟨none,0,[]⟩,.int .i64 m.2.2.1]/\∃(r':cX) (N:aO),Γ=[ak r'.rows]/\M'=[aE tb xb th .nilFunc s,ao xb ba q,N]/\aR ba r' N/\r'.p=m.2.2.2
namespace Ar
theorem xQ {A:Ar}:∀(n:Nat) {t:Int} {l:List Pr} (ht:Tp A t l) (hn:t.toNat<n) (hl:l.length<=60000) (i:Nat) (x:Pr),l[i]? =some x->A.kP n t (i:Int)=(x,true)
 |0,t,l,ht,hn,hl,i,x,hx=>absurd hn (Nat.not_lt_zero _)
 |n+1,t,l,ht,hn,hl,i,x,hx=>by
  unfold kP
  cases hi:A.isNode t
  obtain⟨rfl,rfl⟩:=ht.empty hi
  cases hx
  have h0:=di hi;rw[if_pos rfl,ht.look hi];obtain⟨la,lb,rfl,h1,h2,h3,h4,h5,h6,h7⟩:=ht.cases hi;rw[h3.size];simp only[List.length_append,List.length_cons]at hl;by_cases e:(i:Int)=la.length;rw[if_pos e];rw[show i=la.length by omega,List.getElem?_append_right (Nat.le_refl _)]at hx;simp at hx;rw[hx];rw[if_neg e];by_cases e2:(i:Int)<la.length;rw[if_pos e2];rw[List.getElem?_append_left (by omega)]at hx;exact xQ n h3 (by have:=h3.nn;omega) (by omega) i x hx
  have hil:i<(la++(A.node t).p::lb).length:=by
   rcases Nat.lt_or_ge i (la++(A.node t).p::lb).length with h|h;exact h;rw[List.getElem?_eq_none h]at hx;cases hx
  simp only[List.length_append,List.length_cons]at hil;have w1:IntKind.i64.wrap ((i:Int)-la.length)=(i:Int)-la.length:=oI (by omega) (by omega);have w2:IntKind.i64.wrap ((i:Int)-la.length-1)=(i:Int)-la.length-1:=oI (by omega) (by omega);rw[if_neg e2,w1,w2];rw[List.getElem?_append_right (by omega),show i-la.length=(i-la.length-1)+1 by omega,List.getElem?_cons_succ]at hx;rw[show(i:Int)-la.length-1=((i-la.length-1:Nat):Int) by omega];exact xQ n h4 (by have:=h4.nn;omega) (by omega) _ x hx
theorem Mw {A:Ar} (hA:A.Ok) {t:Int} {l:List Pr} (ht:Tp A t l) {i:Nat} {x:Pr} (hx:l[i]? =some x):A.nth t (i:Int)=(x,true):=by
 have h1:i<l.length:=by
  rcases Nat.lt_or_ge i l.length with h|h;exact h;rw[List.getElem?_eq_none h]at hx;cases hx
 have hf:=ht.gN;unfold Ok at hA;rw[BW (by omega) (by rw[ht.size];omega)];exact xQ _ ht (by unfold fuel;omega) (by omega) i x hx
theorem Gw {lo hi:Int} {la lb:List Pr} {p:Pr}:dG (la++p::lb) lo hi=dG la lo hi++((if lo<=p.k/\p.k<=hi then[p]else[])++dG lb lo hi):=by
 unfold dG;rw[List.filter_append,List.filter_cons];by_cases e:lo<=p.k/\p.k<=hi;rw[if_pos (by simp[Ef,e.1,e.2]),if_pos e];rfl;rw[if_neg (by simpa[Ef]using e),if_neg e];rfl
theorem qv {lo hi:Int} {l:List Pr} (h:∀x∈l,¬(lo<=x.k/\x.k<=hi)):dG l lo hi=[]:=by
 unfold dG;exact List.filter_eq_nil_iff.2 fun x hx=>by have:=h x hx;simpa[Ef]using this
theorem uP {A:Ar} {lo hi:Int}:∀(n:Nat) {t:Int} {l:List Pr} (ht:Tp A t l) (hn:t.toNat<n) (left bound:Int) (hb:t<bound) (hl:(l.length:Int)<=left),
  (fg A lo hi n left t bound).1=dG l lo hi/\left-l.length<=(fg A lo hi n left t bound).2/\(fg A lo hi n left t bound).2<=left
 |0,t,l,ht,hn,left,bound,hb,hl=>absurd hn (Nat.not_lt_zero _)
 |n+1,t,l,ht,hn,left,bound,hb,hl=>by
  cases hi':A.isNode t
  obtain⟨rfl,rfl⟩:=ht.empty hi';rw[kF (.inl hi')];exact⟨rfl,by simp,by simp⟩;have h0:=di hi';obtain⟨la,lb,rfl,h1,h2,h3,h4,h5,h6,h7⟩:=ht.cases hi';simp only[List.length_append,List.length_cons]at hl;rw[uA hi' (by omega) (by omega),Gw]
  have g1:(A.gl lo hi n left t).1=dG la lo hi/\left-1-la.length<=(A.gl lo hi n left t).2/\(A.gl lo hi n left t).2<=left-1:=by
   by_cases e:lo<(A.node t).p.k;rw[AU e];exact uP n h3 (by have:=h3.nn;omega) (left-1) t h1 (by omega);rw[FN e,qv (fun x hx=>by have:=(h6 x hx).1;omega)];exact⟨rfl,by simp only[];omega,by simp only[];omega⟩
  have g2:∀l1,left-1-la.length<=l1->(A.gr lo hi n l1 t).1=dG lb lo hi/\l1-lb.length<=(A.gr lo hi n l1 t).2/\(A.gr lo hi n l1 t).2<=l1:=by
   intro l1 hl1;by_cases e:(A.node t).p.k<hi;rw[AV e];exact uP n h4 (by have:=h4.nn;omega) l1 t h2 (by omega);rw[FO e,qv (fun x hx=>by have:=(h7 x hx).1;omega)];exact⟨rfl,by simp only[];omega,by simp only[];omega⟩
  obtain⟨g3,g4,g5⟩:=g2 _ g1.2.1;refine⟨?_,?_,?_⟩;rw[g1.1,g3];rfl;simp only[List.length_append,List.length_cons];omega;simp only[];omega
theorem zF {A:Ar} (hA:A.Ok) {t lo hi:Int} {l:List Pr} (ht:Tp A t l):A.range t lo hi=dG l lo hi:=by
 by_cases e:lo<=hi;rw[wg e];have hf:=ht.gN;have hn:=ht.nn;unfold Ok at hA;exact(uP _ ht (by unfold fuel;omega) _ _ (by omega) (by omega)).1;rw[zj e,qv (fun x hx=>by omega)]
theorem xR {p:Pr} {l:List Pr} (h:jv l):yo p l=eM l p:=by
 refine jv.ext (qs h) (w6 h) fun x=>?_;rw[mn,tR]
theorem nI {l:List Pr} {k:Int}:vV l k=tX k ((lk l k).getD 0) (lk l k).isSome:=by
 unfold vV lk
 cases e:l.find? (pD k)with
 |none=>rfl
 |some p=>
  have h2:=List.find?_some e;simp[pD]at h2;subst h2;rfl
theorem A5 {l:List Pr} {k:Int}:(vV l k).ok=(lk l k).isSome:=by
 rw[nI];unfold tX
 cases e:(lk l k).isSome<;>simp[An.zero]
theorem Ci {A:Ar} (hA:A.Ok) {o:bA} {t:Int} {l:List Pr} (ht:Tp A t l) (ho:eG o=true):
  qK A (l.length+1) (ed A o t).2.2.2.1 (ed A o t).2.2.2.2/\((ed A o t).2.2.2.1=0->Tp (ed A o t).2.2.2.2 (ed A o t).1 (eB l o).1/\tX o.key (ed A o t).2.1 (ed A o t).2.2.1=(eB l o).2):=by
 have hr:=dF.2 ht.iA
 have hm:fj o=true:=by
  simp[eG]at ho;simp[fj];omega
 have hput:∀p:Pr,p.k=o.key->qK A (l.length+1) (A.jO t p).2.2.2.1 (A.jO t p).2.2.2.2/\((A.jO t p).2.2.2.1=0->Tp (A.jO t p).2.2.2.2 (A.jO t p).1 (eM l p)/\tX o.key (A.jO t p).2.1 (A.jO t p).2.2.1=vV l o.key):=by
  intro p hp;obtain⟨r1,r2⟩:=uH (p:=p) (fuel t) hA ht (by unfold fuel;omega);by_cases e:(gi p (fuel t) A t).2.1=0;rw[AN (dy ht.is) (by omega)];refine⟨by have:=r1;rw[e]at this;exact this,fun _=>⟨by have:=r2 e;rw[xR ht.iA]at this;exact this,?_⟩⟩;rw[ht.get,nI,hp];rw[xt (dy ht.is) e];exact⟨r1,fun h=>absurd h e⟩
 simp[eG]at ho;rcases ho with h|h|h;rw[Ce h,fF hr hm,if_pos h];exact hput ⟨o.key,o.v⟩ rfl;rw[Cg (by omega) h,fF hr hm,if_neg (by omega),if_pos h];by_cases e:(A.get t o.key).2=true;rw[xu (dy ht.is) e];have e2:=e;rw[ht.get]at e2;rw[A5,if_pos (by simpa using e2)];refine⟨(qK.refl hA),fun _=>⟨ht,?_⟩⟩;rw[ht.get,nI];simp only[]at e2;rw[e2];have e1:(A.get t o.key).2=false:=by simpa using e
 rw[xv (dy ht.is) e1,A5,if_neg (by rw[ht.get]at e1;simpa using e1)];exact hput ⟨o.key,o.v⟩ rfl;rw[Ch (by omega) (by omega),fF hr hm,if_neg (by omega),if_neg (by omega),if_pos h];by_cases e:(A.get t o.key).2=false;rw[qa (dy ht.is) e];rw[ht.get]at e;simp at e;refine⟨.refl hA,fun _=>⟨?_,?_⟩⟩;rw[iw (sY.1 e)];exact ht;rw[nI,e];rfl;have e1:(A.get t o.key).2=true:=by simpa using e
 obtain⟨r1,r2⟩:=uI (key:=o.key) (fuel t) hA ht (by unfold fuel;omega);by_cases e3:(gK o.key (fuel t) A t).2.1=0;rw[uo (dy ht.is) e1 (by omega)];refine⟨by have:=r1.le (M:=l.length+1) (by omega);rw[e3]at this;exact this,fun _=>⟨r2 e3,?_⟩⟩;rw[ht.get]at e1⊢;simp only[]at e1;rw[nI,e1];rw[qb (dy ht.is) e1 e3];exact⟨r1.le (by omega),fun h=>absurd h e3⟩
theorem DF {A:Ar} (hA:A.Ok) {t:Int} {l:List Pr} (ht:Tp A t l):(l.length<2/\A.middle t=(0,false))\/(2<=l.length/\∃x,l[l.length/2]? =some x/\A.middle t=(x.k,true)):=by
 have hf:=ht.gN;have hA':=hA;unfold Ok at hA';by_cases e:l.length<2;exact .inl ⟨e,we (by rw[ht.size];omega)⟩;refine .inr ⟨by omega,?_⟩;have h1:l.length/2<l.length:=by omega
 refine⟨l[l.length/2],List.getElem?_eq_getElem h1,?_⟩;rw[uu (by rw[ht.size];omega),ht.size,C9 _ (by omega),Mw hA ht (List.getElem?_eq_getElem h1)]
theorem Cj {l:List Pr} (h:jv l) {i:Nat} {x:Pr} (hx:l[i]? =some x):Lt x.k l=l.take i/\Ge x.k l=l.drop i:=by
 have e:l=l.take i++x::l.drop (i+1):=by
  have hi:i<l.length:=by
   rcases Nat.lt_or_ge i l.length with h|h;exact h;rw[List.getElem?_eq_none h]at hx;cases hx
  have:l[i]=x:=by rw[List.getElem?_eq_getElem hi]at hx;simpa using hx
  rw[<-this,List.getElem_cons_drop,List.take_append_drop]
 have hp:jv (l.take i++x::l.drop (i+1)):=by rw[<-e];exact h
 obtain⟨p1,p2,p3⟩:=List.pairwise_append.1 hp;have p4:=List.pairwise_cons.1 p2
 have hd:l.drop i=x::l.drop (i+1):=by
  have:=congrArg (List.drop i) e;rw[this];rw[List.drop_append]
  have hi:i<l.length:=by
   rcases Nat.lt_or_ge i l.length with h|h;exact h;rw[List.getElem?_eq_none h]at hx;cases hx
  simp[List.length_take,Nat.min_eq_left (Nat.le_of_lt hi)]
 constructor
 conv=>lhs;rw[e]
 rw[qp (by omega) (fun y hy=>p4.1 y hy)];exact List.filter_eq_self.2 fun y hy=>by have:=p3 y hy x (by simp);simpa using this
 conv=>lhs;rw[e]
 rw[xK (by omega) (fun y hy=>p4.1 y hy),hd];unfold Ge;rw[List.filter_eq_nil_iff.2 (fun y hy=>by have:=p3 y hy x (by simp);simp;omega)];rfl
theorem zG {A:Ar} (hA:A.Ok) {t:Int} {l:List Pr} (ht:Tp A t l):
  (l.length<2/\A.half t=(0,0,0,3,A))\/(2<=l.length/\(∃x,l[l.length/2]? =some x/\(((A.half t).2.2.2.1=0->(A.half t).1=x.k/\Tp (A.half t).2.2.2.2 (A.half t).2.1 (l.take (l.length/2))/\Tp (A.half t).2.2.2.2 (A.half t).2.2.1 (l.drop (l.length/2)))))/\
   qK A l.length (A.half t).2.2.2.1 (A.half t).2.2.2.2):=by
 rcases DF hA ht with⟨h,e⟩| ⟨h,x,hx,e⟩;exact .inl ⟨h,uw (dy ht.is) (by rw[e])⟩;refine .inr ⟨h,?_⟩;obtain⟨r1,r2⟩:=pj (key:=x.k) (fuel t) hA ht (by unfold fuel;omega);obtain⟨q1,q2⟩:=Cj ht.iA hx;rw[q1,q2]at r2;by_cases e2:(cQ x.k (fuel t) A t).2.2.1=0;have e3:=FH (key:=x.k) (dy ht.is) (by omega:¬(cQ x.k (fuel t) A t).2.2.1≠0);rw[xw (dy ht.is) (by rw[e]) (by rw[e,e3];simp),e,e3];exact⟨⟨x,hx,fun _=>⟨rfl,r2 e2⟩⟩,by have:=r1;rw[e2]at this;exact this⟩;have e3:=AO (key:=x.k) (dy ht.is) e2;rw[ux (dy ht.is) (by rw[e]) (by rw[e,e3];exact e2),e,e3];exact⟨⟨x,hx,fun h=>absurd h e2⟩,r1⟩
theorem xS {A:Ar} (hA:A.Ok) {l r:Int} {la lb:List Pr} (hl:Tp A l la) (hr:Tp A r lb) (hab:∀x∈la,∀y∈lb,x.k<y.k):
  qK A (la.length+lb.length) (A.two l r).2.1 (A.two l r).2.2/\((A.two l r).2.1=0->Tp (A.two l r).2.2 (A.two l r).1 (la++lb)):=by
 rw[o7 (dy hl.is) (dy hr.is)];exact mo _ hA hl hr (by unfold mZ;omega) hab;rintro⟨h1,h2,h3⟩;rcases hl.g6 with⟨_,e⟩| ⟨p,l',rfl,e⟩;rw[e]at h1;cases h1;rcases hr.ig with⟨_,e2⟩| ⟨q,l2,rfl,e2⟩;rw[e2]at h2;cases h2;rw[e,e2]at h3;have:=hab p (by simp) q (by simp);simp at h3;omega
end Ar
def fM:Int:= -9223372036854775808
def eU:Int:=9223372036854775808
namespace Ar
def K8 (A:Ar):Nat->Int->List Pr
 |0,_=>[]
 |n+1,t=>if A.isNode t then K8 A n (A.node t).left++(A.node t).p::K8 A n (A.node t).right else[]
def ps (A:Ar) (t:Int):List Pr:=A.K8 (t.toNat+1) t
theorem A6 {A:Ar}:∀(n:Nat) {t:Int} {l:List Pr} (ht:Tp A t l) (hn:t.toNat<n),A.K8 n t=l
 |0,t,l,ht,hn=>absurd hn (Nat.not_lt_zero _)
 |n+1,t,l,ht,hn=>by
  unfold K8
  cases hi:A.isNode t
  obtain⟨rfl,rfl⟩:=ht.empty hi;rfl;have h0:=di hi;obtain⟨la,lb,rfl,h1,h2,h3,h4,_⟩:=ht.cases hi;rw[if_pos rfl,A6 n h3 (by have:=h3.nn;omega),A6 n h4 (by have:=h4.nn;omega)]
theorem _root_.Go.Proofs.YtcnohdmimheoaaaGreat.Tp.ps {A:Ar} {t:Int} {l:List Pr} (ht:Tp A t l):A.ps t=l:=A6 _ ht (by omega)
def bp (A:Ar) (b:Int):List Pr:=A.ps (A.val b 0)
def dr (A:Ar) (b:Int):Prop:=3<=A.kind b/\A.kind b<=6
abbrev home (A:Ar) (b:Int):Int:=A.val b 2
abbrev st (A:Ar) (m:Int):Int:=A.holds (m-1)
abbrev len (A:Ar):Int:=(A.sl.length:Int)
structure ka (A B:Ar) (c v:Int):Prop where
 kind:∀id,B.kind id=A.kind id
 val:∀id i,B.val id i=A.val id i
 aB:∀id,B.aB id=A.aB id
 holds:∀x,B.holds x=if x=c then v else A.holds x
 len:B.len=A.len
 room:B.room=A.room
 ps:∀t,B.ps t=A.ps t
 tp:∀t l,Tp B t l<->Tp A t l
 bE:kg A B
theorem Gx {A:Ar} {c v:Int} (hc:A.aB c=true) (x:Int):(A.step.put c v).bP x=if x=c then some (.cell v)else A.bP x:=by
 have h0:∃w,A.bP c=some (.cell w):=by
  unfold aB at hc;split at hc;rename_i w e;exact⟨w,e⟩
  cases hc
 obtain⟨w,hw⟩:=h0;have h1:=eT hw;have hl:(A.step.put c v).sl=A.sl.set (c-1).toNat (.cell v):=rfl;unfold bP;have hh:(A.step.put c v).has x=A.has x:=by unfold has;rw[hl,List.length_set]
 rw[hh,hl];by_cases e:x=c;subst e;rw[if_pos (qo.2 h1),if_pos rfl,List.getElem?_set_self (by omega)];rw[if_neg e];by_cases h2:A.has x=true;rw[if_pos h2,if_pos h2,List.getElem?_set_ne];have:=qo.1 h2;omega;rw[if_neg h2,if_neg h2]
theorem iL {A:Ar} {c:Int} (hc:A.aB c=true):A.bP c=some (.cell (A.holds c)):=by
 unfold aB at hc;unfold holds
 cases e:A.bP c with
 |none=>rw[e]at hc;cases hc
 |some s=>cases s with
  |cg k vs=>rw[e]at hc;cases hc
  |cell v=>rfl
theorem A7 {A B:Ar} (hk:∀id,B.kind id=A.kind id) (hv:∀id i,B.val id i=A.val id i):(∀id,B.isNode id=A.isNode id)/\∀id,B.node id=A.node id:=by
 have h1:∀id,B.isNode id=A.isNode id:=fun id=>by unfold isNode;rw[hk]
 exact⟨h1,fun id=>by unfold node;rw[h1,hv,hv,hv,hv,hv,hv]⟩
theorem rj {A B:Ar} (h1:∀id,B.isNode id=A.isNode id) (h2:∀id,B.node id=A.node id):∀n t,B.K8 n t=A.K8 n t
 |0,t=>rfl
 |n+1,t=>by unfold K8;rw[h1,h2,rj h1 h2 n,rj h1 h2 n]
theorem zH {A B:Ar} (h1:∀id,B.isNode id=A.isNode id) (h2:∀id,B.node id=A.node id) {t:Int} {l:List Pr} (h:Tp A t l):Tp B t l:=by
 induction h with
 |nil=>exact .nil
 |node a b c d _ _ e f g i1 i2=>exact .node (by rw[h1];exact a) (by rw[h2];exact b) c d i1 i2 e f g
theorem qw {A:Ar} {c:Int} (v:Int) (hc:A.aB c=true):ka A (A.step.put c v) c v:=by
 have hs:=Gx (v:=v) hc;have hw:=iL hc
 have hk:∀id,(A.step.put c v).kind id=A.kind id:=fun id=>by
  unfold kind;rw[hs];by_cases e:id=c;subst e;rw[if_pos rfl,hw];rw[if_neg e]
 have hv:∀id i,(A.step.put c v).val id i=A.val id i:=fun id i=>by
  unfold val;rw[hs];by_cases e:id=c;subst e;rw[if_pos rfl,hw];rw[if_neg e]
 obtain⟨n1,n2⟩:=A7 hk hv;refine⟨hk,hv,fun id=>?_,fun x=>?_,by simp[Ar.len,put,step],rfl,fun t=>rj n1 n2 _ _,fun t l=>⟨zH (fun id=>(n1 id).symm) (fun id=>(n2 id).symm),zH n1 n2⟩,fun id k vs h=>?_⟩;unfold aB;rw[hs];by_cases e:id=c;subst e;rw[if_pos rfl,hw];rw[if_neg e];unfold holds;rw[hs];by_cases e:x=c;subst e;rw[if_pos rfl,if_pos rfl];rw[if_neg e,if_neg e];rw[hs,if_neg];exact h;rintro rfl;rw[hw]at h;cases h
structure vB (A B:Ar):Prop where
 kind:∀id,id<=A.len->B.kind id=A.kind id
 val:∀id i,id<=A.len->B.val id i=A.val id i
 aB:∀id,id<=A.len->B.aB id=A.aB id
 holds:∀x,x<=A.len->B.holds x=A.holds x
 len:A.len<=B.len
 room:B.room=A.room
 bE:kg A B
theorem Gr.jZ {A B:Ar} {xs:List Slot} (h:Gr A B xs):vB A B:=by
 have hs:∀id,id<=A.len->B.bP id=A.bP id:=fun id hi=>h.OI hi;refine⟨fun id hi=>by unfold kind;rw[hs id hi],fun id i hi=>by unfold val;rw[hs id hi],fun id hi=>by unfold aB;rw[hs id hi],fun id hi=>by unfold holds;rw[hs id hi],?_,h.room,h.bE⟩;have:=h.len;simp only[Ar.len];omega
theorem aF {A:Ar} {id:Int} (h:A.kind id≠0):1<=id/\id<=A.len:=by
 obtain⟨vs,e⟩:=nE h;exact eT e
section
variable {A:Ar} {id:Int} (h:A.aB id=true)
include A id h
theorem dc:1<=id/\id<=A.len:=eT (iL h)
theorem gX:A.kind id=0:=by unfold kind;rw[iL h]
end
end Ar
end Go.Proofs.YtcnohdmimheoaaaGreat
namespace Go.Proofs.YtcnohdmimheoaaaGreat
open E Ar Go.Proofs.Tryz
structure Gh where
 iv:Int->Option (Int×Int)
 live:Int->Prop
 rt:Int->Prop
 key:Int->Int
 own:Int->Nat
 bl:Int->Int->Prop
 j7:List Int
 sw:List Int
 cur:List Pr
 eK:Int->bA
 cT:Int->Option An
 aa:Int->Int
def Gh.In (g:Gh) (c k:Int):Prop:=∃lo hi,g.iv c=some (lo,hi)/\lo<=k/\k<hi
def Gh.Cv (g:Gh) (c k m:Int):Prop:=k<m/\∃lo hi,g.iv c=some (lo,hi)/\lo<=k/\m<=hi
def Gh.dn (g:Gh) (c:Int):Prop:=∃lo hi,g.iv c=some (lo,hi)
def Ar.R (A:Ar) (c:Int):Option Int:=if A.kind (A.holds c)=2 then some (A.holds c)else none
theorem Ar.fV {A:Ar} {c r:Int}:A.R c=some r<->A.kind (A.holds c)=2/\A.holds c=r:=by
 unfold Ar.R;split<;>simp_all
theorem Ar.du {A:Ar} {c:Int}:A.R c=none<->A.kind (A.holds c)≠2:=by
 unfold Ar.R;split<;>simp_all
structure fz (R:Int->Option Int) (g:Gh) (root:Int):Prop where
 rt:g.live root/\g.iv root=some (fM,eU)
 pt:∀c lo hi,g.iv c=some (lo,hi)->lo<hi/\fM<=lo/\hi<=eU
 gH:∀c,g.live c->g.dn c
 oE:∀c r,g.dn c->R c=some r->g.rt r
 rk:∀c r lo hi,g.iv c=some (lo,hi)->R c=some r->lo<g.key r/\g.key r<hi/\∃l1 h1 l2 h2,g.iv (r-5)=some (l1,h1)/\g.iv (r-3)=some (l2,h2)/\l1<=lo/\g.key r<=h1/\l2<=g.key r/\hi<=h2
 kq:∀c r lo hi,g.live c->g.iv c=some (lo,hi)->R c=some r->g.live (r-5)/\g.live (r-3)/\g.iv (r-5)=some (lo,g.key r)/\g.iv (r-3)=some (g.key r,hi)
 j8:∀r,g.rt r->∃l1 h1 l2 h2,g.iv (r-5)=some (l1,h1)/\g.iv (r-3)=some (l2,h2)/\l1<g.key r/\g.key r<=h1/\l2<=g.key r/\g.key r<h2
 ord:∀r r',g.rt r->(R (r-5)=some r'\/R (r-3)=some r')->r<r'
 rm:∀c,g.dn c->c=root\/∃r,g.rt r/\(c=r-5\/c=r-3)
 sep:∀r,g.rt r->root+1<r-5/\∀r',g.rt r'->r-5≠r'-3
 par:∀c c' r,g.live c->g.live c'->R c=some r->R c'=some r->c=c'
 up:∀c,g.live c->c≠root->∃p r,g.live p/\R p=some r/\(c=r-5\/c=r-3)
 rq:∀c c' lo hi lo' hi' k,g.live c->g.live c'->R c=none->R c'=none->g.iv c=some (lo,hi)->g.iv c'=some (lo',hi')->lo<=k->k<hi->lo'<=k->k<hi'->c=c'
 str:∀c p r lo hi,g.live c->R c=none->g.iv c=some (lo,hi)->g.live p->R p=some r->¬(lo<g.key r/\g.key r<hi)
 Ck:∀c lo hi,g.live c->g.iv c=some (lo,hi)->(lo=fM\/∃p r,g.live p/\R p=some r/\g.key r=lo)/\(hi=eU\/∃p r,g.live p/\R p=some r/\g.key r=hi)
 qx:∀p p' r r',g.live p->g.live p'->R p=some r->R p'=some r'->g.key r=g.key r'->p=p'
 both:∀r,g.rt r->(g.live (r-5)<->g.live (r-3))
 j7:∀p r,g.live p->R p=some r->r∈g.j7
 nd:g.j7.Nodup
 Gy:∀r,g.rt r->g.live (r-5)->r∈g.j7
 Cl:∀u c lo hi,g.rt u->g.live (u-5)->g.live c->g.iv c=some (lo,hi)->(lo=g.key u\/hi=g.key u)->g.bl u c
 Eg:∀u c,g.rt u->g.live (u-5)->g.bl u c->∃lo hi,g.iv c=some (lo,hi)/\(lo=g.key u\/hi=g.key u)
 Eh:∀u c lo hi r,g.rt u->g.live (u-5)->g.bl u c->g.iv c=some (lo,hi)->R c=some r->(hi=g.key u->g.bl u (r-3)/\∃lo',g.iv (r-3)=some (lo',hi))/\(lo=g.key u->g.bl u (r-5)/\∃hi',g.iv (r-5)=some (lo,hi'))
section split
variable {R:Int->Option Int} {g:Gh} {root:Int}
def Gh.jG (g:Gh) (n k lo hi x:Int):Option (Int×Int):=if x=n-5 then some (lo,k)else if x=n-3 then some (k,hi)else g.iv x
def Gh.lH (g:Gh) (n x:Int):Prop:=x=n-5\/x=n-3\/g.live x
def Gh.gp (g:Gh) (n k x:Int):Int:=if x=n then k else g.key x
def Gh.split (g:Gh) (n k lo hi:Int):Gh:={g with
 iv:=g.jG n k lo hi
 live:=g.lH n
 rt:=fun x=>x=n\/g.rt x
 key:=g.gp n k
 j7:=n::g.j7
 bl:=fun u x=>(u≠n/\g.bl u x)\/∃l h,g.jG n k lo hi x=some (l,h)/\g.lH n x/\(l=g.gp n k u\/h=g.gp n k u)}
def fW (R:Int->Option Int) (c n:Int):Int->Option Int:=fun x=>if x=c then some n else R x
theorem fz.split (h:fz R g root) {c n k lo hi:Int} (hc:g.live c) (hR:R c=none) (hi':g.iv c=some (lo,hi)) (hk:lo<k/\k<hi) (h5:g.iv (n-5)=none) (h3:g.iv (n-3)=none) (r5:R (n-5)=none) (r3:R (n-3)=none)
  (hn:¬g.rt n) (hnr:n∉g.j7) (hroot:root+1<n-5) (hlt:∀r,g.rt r->(c=r-5\/c=r-3)->r<n):fz (fW R c n) (g.split n k lo hi) root:=by
 have l5:¬g.live (n-5):=fun hh=>by obtain⟨a,b,e⟩:=h.gH _ hh;rw[h5]at e;cases e
 have l3:¬g.live (n-3):=fun hh=>by obtain⟨a,b,e⟩:=h.gH _ hh;rw[h3]at e;cases e
 have cn5:c≠n-5:=fun e=>l5 (e▸hc);have cn3:c≠n-3:=fun e=>l3 (e▸hc);have ivo:∀x,g.iv x≠none->g.jG n k lo hi x=g.iv x:=fun x hx=>by unfold Gh.jG;grind
 have kyo:∀r,g.rt r->g.gp n k r=g.key r:=fun r hr=>by unfold Gh.gp;grind
 have kyn:g.gp n k n=k:=by unfold Gh.gp;simp
 have A8:g.jG n k lo hi (n-5)=some (lo,k):=by unfold Gh.jG;simp
 have A9:g.jG n k lo hi (n-3)=some (k,hi):=by unfold Gh.jG;grind
 have Rc:fW R c n c=some n:=by simp[fW]
 have Ro:∀x,x≠c->fW R c n x=R x:=fun x hx=>by simp[fW,hx]
 have pub':∀x l u,g.jG n k lo hi x=some (l,u)->x=n-5\/x=n-3\/g.iv x=some (l,u):=fun x l u hx=>by unfold Gh.jG at hx;grind
 have hb:=h.pt _ _ _ hi';have some_of:∀x,g.live x->g.iv x≠none:=fun x hx e=>by obtain⟨a,b,e2⟩:=h.gH _ hx;rw[e]at e2;cases e2
 have ivl':∀x l u,g.live x->g.jG n k lo hi x=some (l,u)->g.iv x=some (l,u):=fun x l u hx e=>by rwa [ivo x (some_of x hx)]at e
 have rtc:∀r,g.rt r->g.iv (r-5)≠none/\g.iv (r-3)≠none:=fun r hr=>by obtain⟨a,b,c',d,e1,e2,_⟩:=h.j8 r hr;rw[e1,e2];simp
 exact{
  rt:=⟨.inr (.inr h.rt.1),by show g.jG n k lo hi root=_;rw[ivo root (by rw[h.rt.2];simp)];exact h.rt.2⟩
  pt:=fun x l u hx=>by
   change g.jG n k lo hi x=some (l,u)at hx
   rcases pub' x l u hx with rfl|rfl|e;rw[A8]at hx;cases hx;omega;rw[A9]at hx;cases hx;omega;exact h.pt _ _ _ e
  gH:=fun x hx=>by
   show∃l u,g.jG n k lo hi x=some (l,u);rcases hx with rfl|rfl|hx;exact⟨_,_,A8⟩;exact⟨_,_,A9⟩;obtain⟨l,u,e⟩:=h.gH x hx;exact⟨l,u,by rw[ivo x (by rw[e];simp)];exact e⟩
  oE:=fun x r ⟨l,u,hx⟩ hr=>by
   by_cases e:x=c;subst e;rw[Rc]at hr;cases hr;exact .inl rfl;rw[Ro x e]at hr;rcases pub' x l u hx with rfl|rfl|e2;rw[r5]at hr;cases hr;rw[r3]at hr;cases hr;exact .inr (h.oE x r ⟨l,u,e2⟩ hr)
  rk:=fun x r l u hx hr=>by
   show l<g.gp n k r/\g.gp n k r<u/\∃l1 h1 l2 h2,g.jG n k lo hi (r-5)=some (l1,h1)/\g.jG n k lo hi (r-3)=some (l2,h2)/\l1<=l/\g.gp n k r<=h1/\l2<=g.gp n k r/\u<=h2;by_cases e:x=c;subst e;rw[Rc]at hr;cases hr;have:=ivl' _ _ _ hc hx;rw[hi']at this;cases this;exact⟨by rw[kyn];exact hk.1,by rw[kyn];exact hk.2,_,_,_,_,A8,A9,by omega,by rw[kyn];omega,by rw[kyn];omega,by omega⟩;rw[Ro x e]at hr;rcases pub' x l u hx with rfl|rfl|e2;rw[r5]at hr;cases hr;rw[r3]at hr;cases hr;have hrt:=h.oE x r ⟨l,u,e2⟩ hr;obtain⟨a1,a2,l1,h1,l2,h2,b1,b2,b3⟩:=h.rk x r l u e2 hr;rw[kyo r hrt];exact⟨a1,a2,l1,h1,l2,h2,by rw[ivo _ (rtc r hrt).1];exact b1,by rw[ivo _ (rtc r hrt).2];exact b2,b3⟩
  kq:=fun x r l u hx hxe hr=>by
   show g.lH n (r-5)/\g.lH n (r-3)/\g.jG n k lo hi (r-5)=some (l,g.gp n k r)/\g.jG n k lo hi (r-3)=some (g.gp n k r,u);by_cases e:x=c;subst e;rw[Rc]at hr;cases hr;have:=ivl' _ _ _ hc hxe;rw[hi']at this;cases this;exact⟨.inl rfl,.inr (.inl rfl),by rw[kyn];exact A8,by rw[kyn];exact A9⟩;rw[Ro x e]at hr;rcases hx with rfl|rfl|hx;rw[r5]at hr;cases hr;rw[r3]at hr;cases hr;have e2:=ivl' _ _ _ hx hxe;have hrt:=h.oE x r ⟨l,u,e2⟩ hr;obtain⟨a1,a2,a3,a4⟩:=h.kq x r l u hx e2 hr;exact⟨.inr (.inr a1),.inr (.inr a2),by rw[kyo r hrt,ivo _ (rtc r hrt).1];exact a3,by rw[kyo r hrt,ivo _ (rtc r hrt).2];exact a4⟩
  j8:=fun r hr=>by
   show∃l1 h1 l2 h2,g.jG n k lo hi (r-5)=some (l1,h1)/\g.jG n k lo hi (r-3)=some (l2,h2)/\l1<g.gp n k r/\g.gp n k r<=h1/\l2<=g.gp n k r/\g.gp n k r<h2;rcases hr with rfl|hr;exact⟨_,_,_,_,A8,A9,by rw[kyn];omega,by rw[kyn];omega,by rw[kyn];omega,by rw[kyn];omega⟩;obtain⟨l1,h1,l2,h2,b1,b2,b3⟩:=h.j8 r hr;exact⟨l1,h1,l2,h2,by rw[ivo _ (rtc r hr).1];exact b1,by rw[ivo _ (rtc r hr).2];exact b2,by rw[kyo r hr];exact b3⟩
  ord:=fun r r' hr hr'=>by
   rcases hr with rfl|hr;rw[Ro _ (Ne.symm cn5),Ro _ (Ne.symm cn3),r5,r3]at hr';simp at hr';by_cases e1:r-5=c;by_cases e2:r-3=c;omega;rw[e1,Rc,Ro _ e2]at hr';rcases hr' with e|e
   cases e;exact hlt r hr (.inl e1.symm)
   exact h.ord r r' hr (.inr e);by_cases e2:r-3=c;rw[e2,Rc,Ro _ e1]at hr';rcases hr' with e|e;exact h.ord r r' hr (.inl e)
   cases e;exact hlt r hr (.inr e2.symm)
   rw[Ro _ e1,Ro _ e2]at hr';exact h.ord r r' hr hr'
  rm:=fun x ⟨l,u,hx⟩=>by
   rcases pub' x l u hx with rfl|rfl|e;exact .inr ⟨n,.inl rfl,.inl rfl⟩;exact .inr ⟨n,.inl rfl,.inr rfl⟩;rcases h.rm x ⟨l,u,e⟩with e| ⟨r,hr,e⟩;exact .inl e;exact .inr ⟨r,.inr hr,e⟩
  sep:=fun r hr=>by
   rcases hr with rfl|hr;refine⟨hroot,fun r' hr' e=>?_⟩;rcases hr' with rfl|hr';omega;exact(rtc r' hr').2 (by rw[<-e];exact h5);refine⟨(h.sep r hr).1,fun r' hr' e=>?_⟩;rcases hr' with rfl|hr';exact(rtc r hr).1 (by rw[e];exact h3);exact(h.sep r hr).2 r' hr' e
  par:=fun x x' r hx hx' hr hr'=>by
   by_cases e:x=c;by_cases e':x'=c;rw[e,e'];subst e;rw[Rc]at hr;cases hr;rw[Ro _ e']at hr';rcases hx' with rfl|rfl|hx';rw[r5]at hr';cases hr';rw[r3]at hr';cases hr';exact absurd (h.oE x' _ (h.gH _ hx') hr') hn;rw[Ro _ e]at hr;by_cases e':x'=c;subst e';rw[Rc]at hr';cases hr';rcases hx with rfl|rfl|hx;rw[r5]at hr;cases hr;rw[r3]at hr;cases hr;exact absurd (h.oE x _ (h.gH _ hx) hr) hn;rw[Ro _ e']at hr';rcases hx with rfl|rfl|hx;rw[r5]at hr;cases hr;rw[r3]at hr;cases hr;rcases hx' with rfl|rfl|hx';rw[r5]at hr';cases hr';rw[r3]at hr';cases hr';exact h.par x x' r hx hx' hr hr'
  up:=fun x hx hxr=>by
   rcases hx with rfl|rfl|hx;exact⟨c,n,.inr (.inr hc),Rc,.inl rfl⟩;exact⟨c,n,.inr (.inr hc),Rc,.inr rfl⟩;obtain⟨p,r,a,b,d⟩:=h.up x hx hxr;exact⟨p,r,.inr (.inr a),(Ro p (fun e=>by rw[e,hR]at b;cases b)).trans b,d⟩
  rq:=fun x x' l u l' u' z hx hx' hr hr' he he' z1 z2 z3 z4=>by
   have nc:∀y,fW R c n y=none->y≠c:=fun y hy e=>by subst e;rw[Rc]at hy;cases hy
   have c1:=nc x hr;have c2:=nc x' hr';rw[Ro _ c1]at hr;rw[Ro _ c2]at hr';have key:∀y l u,g.live y->R y=none->y≠c->g.iv y=some (l,u)->∀z,l<=z->z<u->lo<=z->z<hi->False:=fun y l u a b d e z q1 q2 q3 q4=>d (h.rq y c l u lo hi z a hc b hR e hi' q1 q2 q3 q4);have e5:∀l u,g.jG n k lo hi (n-5)=some (l,u)->l=lo/\u=k:=fun l u e=>by rw[A8]at e;cases e;exact⟨rfl,rfl⟩
   have e3:∀l u,g.jG n k lo hi (n-3)=some (l,u)->l=k/\u=hi:=fun l u e=>by rw[A9]at e;cases e;exact⟨rfl,rfl⟩
   rcases hx with rfl|rfl|hx;obtain⟨rfl,rfl⟩:=e5 _ _ he;rcases hx' with rfl|rfl|hx';rfl;obtain⟨rfl,rfl⟩:=e3 _ _ he';omega;exact(key x' l' u' hx' hr' c2 (ivl' _ _ _ hx' he') z z3 z4 (by omega) (by omega)).elim;obtain⟨rfl,rfl⟩:=e3 _ _ he;rcases hx' with rfl|rfl|hx';obtain⟨rfl,rfl⟩:=e5 _ _ he';omega;rfl;exact(key x' l' u' hx' hr' c2 (ivl' _ _ _ hx' he') z z3 z4 (by omega) (by omega)).elim;rcases hx' with rfl|rfl|hx';obtain⟨rfl,rfl⟩:=e5 _ _ he';exact(key x l u hx hr c1 (ivl' _ _ _ hx he) z z1 z2 (by omega) (by omega)).elim;obtain⟨rfl,rfl⟩:=e3 _ _ he';exact(key x l u hx hr c1 (ivl' _ _ _ hx he) z z1 z2 (by omega) (by omega)).elim;exact h.rq x x' l u l' u' z hx hx' hr hr' (ivl' _ _ _ hx he) (ivl' _ _ _ hx' he') z1 z2 z3 z4
  str:=fun x p r l u hx hr he hp hpr hh=>by
   have c1:x≠c:=fun e=>by subst e;rw[Rc]at hr;cases hr
   rw[Ro _ c1]at hr
   change l<g.gp n k r/\g.gp n k r<u at hh
   have e5:∀l u,g.jG n k lo hi (n-5)=some (l,u)->l=lo/\u=k:=fun l u e=>by rw[A8]at e;cases e;exact⟨rfl,rfl⟩
   have e3:∀l u,g.jG n k lo hi (n-3)=some (l,u)->l=k/\u=hi:=fun l u e=>by rw[A9]at e;cases e;exact⟨rfl,rfl⟩
   by_cases ep:p=c;subst ep;rw[Rc]at hpr;cases hpr;rw[kyn]at hh;rcases hx with rfl|rfl|hx;obtain⟨rfl,rfl⟩:=e5 _ _ he;omega;obtain⟨rfl,rfl⟩:=e3 _ _ he;omega;exact c1 (h.rq x p l u lo hi k hx hc hr hR (ivl' _ _ _ hx he) hi' (by omega) (by omega) (by omega) (by omega));rw[Ro _ ep]at hpr;rcases hp with rfl|rfl|hp;rw[r5]at hpr;cases hpr;rw[r3]at hpr;cases hpr;rw[kyo r (h.oE p r (h.gH _ hp) hpr)]at hh;rcases hx with rfl|rfl|hx;obtain⟨rfl,rfl⟩:=e5 _ _ he;exact h.str c p r _ _ hc hR hi' hp hpr (by omega);obtain⟨rfl,rfl⟩:=e3 _ _ he;exact h.str c p r _ _ hc hR hi' hp hpr (by omega);exact h.str x p r l u hx hr (ivl' _ _ _ hx he) hp hpr hh
  Ck:=fun x l u hx he=>by
   have bZ:∀b,(∃p r,g.live p/\R p=some r/\g.key r=b)->∃p r,g.lH n p/\fW R c n p=some r/\g.gp n k r=b:=fun b ⟨p,r,a1,a2,a3⟩=>
    ⟨p,r,.inr (.inr a1),(Ro p (fun e=>by rw[e,hR]at a2;cases a2)).trans a2,by rw[kyo r (h.oE p r (h.gH _ a1) a2)];exact a3⟩
   have new:∃p r,g.lH n p/\fW R c n p=some r/\g.gp n k r=k:=⟨c,n,.inr (.inr hc),Rc,kyn⟩;have hcb:=h.Ck c lo hi hc hi';rcases hx with rfl|rfl|hx;have:l=lo/\u=k:=by have e:g.jG n k lo hi (n-5)=some (l,u):=he;rw[A8]at e;cases e;exact⟨rfl,rfl⟩
   obtain⟨rfl,rfl⟩:=this;exact⟨hcb.1.imp id (bZ l),.inr new⟩;have:l=k/\u=hi:=by have e:g.jG n k lo hi (n-3)=some (l,u):=he;rw[A9]at e;cases e;exact⟨rfl,rfl⟩
   obtain⟨rfl,rfl⟩:=this;exact⟨.inr new,hcb.2.imp id (bZ u)⟩;have:=h.Ck x l u hx (ivl' _ _ _ hx he);exact⟨this.1.imp id (bZ l),this.2.imp id (bZ u)⟩
  qx:=fun p p' r r' hp hp' hr hr' he=>by
   change g.gp n k r=g.gp n k r' at he
   have lv:∀q s,g.lH n q->q≠c->fW R c n q=some s->g.live q/\R q=some s:=fun q s a b d=>by
    rw[Ro _ b]at d;rcases a with rfl|rfl|a;rw[r5]at d;cases d;rw[r3]at d;cases d;exact⟨a,d⟩
   by_cases e:p=c;by_cases e':p'=c;rw[e,e'];subst e;rw[Rc]at hr;cases hr;obtain⟨a,b⟩:=lv p' r' hp' e' hr';rw[kyn,kyo r' (h.oE _ _ (h.gH _ a) b)]at he;exact(h.str p p' r' lo hi hc hR hi' a b (by omega)).elim;obtain⟨a,b⟩:=lv p r hp e hr;by_cases e':p'=c;subst e';rw[Rc]at hr';cases hr';rw[kyn,kyo r (h.oE _ _ (h.gH _ a) b)]at he;exact(h.str p' p r lo hi hc hR hi' a b (by omega)).elim;obtain⟨a',b'⟩:=lv p' r' hp' e' hr';rw[kyo r (h.oE _ _ (h.gH _ a) b),kyo r' (h.oE _ _ (h.gH _ a') b')]at he;exact h.qx p p' r r' a a' b b' he
  both:=fun r hr=>by
   show g.lH n (r-5)<->g.lH n (r-3);rcases hr with rfl|hr;exact⟨fun _=>.inr (.inl rfl),fun _=>.inl rfl⟩;have q:=rtc r hr;have b:=h.both r hr;constructor;rintro(e|e|e);exact absurd (by rw[e];exact h5) q.1;exact absurd (by rw[e];exact h3) q.1;exact .inr (.inr (b.1 e));rintro(e|e|e);exact absurd (by rw[e];exact h5) q.2;exact absurd (by rw[e];exact h3) q.2;exact .inr (.inr (b.2 e))
  j7:=fun p r hp hr=>by
   by_cases e:p=c;subst e;rw[Rc]at hr;cases hr;exact List.mem_cons_self ..;rw[Ro _ e]at hr;rcases hp with rfl|rfl|hp;rw[r5]at hr;cases hr;rw[r3]at hr;cases hr;exact List.mem_cons_of_mem _ (h.j7 p r hp hr)
  nd:=List.nodup_cons.2 ⟨hnr,h.nd⟩
  Gy:=fun r hr hl=>by
   rcases hr with rfl|hr;exact List.mem_cons_self ..;rcases hl with e|e|e;exact absurd (by rw[e];exact h5) (rtc r hr).1;exact absurd (by rw[e];exact h3) (rtc r hr).1;exact List.mem_cons_of_mem _ (h.Gy r hr e)
  Cl:=fun u x l v hu hl hx he hb=>.inr ⟨l,v,he,hx,hb⟩
  Eg:=fun u x hu hl hb=>by
   rcases hb with⟨hne,hb⟩| ⟨l,v,e1,e2,e3⟩;rcases hu with rfl|hu;exact absurd rfl hne
   have hlu:g.live (u-5):=by
    rcases hl with e|e|e;exact absurd (by rw[e];exact h5) (rtc u hu).1;exact absurd (by rw[e];exact h3) (rtc u hu).1;exact e
   obtain⟨l,v,e1,e2⟩:=h.Eg u x hu hlu hb;exact⟨l,v,by show g.jG n k lo hi x=_;rw[ivo x (by rw[e1];simp)];exact e1,by show l=g.gp n k u\/v=g.gp n k u;rw[kyo u hu];exact e2⟩;exact⟨l,v,e1,e3⟩
  Eh:=fun u x l v r hu hl hb he hr=>by
   change g.jG n k lo hi x=some (l,v)at he
   show(v=g.gp n k u->(g.split n k lo hi).bl u (r-3)/\∃lo',g.jG n k lo hi (r-3)=some (lo',v))/\(l=g.gp n k u->(g.split n k lo hi).bl u (r-5)/\∃hi',g.jG n k lo hi (r-5)=some (l,hi'));by_cases e:x=c;subst e;rw[Rc]at hr;cases hr;have:=ivl' _ _ _ hc he;rw[hi']at this;cases this;exact⟨fun q=>⟨.inr ⟨_,_,A9,.inr (.inl rfl),.inr q⟩,_,A9⟩,fun q=>⟨.inr ⟨_,_,A8,.inl rfl,.inl q⟩,_,A8⟩⟩;rw[Ro _ e]at hr;rcases pub' x l v he with rfl|rfl|he0;rw[r5]at hr;cases hr;rw[r3]at hr;cases hr;have hrt:=h.oE x r ⟨l,v,he0⟩ hr;rcases hu with rfl|hu;rcases hb with⟨hne,_⟩| ⟨l1,v1,f1,f2,f3⟩;exact absurd rfl hne;have f1':g.jG u k lo hi x=some (l1,v1):=f1;rw[he]at f1';cases f1';rw[kyn]at f3⊢
   have hxl:g.live x:=by
    rcases f2 with rfl|rfl|f2;rw[r5]at hr;cases hr;rw[r3]at hr;cases hr;exact f2
   have hbd:=h.Ck x l v hxl he0;have no:∀b,b=k->(∃p r,g.live p/\R p=some r/\g.key r=b)->False:=fun b eb ⟨p,r,a1,a2,a3⟩=>h.str c p r lo hi hc hR hi' a1 a2 (by omega);constructor;intro q;rcases hbd.2 with q2|q2;omega;exact(no v q q2).elim;intro q;rcases hbd.1 with q2|q2;omega;exact(no l q q2).elim
   have hlu:g.live (u-5):=by
    rcases hl with e|e|e;exact absurd (by rw[e];exact h5) (rtc u hu).1;exact absurd (by rw[e];exact h3) (rtc u hu).1;exact e
   have hbo:g.bl u x:=by
    rcases hb with⟨_,hb⟩| ⟨l1,v1,f1,f2,f3⟩;exact hb;have f1':g.jG n k lo hi x=some (l1,v1):=f1;rw[he]at f1';cases f1';have f3':l=g.key u\/v=g.key u:=by rw[<-kyo u hu];exact f3
    rcases f2 with rfl|rfl|f2;rw[r5]at hr;cases hr;rw[r3]at hr;cases hr;exact h.Cl u x l v hu hlu f2 he0 f3'
   have hun:u≠n:=fun q=>hn (q▸hu);obtain⟨q1,q2⟩:=h.Eh u x l v r hu hlu hbo he0 hr;rw[kyo u hu,ivo _ (rtc r hrt).1,ivo _ (rtc r hrt).2];exact⟨fun q=>⟨.inl ⟨hun,(q1 q).1⟩,(q1 q).2⟩,fun q=>⟨.inl ⟨hun,(q2 q).1⟩,(q2 q).2⟩⟩}
end split
section
variable {R:Int->Option Int} {g:Gh} {root:Int}
def Gz (l:List Int) (r:Int):Nat:=(l.filter fun x=>decide (r<x)).length
theorem GA {r x:Int} (h:r<x):∀l:List Int,Gz l x<=Gz l r
 | []=>Nat.le_refl _
 |a::l=>by
  have:=GA h l;unfold Gz at*;rw[List.filter_cons,List.filter_cons];split<;>split<;>simp_all<;>omega
theorem xT {r x:Int} (h:r<x):∀{l:List Int},x∈l->Gz l x<Gz l r
 |a::l,hx=>by
  have h1:=GA h l;rcases List.mem_cons.1 hx with rfl|hx;unfold Gz at*;rw[List.filter_cons,List.filter_cons,if_neg (by simp),if_pos (by simpa using h)];simp only[List.length_cons];omega;have h2:=xT h hx;unfold Gz at*;rw[List.filter_cons,List.filter_cons];split<;>split<;>simp_all<;>omega
theorem fz.GB (h:fz R g root):∀(n:Nat) {c lo hi:Int},g.live c->g.iv c=some (lo,hi)->(∀r,R c=some r->Gz g.j7 r<n)->∃d hi',g.live d/\R d=none/\g.iv d=some (lo,hi')/\(d=c\/∃r,g.rt r/\d=r-5)
 |n,c,lo,hi,hl,hi',hn=>by
  cases e:R c with
  |none=>exact⟨c,hi,hl,e,hi',.inl rfl⟩
  |some r=>
   obtain⟨a,b,c1,c2⟩:=h.kq c r lo hi hl hi' e;have hr:=h.oE c r (h.gH c hl) e
   cases n with
   |zero=>exact absurd (hn r e) (Nat.not_lt_zero _)
   |succ n=>
    obtain⟨d,h1,d1,d2,d3,d4⟩:=h.GB n a c1 fun r' e'=>by
     have h2:=h.ord r r' hr (.inl e');have:=xT h2 (h.j7 _ _ a e');have:=hn r e;omega
    refine⟨d,h1,d1,d2,d3,.inr ?_⟩;rcases d4 with rfl|d4;exact⟨r,hr,rfl⟩;exact d4
theorem fz.GC (h:fz R g root):∀(n:Nat) {c lo hi:Int},g.live c->g.iv c=some (lo,hi)->(∀r,R c=some r->Gz g.j7 r<n)->∃d lo',g.live d/\R d=none/\g.iv d=some (lo',hi)/\(d=c\/∃r,g.rt r/\d=r-3)
 |n,c,lo,hi,hl,hi',hn=>by
  cases e:R c with
  |none=>exact⟨c,lo,hl,e,hi',.inl rfl⟩
  |some r=>
   obtain⟨a,b,c1,c2⟩:=h.kq c r lo hi hl hi' e;have hr:=h.oE c r (h.gH c hl) e
   cases n with
   |zero=>exact absurd (hn r e) (Nat.not_lt_zero _)
   |succ n=>
    obtain⟨d,h1,d1,d2,d3,d4⟩:=h.GC n b c2 fun r' e'=>by
     have h2:=h.ord r r' hr (.inr e');have:=xT h2 (h.j7 _ _ b e');have:=hn r e;omega
    refine⟨d,h1,d1,d2,d3,.inr ?_⟩;rcases d4 with rfl|d4;exact⟨r,hr,rfl⟩;exact d4
theorem fz.cellOf (h:fz R g root) {w:Int} (hw:g.rt w) (hl:g.live (w-5)):∃p,g.live p/\R p=some w:=by
 obtain⟨p,r,a,b,c⟩:=h.up _ hl (by have:=(h.sep w hw).1;omega);rcases c with c|c;have:r=w:=by omega
 subst this;exact⟨p,a,b⟩;exact absurd c ((h.sep w hw).2 r (h.oE p r (h.gH p a) b))
open Classical in
noncomputable def Gh.kb (g:Gh) (u k lo hi x:Int):Option (Int×Int):=match g.iv x with
 |some (l,h)=>if g.live x/\x≠u-5/\x≠u-3 then(if h=k then some (l,hi)else if l=k then some (lo,h)else some (l,h))else some (l,h)
 |none=>none
def Gh.cG (g:Gh) (u x:Int):Prop:=g.live x/\x≠u-5/\x≠u-3
noncomputable def Gh.join (g:Gh) (u k lo hi:Int):Gh:={g with
 iv:=g.kb u k lo hi
 live:=g.cG u
 j7:=g.j7.erase u
 bl:=fun w x=>g.bl w x\/∃l h,g.kb u k lo hi x=some (l,h)/\g.cG u x/\(l=g.key w\/h=g.key w)}
def jr (R:Int->Option Int) (p c2:Int):Int->Option Int:=fun x=>if x=p then R c2 else R x
theorem fz.join (h:fz R g root) {p u c1 c2 lo hi:Int} (hp:g.live p) (hR:R p=some u) (hi':g.iv p=some (lo,hi)) (hc:(c1=u-5/\c2=u-3)\/(c1=u-3/\c2=u-5)) (h1:R c1=none):
  fz (jr R p c2) (g.join u (g.key u) lo hi) root:=by
 have hu:=h.oE p u (h.gH p hp) hR;obtain⟨la,lb,ia,ib⟩:=h.kq p u lo hi hp hi' hR;obtain⟨k1,k2,_⟩:=h.rk p u lo hi hi' hR;have hbd:=h.pt _ _ _ hi';generalize hk:g.key u=k at ia ib k1 k2⊢
 have pa:p≠u-5:=fun e=>by
  rcases h.rm p (h.gH p hp)with q| ⟨r,hr,q⟩;have:=(h.sep u hu).1;omega;have:=h.ord r u hr (by rcases q with q|q<;>(rw[<-q];simp[hR]));rcases q with q|q;omega;exact(h.sep u hu).2 r hr (by omega)
 have pb:p≠u-3:=fun e=>by
  rcases h.rm p (h.gH p hp)with q| ⟨r,hr,q⟩;have:=(h.sep u hu).1;omega;have:=h.ord r u hr (by rcases q with q|q<;>(rw[<-q];simp[hR]));rcases q with q|q;exact(h.sep r hr).2 u hu (by omega);omega
 have lvp:g.cG u p:=⟨hp,pa,pb⟩;have d1:¬g.cG u c1:=fun q=>by have:=q.2;rcases hc with⟨e,_⟩| ⟨e,_⟩<;>simp[e]at this
 have d2:¬g.cG u c2:=fun q=>by have:=q.2;rcases hc with⟨_,e⟩| ⟨_,e⟩<;>simp[e]at this
 have lc1:g.live c1:=by rcases hc with⟨e,_⟩| ⟨e,_⟩<;>rw[e]<;>assumption
 have lc2:g.live c2:=by rcases hc with⟨_,e⟩| ⟨_,e⟩<;>rw[e]<;>assumption
 have dead:∀x,g.live x->¬g.cG u x->x=c1\/x=c2:=fun x hx hn=>by
  by_cases e5:x=u-5;rcases hc with⟨a,b⟩| ⟨a,b⟩;exact .inl (e5.trans a.symm);exact .inr (e5.trans b.symm);by_cases e3:x=u-3;rcases hc with⟨a,b⟩| ⟨a,b⟩;exact .inr (e3.trans b.symm);exact .inl (e3.trans a.symm);exact absurd ⟨hx,e5,e3⟩ hn
 have jn:∀x,g.iv x=none->g.kb u k lo hi x=none:=fun x e=>by unfold Gh.kb;rw[e]
 have jd:∀x,¬g.cG u x->g.kb u k lo hi x=g.iv x:=fun x e=>by
  unfold Gh.kb
  cases q:g.iv x with
  |none=>rfl
  |some z=>obtain⟨l,v⟩:=z;exact if_neg e
 have jl:∀x l v,g.cG u x->g.iv x=some (l,v)->g.kb u k lo hi x=if v=k then some (l,hi)else if l=k then some (lo,v)else some (l,v):=fun x l v e q=>by
  unfold Gh.kb;rw[q];exact if_pos e
 have jm:∀x l v,g.iv x=some (l,v)->∃l' v',g.kb u k lo hi x=some (l',v')/\l'<=l/\v<=v':=fun x l v q=>by
  by_cases e:g.cG u x;rw[jl x l v e q];split;exact⟨_,_,rfl,by omega,by omega⟩;split;exact⟨_,_,rfl,by omega,by omega⟩;exact⟨_,_,rfl,by omega,by omega⟩;rw[jd x e];exact⟨_,_,q,by omega,by omega⟩
 have jhi:∀x l v,v≠k->g.iv x=some (l,v)->∃l',g.kb u k lo hi x=some (l',v):=fun x l v hv q=>by
  by_cases e:g.cG u x;rw[jl x l v e q,if_neg hv];split<;>exact⟨_,rfl⟩;rw[jd x e];exact⟨_,q⟩
 have jlo:∀x l v,l≠k->g.iv x=some (l,v)->∃v',g.kb u k lo hi x=some (l,v'):=fun x l v hv q=>by
  by_cases e:g.cG u x;rw[jl x l v e q];split;exact⟨_,rfl⟩;exact⟨_,rfl⟩;rw[jd x e];exact⟨_,q⟩
 have jpub:∀x l v,g.kb u k lo hi x=some (l,v)->∃l0 v0,g.iv x=some (l0,v0):=fun x l v q=>by
  cases e:g.iv x with
  |none=>rw[jn x e]at q;cases q
  |some z=>exact⟨z.1,z.2,rfl⟩
 have jp:g.kb u k lo hi p=some (lo,hi):=by rw[jl p lo hi lvp hi',if_neg (by omega),if_neg (by omega)]
 have Rp:jr R p c2 p=R c2:=by simp[jr]
 have Ro:∀x,x≠p->jr R p c2 x=R x:=fun x hx=>by simp[jr,hx]
 have sideR:c1=u-3->∀x v,g.cG u x->g.iv x=some (k,v)->False:=fun e x v hx q=>by
  obtain⟨d,v',m1,m2,m3,m4⟩:=h.GB _ hx.1 q (fun r _=>Nat.lt_succ_of_le (List.length_filter_le _ g.j7));have:d=c1:=h.rq d c1 k v' k hi k m1 lc1 m2 h1 m3 (by rw[e];exact ib) (by omega) (by have:=h.pt _ _ _ m3;omega) (by omega) k2;rcases m4 with m4| ⟨r,hr,m4⟩;exact d1 (this▸m4▸hx);exact(h.sep r hr).2 u hu (by omega)
 have sideL:c1=u-5->∀x l,g.cG u x->g.iv x=some (l,k)->False:=fun e x l hx q=>by
  obtain⟨d,l',m1,m2,m3,m4⟩:=h.GC _ hx.1 q (fun r _=>Nat.lt_succ_of_le (List.length_filter_le _ g.j7));have:=h.pt _ _ _ m3;have:d=c1:=h.rq d c1 l' k lo k (k-1) m1 lc1 m2 h1 m3 (by rw[e];exact ia) (by omega) (by omega) (by omega) (by omega);rcases m4 with m4| ⟨r,hr,m4⟩;exact d1 (this▸m4▸hx);exact(h.sep u hu).2 r hr (by omega)
 have sub:∀x l v,g.cG u x->g.iv x=some (l,v)->(c1=u-3->l≠k)/\(c1=u-5->v≠k):=fun x l v hx q=>
  ⟨fun e1 e2=>sideR e1 x v hx (e2▸q),fun e1 e2=>sideL e1 x l hx (e2▸q)⟩
 have uni:∀w,g.rt w->g.live (w-5)->g.key w=k->w=u:=fun w hw hl e=>by
  obtain⟨q,q1,q2⟩:=h.cellOf hw hl;have:=h.qx q p w u q1 hp q2 hR (e.trans hk.symm);subst this;rw[hR]at q2;cases q2;rfl
 have hold:∀b,b≠k->(∃q r,g.live q/\R q=some r/\g.key r=b)->∃q r,g.cG u q/\jr R p c2 q=some r/\g.key r=b:=fun b hb ⟨q,r,q1,q2,q3⟩=>by
  by_cases e:g.cG u q;by_cases e2:q=p;subst e2;rw[hR]at q2;cases q2;exact absurd (q3.symm.trans hk) hb;exact⟨q,r,e,by rw[Ro q e2];exact q2,q3⟩;rcases dead q q1 e with rfl|rfl;rw[h1]at q2;cases q2;exact⟨p,r,lvp,by rw[Rp];exact q2,q3⟩
 have holdR:∀q r,g.cG u q->jr R p c2 q=some r->(∃q0,g.live q0/\R q0=some r/\(q0=q\/(q=p/\q0=c2)))/\r≠u:=fun q r hq q2=>by
  by_cases e2:q=p;subst e2;rw[Rp]at q2;refine⟨⟨c2,lc2,q2,.inr ⟨rfl,rfl⟩⟩,?_⟩;rintro rfl;have:=h.par c2 q r lc2 hp q2 hR;exact d2 (this▸lvp);rw[Ro q e2]at q2;refine⟨⟨q,hq.1,q2,.inl rfl⟩,?_⟩;rintro rfl;exact e2 (h.par q p r hq.1 hp q2 hR)
 have o2:∀o,R c2=some o->g.rt o/\u<o:=fun o q=>⟨h.oE c2 o (h.gH _ lc2) q,h.ord u o hu (by rcases hc with⟨_,e⟩| ⟨_,e⟩<;>(rw[e]at q;simp[q]))⟩;have ne5:∀r,g.rt r->r≠u->r-5≠u-5/\r-5≠u-3/\r-3≠u-5/\r-3≠u-3:=fun r hr hn=>⟨by omega,(h.sep r hr).2 u hu,fun e=>(h.sep u hu).2 r hr e.symm,by omega⟩
 have lvk:∀r,g.rt r->r≠u->g.live (r-5)->g.live (r-3)->g.cG u (r-5)/\g.cG u (r-3):=fun r hr hn a b=>by
  obtain⟨x1,x2,x3,x4⟩:=ne5 r hr hn;exact⟨⟨a,x1,x2⟩,⟨b,x3,x4⟩⟩
 have kidlJ:∀x r l v,g.cG u x->g.kb u k lo hi x=some (l,v)->jr R p c2 x=some r->g.cG u (r-5)/\g.cG u (r-3)/\g.kb u k lo hi (r-5)=some (l,g.key r)/\g.kb u k lo hi (r-3)=some (g.key r,v):=fun x r l v hx he hr=>by
  obtain⟨⟨q0,q1,q2,q3⟩,hru⟩:=holdR x r hx hr;have hrt:=h.oE q0 r (h.gH _ q1) q2;obtain⟨l0,v0,q4⟩:=h.gH q0 q1;obtain⟨a,b,c,d⟩:=h.kq q0 r l0 v0 q1 q4 q2;have hkey:=h.rk q0 r l0 v0 q4 q2;obtain⟨a',b'⟩:=lvk r hrt hru a b;have kr:g.key r≠k:=fun e=>hru (uni r hrt a e);refine⟨a',b',?_,?_⟩;rw[jl _ _ _ a' c,if_neg kr];rcases q3 with rfl| ⟨rfl,rfl⟩;rw[jl _ _ _ hx q4]at he;split at he
  cases he;rw[if_neg (by omega)]
  split at he
  cases he;rw[if_pos ‹_›]
  cases he;rw[if_neg ‹_›]
  rw[jp]at he;cases he;rcases hc with⟨_,e⟩| ⟨_,e⟩;rw[e,ib]at q4;cases q4;rw[if_pos rfl];rw[e,ia]at q4;cases q4;rw[if_neg (by omega)];rw[jl _ _ _ b' d];rcases q3 with rfl| ⟨rfl,rfl⟩;rw[jl _ _ _ hx q4]at he;split at he
  cases he;rw[if_pos ‹_›]
  split at he
  cases he;rw[if_neg ‹_›,if_neg kr]
  cases he;rw[if_neg ‹_›,if_neg kr]
  rw[jp]at he;cases he;rcases hc with⟨_,e⟩| ⟨_,e⟩;rw[e,ib]at q4;cases q4;rw[if_neg (by omega),if_neg kr];rw[e,ia]at q4;cases q4;rw[if_pos rfl]
 exact{
  rt:=by
   have q:=h.rt;have hr0:g.cG u root:=⟨q.1,by have:=(h.sep u hu).1;omega,by have:=(h.sep u hu).1;omega⟩;refine⟨hr0,?_⟩;show g.kb u k lo hi root=_;rw[jl root _ _ hr0 q.2,if_neg (by omega),if_neg (by omega)]
  pt:=fun x l v he=>by
   change g.kb u k lo hi x=some (l,v)at he
   obtain⟨l0,v0,q⟩:=jpub x l v he;have:=h.pt x l0 v0 q;by_cases e:g.cG u x;rw[jl x l0 v0 e q]at he;split at he
   cases he;omega
   split at he
   cases he;omega
   cases he;omega
   rw[jd x e,q]at he;cases he;omega
  gH:=fun x hx=>by
   obtain⟨l,v,q⟩:=h.gH x hx.1;obtain⟨l',v',q',_⟩:=jm x l v q;exact⟨l',v',q'⟩
  oE:=fun x r ⟨l,v,hx⟩ hr=>by
   obtain⟨l0,v0,q⟩:=jpub x l v hx;by_cases e:x=p;subst e;rw[Rp]at hr;exact(o2 r hr).1;rw[Ro x e]at hr;exact h.oE x r ⟨l0,v0,q⟩ hr
  rk:=fun x r l v hx hr=>by
   change g.kb u k lo hi x=some (l,v)at hx
   show l<g.key r/\g.key r<v/\∃l1 h1 l2 h2,g.kb u k lo hi (r-5)=some (l1,h1)/\g.kb u k lo hi (r-3)=some (l2,h2)/\l1<=l/\g.key r<=h1/\l2<=g.key r/\v<=h2;by_cases e:g.cG u x;obtain⟨a,b,c,d⟩:=kidlJ x r l v e hx hr;obtain⟨⟨q0,q1,q2,q3⟩,hru⟩:=holdR x r e hr;obtain⟨l0,v0,q4⟩:=h.gH q0 q1;have hkey:=h.rk q0 r l0 v0 q4 q2
   have hin:l<g.key r/\g.key r<v:=by
    rcases q3 with rfl| ⟨rfl,rfl⟩;obtain⟨l',v',e1,e2,e3⟩:=jm _ _ _ q4;rw[hx]at e1;cases e1;omega;rw[jp]at hx;cases hx;rcases hc with⟨_,e⟩| ⟨_,e⟩;rw[e,ib]at q4;cases q4;omega;rw[e,ia]at q4;cases q4;omega
   exact⟨hin.1,hin.2,_,_,_,_,c,d,by omega,by omega,by omega,by omega⟩;have e2:x≠p:=fun q=>e (q▸lvp);rw[Ro x e2]at hr;rw[jd x e]at hx;obtain⟨a1,a2,l1,h1,l2,h2,b1,b2,b3⟩:=h.rk x r l v hx hr;obtain⟨l1',h1',c1',c2',c3'⟩:=jm _ _ _ b1;obtain⟨l2',h2',d1',d2',d3'⟩:=jm _ _ _ b2;exact⟨a1,a2,_,_,_,_,c1',d1',by omega,by omega,by omega,by omega⟩
  kq:=fun x r l v hx he hr=>kidlJ x r l v hx he hr
  j8:=fun r hr=>by
   obtain⟨l1,h1,l2,h2,b1,b2,b3⟩:=h.j8 r hr;obtain⟨l1',h1',c1',c2',c3'⟩:=jm _ _ _ b1;obtain⟨l2',h2',d1',d2',d3'⟩:=jm _ _ _ b2;exact⟨_,_,_,_,c1',d1',by show l1'<g.key r;omega,by show g.key r<=h1';omega,by show l2'<=g.key r;omega,by show g.key r<h2';omega⟩
  ord:=fun r r' hr hr'=>by
   have up:(p=r-5\/p=r-3)->R c2=some r'->r<r':=fun q1 q2=>by
    have a:=h.ord r u hr (by rcases q1 with q|q<;>(rw[<-q];simp[hR]));have:=(o2 r' q2).2;omega
   rcases hr' with q|q;by_cases e:r-5=p;rw[e,Rp]at q;exact up (.inl e.symm) q;rw[Ro _ e]at q;exact h.ord r r' hr (.inl q);by_cases e:r-3=p;rw[e,Rp]at q;exact up (.inr e.symm) q;rw[Ro _ e]at q;exact h.ord r r' hr (.inr q)
  rm:=fun x ⟨l,v,hx⟩=>by
   obtain⟨l0,v0,q⟩:=jpub x l v hx;exact h.rm x ⟨l0,v0,q⟩
  sep:=h.sep
  par:=fun x x' r hx hx' hr hr'=>by
   obtain⟨⟨q0,q1,q2,q3⟩,_⟩:=holdR x r hx hr;obtain⟨⟨q0',q1',q2',q3'⟩,_⟩:=holdR x' r hx' hr';have:=h.par q0 q0' r q1 q1' q2 q2';subst this;rcases q3 with rfl| ⟨rfl,rfl⟩;rcases q3' with rfl| ⟨rfl,rfl⟩;rfl;exact absurd hx d2;rcases q3' with rfl| ⟨rfl,_⟩;exact absurd hx' d2;rfl
  up:=fun x hx hxr=>by
   obtain⟨q,r,a,b,c⟩:=h.up x hx.1 hxr
   have hru:r≠u:=fun e=>by
    rw[e]at c;rcases c with e|e;exact hx.2.1 e;exact hx.2.2 e
   by_cases e:g.cG u q;by_cases e2:q=p;subst e2;rw[hR]at b;cases b;exact absurd rfl hru;exact⟨q,r,e,by rw[Ro q e2];exact b,c⟩;rcases dead q a e with rfl|rfl;rw[h1]at b;cases b;exact⟨p,r,lvp,by rw[Rp];exact b,c⟩
  rq:=fun x x' l v l' v' z hx hx' hr hr' he he' z1 z2 z3 z4=>by
   have leaf:∀y,g.cG u y->jr R p c2 y=none->y≠p->R y=none:=fun y _ q e=>by rwa [Ro y e]at q
   have bZ:∀y l v,g.cG u y->g.kb u k lo hi y=some (l,v)->∃l0 v0,g.iv y=some (l0,v0)/\((l=l0/\v=v0)\/(l=l0/\v0=k/\v=hi)\/(v=v0/\l0=k/\l=lo)):=fun y l v hy q=>by
    obtain⟨l0,v0,q0⟩:=jpub y l v q;refine⟨l0,v0,q0,?_⟩;rw[jl y l0 v0 hy q0]at q;split at q
    cases q;exact .inr (.inl ⟨rfl,‹_›,rfl⟩)
    split at q
    cases q;exact .inr (.inr ⟨rfl,‹_›,rfl⟩)
    cases q;exact .inl ⟨rfl,rfl⟩
   have inC1:∀y l v z,g.cG u y->R y=none->g.iv y=some (l,v)->l<=z->z<v->(c1=u-5/\lo<=z/\z<k)\/(c1=u-3/\k<=z/\z<hi)->False:=fun y l v z hy hr q a b c=>by
    rcases c with⟨e,c⟩| ⟨e,c⟩;exact d1 (h.rq y c1 l v lo k z hy.1 lc1 hr h1 q (e▸ia) a b c.1 c.2▸hy);exact d1 (h.rq y c1 l v k hi z hy.1 lc1 hr h1 q (e▸ib) a b c.1 c.2▸hy)
   have inC2:R c2=none->∀y l v z,g.cG u y->R y=none->g.iv y=some (l,v)->l<=z->z<v->(c2=u-5/\lo<=z/\z<k)\/(c2=u-3/\k<=z/\z<hi)->False:=fun h2 y l v z hy hr q a b c=>by
    rcases c with⟨e,c⟩| ⟨e,c⟩;exact d2 (h.rq y c2 l v lo k z hy.1 lc2 hr h2 q (e▸ia) a b c.1 c.2▸hy);exact d2 (h.rq y c2 l v k hi z hy.1 lc2 hr h2 q (e▸ib) a b c.1 c.2▸hy)
   have withP:∀y l v z,R c2=none->g.cG u y->R y=none->g.kb u k lo hi y=some (l,v)->l<=z->z<v->lo<=z->z<hi->False:=fun y l v z h2 hy hr q a b c d=>by
    obtain⟨l0,v0,q0,q1⟩:=bZ y l v hy q;have hin:=h.pt y l0 v0 q0
    have all:∀z,l0<=z->z<v0->lo<=z->z<hi->False:=fun z a b c d=>by
     rcases hc with⟨e1,e2⟩| ⟨e1,e2⟩;by_cases zz:z<k;exact inC1 y l0 v0 z hy hr q0 a b (.inl ⟨e1,c,zz⟩);exact inC2 h2 y l0 v0 z hy hr q0 a b (.inr ⟨e2,by omega,d⟩);by_cases zz:z<k;exact inC2 h2 y l0 v0 z hy hr q0 a b (.inl ⟨e2,c,zz⟩);exact inC1 y l0 v0 z hy hr q0 a b (.inr ⟨e1,by omega,d⟩)
    rcases q1 with⟨rfl,rfl⟩| ⟨_,rfl,_⟩| ⟨_,rfl,_⟩;exact all z a b c d;exact all (v0-1) (by omega) (by omega) (by omega) (by omega);exact all l0 (by omega) (by omega) (by omega) (by omega)
   by_cases e:x=p;by_cases e':x'=p;rw[e,e'];subst e;rw[Rp]at hr;have e3:g.kb u k lo hi x=some (l,v):=he;rw[jp]at e3;cases e3;exact(withP x' l' v' z hr hx' (leaf x' hx' hr' e') he' z3 z4 z1 z2).elim;by_cases e':x'=p;subst e';rw[Rp]at hr';have e3:g.kb u k lo hi x'=some (l',v'):=he';rw[jp]at e3;cases e3;exact(withP x l v z hr' hx (leaf x hx hr e) he z1 z2 z3 z4).elim;have n1:=leaf x hx hr e;have n2:=leaf x' hx' hr' e';obtain⟨l0,v0,q0,q1⟩:=bZ x l v hx he;obtain⟨l0',v0',q0',q1'⟩:=bZ x' l' v' hx' he';have i0:=h.pt x l0 v0 q0;have i0':=h.pt x' l0' v0' q0';have s:=sub x l0 v0 hx q0;have s':=sub x' l0' v0' hx' q0';have same:=fun z a b c d=>h.rq x x' l0 v0 l0' v0' z hx.1 hx'.1 n1 n2 q0 q0' a b c d;have c1x:=fun z a b c=>inC1 x l0 v0 z hx n1 q0 a b c;have c1x':=fun z a b c=>inC1 x' l0' v0' z hx' n2 q0' a b c;by_cases zo:l0<=z/\z<v0;by_cases zo':l0'<=z/\z<v0';exact same z zo.1 zo.2 zo'.1 zo'.2;exfalso;refine c1x z zo.1 zo.2 ?_;rcases hc with⟨e1,_⟩| ⟨e1,_⟩;exact .inl ⟨e1,by have:=s'.2 e1;omega,by have:=s'.2 e1;omega⟩;exact .inr ⟨e1,by have:=s'.1 e1;omega,by have:=s'.1 e1;omega⟩;by_cases zo':l0'<=z/\z<v0';exfalso;refine c1x' z zo'.1 zo'.2 ?_;rcases hc with⟨e1,_⟩| ⟨e1,_⟩;exact .inl ⟨e1,by have:=s.2 e1;omega,by have:=s.2 e1;omega⟩;exact .inr ⟨e1,by have:=s.1 e1;omega,by have:=s.1 e1;omega⟩;rcases hc with⟨e1,_⟩| ⟨e1,_⟩;have:=s.2 e1;have:=s'.2 e1;exact same k (by omega) (by omega) (by omega) (by omega);have:=s.1 e1;have:=s'.1 e1;exact same (k-1) (by omega) (by omega) (by omega) (by omega)
  str:=fun x q r l v hx hr he hq hqr hh=>by
   change l<g.key r/\g.key r<v at hh
   obtain⟨⟨q0,q1,q2,_⟩,hru⟩:=holdR q r hq hqr;have hrt:=h.oE q0 r (h.gH _ q1) q2
   have kr:g.key r≠k:=fun e=>hru (by
    have:=h.qx q0 p r u q1 hp q2 hR (e.trans hk.symm);subst this;rw[hR]at q2;cases q2;rfl)
   have in1:(c1=u-5->¬(lo<g.key r/\g.key r<k))/\(c1=u-3->¬(k<g.key r/\g.key r<hi)):=
    ⟨fun e=>h.str c1 q0 r lo k lc1 h1 (e▸ia) q1 q2,fun e=>h.str c1 q0 r k hi lc1 h1 (e▸ib) q1 q2⟩
   have he':g.kb u k lo hi x=some (l,v):=he;by_cases e:x=p;subst e;rw[Rp]at hr;rw[jp]at he';cases he'
   have in2:(c2=u-5->¬(lo<g.key r/\g.key r<k))/\(c2=u-3->¬(k<g.key r/\g.key r<hi)):=
    ⟨fun e=>h.str c2 q0 r lo k lc2 hr (e▸ia) q1 q2,fun e=>h.str c2 q0 r k hi lc2 hr (e▸ib) q1 q2⟩
   rcases hc with⟨e1,e2⟩| ⟨e1,e2⟩;have:=in1.1 e1;have:=in2.2 e2;omega;have:=in1.2 e1;have:=in2.1 e2;omega;rw[Ro x e]at hr;obtain⟨l0,v0,q0'⟩:=jpub x l v he';have s:=sub x l0 v0 hx q0';have o:=h.str x q0 r l0 v0 hx.1 hr q0' q1 q2;have i0:=h.pt x l0 v0 q0';rw[jl x l0 v0 hx q0']at he';split at he'
   cases he'
   rcases hc with⟨e1,_⟩| ⟨e1,_⟩;exact absurd ‹_› (s.2 e1);have:=in1.2 e1;omega;split at he'
   cases he'
   rcases hc with⟨e1,_⟩| ⟨e1,_⟩;have:=in1.1 e1;omega;exact absurd ‹_› (s.1 e1)
   cases he';exact o hh
  Ck:=fun x l v hx he=>by
   have he':g.kb u k lo hi x=some (l,v):=he;obtain⟨l0,v0,q0⟩:=jpub x l v he';have b:=h.Ck x l0 v0 hx.1 q0;have bp:=h.Ck p lo hi hp hi';have i0:=h.pt x l0 v0 q0;have hh:∀b,b≠k->(∃q r,g.live q/\R q=some r/\g.key r=b)->∃q r,(g.join u k lo hi).live q/\jr R p c2 q=some r/\(g.join u k lo hi).key r=b:=hold;rw[jl x l0 v0 hx q0]at he';split at he';rename_i c1';cases he';exact⟨b.1.imp id (hh _ (by omega)),bp.2.imp id (hh _ (by omega))⟩;rename_i c1';split at he'
   cases he';exact⟨bp.1.imp id (hh _ (by omega)),b.2.imp id (hh _ c1')⟩
   rename_i c2';cases he';exact⟨b.1.imp id (hh _ c2'),b.2.imp id (hh _ c1')⟩
  qx:=fun q q' r r' hq hq' hr hr' he=>by
   obtain⟨⟨q0,q1,q2,q3⟩,_⟩:=holdR q r hq hr;obtain⟨⟨q0',q1',q2',q3'⟩,_⟩:=holdR q' r' hq' hr';have:=h.qx q0 q0' r r' q1 q1' q2 q2' he;subst this;rcases q3 with rfl| ⟨rfl,rfl⟩;rcases q3' with rfl| ⟨rfl,rfl⟩;rfl;exact absurd hq d2;rcases q3' with rfl| ⟨rfl,_⟩;exact absurd hq' d2;rfl
  both:=fun r hr=>by
   show g.cG u (r-5)<->g.cG u (r-3);by_cases e:r=u;subst e;exact⟨fun q=>absurd rfl q.2.1,fun q=>absurd rfl q.2.2⟩;obtain⟨x1,x2,x3,x4⟩:=ne5 r hr e;exact⟨fun q=>⟨(h.both r hr).1 q.1,x3,x4⟩,fun q=>⟨(h.both r hr).2 q.1,x1,x2⟩⟩
  j7:=fun q r hq hr=>by
   obtain⟨⟨q0,q1,q2,_⟩,hru⟩:=holdR q r hq hr;exact(List.mem_erase_of_ne hru).2 (h.j7 q0 r q1 q2)
  nd:=h.nd.erase u
  Gy:=fun r hr hl=>by
   have hru:r≠u:=fun e=>by subst e;exact hl.2.1 rfl
   exact(List.mem_erase_of_ne hru).2 (h.Gy r hr hl.1)
  Cl:=fun w x l v hw hl hx he hb=>.inr ⟨l,v,he,hx,hb⟩
  Eg:=fun w x hw hl hb=>by
   have kw:g.key w≠k:=fun e=>by
    have:=uni w hw hl.1 e;subst this;exact hl.2.1 rfl
   rcases hb with hb| ⟨l,v,e1,_,e3⟩;obtain⟨l,v,e1,e2⟩:=h.Eg w x hw hl.1 hb;rcases e2 with e2|e2;obtain⟨v',q⟩:=jlo x l v (by omega) e1;exact⟨l,v',q,.inl e2⟩;obtain⟨l',q⟩:=jhi x l v (by omega) e1;exact⟨l',v,q,.inr e2⟩;exact⟨l,v,e1,e3⟩
  Eh:=fun w x l v r hw hl hb he hr=>by
   have kw:g.key w≠k:=fun e=>by
    have:=uni w hw hl.1 e;subst this;exact hl.2.1 rfl
   have he':g.kb u k lo hi x=some (l,v):=he;show(v=g.key w->(g.join u k lo hi).bl w (r-3)/\∃lo',g.kb u k lo hi (r-3)=some (lo',v))/\(l=g.key w->(g.join u k lo hi).bl w (r-5)/\∃hi',g.kb u k lo hi (r-5)=some (l,hi'));by_cases e:g.cG u x;obtain⟨a,b,c,d⟩:=kidlJ x r l v e he' hr;exact⟨fun q=>⟨.inr ⟨_,_,d,b,.inr q⟩,_,d⟩,fun q=>⟨.inr ⟨_,_,c,a,.inl q⟩,_,c⟩⟩;have e2:x≠p:=fun q=>e (q▸lvp);rw[Ro x e2]at hr;rw[jd x e]at he';have hb':g.bl w x:=hb.elim id fun⟨_,_,_,q,_⟩=>absurd q e;obtain⟨a,b⟩:=h.Eh w x l v r hw hl.1 hb' he' hr;constructor;intro q;obtain⟨a1,l',a2⟩:=a q;obtain⟨l'',a3⟩:=jhi _ l' v (by omega) a2;exact⟨.inl a1,l'',a3⟩;intro q;obtain⟨a1,v',a2⟩:=b q;obtain⟨v'',a3⟩:=jlo _ l v' (by omega) a2;exact⟨.inl a1,v'',a3⟩}
end
end Go.Proofs.YtcnohdmimheoaaaGreat
namespace Go.Proofs.YtcnohdmimheoaaaGreat
open E Go.Proofs.Tryz
structure eE where
 keys:List Int
 m:Nat
namespace Ar
def TC (A:Ar) (c:Int):Prop:=A.aB c=true/\A.kind (c+1)=3
def SC (A:Ar) (c:Int):Prop:=A.aB c=true/\A.kind (c+1)=4
def RC (A:Ar) (c:Int):Prop:=A.aB c=true/\A.kind (c+1)=7
def LC (A:Ar) (c:Int):Prop:=A.aB c=true/\A.kind (c+1)=2
structure Ext (A B:Ar):Prop where
 kind:∀id,A.kind id≠0->B.kind id=A.kind id
 val:∀id i,A.kind id≠0->B.val id i=A.val id i
 cell:∀c,A.aB c=true->B.aB c=true
 bE:kg A B
 oL:∀c,A.RC c->A.holds c≠0->B.holds c=A.holds c
 len:A.len<=B.len
 room:B.room=A.room
section ext
variable {A B C:Ar}
theorem Ext.k (h:Ext A B) {id k:Int} (e:A.kind id=k) (hk:k≠0):B.kind id=k:=by
 rw[h.kind id (by rw[e];exact hk)];exact e
theorem Ext.TC (h:Ext A B) {c:Int} (e:A.TC c):B.TC c:=⟨h.cell _ e.1,h.k e.2 (by decide)⟩
theorem Ext.SC (h:Ext A B) {c:Int} (e:A.SC c):B.SC c:=⟨h.cell _ e.1,h.k e.2 (by decide)⟩
theorem Ext.RC (h:Ext A B) {c:Int} (e:A.RC c):B.RC c:=⟨h.cell _ e.1,h.k e.2 (by decide)⟩
theorem Ext.LC (h:Ext A B) {c:Int} (e:A.LC c):B.LC c:=⟨h.cell _ e.1,h.k e.2 (by decide)⟩
theorem dr.ne {b:Int} (e:dr A b):A.kind b≠0:=by unfold dr at e;omega
theorem Ext.dr (h:Ext A B) {b:Int} (e:dr A b):dr B b:=by
 have:=h.kind b e.ne;unfold Ar.dr at*;omega
theorem Ext.refl (A:Ar):Ext A A:=⟨fun _ _=>rfl,fun _ _ _=>rfl,fun _ h=>h,kg.refl A,fun _ _ _=>rfl,Int.le_refl _,rfl⟩
theorem Ext.trans (h:Ext A B) (g:Ext B C):Ext A C:=by
 refine⟨fun id hk=>?_,fun id i hk=>?_,fun c hc=>g.cell c (h.cell c hc),h.bE.trans g.bE,fun c hc hh=>?_,Int.le_trans h.len g.len,g.room.trans h.room⟩;rw[g.kind id (by rw[h.kind id hk];exact hk),h.kind id hk];rw[g.val id i (by rw[h.kind id hk];exact hk),h.val id i hk];rw[g.oL c (h.RC hc) (by rw[h.oL c hc hh];exact hh),h.oL c hc hh]
theorem vB.ext (h:vB A B):Ext A B:=
 ⟨fun id hk=>h.kind id (aF hk).2,fun id i hk=>h.val id i (aF hk).2,fun c hc=>by rw[h.aB c (dc hc).2];exact hc,h.bE,fun c hc _=>h.holds c (dc hc.1).2,h.len,h.room⟩
theorem ka.ext {c v:Int} (h:ka A B c v) (hc:A.RC c->A.holds c=0):Ext A B:=
 ⟨fun id _=>h.kind id,fun id i _=>h.val id i,fun x hx=>by rw[h.aB];exact hx,h.bE,fun x hx hh=>by
  rw[h.holds];split;rename_i e;subst e;exact absurd (hc hx) hh;rfl,by rw[h.len];exact Int.le_refl _,h.room⟩
theorem xU (hs:B.sl=A.sl) (hr:B.room=A.room):Ext A B:=by
 have h0:∀id,B.bP id=A.bP id:=fun id=>by unfold bP has;rw[hs]
 refine⟨fun id _=>by unfold Ar.kind;rw[h0],fun id i _=>by unfold Ar.val;rw[h0],fun c hc=>by unfold aB;rw[h0];exact hc,fun id k vs e=>by rw[h0];exact e,fun c _ _=>by unfold Ar.holds;rw[h0],?_,hr⟩;unfold Ar.len;rw[hs];exact Int.le_refl _
theorem Ext.Xn (h:Ext A B) {r:Int} (e:A.kind r≠0):B.lr r=A.lr r:=by
 unfold lr;congr 1;apply List.map_congr_left;intro i _;exact h.val _ _ e
end ext
inductive Rs (A:Ar):Int->List Int->Prop
 |nil:Rs A 0 []
 |one {r:Int} {l:List Int}:A.kind r=9->A.val r 1<r->Rs A (A.val r 1) l->Rs A r (A.lr r++l)
theorem Rs.ext {A B:Ar} (e:Ext A B) {r:Int} {l:List Int} (h:Rs A r l):Rs B r l:=by
 induction h with
 |nil=>exact .nil
 | @one r l a b c ih=>
  have hn:A.kind r≠0:=by rw[a];decide
  rw[<-e.Xn hn];refine .one (e.k a (by decide)) ?_ ?_;rw[e.val _ _ hn];exact b;rw[e.val _ _ hn];exact ih
theorem Rs.nn {A:Ar} {r:Int} {l:List Int} (h:Rs A r l):0<=r/\r<=A.len:=by
 cases h with
 |nil=>exact⟨by omega,by unfold Ar.len;omega⟩
 |one a _ _=>have:=aF (A:=A) (id:=r) (by rw[a];decide);omega
theorem Rs.ij {A:Ar} {r:Int} {l:List Int} (h:Rs A r l):∀n:Nat,r.toNat<n->A.ij n r=some l:=by
 induction h with
 |nil=>intro n hn;cases n with
  |zero=>omega
  |succ n=>simp[Ar.ij]
 | @one r l a b c ih=>
  intro n hn;have h1:=(aF (A:=A) (id:=r) (by rw[a];decide)).1;have h2:=c.nn
  cases n with
  |zero=>omega
  |succ n=>
   unfold Ar.ij;rw[if_neg (by omega),ih n (by omega)];rfl
theorem Rs.au {A:Ar} {r:Int} {l:List Int} (h:Rs A r l):A.au r=some l:=h.ij _ (by have:=h.nn;unfold Ar.len at this;omega)
structure fA (A:Ar) (K:eE) (n:Int):Prop where
 base:dr A n->A.TC (A.val n 2)/\∃l,Tp A (A.val n 0) l/\∀x∈l,x.k∈K.keys
 ro:A.kind n=2->A.val n 1=n-5/\A.val n 2=n-3/\A.val n 3=n-1/\A.TC (n-5)/\A.TC (n-3)/\A.aB (n-1)=true
 main:A.kind n=4->A.val n 3=n-1/\A.aB (n-1)=true
 ai:A.kind n=5->A.kind (A.val n 3)=4
 sN:A.kind n=6->A.kind (A.val n 3)=7
 ef:A.kind n=7->A.val n 2=n-1/\A.aB (n-1)=true
 GD:A.kind n=8->A.kind (A.val n 0)=5/\A.kind (A.val n 1)=5/\A.kind (A.val n 2)=2/\A.TC (A.val n 3)/\(A.val n 4=0\/A.LC (A.val n 4))/\(dr A (A.val n 5)\/A.kind (A.val n 5)=2)
 res:A.kind n=9->∃l,Rs A n l/\l≠[]/\l.length<=K.m/\∀b∈l,dr A b
structure jh (A:Ar) (c:Int):Prop where
 tc:A.TC c->dr A (A.holds c)\/A.kind (A.holds c)=2
 sc:A.SC c->A.holds c= -1\/A.holds c= -2\/A.holds c= -3\/A.kind (A.holds c)=8
 rc:A.RC c->A.holds c=0\/A.holds c= -1\/A.kind (A.holds c)=9
structure c9 (A:Ar) (K:eE) (root:Int):Prop where
 ok:A.Ok
 root:A.TC root
 cg:∀n,A.kind n≠0->fA A K n
 mq:∀c,jh A c
 Mx:A.aB A.len=true->A.len=A.room
section bg
variable {A B:Ar} {K:eE} {root:Int}
theorem fA.ext {n:Int} (h:fA A K n) (e:Ext A B) (hn:A.kind n≠0):fA B K n:=by
 have hk:=e.kind n hn;have hv:=fun i=>e.val n i hn;refine⟨fun hb=>?_,fun hb=>?_,fun hb=>?_,fun hb=>?_,fun hb=>?_,fun hb=>?_,fun hb=>?_,fun hb=>?_⟩;have hb':dr A n:=by unfold dr at*;omega
 obtain⟨a,l,b,c⟩:=h.base hb';rw[hv,hv];exact⟨e.TC a,l,b.bE e.bE,c⟩;rw[hk]at hb;obtain⟨a,b,c,d,f,g⟩:=h.ro hb;rw[hv,hv,hv];exact⟨a,b,c,e.TC d,e.TC f,e.cell _ g⟩;rw[hk]at hb;obtain⟨a,b⟩:=h.main hb;rw[hv];exact⟨a,e.cell _ b⟩;rw[hk]at hb;rw[hv];exact e.k (h.ai hb) (by decide);rw[hk]at hb;rw[hv];exact e.k (h.sN hb) (by decide);rw[hk]at hb;obtain⟨a,b⟩:=h.ef hb;rw[hv];exact⟨a,e.cell _ b⟩;rw[hk]at hb;obtain⟨a,b,c,d,f,g⟩:=h.GD hb;rw[hv,hv,hv,hv,hv,hv];exact⟨e.k a (by decide),e.k b (by decide),e.k c (by decide),e.TC d,f.imp id e.LC,g.imp e.dr (fun x=>e.k x (by decide))⟩;rw[hk]at hb;obtain⟨l,a,b,d,c⟩:=h.res hb;exact⟨l,a.ext e,b,d,fun x hx=>e.dr (c x hx)⟩
theorem c9.same (h:c9 A K root) (hs:B.sl=A.sl) (hr:B.room=A.room):c9 B K root:=by
 have e:=xU hs hr;have e':Ext B A:=xU hs.symm hr.symm;have h0:∀id,B.bP id=A.bP id:=fun id=>by unfold bP has;rw[hs]
 have hh:∀c,B.holds c=A.holds c:=fun c=>by unfold holds;rw[h0]
 have hk:∀c,B.kind c=A.kind c:=fun c=>by unfold kind;rw[h0]
 have hl:B.len=A.len:=by unfold Ar.len;rw[hs]
 refine⟨by unfold Ar.Ok;rw[hs,hr];exact h.ok,e.TC h.root,fun n hn=>(h.cg n (by rw[<-hk];exact hn)).ext e (by rw[<-hk];exact hn),fun c=>⟨fun x=>?_,fun x=>?_,fun x=>?_⟩,fun x=>?_⟩;rw[hh];exact((h.mq c).tc (e'.TC x)).imp e.dr fun y=>by rw[hk];exact y
 rw[hh,hk];exact(h.mq c).sc (e'.SC x);rw[hh,hk];exact(h.mq c).rc (e'.RC x);rw[hl,hr];rw[hl]at x;exact h.Mx (e'.cell _ x)
theorem c9.ed {c v:Int} (h:c9 A K root) (u:ka A B c v) (hv:(A.TC c->dr A v\/A.kind v=2)/\(A.SC c->v= -1\/v= -2\/v= -3\/A.kind v=8)/\(A.RC c->A.holds c=0/\(v= -1\/A.kind v=9))):c9 B K root/\Ext A B:=by
 have e:=u.ext fun x=>(hv.2.2 x).1;have tc:∀x,B.TC x->A.TC x:=fun x hx=>⟨by rw[<-u.aB];exact hx.1,by rw[<-u.kind];exact hx.2⟩;have sc:∀x,B.SC x->A.SC x:=fun x hx=>⟨by rw[<-u.aB];exact hx.1,by rw[<-u.kind];exact hx.2⟩;have rc:∀x,B.RC x->A.RC x:=fun x hx=>⟨by rw[<-u.aB];exact hx.1,by rw[<-u.kind];exact hx.2⟩;refine⟨⟨?_,e.TC h.root,fun n hn=>?_,fun x=>⟨fun hx=>?_,fun hx=>?_,fun hx=>?_⟩,fun hx=>?_⟩,e⟩;have h1:=h.ok;have h2:=u.len;unfold Ar.len at h2;unfold Ar.Ok at*;rw[u.room];omega;rw[u.kind]at hn;exact(h.cg n hn).ext e hn;rw[u.holds,u.kind];split;rename_i q;subst q;exact(hv.1 (tc _ hx)).imp e.dr id;exact((h.mq x).tc (tc _ hx)).imp e.dr id;rw[u.holds,u.kind];split;rename_i q;subst q;exact hv.2.1 (sc _ hx);exact(h.mq x).sc (sc _ hx);rw[u.holds,u.kind];split;rename_i q;subst q;exact .inr (hv.2.2 (rc _ hx)).2;exact(h.mq x).rc (rc _ hx);rw[u.len,u.aB]at hx;rw[u.len,u.room];exact h.Mx hx
theorem c9.grow {xs:List Slot} (h:c9 A K root) (g:Gr A B xs) (hok:B.Ok) (hx:xs≠[]->A.aB A.len=false) (hr:∀(i:Nat) k vs,xs[i]? =some (.cg k vs)->fA B K (A.len+1+i))
  (hc:∀(i:Nat) v,xs[i]? =some (.cell v)->jh B (A.len+1+i)) (hl:xs≠[]->B.aB B.len=true->B.len=B.room):c9 B K root/\Ext A B:=by
 have o:=Gr.jZ g;have e:=o.ext;by_cases hn:xs=[];subst hn;have:B=A:=by unfold Gr at g;rw[g];simp
 subst this;exact⟨h,.refl _⟩;refine⟨⟨hok,e.TC h.root,fun n hk=>?_,fun c=>?_,hl hn⟩,e⟩;by_cases hle:n<=A.len;rw[o.kind n hle]at hk;exact(h.cg n hk).ext e hk;obtain⟨vs,hs⟩:=nE hk;rcases g.from hs with hs| ⟨i,hi,hs⟩;exact absurd (eT hs).2 hle;rw[hi];exact hr i _ _ hs;by_cases hcell:B.aB c=true;by_cases hle:c<=A.len
 have hne:c≠A.len:=fun q=>by
  subst q;rw[o.aB _ hle,hx hn]at hcell;cases hcell
 have h1:A.aB c=true:=by rw[<-o.aB c hle];exact hcell
 have hk:=o.kind (c+1) (by omega);have hh:=o.holds c hle;refine⟨fun x=>?_,fun x=>?_,fun x=>?_⟩;rw[hh];exact((h.mq c).tc ⟨h1,by rw[<-hk];exact x.2⟩).imp e.dr fun y=>e.k y (by decide);rw[hh];exact((h.mq c).sc ⟨h1,by rw[<-hk];exact x.2⟩).imp id (Or.imp id (Or.imp id fun y=>e.k y (by decide)));rw[hh];exact((h.mq c).rc ⟨h1,by rw[<-hk];exact x.2⟩).imp id (Or.imp id fun y=>e.k y (by decide));rcases g.from (iL hcell)with hs| ⟨i,hi,hs⟩;exact absurd (eT hs).2 hle;rw[hi];exact hc i _ hs;exact⟨fun x=>absurd x.1 hcell,fun x=>absurd x.1 hcell,fun x=>absurd x.1 hcell⟩
theorem c9.res {N:Nat} {e:Int} (h:c9 A K root) (r:qK A N e B):c9 B K root/\Ext A B:=by
 obtain⟨_,hok,xs,g,_,hx⟩:=r
 have hk1:∀(i:Nat) k vs,xs[i]? =some (.cg k vs)->B.kind (A.len+1+i)=1:=fun i k vs hs=>by
  obtain⟨ws,e⟩:=hx _ (List.mem_of_getElem? hs)
  cases e
  exact jY (g.new hs)
 by_cases hn:xs=[];subst hn;have:B=A:=by unfold Gr at g;rw[g];simp
 subst this;exact⟨h,.refl _⟩;have hlen:=g.len;have hpos:0<xs.length:=List.length_pos_iff.2 hn;have hroom:=g.room
 have hfree:A.aB A.len=false:=by
  cases e:A.aB A.len
  rfl;have:=h.Mx e;unfold Ar.Ok at hok;unfold Ar.len at this;omega
 refine h.grow g hok (fun _=>hfree) (fun i k vs hs=>?_) (fun i v hs=>?_) (fun _ hl=>?_);have:=hk1 i k vs hs;refine⟨fun q=>?_,fun q=>?_,fun q=>?_,fun q=>?_,fun q=>?_,fun q=>?_,fun q=>?_,fun q=>?_⟩<;>(unfold dr at*;omega);obtain⟨ws,e⟩:=hx _ (List.mem_of_getElem? hs)
 cases e
 obtain⟨s,hs⟩:=aD (l:=xs) (i:=xs.length-1) (by omega);obtain⟨ws,rfl⟩:=hx _ (List.mem_of_getElem? hs);have:=jY (g.new hs);have q:(A.sl.length:Int)+1+((xs.length-1:Nat):Int)=B.len:=by unfold Ar.len;omega
 rw[q]at this;rw[gX hl]at this;cases this
theorem c9.free (h:c9 A K root) (hr:A.len<A.room):A.aB A.len=false:=by
 cases e:A.aB A.len
 rfl;have:=h.Mx e;omega
theorem zI {l:List Int} {i:Nat} {v:Int} (h:l[i]? =some v):l.getD i 0=v:=by rw[List.getD_eq_getElem?_getD,h];rfl
theorem s8 {A:Ar} {k:Int} {vs:List Int} (B:Ar) (hB:B={A with sl:=A.sl++[.cg k vs]}):Gr A B [.cg k vs]/\B.kind (A.len+1)=k/\(∀(i:Nat) v,vs[i]? =some v->B.val (A.len+1) i=v)/\B.len=A.len+1:=by
 have g:Gr A B [.cg k vs]:=hB;have hs:B.bP (A.len+1)=some (.cg k vs):=by have:=g.new (i:=0) rfl;simpa using this
 refine⟨g,jY hs,fun i v hv=>?_,by have:=g.len;simpa[Ar.len]using this⟩;unfold val;rw[hs];have:=ae hv;simp only;rw[if_pos (by omega)];exact zI hv
theorem c9.O0 {k:Int} {vs:List Int} (h:c9 A K root) (hB:B={A with sl:=A.sl++[.cg k vs]}) (hok:B.Ok) (hr:Ext A B->fA B K (A.len+1)):c9 B K root/\Ext A B:=by
 obtain⟨g,hk,hv,hl⟩:=s8 B hB;have hroom:=g.room;have hf:A.len<A.room:=by unfold Ar.Ok at hok;unfold Ar.len at*;omega
 have hs:B.bP (A.len+1)=some (.cg k vs):=by have:=g.new (i:=0) rfl;simpa using this
 refine h.grow g hok (fun _=>h.free hf) (fun i k' vs' e=>?_) (fun i v e=>?_) (fun _ hl'=>?_);have:i=0:=by cases i with|zero=>rfl|succ i=>simp at e
 subst this;simpa using hr (Gr.jZ g).ext;have:i=0:=by cases i with|zero=>rfl|succ i=>simp at e
 subst this;simp at e;rw[hl]at hl';unfold aB at hl';rw[hs]at hl';cases hl'
theorem jx {A:Ar} {w k:Int} {vs:List Int} (B:Ar) (hB:B={A with sl:=A.sl++[.cell w,.cg k vs]}):Gr A B [.cell w,.cg k vs]/\B.kind (A.len+2)=k/\(∀(i:Nat) v,vs[i]? =some v->B.val (A.len+2) i=v)/\B.len=A.len+2/\
  B.aB (A.len+1)=true/\B.holds (A.len+1)=w:=by
 have g:Gr A B [.cell w,.cg k vs]:=hB
 have hs:B.bP (A.len+2)=some (.cg k vs):=by
  have:=g.new (i:=1) rfl;rw[show A.len+2=(A.sl.length:Int)+1+(1:Nat) by unfold Ar.len;omega];exact this
 have hc:B.bP (A.len+1)=some (.cell w):=by have:=g.new (i:=0) rfl;simpa using this
 refine⟨g,jY hs,fun i v hv=>?_,by have:=g.len;simpa[Ar.len]using this,by unfold aB;rw[hc],by unfold holds;rw[hc]⟩;unfold val;rw[hs];have:=ae hv;simp only;rw[if_pos (by omega)];exact zI hv
theorem c9.Mz {w k:Int} {vs:List Int} (h:c9 A K root) (hB:B={A with sl:=A.sl++[.cell w,.cg k vs]}) (hok:B.Ok) (hr:Ext A B->fA B K (A.len+2)/\jh B (A.len+1)):c9 B K root/\Ext A B:=by
 obtain⟨g,hk,hv,hl,hcl,_⟩:=jx B hB;have hroom:=g.room;have hf:A.len<A.room:=by unfold Ar.Ok at hok;unfold Ar.len at*;omega
 have hs:B.bP (A.len+2)=some (.cg k vs):=by
  have:=g.new (i:=1) rfl;rw[show A.len+2=(A.sl.length:Int)+1+(1:Nat) by unfold Ar.len;omega];exact this
 refine h.grow g hok (fun _=>h.free hf) (fun i k' vs' e=>?_) (fun i v e=>?_) (fun _ hl'=>?_)
 match i,e with
 |1,_=>have:=(hr (Gr.jZ g).ext).1;rw[show A.len+1+((1:Nat):Int)=A.len+2 by omega];exact this
 match i,e with
 |0,_=>simpa using(hr (Gr.jZ g).ext).2
 |i+1,e=>cases i<;>simp at e
 rw[hl]at hl';unfold aB at hl';rw[hs]at hl';cases hl'
theorem c9.GF {w:Int} (h:c9 A K root) (hB:B={A with sl:=A.sl++[.cell w]}) (hok:B.Ok) (hfull:B.len=B.room):c9 B K root/\Ext A B:=by
 have g:Gr A B [.cell w]:=hB;have hroom:=g.room;have hlen:=g.len;have hf:A.len<A.room:=by unfold Ar.Ok at hok;unfold Ar.len at*;simp at hlen;omega
 refine h.grow g hok (fun _=>h.free hf) (fun i k' vs' e=>?_) (fun i v e=>?_) (fun _ hl'=>hfull);have:=List.mem_of_getElem? e;simp at this
 match i,e with
 |i+1,e=>simp at e
 |0,_=>
  have hk:B.kind (A.len+1+((0:Nat):Int)+1)=0:=by
   cases e:(decide (B.kind (A.len+1+((0:Nat):Int)+1)=0))
   have:=aF (A:=B) (id:=A.len+1+((0:Nat):Int)+1) (by simpa using e);unfold Ar.len at*;simp at hlen;omega;simpa using e
  refine⟨fun x=>?_,fun x=>?_,fun x=>?_⟩<;>(have:=x.2;rw[hk]at this;cases this)
end bg
end Ar
namespace Ar
section mk
variable {A B:Ar} {K:eE} {root:Int}
section
variable {n:Int}
include n
theorem fA.Nn (hk:A.kind n=3) (h1:A.TC (A.val n 2)) (h2:∃l,Tp A (A.val n 0) l/\∀x∈l,x.k∈K.keys):fA A K n:=by
 refine⟨fun _=>⟨h1,h2⟩,?_,?_,?_,?_,?_,?_,?_⟩<;>(intro q;rw[hk]at q;cases q)
theorem fA.Xo (hk:A.kind n=2) (h1:A.val n 1=n-5) (h2:A.val n 2=n-3) (h3:A.val n 3=n-1) (h4:A.TC (n-5)) (h5:A.TC (n-3)) (h6:A.aB (n-1)=true):fA A K n:=by
 refine⟨fun q=>?_,fun _=>⟨h1,h2,h3,h4,h5,h6⟩,?_,?_,?_,?_,?_,?_⟩;unfold dr at q;omega
 all_goals (intro q;rw[hk]at q;cases q)
theorem fA.Xp (hk:A.kind n=4) (h1:A.TC (A.val n 2)) (h2:∃l,Tp A (A.val n 0) l/\∀x∈l,x.k∈K.keys) (h3:A.val n 3=n-1) (h4:A.aB (n-1)=true):fA A K n:=by
 refine⟨fun _=>⟨h1,h2⟩,?_,fun _=>⟨h3,h4⟩,?_,?_,?_,?_,?_⟩<;>(intro q;rw[hk]at q;cases q)
theorem fA.Vn (hk:A.kind n=5) (h1:A.TC (A.val n 2)) (h2:∃l,Tp A (A.val n 0) l/\∀x∈l,x.k∈K.keys) (h3:A.kind (A.val n 3)=4):fA A K n:=by
 refine⟨fun _=>⟨h1,h2⟩,?_,?_,fun _=>h3,?_,?_,?_,?_⟩<;>(intro q;rw[hk]at q;cases q)
theorem fA.O1 (hk:A.kind n=6) (h1:A.TC (A.val n 2)) (h2:∃l,Tp A (A.val n 0) l/\∀x∈l,x.k∈K.keys) (h3:A.kind (A.val n 3)=7):fA A K n:=by
 refine⟨fun _=>⟨h1,h2⟩,?_,?_,?_,fun _=>h3,?_,?_,?_⟩<;>(intro q;rw[hk]at q;cases q)
theorem fA.W6 (hk:A.kind n=7) (h1:A.val n 2=n-1) (h2:A.aB (n-1)=true):fA A K n:=by
 refine⟨fun q=>?_,?_,?_,?_,?_,fun _=>⟨h1,h2⟩,?_,?_⟩;unfold dr at q;omega
 all_goals (intro q;rw[hk]at q;cases q)
theorem fA.Xq (hk:A.kind n=8) (h:A.kind (A.val n 0)=5/\A.kind (A.val n 1)=5/\A.kind (A.val n 2)=2/\A.TC (A.val n 3)/\(A.val n 4=0\/A.LC (A.val n 4))/\(dr A (A.val n 5)\/A.kind (A.val n 5)=2)):fA A K n:=by
 refine⟨fun q=>?_,?_,?_,?_,?_,?_,fun _=>h,?_⟩;unfold dr at q;omega
 all_goals (intro q;rw[hk]at q;cases q)
theorem fA.Xr (hk:A.kind n=9) (h:∃l,Rs A n l/\l≠[]/\l.length<=K.m/\∀b∈l,dr A b):fA A K n:=by
 refine⟨fun q=>?_,?_,?_,?_,?_,?_,?_,fun _=>h⟩;unfold dr at q;omega
 all_goals (intro q;rw[hk]at q;cases q)
end
theorem c9.MA {k:Int} {vs:List Int} (h:c9 A K root) (hk:1<=k) (hl:vs.length<=12) (hr:∀B,Ext A B->B.kind (A.len+1)=k->(∀(i:Nat) v,vs[i]? =some v->B.val (A.len+1) i=v)->fA B K (A.len+1)):
  A.make k vs=(0,2,A)\/∃B,A.make k vs=(A.len+1,0,B)/\c9 B K root/\Ext A B/\B.kind (A.len+1)=k/\(∀(i:Nat) v,vs[i]? =some v->B.val (A.len+1) i=v)/\B.len=A.len+1/\B.sl=A.sl++[.cg k vs]:=by
 rcases fy h.ok hk hl with⟨e,_⟩| ⟨e,ok⟩;exact .inl e;obtain⟨g,a,b,c⟩:=s8 (A:=A) (k:=k) (vs:=vs) _ rfl;obtain⟨t,x⟩:=h.O0 (k:=k) (vs:=vs) rfl ok fun x=>hr _ x a b;exact .inr ⟨_,e,t,x,a,b,c,rfl⟩
theorem c9.Vo {w k:Int} {vs:Int->List Int} (h:c9 A K root) (hk:1<=k) (hl:∀c,(vs c).length<=12)
  (hr:∀B,Ext A B->B.kind (A.len+2)=k->(∀(i:Nat) v,(vs (A.len+1))[i]? =some v->B.val (A.len+2) i=v)->B.aB (A.len+1)=true->B.holds (A.len+1)=w->fA B K (A.len+2)/\jh B (A.len+1)):
  (A.aH w=(0,2,A)/\A.make k (vs 0)=(0,2,A))\/∃B,A.aH w=(A.len+1,0,B)/\((B.make k (vs (A.len+1))=(0,2,B)/\c9 B K root/\Ext A B)\/
   ∃C,B.make k (vs (A.len+1))=(A.len+2,0,C)/\c9 C K root/\Ext A C/\C.kind (A.len+2)=k/\(∀(i:Nat) v,(vs (A.len+1))[i]? =some v->C.val (A.len+2) i=v)/\C.aB (A.len+1)=true/\C.holds (A.len+1)=w/\C.len=A.len+2/\C.sl=A.sl++[.cell w,.cg k (vs (A.len+1))]):=by
 rcases lF h.ok (v:=w)with⟨e,hf⟩| ⟨e,ok⟩;refine .inl ⟨e,?_⟩;rcases fy h.ok hk (hl 0)with⟨e2,_⟩| ⟨e2,ok2⟩;exact e2;unfold Ar.Ok at ok2;simp at ok2;omega;refine .inr ⟨_,e,?_⟩;rcases fy ok hk (hl (A.len+1))with⟨e2,hf⟩| ⟨e2,ok2⟩;obtain⟨t,x⟩:=h.GF (w:=w) rfl ok hf.symm;exact .inl ⟨e2,t,x⟩;have eq:({({A with sl:=A.sl++[.cell w]}:Ar)with sl:=(A.sl++[.cell w])++[.cg k (vs (A.len+1))]}:Ar)={A with sl:=A.sl++[.cell w,.cg k (vs (A.len+1))]}:=by simp
 rw[eq]at e2 ok2;obtain⟨g,a,b,c,d,f⟩:=jx (A:=A) (w:=w) (k:=k) (vs:=vs (A.len+1)) _ rfl;obtain⟨t,x⟩:=h.Mz (w:=w) (k:=k) (vs:=vs (A.len+1)) rfl ok2 fun x=>hr _ x a b d f;refine .inr ⟨_,?_,t,x,a,b,d,f,c,rfl⟩;rw[e2];congr 1;simp[Ar.len];omega
theorem jh.Xs {c:Int} (hk:A.kind (c+1)=4) (h:A.holds c= -1\/A.holds c= -2\/A.holds c= -3\/A.kind (A.holds c)=8):jh A c:=
 ⟨fun x=>by have:=x.2;omega,fun _=>h,fun x=>by have:=x.2;omega⟩
theorem jh.W7 {c:Int} (hk:A.kind (c+1)=7) (h:A.holds c=0\/A.holds c= -1\/A.kind (A.holds c)=9):jh A c:=
 ⟨fun x=>by have:=x.2;omega,fun x=>by have:=x.2;omega,fun _=>h⟩
theorem jh.Xt {c:Int} (hk:A.kind (c+1)=3) (h:dr A (A.holds c)\/A.kind (A.holds c)=2):jh A c:=
 ⟨fun _=>h,fun x=>by have:=x.2;omega,fun x=>by have:=x.2;omega⟩
theorem jh.Xu {c:Int} (hk:A.kind (c+1)=2):jh A c:=
 ⟨fun x=>by have:=x.2;omega,fun x=>by have:=x.2;omega,fun x=>by have:=x.2;omega⟩
theorem wy:∀(t:List Int) (n:Nat),t.length<=n->(∀x∈t,x≠0)->((List.range n).map fun i=>t.getD i 0).filter (fun b=>decide (b≠0))=t
 | [],n,_,_=>by
  rw[List.filter_eq_nil_iff];intro x hx;simp at hx;obtain⟨_,_,rfl⟩:=hx;simp
 |a::t,0,h,_=>by simp at h
 |a::t,n+1,h,hz=>by
  rw[List.range_succ_eq_map,List.map_cons,List.map_map,List.filter_cons];have:=wy t n (by simpa using h) fun x hx=>hz x (List.mem_cons_of_mem _ hx);rw[if_pos (by simpa using hz a (List.mem_cons_self ..))];congr 1
theorem Ji {n a b:Int} {t:List Int} (hv:∀(i:Nat) v,(a::b::t)[i]? =some v->A.val n i=v) (ho:∀(i:Nat),t.length<=i->i<10->A.val n (2+(i:Int))=0) (hl:t.length<=10) (hz:∀x∈t,x≠0):A.lr n=t:=by
 unfold lr;rw[<-wy t 10 hl hz];congr 1;apply List.map_congr_left;intro i hi;rw[List.mem_range]at hi;by_cases h:i<t.length;have:=hv (i+2) t[i] (by simp[h]);rw[show(2+(i:Int))=((i+2:Nat):Int) by omega,this,List.getD_eq_getElem?_getD,List.getElem?_eq_getElem h];rfl;rw[ho i (by omega) hi,List.getD_eq_getElem?_getD,List.getElem?_eq_none (by omega)];rfl
theorem Jj {n k:Int} {vs:List Int} (h:A.bP n=some (.cg k vs)) {i:Int} (hi:(vs.length:Int)<=i):A.val n i=0:=by
 unfold val;rw[h];simp only;rw[if_neg (by omega)]
theorem kH {several:Int}:∀(n:Nat) {A:Ar} (h:c9 A K root) (l:List Int),(∀b∈l,dr A b)->l≠[]->l.length<=K.m->l.length<=n->
  c9 (aZ several n A l).2.2 K root/\Ext A (aZ several n A l).2.2/\((aZ several n A l).2.1=0->(aZ several n A l).2.2.kind (aZ several n A l).1=9/\Rs (aZ several n A l).2.2 (aZ several n A l).1 l)
 |0,A,h,l,hb,hn,hm,hl=>by
  have:l.length=0:=by omega
  exact absurd (List.eq_nil_of_length_eq_zero this) hn
 |n+1,A,h,l,hb,hn,hm,hl=>by
  have fin:∀{A:Ar} (h:c9 A K root) (next:Int) (t r:List Int),(∀b∈t,dr A b)->(∀b∈t++r,dr A b)->t≠[]->t.length<=10->(t++r).length<=K.m->Rs A next r->
    c9 (A.make 9 (several::next::t)).2.2 K root/\Ext A (A.make 9 (several::next::t)).2.2/\((A.make 9 (several::next::t)).2.1=0->(A.make 9 (several::next::t)).2.2.kind (A.make 9 (several::next::t)).1=9/\Rs (A.make 9 (several::next::t)).2.2 (A.make 9 (several::next::t)).1 (t++r)):=by
   intro A h next t r ht htr hne h10 hmm hrs
   have key:∀B,Ext A B->B.kind (A.len+1)=9->(∀(i:Nat) v,(several::next::t)[i]? =some v->B.val (A.len+1) i=v)->B.bP (A.len+1)=some (.cg 9 (several::next::t))->Rs B (A.len+1) (t++r):=by
    intro B x hk hv hs;have e1:B.val (A.len+1) 1=next:=hv 1 next rfl
    have e2:B.lr (A.len+1)=t:=Ji hv (fun i hi _=>Jj hs (by simp;omega)) h10 fun y hy=>by
     have:=aF (ht y hy).ne;omega
    rw[<-e2];exact .one hk (by rw[e1];have:=hrs.nn;omega) (by rw[e1];exact hrs.ext x)
   rcases fy h.ok (k:=9) (vs:=several::next::t) (by decide) (by simp;omega)with⟨e,_⟩| ⟨e,ok⟩;rw[e];exact⟨h,.refl _,fun q=>by cases q⟩;obtain⟨g,a,b,c⟩:=s8 (A:=A) (k:=9) (vs:=several::next::t) _ rfl;have hs:({A with sl:=A.sl++[.cg 9 (several::next::t)]}:Ar).bP (A.len+1)=some (.cg 9 (several::next::t)):=Gr.last;obtain⟨t1,x⟩:=h.O0 (k:=9) (vs:=several::next::t) rfl ok fun x=>.Xr a ⟨_,key _ x a b hs,by simp[hne],hmm,fun y hy=>x.dr (htr y hy)⟩;rw[e];exact⟨t1,x,fun _=>⟨a,key _ x a b hs⟩⟩
  unfold aZ;by_cases h10:10<l.length;rw[if_pos h10];obtain⟨t1,x1,r1⟩:=kH n h (l.drop 10) (fun b hx=>hb b (List.mem_of_mem_drop hx)) (by intro q;have:=congrArg List.length q;rw[List.length_drop,List.length_nil]at this;omega) (by rw[List.length_drop];omega) (by rw[List.length_drop];omega);generalize aZ several n A (l.drop 10)=z at t1 x1 r1;obtain⟨next,e,B⟩:=z;simp only at t1 x1 r1⊢;by_cases he:e=0;rw[if_neg (by simpa using he)];have hbb:∀b∈l.take 10++l.drop 10,dr B b:=fun b hx=>x1.dr (hb b (by rwa [List.take_append_drop]at hx));obtain⟨t2,x2,r2⟩:=fin t1 next (l.take 10) (l.drop 10) (fun b hx=>hbb b (List.mem_append_left _ hx)) hbb (by intro q;have:=congrArg List.length q;rw[List.length_take,List.length_nil]at this;omega) (by rw[List.length_take];omega) (by rw[List.take_append_drop];exact hm) (r1 he).2;rw[List.take_append_drop]at r2;exact⟨t2,x1.trans x2,r2⟩;rw[if_pos he];exact⟨t1,x1,fun q=>absurd q he⟩;rw[if_neg h10];have:=fin h 0 l [] hb (by simpa using hb) hn (by omega) (by simpa using hm) .nil
  rwa [List.append_nil]at this
section
variable (hf:A.room=A.len)
include hf
theorem lI (v:Int):A.aH v=(0,2,A):=by
 unfold aH add;rw[if_pos (by unfold Ar.len at hf;omega)]
theorem iM {k:Int} {vs:List Int} (hk:1<=k) (hl:vs.length<=12):A.make k vs=(0,2,A):=by
 unfold make add;rw[if_neg (by omega),if_pos (by unfold Ar.len at hf;omega)]
theorem sg (t:Int):Sy.split.cellOf A t=(0,0,2,A):=by
 unfold Sy.split.cellOf;rw[lI hf];rfl
end
theorem c9.cellOf {s:Sy} {af:Int} (h:c9 A K root) (ht:∃l,Tp A af l/\∀x∈l,x.k∈K.keys):
  (∃e i B,Sy.split.cellOf A af=(0,i,e,B)/\e≠0/\c9 B K root/\Ext A B/\B.room=B.len/\∃xs,B.sl=A.sl++xs/\∀x∈xs,x= .cell 0)\/
  ∃B,Sy.split.cellOf A af=(A.len+1,A.len+2,0,B)/\c9 B K root/\Ext A B/\B.TC (A.len+1)/\B.len=A.len+2/\B.holds (A.len+1)=A.len+2/\B.kind (A.len+2)=3/\B.val (A.len+2) 0=af/\B.val (A.len+2) 1=0/\B.val (A.len+2) 2=A.len+1/\
   B.sl=A.sl++[.cell (A.len+2),.cg 3 [af,0,A.len+1]]:=by
 unfold Sy.split.cellOf;rcases lF h.ok (v:=0)with⟨e,hf⟩| ⟨e,ok⟩;rw[e];exact .inl ⟨2,0,A,by simp,by decide,h,.refl _,hf,[],by simp,fun x hx=>by cases hx⟩;rw[e];simp only;rw[if_neg (by simp)];rcases fy ok (k:=3) (vs:=[af,0,(A.sl.length:Int)+1]) (by decide) (by simp)with⟨e2,hf⟩| ⟨e2,ok2⟩;rw[e2];obtain⟨t,x⟩:=h.GF (w:=0) rfl ok hf.symm;exact .inl ⟨2,0,_,by simp,by decide,t,x,hf,[.cell 0],rfl,fun x hx=>by simpa using hx⟩;rw[e2];simp only;rw[if_neg (by simp)];have l1:((A.sl++[Slot.cell 0]).length:Int)+1=A.len+2:=by simp[Ar.len];omega
 rw[l1]
 have eq:∀D:Ar,D={A with sl:=(A.sl++[.cell 0])++[.cg 3 [af,0,(A.sl.length:Int)+1]]}->(D.once ((A.sl.length:Int)+1) (A.len+2)).2=D.step.put ((A.sl.length:Int)+1) (A.len+2):=by
  intro D hD;obtain⟨g,a,b,c,d,f⟩:=jx (A:=A) (w:=0) (k:=3) (vs:=[af,0,(A.sl.length:Int)+1]) D (by rw[hD];simp);have d':D.aB ((A.sl.length:Int)+1)=true:=d;have f':D.holds ((A.sl.length:Int)+1)=0:=f;unfold once;rw[if_pos d',if_pos ⟨f',by unfold Ar.len;omega⟩]
 have ok3:({A with sl:=A.sl++[.cell (A.len+2),.cg 3 [af,0,A.len+1]]}:Ar).Ok:=by unfold Ar.Ok at*;simp at*;omega
 obtain⟨g,a,b,c,d,f⟩:=jx (A:=A) (w:=A.len+2) (k:=3) (vs:=[af,0,A.len+1]) _ rfl
 obtain⟨t,x⟩:=h.Mz (w:=A.len+2) (k:=3) (vs:=[af,0,A.len+1]) rfl ok3 fun x=>by
  have tc:Ar.TC {A with sl:=A.sl++[.cell (A.len+2),.cg 3 [af,0,A.len+1]]} (A.len+1):=⟨d,by rw[show A.len+1+1=A.len+2 by omega];exact a⟩;refine⟨.Nn a ?_ ?_,.Xt (by rw[show A.len+1+1=A.len+2 by omega];exact a) (.inl ?_)⟩;have:=b 2 _ rfl;rw[show((2:Nat):Int)=2 from rfl]at this;rw[this];exact tc;obtain⟨l,h1,h2⟩:=ht;have:=b 0 _ rfl;rw[show((0:Nat):Int)=0 from rfl]at this;rw[this];exact⟨l,h1.bE x.bE,h2⟩;rw[f];unfold dr;rw[a];decide
 generalize hD:({A with sl:=(A.sl++[.cell 0])++[.cg 3 [af,0,(A.sl.length:Int)+1]]}:Ar)=D
 have hsl:((D.once ((A.sl.length:Int)+1) (A.len+2)).2).sl=A.sl++[.cell (A.len+2),.cg 3 [af,0,A.len+1]]:=by
  rw[eq D hD.symm,<-hD];simp[put,step,Ar.len]
 have hrm:((D.once ((A.sl.length:Int)+1) (A.len+2)).2).room=A.room:=by
  rw[eq D hD.symm,<-hD];rfl
 have x2:=xU (A:={A with sl:=A.sl++[.cell (A.len+2),.cg 3 [af,0,A.len+1]]}) (B:=(D.once ((A.sl.length:Int)+1) (A.len+2)).2) hsl hrm;have t2:=t.same (B:=(D.once ((A.sl.length:Int)+1) (A.len+2)).2) hsl hrm;have vv:=fun(i:Nat) v (hi:[af,0,A.len+1][i]? =some v)=>(x2.val (A.len+2) i (by rw[a];decide)).trans (b i v hi);refine .inr ⟨_,rfl,t2,x.trans x2,⟨x2.cell _ d,x2.k (by rw[show A.len+1+1=A.len+2 by omega];exact a) (by decide)⟩,?_,?_,x2.k a (by decide),vv 0 _ rfl,vv 1 _ rfl,vv 2 _ rfl,hsl⟩;show(((D.once ((A.sl.length:Int)+1) (A.len+2)).2).sl.length:Int)=A.len+2;rw[hsl];simp[Ar.len];have h0:((D.once ((A.sl.length:Int)+1) (A.len+2)).2).bP (A.len+1)=({A with sl:=A.sl++[.cell (A.len+2),.cg 3 [af,0,A.len+1]]}:Ar).bP (A.len+1):=by unfold bP has;rw[hsl]
 unfold holds at f⊢;rw[h0];exact f
end mk
end Ar
end Go.Proofs.YtcnohdmimheoaaaGreat
namespace Go.Proofs.YtcnohdmimheoaaaGreat
open E Ar Go.Proofs.Tryz
structure jy (A:Ar) (b:Bs):Prop where
 is:dr A b.id
 kind:b.kind=A.kind b.id
 af:b.af=A.val b.id 0
 home:b.home=A.val b.id 2
structure Np (A:Ar) (f:Fo):Prop where
 cell:A.TC f.cell
 up:f.up=0\/A.kind f.up=2
structure Cm (A:Ar) (f:Fo):Prop where
 b:jy A f.b
 cu:Np A f
structure om (A:Ar) (N:Nat) (j:Jb):Prop where
 ef:A.kind j.store.id=7
 eq:j.store=A.store j.store.id
 gN:j.au.length<=N
 is:∀b∈j.au,dr A b
def xV (K:eE) (a:An):Prop:=a.l.length<=K.m*K.keys.length
structure oF (A:Ar) (K:eE) (N:Nat) (j:Jo):Prop where
 b:jy A j.main.b
 up:A.kind j.up.id=2/\j.up=A.aj j.up.id
 gN:j.aU.length<=N
 lc:∀c∈j.aU,A.LC c
 an:xV K j.cR
def mK (A:Ar) (m:MB):Prop:=A.kind m.b.id=4/\m=A.main m.b.id
def Ba (A:Ar) (b:Bs):Prop:=A.kind b.id=5/\b=A.base b.id
def Jk (A:Ar) (p:Pl):Prop:=A.kind p.id=8/\p=A.aa p.id
section
variable {A B:Ar} {K:eE} {N N':Nat} {o:bA} {root:Int}
theorem jy.ext {b:Bs} (h:jy A b) (e:Ext A B):jy B b:=⟨e.dr h.is,h.kind.trans (e.kind _ h.is.ne).symm,h.af.trans (e.val _ _ h.is.ne).symm,h.home.trans (e.val _ _ h.is.ne).symm⟩
theorem Np.ext {f:Fo} (h:Np A f) (e:Ext A B):Np B f:=⟨e.TC h.cell,h.up.imp id fun x=>e.k x (by decide)⟩
theorem Cm.ext {f:Fo} (h:Cm A f) (e:Ext A B):Cm B f:=⟨h.b.ext e,h.cu.ext e⟩
theorem DG {id:Int} (e:Ext A B) (hn:A.kind id≠0):B.store id=A.store id:=by
 unfold Ar.store;simp only[fun i=>e.val id i hn]
theorem om.ext {j:Jb} (h:om A N j) (e:Ext A B) (hN:N<=N'):om B N' j:=by
 refine⟨e.k h.ef (by decide),?_,Nat.le_trans h.gN hN,fun b hb=>e.dr (h.is b hb)⟩;exact h.eq.trans (DG e (by rw[h.ef];decide)).symm
theorem oF.ext {j:Jo} (h:oF A K N j) (e:Ext A B) (hN:N<=N'):oF B K N' j:=by
 refine⟨h.b.ext e,⟨e.k h.up.1 (by decide),?_⟩,Nat.le_trans h.gN hN,fun c hc=>e.LC (h.lc c hc),h.an⟩;have hn:A.kind j.up.id≠0:=by rw[h.up.1];decide
 rw[h.up.2];simp only[Ar.aj];rw[e.val _ _ hn,e.val _ _ hn,e.val _ _ hn,e.val _ _ hn]
theorem zJ {b:Int} (e:Ext A B) (hn:A.kind b≠0):B.base b=A.base b:=by
 simp only[Ar.base];rw[e.kind _ hn,e.val _ _ hn,e.val _ _ hn,e.val _ _ hn]
theorem mK.ext {m:MB} (h:mK A m) (e:Ext A B):mK B m:=by
 have hn:A.kind m.b.id≠0:=by rw[h.1];decide
 refine⟨e.k h.1 (by decide),?_⟩;rw[h.2];simp only[Ar.main];have:(A.base m.b.id).id=m.b.id:=rfl;rw[this,zJ e hn,e.val _ _ hn]
theorem Ba.ext {b:Bs} (h:Ba A b) (e:Ext A B):Ba B b:=by
 have hn:A.kind b.id≠0:=by rw[h.1];decide
 refine⟨e.k h.1 (by decide),?_⟩;rw[zJ e hn];exact h.2
theorem Jk.ext {p:Pl} (h:Jk A p) (e:Ext A B):Jk B p:=by
 have hn:A.kind p.id≠0:=by rw[h.1];decide
 refine⟨e.k h.1 (by decide),?_⟩;rw[h.2];simp only[Ar.aa];rw[e.val _ _ hn,e.val _ _ hn,e.val _ _ hn,e.val _ _ hn,e.val _ _ hn,e.val _ _ hn]
theorem mK.bs {m:MB} (h:mK A m):jy A m.b:=by
 have e:m.b=A.base m.b.id:=by have:=congrArg MB.b h.2;exact this
 refine⟨by unfold dr;rw[h.1];decide,?_,?_,?_⟩<;>(rw[e];rfl)
theorem Ba.bs {b:Bs} (h:Ba A b):jy A b:=by
 refine⟨by unfold dr;rw[h.1];decide,?_,?_,?_⟩<;>(rw[h.2];rfl)
theorem jy.of {b:Int} (h:dr A b):jy A (A.base b):=⟨h,rfl,rfl,rfl⟩
theorem mK.of {m:Int} (h:A.kind m=4):mK A (A.main m):=⟨h,rfl⟩
theorem Ba.of {b:Int} (h:A.kind b=5):Ba A (A.base b):=⟨h,rfl⟩
theorem Jk.of {p:Int} (h:A.kind p=8):Jk A (A.aa p):=⟨h,rfl⟩
end
def qL (A:Ar) (K:eE) (N:Nat) (o:bA):KR->Prop
 | .leaf j _ r=>om A N j/\qL A K N o r
 | .update=>eG o=true
 |_=>True
def zK (A:Ar) (K:eE) (N:Nat) (o:bA):KU->Prop
 | .leaf j _ r=>om A N j/\qL A K N o r
 | .update=>eG o=true
 |_=>True
def vk (A:Ar) (K:eE) (N:Nat) (o:bA):KT->Prop
 | .ret a=>xV K a
 | .u u=>zK A K N o u
def Ei (A:Ar) (K:eE) (N:Nat) (o:bA):KF->Prop
 | .looks _ _=>True
 | .update=>eG o=true
 | .aA b a=>jy A b/\xV K a
 | .leaf j _ r=>om A N j/\qL A K N o r
def Co (A:Ar) (K:eE) (N:Nat) (o:bA):KO->Prop
 | .update f=>Cm A f/\eG o=true
 | .aA j n=>oF A K N j/\jy A n
 | .leaf j _ f r=>om A N j/\Cm A f/\qL A K N o r
def Am (A:Ar) (K:eE) (N:Nat) (o:bA) (c:Int):KV->Prop
 | .down f _ k=>c=f.cell/\Np A f/\Ei A K N o k
 | .cd f _ _=>A.SC c/\Cm A f
 | .cB f _ _=>c=f.cell/\Cm A f
 | .dm b k=>A.SC c/\jy A b/\Co A K N o k
 | .cN b k=>A.SC c/\jy A b/\Co A K N o k
 | .cU b k=>A.RC c/\jy A b/\Co A K N o k
 | .cE m u=>c=m.state/\mK A m/\zK A K N o u
 | .mf _ j=>A.TC c/\oF A K N j
 | .bh j up cell=>c=cell/\A.TC cell/\(up=0\/A.kind up=2)/\oF A K N j/\mK A j.main/\Ba A j.ai
 | .bH j lock=>A.TC c/\(lock=0\/A.LC lock)/\oF A K N j/\mK A j.main/\Ba A j.ai/\A.TC j.cell
 | .leaf j _ f r=>c=j.store.result/\om A N j/\Cm A f/\qL A K N o r
 | .res j r=>c=j.store.result/\om A N j/\qL A K N o r/\A.holds c≠0
def GG (A:Ar) (K:eE) (N:Nat) (o:bA):KB->Prop
 | .marks j _ f id r=>om A N j/\Cm A f/\A.kind id=6/\qL A K N o r
 | .results _ _ _=>False
 | .update id a=>dr A id/\xV K a/\eG o=true
 | .split a=>xV K a
 | .aL j n id=>oF A K N j/\jy A n/\A.kind id=4
 | .aG j id=>oF A K N j/\mK A j.main/\A.kind id=5
 | .bS j cell=>A.LC cell/\oF A K N j/\mK A j.main/\Ba A j.ai
 | .bO j cell lock=>A.LC cell/\(lock=0\/A.LC lock)/\oF A K N j/\mK A j.main/\Ba A j.ai/\A.TC j.cell
 | .bW j last=>oF A K N j/\mK A j.main/\0<=last/\last<=(j.aU.length:Int)
 | .cK t=>vk A K N o t
 | .bH j id=>oF A K N j/\mK A j.main/\A.kind id=8
 | .fQ m p t=>mK A m/\Jk A p/\vk A K N o t
 | .e8 m p t=>mK A m/\Jk A p/\vk A K N o t
 | .cZ m p t=>mK A m/\Jk A p/\vk A K N o t
 | .cL t=>vk A K N o t
def zL (A:Ar) (c v:Int):Prop:=(A.TC c/\(dr A v\/A.kind v=2))\/(A.SC c/\(v= -1\/v= -2\/v= -3\/A.kind v=8))\/A.LC c
def xW (A:Ar) (K:eE) (N:Nat) (o:bA):Nx->Prop
 | .load c k=>Am A K N o c k
 | .swap c _ now k=>zL A c now/\GG A K N o k
 | .once c v k=>∃j r,k= .results j v r/\c=j.store.result/\om A N j/\qL A K N o r/\(v= -1\/A.kind v=9)
 | .zero=>True
section
variable {A B:Ar} {K:eE} {N N':Nat} {o:bA} {root:Int}
theorem qL.ext (e:Ext A B) (hN:N<=N'):∀{r:KR},qL A K N o r->qL B K N' o r
 | .leaf j _ r,h=>⟨h.1.ext e hN,qL.ext e hN h.2⟩
 | .update,h=>h
 | .whole ..,h=>trivial
 | .looks ..,h=>trivial
theorem zK.ext (e:Ext A B) (hN:N<=N'):∀{r:KU},zK A K N o r->zK B K N' o r
 | .leaf j _ r,h=>⟨h.1.ext e hN,h.2.ext e hN⟩
 | .update,h=>h
 | .looks ..,h=>trivial
theorem vk.ext (e:Ext A B) (hN:N<=N'):∀{r:KT},vk A K N o r->vk B K N' o r
 | .ret a,h=>h
 | .u u,h=>zK.ext e hN h
theorem Ei.ext (e:Ext A B) (hN:N<=N'):∀{r:KF},Ei A K N o r->Ei B K N' o r
 | .leaf j _ r,h=>⟨h.1.ext e hN,h.2.ext e hN⟩
 | .update,h=>h
 | .looks ..,h=>trivial
 | .aA ..,h=>⟨h.1.ext e,h.2⟩
theorem Co.ext (e:Ext A B) (hN:N<=N'):∀{r:KO},Co A K N o r->Co B K N' o r
 | .update f,h=>⟨h.1.ext e,h.2⟩
 | .aA ..,h=>⟨h.1.ext e hN,h.2.ext e⟩
 | .leaf ..,h=>⟨h.1.ext e hN,h.2.1.ext e,h.2.2.ext e hN⟩
theorem Xv (e:Ext A B) {u:Int} (h:u=0\/A.kind u=2):u=0\/B.kind u=2:=h.imp id fun x=>e.k x (by decide)
theorem Qr (e:Ext A B) {u:Int} (h:u=0\/A.LC u):u=0\/B.LC u:=h.imp id e.LC
theorem om.rc {j:Jb} (h:om A N j) (t:c9 A K root):A.RC j.store.result:=by
 have hn:A.kind j.store.id≠0:=by rw[h.ef];decide
 obtain⟨a,b⟩:=(t.cg _ hn).ef h.ef;have:j.store.result=j.store.id-1:=by rw[h.eq];exact a
 rw[this];exact⟨b,by rw[show j.store.id-1+1=j.store.id by omega];exact h.ef⟩
theorem Am.ext (t:c9 A K root) (e:Ext A B) (hN:N<=N'):∀{c:Int} {k:KV},Am A K N o c k->Am B K N' o c k
 |_,.down ..,h=>⟨h.1,h.2.1.ext e,h.2.2.ext e hN⟩
 |_,.cd ..,h=>⟨e.SC h.1,h.2.ext e⟩
 |_,.cB ..,h=>⟨h.1,h.2.ext e⟩
 |_,.dm ..,h=>⟨e.SC h.1,h.2.1.ext e,h.2.2.ext e hN⟩
 |_,.cN ..,h=>⟨e.SC h.1,h.2.1.ext e,h.2.2.ext e hN⟩
 |_,.cU ..,h=>⟨e.RC h.1,h.2.1.ext e,h.2.2.ext e hN⟩
 |_,.cE ..,h=>⟨h.1,h.2.1.ext e,h.2.2.ext e hN⟩
 |_,.mf ..,h=>⟨e.TC h.1,h.2.ext e hN⟩
 |_,.bh ..,h=>⟨h.1,e.TC h.2.1,Xv e h.2.2.1,h.2.2.2.1.ext e hN,h.2.2.2.2.1.ext e,h.2.2.2.2.2.ext e⟩
 |_,.bH ..,h=>⟨e.TC h.1,Qr e h.2.1,h.2.2.1.ext e hN,h.2.2.2.1.ext e,h.2.2.2.2.1.ext e,e.TC h.2.2.2.2.2⟩
 |_,.leaf ..,h=>⟨h.1,h.2.1.ext e hN,h.2.2.1.ext e,h.2.2.2.ext e hN⟩
 |c,.res ..,h=>⟨h.1,h.2.1.ext e hN,h.2.2.1.ext e hN,by rw[e.oL c (by rw[h.1];exact h.2.1.rc t) h.2.2.2];exact h.2.2.2⟩
theorem GG.ext (e:Ext A B) (hN:N<=N'):∀{k:KB},GG A K N o k->GG B K N' o k
 | .marks ..,h=>⟨h.1.ext e hN,h.2.1.ext e,e.k h.2.2.1 (by decide),h.2.2.2.ext e hN⟩
 | .results ..,h=>h
 | .update ..,h=>⟨e.dr h.1,h.2⟩
 | .split _,h=>h
 | .aL ..,h=>⟨h.1.ext e hN,h.2.1.ext e,e.k h.2.2 (by decide)⟩
 | .aG ..,h=>⟨h.1.ext e hN,h.2.1.ext e,e.k h.2.2 (by decide)⟩
 | .bS ..,h=>⟨e.LC h.1,h.2.1.ext e hN,h.2.2.1.ext e,h.2.2.2.ext e⟩
 | .bO ..,h=>⟨e.LC h.1,Qr e h.2.1,h.2.2.1.ext e hN,h.2.2.2.1.ext e,h.2.2.2.2.1.ext e,e.TC h.2.2.2.2.2⟩
 | .bW ..,h=>⟨h.1.ext e hN,h.2.1.ext e,h.2.2⟩
 | .cK _,h=>vk.ext e hN h
 | .bH ..,h=>⟨h.1.ext e hN,h.2.1.ext e,e.k h.2.2 (by decide)⟩
 | .fQ ..,h=>⟨h.1.ext e,h.2.1.ext e,h.2.2.ext e hN⟩
 | .e8 ..,h=>⟨h.1.ext e,h.2.1.ext e,h.2.2.ext e hN⟩
 | .cZ ..,h=>⟨h.1.ext e,h.2.1.ext e,h.2.2.ext e hN⟩
 | .cL _,h=>vk.ext e hN h
theorem zL.ext (e:Ext A B) {c v:Int}:zL A c v->zL B c v
 | .inl h=>.inl ⟨e.TC h.1,h.2.imp e.dr fun x=>e.k x (by decide)⟩
 | .inr (.inl h)=>.inr (.inl ⟨e.SC h.1,h.2.imp id (Or.imp id (Or.imp id fun x=>e.k x (by decide)))⟩)
 | .inr (.inr h)=>.inr (.inr (e.LC h))
theorem xW.ext (t:c9 A K root) (e:Ext A B) (hN:N<=N'):∀{n:Nx},xW A K N o n->xW B K N' o n
 | .load ..,h=>Am.ext t e hN h
 | .swap ..,h=>⟨h.1.ext e,h.2.ext e hN⟩
 | .once ..,⟨j,r,h1,h2,h3,h4,h5⟩=>⟨j,r,h1,h2,h3.ext e hN,h4.ext e hN,h5.imp id fun x=>e.k x (by decide)⟩
 | .zero,h=>trivial
end
structure In (A0:Ar) (K:eE) (o:bA) (root:Int) (s:Sy):Prop where
 bg:c9 s.ar K root
 ext:Ext A0 s.ar
 op:s.th.op=o
 rt:s.root=root
 bz:s.th.busy=true
 nx:s.th.next=none
 key:eG o=true->o.key∈K.keys
structure Gd (A0:Ar) (K:eE) (N:Nat) (o:bA) (root:Int) (s:Sy):Prop where
 bg:c9 s.ar K root
 ext:Ext A0 s.ar
 op:s.th.op=o
 rt:s.root=root
 fin:(s.th.busy=true/\∃n,s.th.next=some n/\xW s.ar K N o n)\/(s.th.busy=false/\s.th.next=none/\s.th.iR=true/\xV K s.th.cR)
section
variable {A0 A B:Ar} {K:eE} {N:Nat} {o:bA} {root:Int} {s:Sy}
theorem Ar.c9.bs (t:c9 A K root) {b:Bs} (h:jy A b):A.TC b.home/\∃l,Tp A b.af l/\∀x∈l,x.k∈K.keys:=by
 rw[h.home,h.af];exact(t.cg _ h.is.ne).base h.is
theorem mK.sc {m:MB} (h:mK A m) (t:c9 A K root):A.SC m.state:=by
 have hn:A.kind m.b.id≠0:=by rw[h.1];decide
 obtain⟨a,b⟩:=(t.cg _ hn).main h.1;have:m.state=m.b.id-1:=by rw[h.2];exact a
 rw[this];exact⟨b,by rw[show m.b.id-1+1=m.b.id by omega];exact h.1⟩
theorem Ar.c9.rt (t:c9 A K root) {r:Int} (h:A.kind r=2):A.TC (A.aj r).left/\A.TC (A.aj r).right/\A.LC (A.aj r).join:=by
 obtain⟨a,b,c,d,e,f⟩:=(t.cg r (by rw[h];decide)).ro h;show A.TC (A.val r 1)/\A.TC (A.val r 2)/\A.LC (A.val r 3);rw[a,b,c];exact⟨d,e,f,by rw[show r-1+1=r by omega];exact h⟩
theorem xV.nil {a:An} (h:a.l=[]):xV K a:=by unfold xV;rw[h];simp
theorem In.grow (h:In A0 K o root s) (t:c9 B K root) (e:Ext s.ar B):In A0 K o root (s.bq B):=⟨t,h.ext.trans e,h.op,h.rt,h.bz,h.nx,h.key⟩
theorem In.go (h:In A0 K o root s) {n:Nx} (hn:xW s.ar K N o n):Gd A0 K N o root (s.go n):=⟨h.bg,h.ext,h.op,h.rt,.inl ⟨h.bz,n,rfl,hn⟩⟩
theorem In.ret (h:In A0 K o root s) {a:An} (ha:xV K a):Gd A0 K N o root (s.ret a):=⟨h.bg,h.ext,h.op,h.rt,.inr ⟨rfl,h.nx,rfl,ha⟩⟩
theorem In.cV (h:In A0 K o root s) (c:Int):In A0 K o root (s.cV c):=⟨h.bg,h.ext,h.op,h.rt,h.bz,h.nx,h.key⟩
theorem In.late (h:In A0 K o root s):In A0 K o root s.late:=⟨h.bg,h.ext,h.op,h.rt,h.bz,h.nx,h.key⟩
theorem In.gU (h:In A0 K o root s) {a:An} (ha:xV K a):Gd A0 K N o root (s.gU a):=(h.cV _).ret ha
theorem In.full (h:In A0 K o root s):Gd A0 K N o root s.full:=h.ret (.nil rfl)
theorem In.down (h:In A0 K o root s) {f:Fo} {key:Int} {k:KF} (hf:Np s.ar f) (hk:Ei s.ar K N o k):Gd A0 K N o root (s.down f key k):=h.go (n:=.load f.cell (.down f key k)) ⟨rfl,hf,hk⟩
theorem In.find (h:In A0 K o root s) {key:Int} {k:KF} (hk:Ei s.ar K N o k):Gd A0 K N o root (s.find key k):=h.down ⟨by rw[h.rt];exact h.bg.root,.inl rfl⟩ hk
theorem In.looks (h:In A0 K o root s) {key:Int} {g:KG}:Gd A0 K N o root (s.looks key g):=h.find (k:=.looks key g) trivial
theorem In.dx (h:In A0 K o root s) {j:Jb} {key:Int} {r:KR} (hj:om s.ar N j) (hr:qL s.ar K N o r):Gd A0 K N o root (s.dx j key r):=h.find (k:=.leaf j key r) ⟨hj,hr⟩
theorem In.update (h:In A0 K o root s) (ho:eG o=true):Gd A0 K N o root s.update:=h.find (k:=.update) ho
theorem In.mJ (h:In A0 K o root s):∀{u:KU},zK s.ar K N o u->Gd A0 K N o root (s.mJ u)
 | .looks ..,_=>h.looks
 | .update,hu=>h.update hu
 | .leaf ..,hu=>h.dx hu.1 hu.2
theorem In.runT (h:In A0 K o root s):∀{u:KT},vk s.ar K N o u->Gd A0 K N o root (s.runT u)
 | .ret a,hu=>h.ret hu
 | .u u,hu=>h.mJ hu
theorem zK.BO:∀{u:KU},zK A K N o u->qL A K N o u.BO
 | .looks ..,_=>trivial
 | .update,hu=>hu
 | .leaf ..,hu=>hu
theorem om.of {S:Int} (h:A.kind S=7) (f:Bool):om A N ⟨A.store S,[],f⟩:=⟨h,rfl,Nat.zero_le _,fun _ hb=>by cases hb⟩
theorem In.iI (h:In A0 K o root s) {b:Bs} {u:KU} (hb:jy s.ar b) (hu:zK s.ar K N o u):Gd A0 K N o root (s.iI b u):=by
 have hr:=h.bg.cg _ hb.is.ne;unfold Sy.iI;rw[hb.kind];split;rename_i e;exact h.go (n:=.load _ (.cE _ u)) ⟨rfl,.of e,hu⟩;split;rename_i e;exact h.go (n:=.load _ (.cE _ u)) ⟨rfl,.of (hr.ai e),hu⟩;split;rename_i e;exact h.dx (.of (hr.sN e) _) hu.BO;exact h.mJ hu
theorem In.results (h:In A0 K o root s) {j:Jb} {v:Int} {r:KR} (hj:om s.ar N j) (hr:qL s.ar K N o r) (hv:v= -1\/s.ar.kind v=9):Gd A0 K N o root (s.results j v r):=
 h.go (n:=.once _ v (.results j v r)) ⟨j,r,rfl,rfl,hj,hr,hv⟩
theorem om.full {j:Jb} (h:om A N j):om A N {j with full:=true}:=⟨h.ef,h.eq,h.gN,h.is⟩
theorem In.marked (h:In A0 K o root s) {j:Jb} {f:Fo} {r:KR} (hj:om s.ar N j) (hf:jy s.ar f.b) (hr:qL s.ar K (N+1) o r) (hm:N+1<=K.m):Gd A0 K (N+1) o root (s.marked j f r):=by
 unfold Sy.marked
 have hj1:om s.ar (N+1) (if j.au.getLast?=some f.b.id then j else{j with au:=j.au++[f.b.id]})/\(if j.au.getLast?=some f.b.id then j else{j with au:=j.au++[f.b.id]}).au≠[]:=by
  split;rename_i e;exact⟨hj.ext (.refl _) (Nat.le_succ _),fun q=>by rw[q]at e;cases e⟩;refine⟨⟨hj.ef,hj.eq,?_,fun b hb=>?_⟩,by simp⟩;have:=hj.gN;simpa using this;rcases List.mem_append.1 hb with hb|hb;exact hj.is b hb;rw[List.mem_singleton.1 hb];exact hf.is
 generalize(if j.au.getLast?=some f.b.id then j else{j with au:=j.au++[f.b.id]})=j1 at hj1;obtain⟨h1,h2⟩:=hj1;dsimp only;split;exact h.dx h1 hr;obtain⟨t,e,q⟩:=kH (several:=if 1<j1.au.length/\j1.store.quiet=false then 1 else 0) (j1.au.length+1) h.bg j1.au h1.is h2 (Nat.le_trans h1.gN hm) (Nat.le_succ _);generalize aZ (if 1<j1.au.length/\j1.store.quiet=false then 1 else 0) (j1.au.length+1) s.ar j1.au=z at t e q;obtain⟨z1,z2,z3⟩:=z;dsimp only at t e q⊢;split;exact(h.grow t e).results ((h1.ext e (Nat.le_refl _)).full) (hr.ext e (Nat.le_refl _)) (.inl rfl);rename_i he;exact(h.grow t e).results (h1.ext e (Nat.le_refl _)) (hr.ext e (Nat.le_refl _)) (.inr (q (by simpa using he)).1)
theorem zL.tc {c v:Int} (h:A.TC c) (hv:dr A v\/A.kind v=2):zL A c v:=.inl ⟨h,hv⟩
theorem zL.sc {c v:Int} (h:A.SC c) (hv:v= -1\/v= -2\/v= -3\/A.kind v=8):zL A c v:=.inr (.inl ⟨h,hv⟩)
theorem zL.lc {c v:Int} (h:A.LC c):zL A c v:=.inr (.inr h)
theorem sh {b k:Int} (h:A.kind b=k) (hk:3<=k/\k<=6):dr A b:=by unfold dr;omega
theorem In.marks (h:In A0 K o root s) {j:Jb} {key p:Int} {f:Fo} {r:KR} (hj:om s.ar N j) (hf:Cm s.ar f) (hr:qL s.ar K N o r):Gd A0 K N o root (s.marks j key f p r):=by
 obtain⟨q1,l,q2,q3⟩:=h.bg.bs hf.b;unfold Sy.marks
 rcases h.bg.MA (k:=6) (vs:=[f.b.af,p,f.b.home,j.store.id]) (by decide) (by simp) (fun B e hk hv=>by
  have v0:=hv 0 _ rfl;have v2:=hv 2 _ rfl;have v3:=hv 3 _ rfl;simp only[Int.natCast_zero,Int.cast_ofNat_Int]at v0 v2 v3;exact .O1 hk (by rw[v2];exact e.TC q1) ⟨l,by rw[v0];exact q2.bE e.bE,q3⟩ (by rw[v3];exact e.k hj.ef (by decide)))with e| ⟨B,e,t,x,hk,hv,hl,_⟩
 rw[e];exact(h.grow h.bg (.refl _)).results hj.full hr (.inl rfl)
 ·rw[e];exact(h.grow t x).go (n:=.swap _ _ _ (.marks j key f _ r)) ⟨.tc (x.TC q1) (.inl (sh hk (by decide))),hj.ext x (Nat.le_refl _),hf.ext x,hk,hr.ext x (Nat.le_refl _)⟩
theorem In.whole (h:In A0 K o root s) {lo hi q:Int} {w:KW}:Gd A0 K N o root (s.whole lo hi q w):=by
 unfold Sy.whole
 rcases h.bg.Vo (w:=0) (k:=7) (vs:=fun c=>[lo,hi,c,q,s.th.call]) (by decide) (by simp) (fun B e hk hv hc hh=>by
  have v2:=hv 2 _ rfl;simp only[Int.cast_ofNat_Int]at v2;exact⟨.W6 hk (by rw[v2];omega) (by rw[show s.ar.len+2-1=s.ar.len+1 by omega];exact hc),.W7 (by rw[show s.ar.len+1+1=s.ar.len+2 by omega];exact hk) (.inl hh)⟩)with⟨e1,e2⟩| ⟨B,e1,⟨e2,t,x⟩| ⟨C,e2,t,x,hk,hv,_⟩⟩
 rw[e1];dsimp only;rw[e2];dsimp only;rw[if_pos (by decide)];exact(h.grow h.bg (.refl _)).full;rw[e1];dsimp only;rw[e2];dsimp only;rw[if_pos (by decide)];exact(h.grow t x).full;rw[e1];dsimp only;rw[e2];dsimp only;rw[if_neg (by decide)];exact(h.grow t x).dx (.of hk _) trivial
theorem uQ {l:List Pr} (h:jv l) (hk:∀x∈l,x.k∈K.keys):l.length<=K.keys.length:=by
 have hn:(l.map (·.k)).Nodup:=by
  rw[List.Nodup,List.pairwise_map];exact h.imp fun{a b} hab e=>by omega
 have:=eu (l.map (·.k)) K.keys hn fun x hx=>by
  obtain⟨y,hy,rfl⟩:=List.mem_map.1 hx;exact hk y hy
 simpa using this
theorem Ar.c9.DH (t:c9 A K root) {b:Int} (hb:dr A b) (lo hi:Int):(A.range (A.base b).af lo hi).length<=K.keys.length:=by
 obtain⟨_,l,h1,h2⟩:=t.bs (jy.of hb);rw[zF t.ok h1];have:(dG l lo hi).length<=l.length:=List.length_filter_le _ _;have:=uQ h1.iA h2;omega
theorem ry {α β:Type} {f:β->α->β} {P:Nat->β->Prop}:∀(l:List α) (n:Nat) (b:β),P n b->(∀n b a,a∈l->P n b->P (n+1) (f b a))->P (n+l.length) (l.foldl f b)
 | [],n,b,h,_=>h
 |a::l,n,b,h,hs=>by
  have:=ry (f:=f) (P:=P) l (n+1) (f b a) (hs n b a (List.mem_cons_self ..) h) fun m c x hx=>hs m c x (List.mem_cons_of_mem _ hx);simp only[List.length_cons,List.foldl_cons]
  rwa [show n+(l.length+1)=n+1+l.length by omega]
theorem In.cy (h:In A0 K o root s) {l:List Int} (hl:∀b∈l,dr s.ar b) (hm:l.length<=K.m):xV K (s.cy l):=by
 have:=ry (f:=fun a id=>if s.th.op.kind=6 then{a with n:=IntKind.i64.wrap (a.n+((s.ar.range (s.ar.base id).af s.th.op.key s.th.op.hi).length:Int))}
  else{a with l:=a.l++s.ar.range (s.ar.base id).af s.th.op.key s.th.op.hi,n:=((a.l++s.ar.range (s.ar.base id).af s.th.op.key s.th.op.hi).length:Int)}) (P:=fun n (a:An)=>a.l.length<=n*K.keys.length) l 0 .zero (by simp[An.zero]) (fun n b a ha hb=>by
   have:=h.bg.DH (hl a ha) s.th.op.key s.th.op.hi;split;show b.l.length<=_;rw[Nat.succ_mul];omega;show(b.l++_).length<=_;rw[List.length_append,Nat.succ_mul];omega)
 rw[Nat.zero_add]at this;exact Nat.le_trans this (Nat.mul_le_mul_right _ hm)
theorem uR (s:Sy) (l:List Int):(s.gC l).l=[]:=by
 have:=ry (f:=s.tY) (P:=fun _ a=>a.l=[]) l 0 .zero rfl (fun n b a _ hb=>by
  unfold Sy.tY;dsimp only;split<;>split<;>first|rfl|exact hb)
 exact this
theorem In.split (h:In A0 K o root s) {b:Bs} {a:An} (hb:jy s.ar b) (ha:xV K a):Gd A0 K N o root (s.split b a):=by
 obtain⟨q1,l,q2,q3⟩:=h.bg.bs hb;unfold Sy.split;rcases zG h.bg.ok q2 with⟨_,e⟩| ⟨_,⟨x,hx,hok⟩,hres⟩;rw[e];dsimp only;rw[if_pos (by decide)];exact(h.grow h.bg (.refl _)).ret ha;obtain⟨tB,xB⟩:=h.bg.res hres;generalize s.ar.half b.af=z at hok tB xB;obtain⟨key,zl,zr,e,B⟩:=z;dsimp only at hok tB xB⊢;by_cases hne:e≠0;rw[if_pos hne];exact(h.grow tB xB).ret ha;rw[if_neg hne];have he:e=0:=by simpa using hne
 obtain⟨_,hl,hr⟩:=hok he;have bE:∀{E F:Ar},Ext E F->(∃l,Tp E zr l/\∀x∈l,x.k∈K.keys)->∃l,Tp F zr l/\∀x∈l,x.k∈K.keys:=fun e ⟨l,a,b⟩=>⟨l,a.bE e.bE,b⟩;have kl:∃l,Tp B zl l/\∀x∈l,x.k∈K.keys:=⟨_,hl,fun x hx=>q3 x (List.mem_of_mem_take hx)⟩;have kr:∃l,Tp B zr l/\∀x∈l,x.k∈K.keys:=⟨_,hr,fun x hx=>q3 x (List.mem_of_mem_drop hx)⟩;rcases tB.cellOf (s:=s) kl with⟨e1,i1,C,c1,n1,tC,xC,fC,_⟩| ⟨C,c1,tC,xC,cC,lC,_⟩;rw[c1];dsimp only;rw[sg fC];dsimp only;rw[lI fC];dsimp only;rw[iM fC (by decide) (by simp)];dsimp only;rw[if_pos (.inl n1)];exact(h.grow tC (xB.trans xC)).ret ha;rw[c1];dsimp only;rcases tC.cellOf (s:=s) (bE xC kr)with⟨e2,i2,D,c2,n2,tD,xD,fD,_⟩| ⟨D,c2,tD,xD,cD,lD,_⟩;rw[c2];dsimp only;rw[lI fD];dsimp only;rw[iM fD (by decide) (by simp)];dsimp only;rw[if_pos (.inr (.inl n2))];exact(h.grow tD (xB.trans (xC.trans xD))).ret ha;rw[c2];dsimp only
 rcases tD.Vo (w:=0) (k:=2) (vs:=fun c=>[key,B.len+1,C.len+1,c]) (by decide) (by simp) (fun E e hk hv hc hh=>by
  have v1:=hv 1 _ rfl;have v2:=hv 2 _ rfl;have v3:=hv 3 _ rfl;simp only[Int.cast_ofNat_Int,Int.natCast_one]at v1 v2 v3;refine⟨.Xo hk (by rw[v1];omega) (by rw[v2];omega) (by rw[v3];omega) ?_ ?_ ?_,.Xu (by rw[show D.len+1+1=D.len+2 by omega];exact hk)⟩;rw[show D.len+2-5=B.len+1 by omega];exact e.TC (xD.TC cC);rw[show D.len+2-3=C.len+1 by omega];exact e.TC cD;rw[show D.len+2-1=D.len+1 by omega];exact hc)with⟨e1,e2⟩| ⟨E,e1,⟨e2,t,x⟩| ⟨E',e2,t,x,hk,hv,_⟩⟩
 rw[e1];dsimp only;rw[e2];dsimp only;rw[if_pos (by simp)];exact(h.grow tD (xB.trans (xC.trans xD))).ret ha;rw[e1];dsimp only;rw[e2];dsimp only;rw[if_pos (by simp)];exact(h.grow t (xB.trans (xC.trans (xD.trans x)))).ret ha
 ·rw[e1];dsimp only;rw[e2];dsimp only;rw[if_neg (by simp)];have xx:=xB.trans (xC.trans (xD.trans x));exact(h.grow t xx).go (n:=.swap _ _ _ (.split a)) ⟨.tc (xx.TC q1) (.inr hk),ha⟩
theorem In.kQ (h:In A0 K o root s) {b:Bs} {key:Int} {a:An} (hb:jy s.ar b) (ha:xV K a):Gd A0 K N o root (s.kQ b key a):=by
 unfold Sy.kQ;split;exact h.split hb ha;split;exact h.find (k:=.aA b a) ⟨hb,ha⟩;exact h.ret ha
theorem jy.stat {b:Bs} (h:jy A b) (x:Int):jy A {b with stat:=x}:=⟨h.is,h.kind,h.af,h.home⟩
theorem In.kf (h:In A0 K o root s) {l:List Int} {r:Int} {w:KW} (hl:∀b∈l,dr s.ar b) (hn:l≠[]) (hm:l.length<=K.m):Gd A0 K N o root (s.kf l r w):=by
 cases w with
 |ends=>exact h.ret (.nil (uR s l))
 |dL=>
  obtain⟨x,l',rfl⟩:=List.exists_cons_of_ne_nil hn;unfold Sy.kf;dsimp only;split;exact h.ret (h.cy hl hm);exact h.kQ ((jy.of (hl x (List.mem_cons_self ..))).stat _) (h.cy hl hm)
theorem In.iV (h:In A0 K o root s) {j:Jb} {v:Int} {r:KR} (hv:v= -1\/s.ar.kind v=9) (hr:qL s.ar K N o r):Gd A0 K N o root (s.iV j v r):=by
 cases r with
 |looks key g=>exact h.looks
 |update=>exact h.update hr
 |leaf j k r=>exact h.dx hr.1 hr.2
 |whole lo hi q w=>
  unfold Sy.iV;dsimp only;split;rename_i hne;have hk:=hv.resolve_left hne;obtain⟨l,r1,r2,r3,r4⟩:=(h.bg.cg v (by rw[hk];decide)).res hk;rw[r1.au];exact h.kf r4 r2 r3;split;exact h.full;exact h.whole
end
theorem Jl (tb xb ba:Nat) (bz:Bool) (op:bA) (call:Int) (lt ov:Bool) (an:An) (s:Sl Pr) (hs:s.l=an.l) (q:Ix) (Mo:aO) (hO:bR 3 1 (q.ord.map aM) q.oa q.oc Mo) (hol:q.ord.length<1000000) (r:cX) (M:aO) (hA:aR ba r M) (b:Bs) (z:Int):aN prog 155 [.pointer (some ⟨tb,0,none⟩),b.val,.int .i64 z] [ak r.rows] [aE tb xb (⟨bz,op,call,lt,none,ov,an⟩:Th) .nilFunc s,ao xb ba q,M] (Jh tb xb ba (⟨bz,op,call,lt,none,ov,an⟩:Th) s q ((sy (⟨bz,op,call,lt,none,ov,an⟩:Th) q r).made b z)):=by
 refine cb fun X H₀ L₀=>?_;refine bx fun b1=>?_;refine al fun b2=>?_;refine dw 20 [18] r_ ?_;refine nX fun b3=>?_;refine fi (fun h1=>?_) (fun h1=>?_);refine ca (FK ba r _ hA _ (⟨op.key,op.v⟩:Pr)) ?_;intro r2 N2 hA2 hr2;refine mc ?_;have hU:=(Ce h1:(ed r.p op b.af)=_);rw[<-hU]at hr2;rw[<-hU];refine fi (fun h9=>?_) (fun h9=>?_);refine re ?_;exact rs (by rw[lG (s:=(sy (⟨bz,op,call,lt,none,ov,an⟩:Th) q r)) h9];dsimp only[sy];rw[<-hr2];exact⟨rfl,r2,_,rfl,rfl,hA2,rfl⟩);refine cv (fun h8=>?_) (fun h8=>?_);refine dv 20 [0,1,2,3,4,5,6,7,8,9,10,12,13,111,114,115,16,17,18,19] (d_ (k_ (k_ (k_ (k_ r_))))) ?_;refine gf (mi q.cF z 1) ?_;refine mc ?_;refine oM rfl (aP (rows:=[(ed r.p op b.af).1,cS q.cF z 1,b.home].map aM) underlying26 t3 rfl rfl rfl rfl rfl (by simp[aM]) rfl rfl (by decide)) ?_;rintro _ _ _ ⟨b4,rfl,rfl,rfl⟩;refine oA (cJ ba r2 _ hA2 3 ⟨some ⟨b4,0,none⟩,3,[(ed r.p op b.af).1,cS q.cF z 1,b.home]⟩) ?_;intro r3 N3 hA3 hr3;refine ca (o9 _ _ _) ?_;refine re ?_;exact rs (by rw[(show(sy (⟨bz,op,call,lt,none,ov,an⟩:Th) q r).made b z=((r2.p.make 3 [(ed r.p op b.af).1,cS q.cF z 1,b.home]).1,tX op.key (ed r.p op b.af).2.1 (ed r.p op b.af).2.2.1,(r2.p.make 3 [(ed r.p op b.af).1,cS q.cF z 1,b.home]).2.1,(r2.p.make 3 [(ed r.p op b.af).1,cS q.cF z 1,b.home]).2.2)from by rw[hr2];have:=jw (s:=(sy (⟨bz,op,call,lt,none,ov,an⟩:Th) q r)) (b:=b) (z:=z) h9;rw[show((sy (⟨bz,op,call,lt,none,ov,an⟩:Th) q r).th.late)=true from h8]at this;exact this),<-hr3];exact⟨rfl,r3,_,rfl,rfl,hA3,rfl⟩);refine dv 20 [0,1,2,3,4,5,6,7,8,9,10,12,13,111,114,115,16,17,18,19] (d_ (k_ (k_ (k_ (k_ r_))))) ?_;refine gf (mi q.cF z 2) ?_;refine mc ?_;refine oM rfl (aP (rows:=[(ed r.p op b.af).1,cS q.cF z 2,b.home].map aM) underlying26 t3 rfl rfl rfl rfl rfl (by simp[aM]) rfl rfl (by decide)) ?_;rintro _ _ _ ⟨b5,rfl,rfl,rfl⟩;refine oA (cJ ba r2 _ hA2 3 ⟨some ⟨b5,0,none⟩,3,[(ed r.p op b.af).1,cS q.cF z 2,b.home]⟩) ?_;intro r3 N3 hA3 hr3;refine ca (o9 _ _ _) ?_;refine re ?_;exact rs (by rw[(show(sy (⟨bz,op,call,lt,none,ov,an⟩:Th) q r).made b z=((r2.p.make 3 [(ed r.p op b.af).1,cS q.cF z 2,b.home]).1,tX op.key (ed r.p op b.af).2.1 (ed r.p op b.af).2.2.1,(r2.p.make 3 [(ed r.p op b.af).1,cS q.cF z 2,b.home]).2.1,(r2.p.make 3 [(ed r.p op b.af).1,cS q.cF z 2,b.home]).2.2)from by rw[hr2];have:=jw (s:=(sy (⟨bz,op,call,lt,none,ov,an⟩:Th) q r)) (b:=b) (z:=z) h9;rw[show((sy (⟨bz,op,call,lt,none,ov,an⟩:Th) q r).th.late)=false from h8]at this;exact this),<-hr3];exact⟨rfl,r3,_,rfl,rfl,hA3,rfl⟩);refine fi (fun h2=>?_) (fun h2=>?_);refine ca (LW ba r _ hA _ (⟨op.key,op.v⟩:Pr)) ?_
 intro r2 N2 hA2 hr2;refine mc ?_;have hU:=(Cg h1 h2:(ed r.p op b.af)=_);rw[<-hU]at hr2;rw[<-hU];refine fi (fun h9=>?_) (fun h9=>?_);refine re ?_;exact rs (by rw[lG (s:=(sy (⟨bz,op,call,lt,none,ov,an⟩:Th) q r)) h9];dsimp only[sy];rw[<-hr2];exact⟨rfl,r2,_,rfl,rfl,hA2,rfl⟩);refine cv (fun h8=>?_) (fun h8=>?_);refine dv 20 [0,1,2,3,4,5,6,7,8,9,10,12,13,111,114,115,16,17,18,19] (d_ (k_ (k_ (k_ (k_ r_))))) ?_;refine gf (mi q.cF z 1) ?_;refine mc ?_;refine oM rfl (aP (rows:=[(ed r.p op b.af).1,cS q.cF z 1,b.home].map aM) underlying26 t3 rfl rfl rfl rfl rfl (by simp[aM]) rfl rfl (by decide)) ?_;rintro _ _ _ ⟨b6,rfl,rfl,rfl⟩;refine oA (cJ ba r2 _ hA2 3 ⟨some ⟨b6,0,none⟩,3,[(ed r.p op b.af).1,cS q.cF z 1,b.home]⟩) ?_;intro r3 N3 hA3 hr3;refine ca (o9 _ _ _) ?_;refine re ?_;exact rs (by rw[(show(sy (⟨bz,op,call,lt,none,ov,an⟩:Th) q r).made b z=((r2.p.make 3 [(ed r.p op b.af).1,cS q.cF z 1,b.home]).1,tX op.key (ed r.p op b.af).2.1 (ed r.p op b.af).2.2.1,(r2.p.make 3 [(ed r.p op b.af).1,cS q.cF z 1,b.home]).2.1,(r2.p.make 3 [(ed r.p op b.af).1,cS q.cF z 1,b.home]).2.2)from by rw[hr2];have:=jw (s:=(sy (⟨bz,op,call,lt,none,ov,an⟩:Th) q r)) (b:=b) (z:=z) h9;rw[show((sy (⟨bz,op,call,lt,none,ov,an⟩:Th) q r).th.late)=true from h8]at this;exact this),<-hr3];exact⟨rfl,r3,_,rfl,rfl,hA3,rfl⟩);refine dv 20 [0,1,2,3,4,5,6,7,8,9,10,12,13,111,114,115,16,17,18,19] (d_ (k_ (k_ (k_ (k_ r_))))) ?_;refine gf (mi q.cF z 2) ?_;refine mc ?_;refine oM rfl (aP (rows:=[(ed r.p op b.af).1,cS q.cF z 2,b.home].map aM) underlying26 t3 rfl rfl rfl rfl rfl (by simp[aM]) rfl rfl (by decide)) ?_;rintro _ _ _ ⟨b7,rfl,rfl,rfl⟩;refine oA (cJ ba r2 _ hA2 3 ⟨some ⟨b7,0,none⟩,3,[(ed r.p op b.af).1,cS q.cF z 2,b.home]⟩) ?_;intro r3 N3 hA3 hr3;refine ca (o9 _ _ _) ?_;refine re ?_;exact rs (by rw[(show(sy (⟨bz,op,call,lt,none,ov,an⟩:Th) q r).made b z=((r2.p.make 3 [(ed r.p op b.af).1,cS q.cF z 2,b.home]).1,tX op.key (ed r.p op b.af).2.1 (ed r.p op b.af).2.2.1,(r2.p.make 3 [(ed r.p op b.af).1,cS q.cF z 2,b.home]).2.1,(r2.p.make 3 [(ed r.p op b.af).1,cS q.cF z 2,b.home]).2.2)from by rw[hr2];have:=jw (s:=(sy (⟨bz,op,call,lt,none,ov,an⟩:Th) q r)) (b:=b) (z:=z) h9;rw[show((sy (⟨bz,op,call,lt,none,ov,an⟩:Th) q r).th.late)=false from h8]at this;exact this),<-hr3];exact⟨rfl,r3,_,rfl,rfl,hA3,rfl⟩);refine ca (LX ba r _ hA _ op.key) ?_;intro r2 N2 hA2 hr2;refine mc ?_;have hU:=(Ch h1 h2:(ed r.p op b.af)=_);rw[<-hU]at hr2;rw[<-hU];refine fi (fun h9=>?_) (fun h9=>?_);refine re ?_;exact rs (by rw[lG (s:=(sy (⟨bz,op,call,lt,none,ov,an⟩:Th) q r)) h9];dsimp only[sy];rw[<-hr2];exact⟨rfl,r2,_,rfl,rfl,hA2,rfl⟩)
 refine cv (fun h8=>?_) (fun h8=>?_);refine dv 20 [0,1,2,3,4,5,6,7,8,9,10,12,13,111,114,115,16,17,18,19] (d_ (k_ (k_ (k_ (k_ r_))))) ?_;refine gf (mi q.cF z 1) ?_;refine mc ?_;refine oM rfl (aP (rows:=[(ed r.p op b.af).1,cS q.cF z 1,b.home].map aM) underlying26 t3 rfl rfl rfl rfl rfl (by simp[aM]) rfl rfl (by decide)) ?_;rintro _ _ _ ⟨b8,rfl,rfl,rfl⟩;refine oA (cJ ba r2 _ hA2 3 ⟨some ⟨b8,0,none⟩,3,[(ed r.p op b.af).1,cS q.cF z 1,b.home]⟩) ?_;intro r3 N3 hA3 hr3;refine ca (o9 _ _ _) ?_;refine re ?_;exact rs (by rw[(show(sy (⟨bz,op,call,lt,none,ov,an⟩:Th) q r).made b z=((r2.p.make 3 [(ed r.p op b.af).1,cS q.cF z 1,b.home]).1,tX op.key (ed r.p op b.af).2.1 (ed r.p op b.af).2.2.1,(r2.p.make 3 [(ed r.p op b.af).1,cS q.cF z 1,b.home]).2.1,(r2.p.make 3 [(ed r.p op b.af).1,cS q.cF z 1,b.home]).2.2)from by rw[hr2];have:=jw (s:=(sy (⟨bz,op,call,lt,none,ov,an⟩:Th) q r)) (b:=b) (z:=z) h9;rw[show((sy (⟨bz,op,call,lt,none,ov,an⟩:Th) q r).th.late)=true from h8]at this;exact this),<-hr3];exact⟨rfl,r3,_,rfl,rfl,hA3,rfl⟩);refine dv 20 [0,1,2,3,4,5,6,7,8,9,10,12,13,111,114,115,16,17,18,19] (d_ (k_ (k_ (k_ (k_ r_))))) ?_;refine gf (mi q.cF z 2) ?_;refine mc ?_;refine oM rfl (aP (rows:=[(ed r.p op b.af).1,cS q.cF z 2,b.home].map aM) underlying26 t3 rfl rfl rfl rfl rfl (by simp[aM]) rfl rfl (by decide)) ?_;rintro _ _ _ ⟨b9,rfl,rfl,rfl⟩;refine oA (cJ ba r2 _ hA2 3 ⟨some ⟨b9,0,none⟩,3,[(ed r.p op b.af).1,cS q.cF z 2,b.home]⟩) ?_;intro r3 N3 hA3 hr3;refine ca (o9 _ _ _) ?_;refine re ?_;exact rs (by rw[(show(sy (⟨bz,op,call,lt,none,ov,an⟩:Th) q r).made b z=((r2.p.make 3 [(ed r.p op b.af).1,cS q.cF z 2,b.home]).1,tX op.key (ed r.p op b.af).2.1 (ed r.p op b.af).2.2.1,(r2.p.make 3 [(ed r.p op b.af).1,cS q.cF z 2,b.home]).2.1,(r2.p.make 3 [(ed r.p op b.af).1,cS q.cF z 2,b.home]).2.2)from by rw[hr2];have:=jw (s:=(sy (⟨bz,op,call,lt,none,ov,an⟩:Th) q r)) (b:=b) (z:=z) h9;rw[show((sy (⟨bz,op,call,lt,none,ov,an⟩:Th) q r).th.late)=false from h8]at this;exact this),<-hr3];exact⟨rfl,r3,_,rfl,rfl,hA3,rfl⟩)
end Go.Proofs.YtcnohdmimheoaaaGreat
namespace Go.Proofs.YtcnohdmimheoaaaGreat
open E Go.Proofs.Tryz
theorem MC (s:Sy) (b:Bs) (z:Int):(s.made b z).2.1.l=[]:=by
 by_cases h:(ed s.ar s.th.op b.af).2.2.2.1≠0;rw[lG h];rfl;rw[jw h];exact K6 _ _ _
section
variable {s:Sy} {z:Int} {f:Fo} {ok:Bool}
include s z f ok
theorem DI (h:ok=false):s.fv ok z (.update f)=s.late.iI f.b .update:=by subst h;rfl
theorem DJ (h:ok=true) (h2:(s.made f.b z).2.2.1≠0):s.fv ok z (.update f)=(s.bq (s.made f.b z).2.2.2).full:=by
 subst h;show(let(id,a,e,B):=s.made f.b z;if e≠0 then(s.bq B).full else(s.bq B).go (.swap f.b.home f.b.id id (.update id a)))=_;generalize s.made f.b z=q at h2⊢;rcases q with⟨q1,q2,q3,q4⟩;exact if_pos h2
theorem DK (h:ok=true) (h2:¬(s.made f.b z).2.2.1≠0):s.fv ok z (.update f)=(s.bq (s.made f.b z).2.2.2).go (.swap f.b.home f.b.id (s.made f.b z).1 (.update (s.made f.b z).1 (s.made f.b z).2.1)):=by
 subst h;show(let(id,a,e,B):=s.made f.b z;if e≠0 then(s.bq B).full else(s.bq B).go (.swap f.b.home f.b.id id (.update id a)))=_;generalize s.made f.b z=q at h2⊢;rcases q with⟨q1,q2,q3,q4⟩;exact if_neg h2
end
end Go.Proofs.YtcnohdmimheoaaaGreat
namespace Go.Proofs.YtcnohdmimheoaaaGreat
open E Ar Go.Proofs.Tryz
theorem GH (tb xb ba:Nat) (bz:Bool) (op:bA) (call:Int) (lt ov:Bool) (an:An) (s:Sl Pr) (hs:s.l=an.l) (q:Ix) (Mo:aO) (hO:bR 3 1 (q.ord.map aM) q.oa q.oc Mo) (hol:q.ord.length<1000000) (r:cX) (M:aO) (hA:aR ba r M) (p1 p2:Nat) (k:Bool) (z:Int) (f:Fo):aN prog 153 [.bool k,.int .i64 z,.pointer (some ⟨p1,0,none⟩),.pointer (some ⟨p2,0,none⟩)] [ak r.rows,aC s,eY tb p1,aW p2 f.cells] [aE tb xb (⟨bz,op,call,lt,none,ov,an⟩:Th) .nilFunc s,ao xb ba q,Mo,M] (aX tb xb ba q ((sy (⟨bz,op,call,lt,none,ov,an⟩:Th) q r).fv k z (.update f))):=by
 refine cb fun X H₀ L₀=>?_;refine At.aJ (aC (⟨none,0,[]⟩:Sl Pr)) (fun _ h=>dh _ _ _ (Nat.zero_le _)) ?_;refine At.aJ (jX tb none [] .nilFunc) (fun _ h=>bK () rfl trivial) ?_;refine cv (fun h1=>?_) (fun h1=>?_);refine mc ?_;refine At.aJ (qh tb .update [] (met 124 tb)) (fun _ h=>bK () rfl trivial) ?_;refine At.ck ?_;refine ca (xP tb xb ba bz op call true ov an s hs q Mo hO hol r M hA f.b .update [] _ [] rfl) ?_;rintro _ _ _ ⟨q9,r9,nv9,sl9,No9,Na9,Nj9,l9,rfl,rfl,hE⟩;refine re ?_;exact rs (by rw[DI (s:=sy _ q r) (bM h1)];exact⟨q9,r9,nv9,sl9,No9,Na9,Nj9,l9,rfl,rfl,hE⟩)
 ·skip
  refine ca (Jl tb xb ba bz op call lt ov an s hs q Mo hO hol r M hA f.b z) ?_;rintro _ _ _ ⟨rfl,r2,N2,rfl,rfl,hA2,hr2⟩;refine al fun b1=>?_;refine al fun b2=>?_;refine fi (fun h2=>?_) (fun h2=>?_);refine ca (sV tb xb _ _ _) ?_;rintro _ _ _ ⟨rfl,rfl⟩;refine mc ?_;refine At.ck ?_;refine re ?_;exact rs (by rw[(show(sy (⟨bz,op,call,lt,none,ov,an⟩:Th) q r).fv k z (.update f)=(Sy.bq (sy (⟨bz,op,call,lt,none,ov,an⟩:Th) q r) ((sy (⟨bz,op,call,lt,none,ov,an⟩:Th) q r).made f.b z).2.2.2).full from DJ (bV h1) h2),<-hr2];exact⟨q,r2,.nilFunc,(⟨none,0,[]⟩:Sl Pr),_,_,[],[],rfl,rfl,hO,hA2,rfl,rfl,Ix.az q,rfl⟩)
  ·skip
   refine mc ?_;refine At.freeze 1 (φ:=aW b1 _) rfl (fun _ h=>cO.2 ⟨_,_,h⟩) ?_;refine At.freeze 0 (φ:=aW b2 _) rfl (fun _ h=>cO.2 ⟨_,_,h⟩) ?_;refine mc ?_;refine At.aJ (eZ tb (.update ((sy (⟨bz,op,call,lt,none,ov,an⟩:Th) q r).made f.b z).1 ((sy (⟨bz,op,call,lt,none,ov,an⟩:Th) q r).made f.b z).2.1) [] (dE 158 [p1,b1,b2])) (fun _ h=>bK ((p1,b1,b2),(⟨none,0,[]⟩:Sl Pr)) ⟨rfl,(MC _ _ _).symm⟩ ⟨h.2.2.2.2.2.2.2.2.1,h.2.1,h.1,h.2.2.2.2.1,trivial⟩) ?_;refine ca (dR tb xb _ _ _ (f.b.home) (f.b.id) (((sy (⟨bz,op,call,lt,none,ov,an⟩:Th) q r).made f.b z).1) (.update ((sy (⟨bz,op,call,lt,none,ov,an⟩:Th) q r).made f.b z).1 ((sy (⟨bz,op,call,lt,none,ov,an⟩:Th) q r).made f.b z).2.1) ([]) _) ?_;rintro _ _ _ ⟨nv,rfl,rfl⟩;refine mc ?_;refine At.ck ?_;refine re ?_;exact rs (by rw[(show(sy (⟨bz,op,call,lt,none,ov,an⟩:Th) q r).fv k z (.update f)=(Sy.bq (sy (⟨bz,op,call,lt,none,ov,an⟩:Th) q r) ((sy (⟨bz,op,call,lt,none,ov,an⟩:Th) q r).made f.b z).2.2.2).go (.swap f.b.home f.b.id ((sy (⟨bz,op,call,lt,none,ov,an⟩:Th) q r).made f.b z).1 (.update ((sy (⟨bz,op,call,lt,none,ov,an⟩:Th) q r).made f.b z).1 ((sy (⟨bz,op,call,lt,none,ov,an⟩:Th) q r).made f.b z).2.1))from DK (bV h1) h2),<-hr2];exact⟨q,r2,nv,s,Mo,_,[],[],rfl,rfl,hO,hA2,rfl,rfl,Ix.az q,hs⟩)
end Go.Proofs.YtcnohdmimheoaaaGreat
namespace Go.Proofs.YtcnohdmimheoaaaGreat
open E Go.Proofs.Tryz
section
variable {s:Sy} {id:Int} {a:An} {ok:Bool}
include s id a ok
theorem DL (h:ok=false):s.cj ok (.update id a)=s.late.update:=by subst h;rfl
theorem DM (h:ok=true):s.cj ok (.update id a)=(s.cV s.th.call).kQ ((s.cV s.th.call).ar.base id) (s.cV s.th.call).th.op.key a:=by subst h;rfl
end
end Go.Proofs.YtcnohdmimheoaaaGreat
namespace Go.Proofs.YtcnohdmimheoaaaGreat
open E Ar Go.Proofs.Tryz
theorem GJ (tb xb ba:Nat) (bz:Bool) (op:bA) (call:Int) (lt ov:Bool) (an:An) (s:Sl Pr) (hs:s.l=an.l) (q:Ix) (Mo:aO) (hO:bR 3 1 (q.ord.map aM) q.oa q.oc Mo) (hol:q.ord.length<1000000) (r:cX) (M:aO) (hA:aR ba r M) (hol2:q.ord.length+1<1000000) (p1 p2 p3:Nat) (k:Bool) (id:Int) (a:An) (sa:Sl Pr) (hsa:sa.l=a.l):aN prog 158 [.bool k,.pointer (some ⟨p1,0,none⟩),.pointer (some ⟨p2,0,none⟩),.pointer (some ⟨p3,0,none⟩)] [ak r.rows,aC s,eY tb p1,aW p2 (cI id),aW p3 (a.cells sa),aC sa] [aE tb xb (⟨bz,op,call,lt,none,ov,an⟩:Th) .nilFunc s,ao xb ba q,Mo,M] (aX tb xb ba q ((sy (⟨bz,op,call,lt,none,ov,an⟩:Th) q r).cj k (.update id a))):=by
 refine cb fun X H₀ L₀=>?_;refine cv (fun h1=>?_) (fun h1=>?_);refine ca (uJ tb xb ba bz op call true ov an s hs q Mo hO hol r M hA) ?_;rintro _ _ _ ⟨q9,r9,nv9,sl9,No9,Na9,Nj9,l9,rfl,rfl,hE⟩;refine re ?_;exact rs (by rw[DL (s:=sy _ q r) (bM h1)];exact⟨q9,r9,nv9,sl9,No9,Na9,Nj9,l9,rfl,rfl,hE⟩);refine dw 8 [] r_ ?_;refine ca (xI xb ba q Mo hO hol call) ?_;rintro _ _ _ ⟨oa,ok,No,rfl,rfl,hO2⟩;refine dv 13 [0,1,2,3,4,5,7,8,9,10,11,12,106] (d_ (k_ (k_ (d_ r_)))) ?_;refine oA (ea xb ba ({q with ord:=q.ord++[call],oa:=oa,oc:=ok}) r _ hA _) ?_;refine mc ?_;refine At.aJ (eS tb a (dE 162 [p1,p3])) (fun _ h=>bK (162,p1,p3,sa) ⟨.inl rfl,rfl,hsa⟩ ⟨h.2.2.2.1,h.2.2.2.2.2.1,h.2.2.2.2.2.2.1,trivial⟩) ?_;refine ca (xN tb xb ba bz op call lt ov an s hs ({q with ord:=q.ord++[call],oa:=oa,oc:=ok}) No hO2 (by simp only[List.length_append,List.length_singleton];exact hol2) r M hA (r.p.base id) op.key a _) ?_;rintro _ _ _ ⟨q9,r9,nv9,sl9,No9,Na9,Nj9,l9,rfl,rfl,h1e,h2e,h3e,h4e,h5e,h6e⟩;refine re ?_;exact rs (by rw[DM (s:=sy _ q r) (bV h1)];exact⟨q9,r9,nv9,sl9,No9,Na9,Nj9,l9,rfl,rfl,h1e,h2e,h3e,h4e,h5e,h6e⟩)
theorem O2:ah prog 153:=ah.mk' func153 rfl rfl
theorem O3:ah prog 158:=ah.mk' func158 rfl rfl
theorem O4:ah prog 246:=ah.mk' func246 rfl rfl
theorem O5:ah prog 256:=ah.mk' func256 rfl rfl
theorem O6:ah prog 257:=ah.mk' func257 rfl rfl
theorem O7:ah prog 258:=ah.mk' func258 rfl rfl
theorem O8:ah prog 259:=ah.mk' func259 rfl rfl
section
variable (tb xb ba:Nat) (bz:Bool) (op:bA) (call:Int) (lt ov:Bool) (an:An) (s:Sl Pr) (hs:s.l=an.l) (q:Ix) (Mo:aO) (hO:bR 3 1 (q.ord.map aM) q.oa q.oc Mo) (hol:q.ord.length<1000000) (r:cX) (M:aO) (hA:aR ba r M)
include tb xb ba bz op call lt ov an s hs q Mo hO hol r M hA
theorem Bb (p1:Nat) (k:Bool) (t:KT) (l:Ax) (tv:Value) (Mj:aO) (hJ:qi t l Mj):aN prog 256 [.bool k,.pointer (some ⟨p1,0,none⟩)] [ak r.rows,aC s,aW p1 #[tv],ju tb t l tv] [aE tb xb (⟨bz,op,call,lt,none,ov,an⟩:Th) .nilFunc s,ao xb ba q,Mo,M,Mj] (aX tb xb ba q ((sy (⟨bz,op,call,lt,none,ov,an⟩:Th) q r).runT t)):=by
 refine cb fun X H₀ L₀=>?_;refine te ?_;exact td fun _ h=>Gf tb xb ba bz op call lt ov an s hs (q) Mo hO hol r M hA (de h) (de h) (de h) hJ
theorem zM (p1 p2:Nat) (k:Bool) (a:An) (av:Value):aN prog 246 [.bool k,.pointer (some ⟨p1,0,none⟩),.pointer (some ⟨p2,0,none⟩)] [ak r.rows,aC s,eY tb p1,aW p2 #[av],eS tb a av] [aE tb xb (⟨bz,op,call,lt,none,ov,an⟩:Th) .nilFunc s,ao xb ba q,Mo,M] (aX tb xb ba q ((sy (⟨bz,op,call,lt,none,ov,an⟩:Th) q r).cj k (.split a))):=by
 refine cb fun X H₀ L₀=>?_;refine cv (fun h1=>?_) (fun h1=>?_);refine mc ?_;refine qt (dY rfl rfl) ?_;refine te ?_;exact lU (by rw[show(sy (⟨bz,op,call,lt,none,ov,an⟩:Th) q r).cj k (.split a)=(sy (⟨bz,op,call,lt,none,ov,an⟩:Th) ({q with splits:=inc q.splits}) r).ret a from by rw[h1];rfl]<;>rfl) fun _ h=>gA tb xb ba bz op call lt ov an s hs ({q with splits:=inc q.splits}) Mo hO hol r M hA (de h) (de h) (de h);refine te ?_;exact lU (by rw[show(sy (⟨bz,op,call,lt,none,ov,an⟩:Th) q r).cj k (.split a)=(sy (⟨bz,op,call,lt,none,ov,an⟩:Th) q r).ret a from by rw[h1];rfl]<;>rfl) fun _ h=>gA tb xb ba bz op call lt ov an s hs (q) Mo hO hol r M hA (de h) (de h) (de h)
theorem Jm (p1 p2:Nat) (k:Bool) (t:KT) (l:Ax) (tv:Value) (Mj:aO) (hJ:qi t l Mj):aN prog 258 [.bool k,.pointer (some ⟨p1,0,none⟩),.pointer (some ⟨p2,0,none⟩)] [ak r.rows,aC s,eY tb p1,aW p2 #[tv],ju tb t l tv] [aE tb xb (⟨bz,op,call,lt,none,ov,an⟩:Th) .nilFunc s,ao xb ba q,Mo,M,Mj] (aX tb xb ba q ((sy (⟨bz,op,call,lt,none,ov,an⟩:Th) q r).cj k (.cL t))):=by
 refine cb fun X H₀ L₀=>?_;refine cv (fun h1=>?_) (fun h1=>?_);refine mc ?_;refine qt (dY rfl rfl) ?_;refine te ?_;exact lU (by rw[show(sy (⟨bz,op,call,lt,none,ov,an⟩:Th) q r).cj k (.cL t)=(sy (⟨bz,op,call,lt,none,ov,an⟩:Th) ({q with aA:=inc q.aA}) r).runT t from by rw[h1];rfl]<;>rfl) fun _ h=>Gf tb xb ba bz op call lt ov an s hs ({q with aA:=inc q.aA}) Mo hO hol r M hA (de h) (de h) (de h) hJ;refine te ?_;exact lU (by rw[show(sy (⟨bz,op,call,lt,none,ov,an⟩:Th) q r).cj k (.cL t)=(sy (⟨bz,op,call,lt,none,ov,an⟩:Th) q r).runT t from by rw[h1];rfl]<;>rfl) fun _ h=>Gf tb xb ba bz op call lt ov an s hs (q) Mo hO hol r M hA (de h) (de h) (de h) hJ
theorem Jn (p1 p2 p3 p4:Nat) (k:Bool) (m:MB) (p:Pl) (t:KT) (l:Ax) (tv:Value) (Mj:aO) (hJ:qi t l Mj):aN prog 257 [.bool k,.pointer (some ⟨p1,0,none⟩),.pointer (some ⟨p2,0,none⟩),.pointer (some ⟨p3,0,none⟩),.pointer (some ⟨p4,0,none⟩)] [ak r.rows,aC s,eY tb p1,aW p2 m.cells,aW p3 p.cells,aW p4 #[tv],ju tb t l tv] [aE tb xb (⟨bz,op,call,lt,none,ov,an⟩:Th) .nilFunc s,ao xb ba q,Mo,M,Mj] (aX tb xb ba q ((sy (⟨bz,op,call,lt,none,ov,an⟩:Th) q r).cj k (.cZ m p t))):=by
 refine cb fun X H₀ L₀=>?_;refine mc ?_;refine At.aJ (eZ tb (.cL t) l (dE 258 [p1,p4])) (fun _ h=>bK ((p1,p4),tv) rfl ⟨h.2.2.2.1,h.2.2.2.2.2.2.1,h.2.2.2.2.2.2.2.1,trivial⟩) ?_;refine ca (dR tb xb _ _ _ (m.state) (p.id) (-3) (.cL t) (l) _) ?_;rintro _ _ _ ⟨nv,rfl,rfl⟩;refine re ?_;exact rs ⟨q,r,nv,s,Mo,_,Mj,l,rfl,rfl,hO,hA,hJ,rfl,Ix.az q,hs⟩
theorem Jp (p1 p2 p3 p4:Nat) (k:Bool) (m:MB) (p:Pl) (ev:Value) (t:KT) (l:Ax) (Mj:aO) (hJ:qi t l Mj):aN prog 259 [.bool k,.pointer (some ⟨p1,0,none⟩),.pointer (some ⟨p2,0,none⟩),.pointer (some ⟨p3,0,none⟩),.pointer (some ⟨p4,0,none⟩)] [ak r.rows,aC s,eY tb p1,aW p2 p.cells,aW p3 #[ev],aW p4 m.cells,xG tb m p (ju tb t l) ev] [aE tb xb (⟨bz,op,call,lt,none,ov,an⟩:Th) .nilFunc s,ao xb ba q,Mo,M,Mj] (aX tb xb ba q ((sy (⟨bz,op,call,lt,none,ov,an⟩:Th) q r).cj k (.fQ m p t))):=by
 refine cb fun X H₀ L₀=>?_;refine mc ?_;refine At.aJ (eZ tb (.e8 m p t) l (dE 260 [p2,p3,p1,p4])) (fun _ h=>bK ((p2,p3,p1,p4),ev) rfl ⟨h.2.2.2.2.1,h.2.2.2.2.2.1,h.2.2.2.1,h.2.2.2.2.2.2.1,h.2.2.2.2.2.2.2.1,trivial⟩) ?_;refine ca (dR tb xb _ _ _ (p.cell) (p.parent) (p.fu) (.e8 m p t) (l) _) ?_;rintro _ _ _ ⟨nv,rfl,rfl⟩;refine re ?_;exact rs ⟨q,r,nv,s,Mo,_,Mj,l,rfl,rfl,hO,hA,hJ,rfl,Ix.az q,hs⟩
end
theorem O9:ah prog 260:=ah.mk' func260 rfl rfl
section
variable (tb xb ba:Nat) (bz:Bool) (op:bA) (call:Int) (lt ov:Bool) (an:An) (s:Sl Pr) (hs:s.l=an.l) (q:Ix) (Mo:aO) (hO:bR 3 1 (q.ord.map aM) q.oa q.oc Mo) (hol:q.ord.length<1000000) (r:cX) (M:aO) (hA:aR ba r M)
include tb xb ba bz op call lt ov an s hs q Mo hO hol r M hA
theorem K9 {m:MB} {p:Pl} {t:KT} {l:Ax} {v:Value} {H:Hp} {Mj:aO} (k:Bool) (hr:(ak r.rows).holds H) (hps:(aC s).holds H) (h:(xG tb m p (ju tb t l) v).holds H) (hJ:qi t l Mj):
  eI v [.bool k] H [aE tb xb (⟨bz,op,call,lt,none,ov,an⟩:Th) .nilFunc s,ao xb ba q,Mo,M,Mj] (aX tb xb ba q ((sy (⟨bz,op,call,lt,none,ov,an⟩:Th) q r).cj k (.cZ m p t))):=by
 obtain⟨x,rfl,h1,h2,h3,h4,h5,_⟩:=h;exact .of (Jn tb xb ba bz op call lt ov an s hs q Mo hO hol r M hA x.1.1 x.1.2.1 x.1.2.2.1 x.1.2.2.2 k m p t l x.2 Mj hJ) rfl O6 ⟨hr,hps,h1,h2,h3,h4,h5,trivial⟩
theorem Jq (p1 p2 p3 p4:Nat) (k:Bool) (m:MB) (p:Pl) (ev:Value) (t:KT) (l:Ax) (Mj:aO) (hJ:qi t l Mj):aN prog 260 [.bool k,.pointer (some ⟨p1,0,none⟩),.pointer (some ⟨p2,0,none⟩),.pointer (some ⟨p3,0,none⟩),.pointer (some ⟨p4,0,none⟩)] [ak r.rows,aC s,aW p1 p.cells,aW p2 #[ev],eY tb p3,aW p4 m.cells,xG tb m p (ju tb t l) ev] [aE tb xb (⟨bz,op,call,lt,none,ov,an⟩:Th) .nilFunc s,ao xb ba q,Mo,M,Mj] (aX tb xb ba q ((sy (⟨bz,op,call,lt,none,ov,an⟩:Th) q r).cj k (.e8 m p t))):=by
 refine cb fun X H₀ L₀=>?_;refine fi (fun h1=>?_) (fun h1=>?_);refine te ?_;exact lU (by rw[show(sy (⟨bz,op,call,lt,none,ov,an⟩:Th) q r).cj k (.e8 m p t)=(sy (⟨bz,op,call,lt,none,ov,an⟩:Th) q r).cj k (.cZ m p t)from by show(if p.lock=0 then _ else _)=_;rw[if_pos h1];rfl]<;>rfl) fun _ h=>K9 tb xb ba bz op call lt ov an s hs q Mo hO hol r M hA k (de h) (de h) (de h) hJ
 ·skip
  refine mc ?_;refine At.aJ (eZ tb (.cZ m p t) l ev) (fun _ h=>h.2.2.2.2.2.2.2.1) ?_;refine ca (dR tb xb _ _ _ (p.lock) (m.b.id) (0) (.cZ m p t) (l) _) ?_;rintro _ _ _ ⟨nv,rfl,rfl⟩;refine re ?_;exact rs (by rw[show(sy (⟨bz,op,call,lt,none,ov,an⟩:Th) q r).cj k (.e8 m p t)=(sy (⟨bz,op,call,lt,none,ov,an⟩:Th) q r).go (.swap p.lock m.b.id 0 (.cZ m p t))from by show(if p.lock=0 then _ else _)=_;rw[if_neg h1]];exact⟨q,r,nv,s,Mo,_,Mj,l,rfl,rfl,hO,hA,hJ,rfl,Ix.az q,hs⟩)
end
end Go.Proofs.YtcnohdmimheoaaaGreat
namespace Go.Proofs.YtcnohdmimheoaaaGreat
open E Go.Proofs.Tryz
abbrev Cp (A:Ar) (b:Bs):=(A.aH (-1)).2.2.make 4 [b.af,b.stat,b.home,(A.aH (-1)).1]
theorem lJ {s:Sy} {j:Jo} {n:Bs} (h:(s.ar.aH (-1)).2.1≠0\/(Cp s.ar j.main.b).2.1≠0):s.aL j n=(s.bq (Cp s.ar j.main.b).2.2).ret j.cR:=by
 unfold Sy.aL Cp at*;generalize s.ar.aH (-1)=q at h⊢;rcases q with⟨a,b,c⟩;simp only[]at h⊢;generalize c.make 4 [j.main.b.af,j.main.b.stat,j.main.b.home,a]=q at h⊢;rcases q with⟨d,e,f⟩;exact if_pos h
theorem rz {s:Sy} {j:Jo} {n:Bs} (h:¬(s.ar.aH (-1)).2.1≠0) (h2:¬(Cp s.ar j.main.b).2.1≠0):
  s.aL j n=(s.bq (Cp s.ar j.main.b).2.2).go (.swap j.main.b.home j.main.b.id (Cp s.ar j.main.b).1 (.aL j n (Cp s.ar j.main.b).1)):=by
 unfold Sy.aL Cp at*;generalize s.ar.aH (-1)=q at h h2⊢;rcases q with⟨a,b,c⟩;simp only[]at h h2⊢;generalize c.make 4 [j.main.b.af,j.main.b.stat,j.main.b.home,a]=q at h2⊢;rcases q with⟨d,e,f⟩;exact if_neg (fun h3=>h3.elim h h2)
end Go.Proofs.YtcnohdmimheoaaaGreat
namespace Go.Proofs.YtcnohdmimheoaaaGreat
open E Ar Go.Proofs.Tryz
theorem xX (tb xb ba:Nat) (bz:Bool) (op:bA) (call:Int) (lt ov:Bool) (an:An) (s:Sl Pr) (hs:s.l=an.l) (q:Ix) (Mo:aO) (hO:bR 3 1 (q.ord.map aM) q.oa q.oc Mo) (hol:q.ord.length<1000000) (r:cX) (M:aO) (hA:aR ba r M) (jp:Nat×Value) (j:Jo) (ja:Option Addr) (jc:Nat) (Ml:aO) (hL:bR 3 1 (j.aU.map aM) ja jc Ml) (n:Bs):aN prog 252 [.pointer (some ⟨tb,0,none⟩),.pointer (some ⟨jp.1,0,none⟩),n.val] [ak r.rows,aC s,eS tb j.cR jp.2] [aE tb xb (⟨bz,op,call,lt,none,ov,an⟩:Th) .nilFunc s,ao xb ba q,Mo,M,dH jp.1 j jp.2 ja jc,Ml] (aX tb xb ba q ((sy (⟨bz,op,call,lt,none,ov,an⟩:Th) q r).aL j n)):=by
 refine cb fun X H₀ L₀=>?_;refine bx fun b1=>?_;refine bx fun b2=>?_;refine bx fun b3=>?_;refine al fun b4=>?_;refine ca (sS ba r _ hA _) ?_;intro r2 N2 hA2 hr2;refine mc ?_;refine At.draw 21 (.q 0 (.q 1 (.q 2 (.q 3 (.q 4 (.q 5 (.q 6 (.q 7 (.q 8 (.q 9 (.q 10 (.q 11 (.q 12 (.q 13 (.t 14 (.t 15 (.q 16 (.q 17 (.q 18 (.o 19 (.o 20 (.e)))))) 19 (.o 15 (.q 16 (.q 17 (.q 18 (.o 20 (.e))))))) 19 (.o 14 (.o 15 (.q 16 (.q 17 (.q 18 (.o 20 (.e)))))))))))))))))))))) (_::_::_::_::L₀) (d_ (k_ (k_ (k_ (d_ (k_ (d_ r_))))))) mixed (by kernel_rfl) rfl ?_;refine mc ?_;refine aQ.two ?_ ?_;refine oM rfl (aP (rows:=[j.main.b.af,j.main.b.stat,j.main.b.home,(r.p.aH (-1)).1].map aM) underlying26 t3 rfl rfl rfl rfl rfl (by simp[aM]) rfl rfl (by decide)) ?_;rintro _ _ _ ⟨b5,rfl,rfl,rfl⟩;refine aQ.two ?_ ?_;refine gf (cJ ba r2 _ hA2 4 ⟨some ⟨b5,0,none⟩,4,[j.main.b.af,j.main.b.stat,j.main.b.home,(r.p.aH (-1)).1]⟩) ?_;intro r3 N3 hA3 hr3;refine mO fun b6=>?_;refine yn rfl (aw t3 rfl rfl (i:=0) rfl rfl rfl rfl) ?_;rintro _ _ _ ⟨rfl,rfl⟩;refine mc ?_;have e3:r3.p=(Cp r.p j.main.b).2.2:=by rw[hr3,hr2]
 have e4:(r2.p.make 4 [j.main.b.af,j.main.b.stat,j.main.b.home,(r.p.aH (-1)).1]).1=(Cp r.p j.main.b).1:=by rw[hr2]
 refine sp 48 (fun h1=>?_) (fun h1=>?_);refine te ?_;exact lU (by rw[lJ (s:=sy _ q r) (.inl h1)];dsimp only[sy];rw[<-e3]<;>rfl) fun _ h=>gA tb xb ba bz op call lt ov an s hs q Mo hO hol r3 _ hA3 (de h) (de h) (de h);refine fi (fun h2=>?_) (fun h2=>?_);refine te ?_;exact lU (by rw[lJ (s:=sy _ q r) (.inr (by rw[hr2]at h2;exact h2))];dsimp only[sy];rw[<-e3]<;>rfl) fun _ h=>gA tb xb ba bz op call lt ov an s hs q Mo hO hol r3 _ hA3 (de h) (de h) (de h);refine mc ?_;refine At.freeze 0 (φ:=aW b6 _) rfl (fun _ h=>cO.2 ⟨_,_,h⟩) ?_;refine mc ?_;refine At.aJ (eZ tb (.aL j n (r2.p.make 4 [j.main.b.af,j.main.b.stat,j.main.b.home,(r.p.aH (-1)).1]).1) [jp] (dE 272 [b2,b1,b6,b3])) (fun _ h=>bK (b2,b1,b6,b3) rfl ⟨h.2.2.2.2.2.1,h.2.2.2.2.2.2.1,h.1,h.2.2.2.2.1,h.2.2.2.2.2.2.2.2.2.2.1,trivial⟩) ?_;refine ca (dR tb xb _ _ _ (j.main.b.home) (j.main.b.id) ((r2.p.make 4 [j.main.b.af,j.main.b.stat,j.main.b.home,(r.p.aH (-1)).1]).1) (.aL j n (r2.p.make 4 [j.main.b.af,j.main.b.stat,j.main.b.home,(r.p.aH (-1)).1]).1) ([jp]) _) ?_;rintro _ _ _ ⟨nv,rfl,rfl⟩;refine mc ?_;refine At.front 6 rfl ?_;refine At.front 6 rfl ?_;refine At.cH ?_;refine re ?_;exact rs (by rw[rz (s:=sy _ q r) h1 (by rw[hr2]at h2;exact h2)];dsimp only[sy];rw[<-e3,<-e4];exact⟨q,r3,nv,s,Mo,_,_,[jp],rfl,rfl,hO,hA3,⟨ja,jc,Ml,rfl,hL⟩,rfl,Ix.az q,hs⟩);refine mO fun b7=>?_;refine gf (cJ ba r2 _ hA2 4 ⟨some ⟨b5,0,none⟩,4,[j.main.b.af,j.main.b.stat,j.main.b.home,(r.p.aH (-1)).1]⟩) ?_;intro r3 N3 hA3 hr3;refine mc ?_;refine yn rfl (aw t3 rfl rfl (i:=1) rfl rfl rfl rfl) ?_;rintro _ _ _ ⟨rfl,rfl⟩;refine mc ?_;have e3:r3.p=(Cp r.p j.main.b).2.2:=by rw[hr3,hr2]
 have e4:(r2.p.make 4 [j.main.b.af,j.main.b.stat,j.main.b.home,(r.p.aH (-1)).1]).1=(Cp r.p j.main.b).1:=by rw[hr2]
 refine sp 48 (fun h1=>?_) (fun h1=>?_);refine te ?_;exact lU (by rw[lJ (s:=sy _ q r) (.inl h1)];dsimp only[sy];rw[<-e3]<;>rfl) fun _ h=>gA tb xb ba bz op call lt ov an s hs q Mo hO hol r3 _ hA3 (de h) (de h) (de h);refine fi (fun h2=>?_) (fun h2=>?_);refine te ?_;exact lU (by rw[lJ (s:=sy _ q r) (.inr (by rw[hr2]at h2;exact h2))];dsimp only[sy];rw[<-e3]<;>rfl) fun _ h=>gA tb xb ba bz op call lt ov an s hs q Mo hO hol r3 _ hA3 (de h) (de h) (de h);refine mc ?_;refine At.freeze 1 (φ:=aW b7 _) rfl (fun _ h=>cO.2 ⟨_,_,h⟩) ?_;refine mc ?_;refine At.aJ (eZ tb (.aL j n (r2.p.make 4 [j.main.b.af,j.main.b.stat,j.main.b.home,(r.p.aH (-1)).1]).1) [jp] (dE 272 [b2,b1,b7,b3])) (fun _ h=>bK (b2,b1,b7,b3) rfl ⟨h.2.2.2.2.2.1,h.2.2.2.2.2.2.1,h.1,h.2.2.2.2.1,h.2.2.2.2.2.2.2.2.2.2.1,trivial⟩) ?_;refine ca (dR tb xb _ _ _ (j.main.b.home) (j.main.b.id) ((r2.p.make 4 [j.main.b.af,j.main.b.stat,j.main.b.home,(r.p.aH (-1)).1]).1) (.aL j n (r2.p.make 4 [j.main.b.af,j.main.b.stat,j.main.b.home,(r.p.aH (-1)).1]).1) ([jp]) _) ?_;rintro _ _ _ ⟨nv,rfl,rfl⟩;refine mc ?_;refine At.front 6 rfl ?_;refine At.front 6 rfl ?_;refine At.cH ?_;refine re ?_;exact rs (by rw[rz (s:=sy _ q r) h1 (by rw[hr2]at h2;exact h2)];dsimp only[sy];rw[<-e3,<-e4];exact⟨q,r3,nv,s,Mo,_,_,[jp],rfl,rfl,hO,hA3,⟨ja,jc,Ml,rfl,hL⟩,rfl,Ix.az q,hs⟩);refine mO fun b8=>?_;refine oM rfl (aP (rows:=[j.main.b.af,j.main.b.stat,j.main.b.home,(r.p.aH (-1)).1].map aM) underlying26 t3 rfl rfl rfl rfl rfl (by simp[aM]) rfl rfl (by decide)) ?_;rintro _ _ _ ⟨b9,rfl,rfl,rfl⟩;refine gf (cJ ba r2 _ hA2 4 ⟨some ⟨b9,0,none⟩,4,[j.main.b.af,j.main.b.stat,j.main.b.home,(r.p.aH (-1)).1]⟩) ?_;intro r3 N3 hA3 hr3;refine mc ?_;refine yn rfl (aw t3 rfl rfl (i:=1) rfl rfl rfl rfl) ?_;rintro _ _ _ ⟨rfl,rfl⟩;refine mc ?_;have e3:r3.p=(Cp r.p j.main.b).2.2:=by rw[hr3,hr2]
 have e4:(r2.p.make 4 [j.main.b.af,j.main.b.stat,j.main.b.home,(r.p.aH (-1)).1]).1=(Cp r.p j.main.b).1:=by rw[hr2]
 refine sp 48 (fun h1=>?_) (fun h1=>?_);refine te ?_;exact lU (by rw[lJ (s:=sy _ q r) (.inl h1)];dsimp only[sy];rw[<-e3]<;>rfl) fun _ h=>gA tb xb ba bz op call lt ov an s hs q Mo hO hol r3 _ hA3 (de h) (de h) (de h);refine fi (fun h2=>?_) (fun h2=>?_);refine te ?_;exact lU (by rw[lJ (s:=sy _ q r) (.inr (by rw[hr2]at h2;exact h2))];dsimp only[sy];rw[<-e3]<;>rfl) fun _ h=>gA tb xb ba bz op call lt ov an s hs q Mo hO hol r3 _ hA3 (de h) (de h) (de h);refine mc ?_;refine At.freeze 1 (φ:=aW b8 _) rfl (fun _ h=>cO.2 ⟨_,_,h⟩) ?_;refine mc ?_;refine At.aJ (eZ tb (.aL j n (r2.p.make 4 [j.main.b.af,j.main.b.stat,j.main.b.home,(r.p.aH (-1)).1]).1) [jp] (dE 272 [b2,b1,b8,b3])) (fun _ h=>bK (b2,b1,b8,b3) rfl ⟨h.2.2.2.2.2.1,h.2.2.2.2.2.2.1,h.1,h.2.2.2.2.1,h.2.2.2.2.2.2.2.2.2.2.1,trivial⟩) ?_;refine ca (dR tb xb _ _ _ (j.main.b.home) (j.main.b.id) ((r2.p.make 4 [j.main.b.af,j.main.b.stat,j.main.b.home,(r.p.aH (-1)).1]).1) (.aL j n (r2.p.make 4 [j.main.b.af,j.main.b.stat,j.main.b.home,(r.p.aH (-1)).1]).1) ([jp]) _) ?_;rintro _ _ _ ⟨nv,rfl,rfl⟩;refine mc ?_;refine At.front 6 rfl ?_;refine At.front 6 rfl ?_;refine At.cH ?_;refine re ?_;exact rs (by rw[rz (s:=sy _ q r) h1 (by rw[hr2]at h2;exact h2)];dsimp only[sy];rw[<-e3,<-e4];exact⟨q,r3,nv,s,Mo,_,_,[jp],rfl,rfl,hO,hA3,⟨ja,jc,Ml,rfl,hL⟩,rfl,Ix.az q,hs⟩)
theorem Pa:ah prog 251:=ah.mk' func251 rfl rfl
theorem GK (tb xb ba:Nat) (bz:Bool) (op:bA) (call:Int) (lt ov:Bool) (an:An) (s:Sl Pr) (hs:s.l=an.l) (q:Ix) (Mo:aO) (hO:bR 3 1 (q.ord.map aM) q.oa q.oc Mo) (hol:q.ord.length<1000000) (r:cX) (M:aO) (hA:aR ba r M) (jp:Nat×Value) (j:Jo) (ja:Option Addr) (jc:Nat) (Ml:aO) (hL:bR 3 1 (j.aU.map aM) ja jc Ml) (nb p1 p2 p3:Nat) (k:Bool) (z:Int) (n:Bs):aN prog 251 [.bool k,.int .i64 z,.pointer (some ⟨nb,0,none⟩),.pointer (some ⟨p1,0,none⟩),.pointer (some ⟨p2,0,none⟩),.pointer (some ⟨p3,0,none⟩)] [ak r.rows,aC s,eY tb p1,aW p2 #[ptr jp.1],aW p3 #[jp.2],eS tb j.cR jp.2] [aE tb xb (⟨bz,op,call,lt,none,ov,an⟩:Th) .nilFunc s,ao xb ba q,Mo,M,K2 nb n,dH jp.1 j jp.2 ja jc,Ml] (aX tb xb ba q ((sy (⟨bz,op,call,lt,none,ov,an⟩:Th) q r).fv k z (.aA j n))):=by
 refine cb fun X H₀ L₀=>?_;refine cv (fun h1=>?_) (fun h1=>?_);refine ca (xX tb xb ba bz op call lt ov an s hs q Mo hO hol r M hA jp j ja jc Ml hL {n with stat:=z}) ?_;rintro _ _ _ ⟨q9,r9,nv9,sl9,No9,Na9,Nj9,l9,rfl,rfl,hE⟩;refine re ?_;exact rs (by rw[show(sy (⟨bz,op,call,lt,none,ov,an⟩:Th) q r).fv k z (.aA j n)=(sy (⟨bz,op,call,lt,none,ov,an⟩:Th) q r).aL j {n with stat:=z}from by rw[h1];rfl];exact⟨q9,r9,nv9,sl9,No9,Na9,Nj9,l9,rfl,rfl,hE⟩);refine te ?_;exact lU (by rw[show(sy (⟨bz,op,call,lt,none,ov,an⟩:Th) q r).fv k z (.aA j n)=(sy (⟨bz,op,call,lt,none,ov,an⟩:Th) q r).ret j.cR from by rw[h1];rfl]<;>rfl) fun _ h=>gA tb xb ba bz op call lt ov an s hs q Mo hO hol r _ hA (de h) (de h) (de h)
theorem Pb:ah prog 240:=ah.mk' func240 rfl rfl
theorem Jr (tb xb ba:Nat) (bz:Bool) (op:bA) (call:Int) (lt ov:Bool) (an:An) (s:Sl Pr) (hs:s.l=an.l) (q:Ix) (Mo:aO) (hO:bR 3 1 (q.ord.map aM) q.oa q.oc Mo) (hol:q.ord.length<1000000) (r:cX) (M:aO) (hA:aR ba r M) (a:Nat×Value) (j:Jb) (ja:Option Addr) (jc:Nat) (Mb:aO) (hB:bR 3 1 (j.au.map aM) ja jc Mb) (p1 p2 p3 p4 p5:Nat) (kk:Bool) (z key:Int) (f:Fo) (k:KR) (l:Ax) (gv rv:Value) (Mj:aO) (hJ:sM k l Mj):aN prog 240 [.bool kk,.int .i64 z,.pointer (some ⟨p1,0,none⟩),.pointer (some ⟨p2,0,none⟩),.pointer (some ⟨p3,0,none⟩),.pointer (some ⟨p4,0,none⟩),.pointer (some ⟨p5,0,none⟩)] [ak r.rows,aC s,eY tb p1,aW p2 f.cells,aW p3 #[gv],aW p4 #[ptr a.1],aW p5 #[rv],qg tb a.1 key (fT tb k a.1 l) gv,fT tb k a.1 l rv] [aE tb xb (⟨bz,op,call,lt,none,ov,an⟩:Th) .nilFunc s,ao xb ba q,Mo,M,jg a.1 j ja j.au.length jc,Mb,Mj] (aX tb xb ba q ((sy (⟨bz,op,call,lt,none,ov,an⟩:Th) q r).fv kk z (.leaf j key f k))):=by
 refine cb fun X H₀ L₀=>?_;refine cv (fun h1=>?_) (fun h1=>?_);refine mc ?_;refine At.front 5 rfl ?_;refine At.front 5 rfl ?_;refine At.cH ?_;refine At.front 5 rfl ?_;refine At.front 1 rfl ?_;refine At.cH ?_;refine ca (xP tb xb ba bz op call lt ov an s hs q Mo hO hol r M hA f.b (.leaf j key k) (a::l) _ _ ⟨_,_,rfl,⟨ja,jc,Mb,rfl,hB⟩,hJ⟩) ?_;rintro _ _ _ ⟨q9,r9,nv9,sl9,No9,Na9,Nj9,l9,rfl,rfl,hE⟩;refine re ?_;exact rs (by rw[show(sy (⟨bz,op,call,lt,none,ov,an⟩:Th) q r).fv kk z (.leaf j key f k)=(sy (⟨bz,op,call,lt,none,ov,an⟩:Th) q r).iI f.b (.leaf j key k)from by rw[bM h1];rfl];exact⟨q9,r9,nv9,sl9,No9,Na9,Nj9,l9,rfl,rfl,hE⟩);refine ca (Gv tb xb ba bz op call lt ov an s hs q Mo hO hol r M hA a j ja jc Mb hB key f z k l _ _ Mj hJ) ?_;rintro _ _ _ ⟨q9,r9,nv9,sl9,No9,Na9,Nj9,l9,rfl,rfl,hE⟩;refine re ?_;exact rs (by rw[show(sy (⟨bz,op,call,lt,none,ov,an⟩:Th) q r).fv kk z (.leaf j key f k)=(sy (⟨bz,op,call,lt,none,ov,an⟩:Th) q r).marks j key f z k from by rw[bV h1];rfl];exact⟨q9,r9,nv9,sl9,No9,Na9,Nj9,l9,rfl,rfl,hE⟩)
end Go.Proofs.YtcnohdmimheoaaaGreat
namespace Go.Proofs.YtcnohdmimheoaaaGreat
open E Go.Proofs.Tryz
theorem aN.flat {f:Nat} {all:List Value} {pre:List ag} {A A':E.Loc} {R:Value->List ag->E.Loc->Prop} (e:A.flatten=A'.flatten) (h:aN prog f all pre A R):aN prog f all pre A' R:=
 fun X w H L hp hst=>h X w H L hp (hst.flat (by simp[e]))
theorem zN (tb xb ba:Nat) (bz:Bool) (op:bA) (call:Int) (lt ov:Bool) (an:An) (s:Sl Pr) (hs:s.l=an.l) (q:Ix) (Mo:aO) (hO:bR 3 1 (q.ord.map aM) q.oa q.oc Mo) (hol:q.ord.length<1000000) (r:cX) (M:aO) (hA:aR ba r M) {o:KO} {l:Ax} {v:Value} {H:Hp} {Mj:aO} (k:Bool) (z:Int) (hr:(ak r.rows).holds H) (hps:(aC s).holds H) (h:(o8 tb o l v).holds H) (hJ:zx o l Mj):
  eI v [.bool k,.int .i64 z] H [aE tb xb (⟨bz,op,call,lt,none,ov,an⟩:Th) .nilFunc s,ao xb ba q,Mo,M,Mj] (aX tb xb ba q ((sy (⟨bz,op,call,lt,none,ov,an⟩:Th) q r).fv k z o)):=by
 match o,l,h,hJ with
 | .update f,[],h,hJ=>
  obtain⟨x,rfl,h1,h2,_⟩:=h
  cases hJ
  exact .of (aN.fI (GH tb xb ba bz op call lt ov an s hs q Mo hO hol r M hA x.1 x.2 k z f)) rfl O2 ⟨hr,hps,h1,h2,trivial⟩
 | .aA j n,[nb,jp],h,hJ=>
  obtain⟨x,rfl,h1,h2,h3,h4,_⟩:=h;obtain⟨M2,rfl,ja,jc,Ml,rfl,hL⟩:=hJ;exact .of (aN.flat (by simp) (GK tb xb ba bz op call lt ov an s hs q Mo hO hol r M hA jp j ja jc Ml hL nb.1 x.1 x.2.1 x.2.2 k z n)) rfl Pa ⟨hr,hps,h1,h2,h3,h4,trivial⟩
 | .leaf j key f r',a::l,h,hJ=>
  obtain⟨x,rfl,h1,h2,h3,h4,h5,h6,h7,_⟩:=h;obtain⟨M1,M2,rfl,⟨ja,jc,Mb,rfl,hB⟩,hJ2⟩:=hJ;exact .of (aN.flat (by simp) (Jr tb xb ba bz op call lt ov an s hs q Mo hO hol r M hA a j ja jc Mb hB x.1.1 x.1.2.1 x.1.2.2.1 x.1.2.2.2.1 x.1.2.2.2.2 k z key f r' l x.2.1 x.2.2 M2 hJ2)) rfl Pb ⟨hr,hps,h1,h2,h3,h4,h5,h6,h7,trivial⟩
 | .update _,_::_,h,_=>exact False.elim h
 | .aA _ _,[],h,_=>exact False.elim h
 | .aA _ _,[_],h,_=>exact False.elim h
 | .aA _ _,_::_::_::_,h,_=>exact False.elim h
 | .leaf ..,[],h,_=>exact False.elim h
end Go.Proofs.YtcnohdmimheoaaaGreat
namespace Go.Proofs.YtcnohdmimheoaaaGreat
open E Ar Go.Proofs.Tryz
theorem xY (tb xb ba:Nat) (bz:Bool) (op:bA) (call:Int) (lt ov:Bool) (an:An) (s:Sl Pr) (hs:s.l=an.l) (q:Ix) (Mo:aO) (hO:bR 3 1 (q.ord.map aM) q.oa q.oc Mo) (hol:q.ord.length<1000000) (r:cX) (M:aO) (hA:aR ba r M) (b:Bs) (o:KO) (l:Ax) (wo:Value) (Mj:aO) (hJ:zx o l Mj):aN prog 152 [.pointer (some ⟨tb,0,none⟩),b.val,wo] [ak r.rows,aC s,o8 tb o l wo] [aE tb xb (⟨bz,op,call,lt,none,ov,an⟩:Th) .nilFunc s,ao xb ba q,Mo,M,Mj] (aX tb xb ba q ((sy (⟨bz,op,call,lt,none,ov,an⟩:Th) q r).free b o)):=by
 refine cb fun X H₀ L₀=>?_;refine At.have (eN wo) (fun _ h=>I8 h.2.2.2.1) fun hf=>?_;obtain⟨f_wo,a_wo,c_wo,rfl⟩:=hf;refine bx fun b1=>?_;refine bx fun b2=>?_;refine bx fun b3=>?_;refine fi (fun h1=>?_) (fun h1=>?_);refine dv 10 [0,1,2,3,4,5,6,9,107,8] (k_ (d_ (k_ (d_ (k_ r_))))) ?_;refine oA (oe xb ba q r _ hA _) ?_;refine mc ?_;refine At.aJ (iu tb (.dm b o) l (dE 200 [b3,b2])) (fun _ h=>bK ((b3,b2),.func f_wo a_wo c_wo) rfl ⟨h.1,h.2.1,h.2.2.2.2.2.2.1,trivial⟩) ?_;refine ca (gn tb xb _ _ _ ((r.p.main b.id).state) (.dm b o) (l) _) ?_;rintro _ _ _ ⟨nv,rfl,rfl⟩;refine re ?_;exact rs (by rw[show(sy (⟨bz,op,call,lt,none,ov,an⟩:Th) q r).free b o=(sy (⟨bz,op,call,lt,none,ov,an⟩:Th) q r).go (.load (r.p.main b.id).state (.dm b o))from by unfold Sy.free;rw[if_pos h1];rfl];exact⟨q,r,nv,s,Mo,_,Mj,l,rfl,rfl,hO,hA,hJ,rfl,Ix.az q,hs⟩);refine fi (fun h2=>?_) (fun h2=>?_);refine dv 11 [0,1,2,3,4,5,6,10,107,8,9] (k_ (d_ (k_ (d_ (k_ r_))))) ?_;refine oA (qe xb ba q r _ hA _) ?_;refine mc ?_;refine At.aJ (iu tb (.cN b o) l (dE 201 [b3,b2])) (fun _ h=>bK ((b3,b2),.func f_wo a_wo c_wo) rfl ⟨h.1,h.2.1,h.2.2.2.2.2.2.1,trivial⟩) ?_;refine ca (gn tb xb _ _ _ ((r.p.main (r.p.val b.id 3)).state) (.cN b o) (l) _) ?_;rintro _ _ _ ⟨nv,rfl,rfl⟩;refine re ?_;exact rs (by rw[show(sy (⟨bz,op,call,lt,none,ov,an⟩:Th) q r).free b o=(sy (⟨bz,op,call,lt,none,ov,an⟩:Th) q r).go (.load (r.p.main (r.p.val b.id 3)).state (.cN b o))from by unfold Sy.free;rw[if_neg h1,if_pos h2];rfl];exact⟨q,r,nv,s,Mo,_,Mj,l,rfl,rfl,hO,hA,hJ,rfl,Ix.az q,hs⟩);refine fi (fun h3=>?_) (fun h3=>?_);refine dv 11 [0,1,2,3,4,5,6,10,107,8,9] (k_ (d_ (k_ (d_ (k_ r_))))) ?_;refine oA (iK xb ba q r _ hA _) ?_;refine mc ?_;refine At.aJ (iu tb (.cU b o) l (dE 202 [b3,b1,b2])) (fun _ h=>bK ((b3,b1,b2),.func f_wo a_wo c_wo) rfl ⟨h.1,h.2.2.1,h.2.1,h.2.2.2.2.2.2.1,trivial⟩) ?_;refine ca (gn tb xb _ _ _ ((r.p.store (r.p.val b.id 3)).result) (.cU b o) (l) _) ?_;rintro _ _ _ ⟨nv,rfl,rfl⟩;refine re ?_;exact rs (by rw[show(sy (⟨bz,op,call,lt,none,ov,an⟩:Th) q r).free b o=(sy (⟨bz,op,call,lt,none,ov,an⟩:Th) q r).go (.load (r.p.store (r.p.val b.id 3)).result (.cU b o))from by unfold Sy.free;rw[if_neg h1,if_neg h2,if_pos h3];rfl];exact⟨q,r,nv,s,Mo,_,Mj,l,rfl,rfl,hO,hA,hJ,rfl,Ix.az q,hs⟩);refine te ?_;exact lU (by rw[show(sy (⟨bz,op,call,lt,none,ov,an⟩:Th) q r).free b o=(sy (⟨bz,op,call,lt,none,ov,an⟩:Th) q r).fv true b.stat o from by unfold Sy.free;rw[if_neg h1,if_neg h2,if_neg h3]]<;>rfl) fun _ h=>zN tb xb ba bz op call lt ov an s hs q Mo hO hol r M hA true b.stat (de h) (de h) (de h) hJ
theorem Pc:ah prog 151:=ah.mk' func151 rfl rfl
theorem GL (tb xb ba:Nat) (bz:Bool) (op:bA) (call:Int) (lt ov:Bool) (an:An) (s:Sl Pr) (hs:s.l=an.l) (q:Ix) (Mo:aO) (hO:bR 3 1 (q.ord.map aM) q.oa q.oc Mo) (hol:q.ord.length<1000000) (r:cX) (M:aO) (hA:aR ba r M) (p1:Nat) (f:Fo):aN prog 151 [f.val,.pointer (some ⟨p1,0,none⟩)] [ak r.rows,aC s,eY tb p1] [aE tb xb (⟨bz,op,call,lt,none,ov,an⟩:Th) .nilFunc s,ao xb ba q,Mo,M] (aX tb xb ba q ((sy (⟨bz,op,call,lt,none,ov,an⟩:Th) q r).iJ f .update)):=by
 refine cb fun X H₀ L₀=>?_;refine bx fun b1=>?_;refine mc ?_;refine At.aJ (o8 tb (.update f) [] (dE 153 [p1,b1])) (fun _ h=>bK (p1,b1) rfl ⟨h.2.2.2.2.1,h.1,trivial⟩) ?_;refine At.ck ?_;refine ca (xY tb xb ba bz op call lt ov an s hs q Mo hO hol r M hA f.b (.update f) [] _ [] rfl) ?_;rintro _ _ _ ⟨q9,r9,nv9,sl9,No9,Na9,Nj9,l9,rfl,rfl,hE⟩;refine re ?_;exact rs ⟨q9,r9,nv9,sl9,No9,Na9,Nj9,l9,rfl,rfl,hE⟩
theorem Pd:ah prog 165:=ah.mk' func165 rfl rfl
section
variable (tb xb ba:Nat) (bz:Bool) (op:bA) (call:Int) (lt ov:Bool) (an:An) (s:Sl Pr) (hs:s.l=an.l) (q:Ix) (Mo:aO) (hO:bR 3 1 (q.ord.map aM) q.oa q.oc Mo) (hol:q.ord.length<1000000) (r:cX) (M:aO) (hA:aR ba r M)
include tb xb ba bz op call lt ov an s hs q Mo hO hol r M hA
theorem xZ (f:Fo) (key:Int) (g:KG) (uv gv:Value):aN prog 166 [.pointer (some ⟨tb,0,none⟩),f.val,uv,gv] [ak r.rows,aC s,sK tb key g uv,oD tb g gv] [aE tb xb (⟨bz,op,call,lt,none,ov,an⟩:Th) .nilFunc s,ao xb ba q,Mo,M] (aX tb xb ba q ((sy (⟨bz,op,call,lt,none,ov,an⟩:Th) q r).go (.load (r.p.main f.b.id).state (.cd f key g)))):=by
 refine cb fun X H₀ L₀=>?_;refine At.have (eN uv) (fun _ h=>B7 h.2.2.2.1) fun hf=>?_;obtain⟨f_uv,a_uv,c_uv,rfl⟩:=hf;refine At.have (eN gv) (fun _ h=>B6 h.2.2.2.2.1) fun hf=>?_;obtain⟨f_gv,a_gv,c_gv,rfl⟩:=hf;refine bx fun b1=>?_;refine bx fun b2=>?_;refine bx fun b3=>?_;refine bx fun b4=>?_;refine dv 11 [0,1,2,3,4,5,6,7,10,108,9] (k_ (d_ (k_ (d_ r_)))) ?_;refine oA (oe xb ba q r _ hA _) ?_;refine mc ?_;refine At.aJ (iu tb (.cd f key g) [] (dE 213 [b3,b1,b2,b4])) (fun _ h=>bK ((b3,b1,b2,b4),.func f_uv a_uv c_uv,.func f_gv a_gv c_gv) rfl ⟨h.2.1,h.2.2.2.1,h.2.2.1,h.1,h.2.2.2.2.2.2.2.1,h.2.2.2.2.2.2.2.2.1,trivial⟩) ?_;refine ca (gn tb xb _ _ _ ((r.p.main f.b.id).state) (.cd f key g) ([]) _) ?_;rintro _ _ _ ⟨nv,rfl,rfl⟩;refine mc ?_;refine At.ck ?_;refine re ?_;exact rs ⟨q,r,nv,s,Mo,_,[],[],rfl,rfl,hO,hA,rfl,rfl,Ix.az q,hs⟩
theorem GM (p1 p2 p3:Nat) (f:Fo) (key:Int) (g:KG) (uv gv:Value):aN prog 165 [f.val,.pointer (some ⟨p1,0,none⟩),.pointer (some ⟨p2,0,none⟩),.pointer (some ⟨p3,0,none⟩)] [ak r.rows,aC s,eY tb p1,aW p2 #[uv],aW p3 #[gv],sK tb key g uv,oD tb g gv] [aE tb xb (⟨bz,op,call,lt,none,ov,an⟩:Th) .nilFunc s,ao xb ba q,Mo,M] (aX tb xb ba q ((sy (⟨bz,op,call,lt,none,ov,an⟩:Th) q r).iJ f (.looks key g))):=by
 refine cb fun X H₀ L₀=>?_;refine bx fun b1=>?_;refine fi (fun h1=>?_) (fun h1=>?_);refine mc ?_;refine At.aJ (qh tb (.looks key g) [] uv) (fun _ h=>h.2.2.2.2.2.2.2.1) ?_;refine At.ck ?_;refine ca (xP tb xb ba bz op call lt ov an s hs q Mo hO hol r M hA f.b (.looks key g) [] _ [] rfl) ?_;rintro _ _ _ ⟨q9,r9,nv9,sl9,No9,Na9,Nj9,l9,rfl,rfl,hE⟩;refine re ?_;exact rs (by rw[show(sy (⟨bz,op,call,lt,none,ov,an⟩:Th) q r).iJ f (.looks key g)=(sy (⟨bz,op,call,lt,none,ov,an⟩:Th) q r).iI f.b (.looks key g)from if_pos h1];exact⟨q9,r9,nv9,sl9,No9,Na9,Nj9,l9,rfl,rfl,hE⟩);refine fi (fun h2=>?_) (fun h2=>?_);refine ca (xZ tb xb ba bz op call lt ov an s hs q Mo hO hol r M hA f key g _ _) ?_;rintro _ _ _ ⟨q9,r9,nv9,sl9,No9,Na9,Nj9,l9,rfl,rfl,hE⟩;refine re ?_;exact rs (by rw[show(sy (⟨bz,op,call,lt,none,ov,an⟩:Th) q r).iJ f (.looks key g)=(sy (⟨bz,op,call,lt,none,ov,an⟩:Th) q r).go (.load (r.p.main f.b.id).state (.cd f key g))from(if_neg h1).trans (if_pos h2)];exact⟨q9,r9,nv9,sl9,No9,Na9,Nj9,l9,rfl,rfl,hE⟩);refine te ?_;exact lU (by rw[show(sy (⟨bz,op,call,lt,none,ov,an⟩:Th) q r).iJ f (.looks key g)=(sy (⟨bz,op,call,lt,none,ov,an⟩:Th) q r).gD f g from(if_neg h1).trans (if_neg h2)]<;>rfl) fun _ h=>Gc tb xb ba bz op call lt ov an s hs q Mo hO hol r M hA f (de h) (de h) (de h)
end
theorem Pe:ah prog 237:=ah.mk' func237 rfl rfl
theorem GN (tb xb ba:Nat) (bz:Bool) (op:bA) (call:Int) (lt ov:Bool) (an:An) (s:Sl Pr) (hs:s.l=an.l) (q:Ix) (Mo:aO) (hO:bR 3 1 (q.ord.map aM) q.oa q.oc Mo) (hol:q.ord.length<1000000) (r:cX) (M:aO) (hA:aR ba r M) (a:Nat×Value) (j:Jb) (ja:Option Addr) (jc:Nat) (Mb:aO) (hB:bR 3 1 (j.au.map aM) ja jc Mb) (hbl:j.au.length<1000000) (p1 p2 p3 p4:Nat) (key:Int) (f:Fo) (k:KR) (l:Ax) (gv rv:Value) (Mj:aO) (hJ:sM k l Mj):aN prog 237 [f.val,.pointer (some ⟨p1,0,none⟩),.pointer (some ⟨p2,0,none⟩),.pointer (some ⟨p3,0,none⟩),.pointer (some ⟨p4,0,none⟩)] [ak r.rows,aC s,eY tb p1,aW p2 #[ptr a.1],aW p3 #[rv],aW p4 #[gv],qg tb a.1 key (fT tb k a.1 l) gv,fT tb k a.1 l rv] [aE tb xb (⟨bz,op,call,lt,none,ov,an⟩:Th) .nilFunc s,ao xb ba q,Mo,M,jg a.1 j ja j.au.length jc,Mb,Mj] (aX tb xb ba q ((sy (⟨bz,op,call,lt,none,ov,an⟩:Th) q r).iJ f (.leaf j key k))):=by
 refine cb fun X H₀ L₀=>?_;refine bx fun b1=>?_;refine dv 20 [0,1,2,3,4,5,6,7,8,9,10,11,15,16,17,18,19,112,13,14] (k_ (d_ (k_ (d_ (k_ (k_ (k_ r_))))))) ?_;refine mc ?_;refine aQ.eV (d:=10) rfl (fun h1=>?_) (fun h1=>?_);refine mc ?_;refine aQ.front 3 rfl ?_;refine aQ.front 2 rfl ?_;refine aQ.Ay rfl rfl rfl OZ rfl (iK xb ba q r _ hA _) (fun _ h=>⟨h.2.2.1,trivial⟩) (List.Perm.refl _) rfl r_ ?_;refine fi (fun h2=>?_) (fun h2=>?_);refine ca (wx tb xb ba bz op call lt ov an s hs q Mo hO hol r M hA a j ja jc Mb hB hbl f k l _ Mj hJ) ?_;rintro _ _ _ ⟨q9,r9,nv9,sl9,No9,Na9,Nj9,l9,rfl,rfl,hE⟩;refine re ?_;exact rs (by rw[show(sy (⟨bz,op,call,lt,none,ov,an⟩:Th) q r).iJ f (.leaf j key k)=(sy (⟨bz,op,call,lt,none,ov,an⟩:Th) q r).marked j f k from if_pos ⟨h1,h2⟩];exact⟨q9,r9,nv9,sl9,No9,Na9,Nj9,l9,rfl,rfl,hE⟩);refine dw 7 [] r_ ?_;refine mc ?_;refine At.aJ (iu tb (.leaf j key f k) (a::l) (dE 239 [p3,p1,b1,p4,p2])) (fun _ h=>bK ((p3,p1,b1,p4,p2),gv,rv) rfl ⟨h.2.2.2.2.2.2.1,h.2.2.2.2.1,h.1,h.2.2.2.2.2.2.2.1,h.2.2.2.2.2.1,h.2.2.2.2.2.2.2.2.1,h.2.2.2.2.2.2.2.2.2.1,trivial⟩) ?_;refine ca (gn tb xb _ _ _ (j.store.result) (.leaf j key f k) (a::l) _) ?_;rintro _ _ _ ⟨nv,rfl,rfl⟩;refine mc ?_;refine At.front 5 rfl ?_;refine At.front 5 rfl ?_;refine At.cH ?_;refine At.front 5 rfl ?_;refine At.front 1 rfl ?_;refine At.cH ?_;refine re ?_;exact rs (by rw[show(sy (⟨bz,op,call,lt,none,ov,an⟩:Th) q r).iJ f (.leaf j key k)=(sy (⟨bz,op,call,lt,none,ov,an⟩:Th) q r).go (.load j.store.result (.leaf j key f k))from if_neg (fun h=>h2 h.2)];exact⟨q,r,nv,s,Mo,_,_,(a::l),rfl,rfl,hO,hA,⟨_,_,rfl,⟨ja,jc,Mb,rfl,hB⟩,hJ⟩,rfl,Ix.az q,hs⟩);refine mc ?_;refine aQ.tL rfl rfl rfl rfl (k_ (d_ (k_ (d_ (k_ (k_ (k_ r_))))))) ?_;refine dw 7 [] r_ ?_;refine mc ?_;refine At.aJ (iu tb (.leaf j key f k) (a::l) (dE 239 [p3,p1,b1,p4,p2])) (fun _ h=>bK ((p3,p1,b1,p4,p2),gv,rv) rfl ⟨h.2.2.2.2.2.2.1,h.2.2.2.2.1,h.1,h.2.2.2.2.2.2.2.1,h.2.2.2.2.2.1,h.2.2.2.2.2.2.2.2.1,h.2.2.2.2.2.2.2.2.2.1,trivial⟩) ?_;refine ca (gn tb xb _ _ _ (j.store.result) (.leaf j key f k) (a::l) _) ?_;rintro _ _ _ ⟨nv,rfl,rfl⟩;refine mc ?_;refine At.front 5 rfl ?_;refine At.front 5 rfl ?_;refine At.cH ?_;refine At.front 5 rfl ?_;refine At.front 1 rfl ?_;refine At.cH ?_;refine re ?_;exact rs (by rw[show(sy (⟨bz,op,call,lt,none,ov,an⟩:Th) q r).iJ f (.leaf j key k)=(sy (⟨bz,op,call,lt,none,ov,an⟩:Th) q r).go (.load j.store.result (.leaf j key f k))from if_neg (fun h=>h1 h.1)];exact⟨q,r,nv,s,Mo,_,_,(a::l),rfl,rfl,hO,hA,⟨_,_,rfl,⟨ja,jc,Mb,rfl,hB⟩,hJ⟩,rfl,Ix.az q,hs⟩)
theorem Pf:ah prog 250:=ah.mk' func250 rfl rfl
theorem j9 (jp:Nat) (j:Jo) (tv:Value) (ja:Option Addr) (jc:Nat):aN prog 249 [.pointer (some ⟨jp,0,none⟩)] [] [dH jp j tv ja jc] (fun v Γ M'=>v= .int .i64 (Sy.Jo.other j)/\Γ=[]/\M'=[dH jp j tv ja jc]):=by
 refine cb fun X H₀ L₀=>?_;refine cv (fun h1=>?_) (fun h1=>?_);refine re ?_;exact rs ⟨congrArg (Value.int .i64) (by rw[Sy.Jo.other,if_pos h1]),rfl,rfl⟩;refine re ?_;exact rs ⟨congrArg (Value.int .i64) (by rw[Sy.Jo.other,h1];rfl),rfl,rfl⟩
theorem nK (tb xb:Nat) (th:Th) (nx:Value) (s:Sl Pr) (c:Int) (right:Bool) (j:Jo) (jp:Nat×Value) (wn:Value):aN prog 248 [.pointer (some ⟨tb,0,none⟩),.int .i64 c,.bool right,wn] [xF tb j jp wn] [aE tb xb th nx s] (fun _ Γ M'=>∃nv,Γ=[ri tb (.load c (.mf right j)) [jp] nv]/\M'=[aE tb xb th nv s]):=by
 refine cb fun X H₀ L₀=>?_;refine At.have (eN wn) (fun _ h=>I7 h.2.1) fun hf=>?_;obtain⟨f_wn,a_wn,c_wn,rfl⟩:=hf;refine bx fun b1=>?_;refine bx fun b2=>?_;refine bx fun b3=>?_;refine mc ?_;refine At.aJ (iu tb (.mf right j) [jp] (dE 271 [b1,b3,b2])) (fun _ h=>bK ((b1,b3,b2),.func f_wn a_wn c_wn) rfl ⟨h.2.2.1,h.1,h.2.1,h.2.2.2.2.1,trivial⟩) ?_;refine ca (gn tb xb _ _ _ (c) (.mf right j) ([jp]) _) ?_;rintro _ _ _ ⟨nv,rfl,rfl⟩;refine re ?_;exact rs ⟨_,rfl,rfl⟩
theorem DN (tb xb ba:Nat) (bz:Bool) (op:bA) (call:Int) (lt ov:Bool) (an:An) (s:Sl Pr) (hs:s.l=an.l) (q:Ix) (Mo:aO) (hO:bR 3 1 (q.ord.map aM) q.oa q.oc Mo) (hol:q.ord.length<1000000) (r:cX) (M:aO) (hA:aR ba r M) (jp:Nat×Value) (j:Jo) (ja:Option Addr) (jc:Nat) (Ml:aO) (hL:bR 3 1 (j.aU.map aM) ja jc Ml) (p1 p2 p3:Nat) (n:Bs):aN prog 250 [n.val,.pointer (some ⟨p1,0,none⟩),.pointer (some ⟨p2,0,none⟩),.pointer (some ⟨p3,0,none⟩)] [ak r.rows,aC s,eY tb p1,aW p2 #[ptr jp.1],aW p3 #[jp.2],eS tb j.cR jp.2] [aE tb xb (⟨bz,op,call,lt,none,ov,an⟩:Th) .nilFunc s,ao xb ba q,Mo,M,dH jp.1 j jp.2 ja jc,Ml] (aX tb xb ba q ((sy (⟨bz,op,call,lt,none,ov,an⟩:Th) q r).free n (.aA j n))):=by
 refine cb fun X H₀ L₀=>?_;refine al fun b1=>?_;refine mc ?_;refine At.aJ (o8 tb (.aA j n) [(b1,.nilFunc),jp] (dE 251 [b1,p1,p2,p3])) (fun _ h=>bK (p1,p2,p3) rfl ⟨h.2.2.2.1,h.2.2.2.2.1,h.2.2.2.2.2.1,h.2.2.2.2.2.2.1,trivial⟩) ?_;refine At.front 6 rfl ?_;refine At.front 6 rfl ?_;refine At.cH ?_;refine At.front 0 rfl ?_;refine At.front 1 rfl ?_;refine At.cH ?_;refine ca (xY tb xb ba bz op call lt ov an s hs q Mo hO hol r M hA n (.aA j n) [(b1,.nilFunc),jp] _ _ ⟨_,rfl,⟨ja,jc,Ml,rfl,hL⟩⟩) ?_;rintro _ _ _ ⟨q9,r9,nv9,sl9,No9,Na9,Nj9,l9,rfl,rfl,hE⟩;refine re ?_;exact rs ⟨q9,r9,nv9,sl9,No9,Na9,Nj9,l9,rfl,rfl,hE⟩
end Go.Proofs.YtcnohdmimheoaaaGreat
namespace Go.Proofs.YtcnohdmimheoaaaGreat
open E Go.Proofs.Tryz
def gM (A:Ar) (f:Fo) (b:Bs) (a:An):Jo:=⟨⟨b,0⟩,.zero,A.aj f.up,decide (f.cell=(A.aj f.up).right),[],0,a⟩
theorem zO {s:Sy} {f:Fo} {b:Bs} {a:An} (h:f.b.id≠b.id\/f.up=0):s.iJ f (.aA b a)=s.ret a:=if_pos h
theorem jH {s:Sy} {f:Fo} {b:Bs} {a:An} (h:¬f.b.id≠b.id) (h2:¬f.up=0):s.iJ f (.aA b a)=s.go (.load (Sy.Jo.other (gM s.ar f b a)) (.mf (gM s.ar f b a).right (gM s.ar f b a))):=
 if_neg (fun h3=>h3.elim h h2)
end Go.Proofs.YtcnohdmimheoaaaGreat
namespace Go.Proofs.YtcnohdmimheoaaaGreat
open E Ar Go.Proofs.Tryz
theorem Pg:ah prog 247:=ah.mk' func247 rfl rfl
theorem GO (tb xb ba:Nat) (bz:Bool) (op:bA) (call:Int) (lt ov:Bool) (an:An) (s:Sl Pr) (hs:s.l=an.l) (q:Ix) (Mo:aO) (hO:bR 3 1 (q.ord.map aM) q.oa q.oc Mo) (hol:q.ord.length<1000000) (r:cX) (M:aO) (hA:aR ba r M) (p1 p2 p3:Nat) (f:Fo) (b:Bs) (a:An) (av:Value):aN prog 247 [f.val,.pointer (some ⟨p1,0,none⟩),.pointer (some ⟨p2,0,none⟩),.pointer (some ⟨p3,0,none⟩)] [ak r.rows,aC s,aW p1 b.cells,aW p2 #[av],eY tb p3,eS tb a av] [aE tb xb (⟨bz,op,call,lt,none,ov,an⟩:Th) .nilFunc s,ao xb ba q,Mo,M] (aX tb xb ba q ((sy (⟨bz,op,call,lt,none,ov,an⟩:Th) q r).iJ f (.aA b a))):=by
 refine cb fun X H₀ L₀=>?_;refine At.have (eN av) (fun _ h=>sU h.2.2.2.2.2.2.1) fun hf=>?_;obtain⟨f_av,a_av,c_av,rfl⟩:=hf;refine bx fun b1=>?_;refine sp 12 (fun h1=>?_) (fun h1=>?_);refine te ?_;exact lU (by rw[zO (s:=sy _ q r) (.inl h1)]<;>rfl) fun _ h=>gA tb xb ba bz op call lt ov an s hs q Mo hO hol r _ hA (de h) (de h) (de h);refine fi (fun h2=>?_) (fun h2=>?_);refine te ?_;exact lU (by rw[zO (s:=sy _ q r) (.inr h2)]<;>rfl) fun _ h=>gA tb xb ba bz op call lt ov an s hs q Mo hO hol r _ hA (de h) (de h) (de h);refine mc ?_;refine At.draw 13 (.q 0 (.q 1 (.q 2 (.q 3 (.q 4 (.q 5 (.q 6 (.q 7 (.q 9 (.t 8 (.q 10 (.t 11 (.o 12 (.e)) 12 (.o 11 (.e)))) 12 (.o 8 (.q 10 (.o 11 (.e)))))))))))))) (_::_::L₀) (k_ (d_ (k_ (d_ r_)))) mixed (by kernel_rfl) rfl ?_;refine mc ?_;refine aQ.two ?_ ?_;refine oA (ir xb ba q r _ hA _) ?_;refine mc ?_;refine aQ.fZ 20 (.agg #[.int .i64 b.id,.int .i64 b.kind,.int .i64 b.af,.int .i64 b.stat,.int .i64 b.home,.int .i64 0]) rfl (rfl) ?_;refine aQ.fZ 27 (.agg #[.int .i64 (r.p.aj f.up).id,.int .i64 (r.p.aj f.up).key,.int .i64 (r.p.aj f.up).left,.int .i64 (r.p.aj f.up).right,.int .i64 (r.p.aj f.up).join]) rfl (rfl) ?_;refine mc ?_;refine aQ.two ?_ ?_;refine aQ.fZ 29 (.agg #[.int .i64 b.id,.int .i64 b.kind,.int .i64 b.af,.int .i64 b.stat,.int .i64 b.home,.int .i64 0,.int .i64 0,.int .i64 0,.int .i64 0,.int .i64 0,.int .i64 0,.int .i64 (r.p.aj f.up).id,.int .i64 (r.p.aj f.up).key,.int .i64 (r.p.aj f.up).left,.int .i64 (r.p.aj f.up).right,.int .i64 (r.p.aj f.up).join,.bool false,.slice none 0 0,.int .i64 0,.func f_av a_av c_av]) rfl (rfl) ?_;refine nX fun b2=>?_;refine nX fun b3=>?_;refine dw 9 [] r_ ?_;refine mc ?_;refine At.front 1 rfl ?_;refine At.piece (B:=dH b2 (gM r.p f b a) (.func f_av a_av c_av) none 0) rfl ?_;refine At.freeze 1 (φ:=aW b3 _) rfl (fun _ h=>cO.2 ⟨_,_,h⟩) ?_;refine At.aJ (xF tb (gM r.p f b a) (b2,.func f_av a_av c_av) (dE 250 [p3,b3,p2])) (fun _ h=>bK (p3,b3,p2) rfl ⟨h.2.2.2.2.2.2.2.1,h.1,h.2.2.2.2.2.2.1,h.2.2.2.2.2.2.2.2.1,trivial⟩) ?_;refine At.draw 8 (.q 0 (.q 1 (.q 3 (.q 4 (.q 5 (.q 7 (.t 2 (.o 6 (.e)) 6 (.o 2 (.e))))))))) (_::_::_::_::L₀) (d_ (k_ (k_ (k_ (k_ r_))))) mixed (by kernel_rfl) rfl ?_;refine mc ?_;refine aQ.two ?_ ?_;refine oA (j9 b2 (gM r.p f b a) (.func f_av a_av c_av) none 0) ?_;refine mc ?_;refine yI rfl (bF.eJ (aY t4 rfl (Rd.loc (i:=0) rfl rfl))) ?_;refine ca (nK tb xb _ _ _ _ _ (gM r.p f b a) (b2,.func f_av a_av c_av) _) ?_;rintro _ _ _ ⟨nv,rfl,rfl⟩;refine re ?_;exact rs (by rw[jH (s:=sy _ q r) h1 h2];exact⟨q,r,nv,s,Mo,_,_,[(b2,.func f_av a_av c_av)],rfl,rfl,hO,hA,⟨none,0,[],rfl,bR.nil _ _⟩,rfl,Ix.az q,hs⟩);refine oM rfl (bF.eJ (aY t4 rfl (Rd.loc (i:=0) rfl rfl))) ?_
 refine oA (j9 b2 (gM r.p f b a) (.func f_av a_av c_av) none 0) ?_;refine ca (nK tb xb _ _ _ _ _ (gM r.p f b a) (b2,.func f_av a_av c_av) _) ?_;rintro _ _ _ ⟨nv,rfl,rfl⟩;refine re ?_;exact rs (by rw[jH (s:=sy _ q r) h1 h2];exact⟨q,r,nv,s,Mo,_,_,[(b2,.func f_av a_av c_av)],rfl,rfl,hO,hA,⟨none,0,[],rfl,bR.nil _ _⟩,rfl,Ix.az q,hs⟩);refine nX fun b4=>?_;refine aQ.fZ 29 (.agg #[.int .i64 b.id,.int .i64 b.kind,.int .i64 b.af,.int .i64 b.stat,.int .i64 b.home,.int .i64 0,.int .i64 0,.int .i64 0,.int .i64 0,.int .i64 0,.int .i64 0,.int .i64 (r.p.aj f.up).id,.int .i64 (r.p.aj f.up).key,.int .i64 (r.p.aj f.up).left,.int .i64 (r.p.aj f.up).right,.int .i64 (r.p.aj f.up).join,.bool false,.slice none 0 0,.int .i64 0,.func f_av a_av c_av]) rfl (rfl) ?_;refine nX fun b5=>?_;refine dw 9 [] r_ ?_;refine mc ?_;refine At.piece (B:=dH b5 (gM r.p f b a) (.func f_av a_av c_av) none 0) rfl ?_;refine At.freeze 1 (φ:=aW b4 _) rfl (fun _ h=>cO.2 ⟨_,_,h⟩) ?_;refine At.aJ (xF tb (gM r.p f b a) (b5,.func f_av a_av c_av) (dE 250 [p3,b4,p2])) (fun _ h=>bK (p3,b4,p2) rfl ⟨h.2.2.2.2.2.2.2.1,h.1,h.2.2.2.2.2.2.1,h.2.2.2.2.2.2.2.2.1,trivial⟩) ?_;refine At.draw 8 (.q 0 (.q 1 (.q 3 (.q 4 (.q 5 (.q 7 (.t 2 (.o 6 (.e)) 6 (.o 2 (.e))))))))) (_::_::_::_::L₀) (d_ (k_ (k_ (k_ (k_ r_))))) mixed (by kernel_rfl) rfl ?_;refine mc ?_;refine aQ.two ?_ ?_;refine oA (j9 b5 (gM r.p f b a) (.func f_av a_av c_av) none 0) ?_;refine mc ?_;refine yI rfl (bF.eJ (aY t4 rfl (Rd.loc (i:=0) rfl rfl))) ?_;refine ca (nK tb xb _ _ _ _ _ (gM r.p f b a) (b5,.func f_av a_av c_av) _) ?_;rintro _ _ _ ⟨nv,rfl,rfl⟩;refine re ?_;exact rs (by rw[jH (s:=sy _ q r) h1 h2];exact⟨q,r,nv,s,Mo,_,_,[(b5,.func f_av a_av c_av)],rfl,rfl,hO,hA,⟨none,0,[],rfl,bR.nil _ _⟩,rfl,Ix.az q,hs⟩);refine oM rfl (bF.eJ (aY t4 rfl (Rd.loc (i:=0) rfl rfl))) ?_;refine oA (j9 b5 (gM r.p f b a) (.func f_av a_av c_av) none 0) ?_;refine ca (nK tb xb _ _ _ _ _ (gM r.p f b a) (b5,.func f_av a_av c_av) _) ?_;rintro _ _ _ ⟨nv,rfl,rfl⟩;refine re ?_;exact rs (by rw[jH (s:=sy _ q r) h1 h2];exact⟨q,r,nv,s,Mo,_,_,[(b5,.func f_av a_av c_av)],rfl,rfl,hO,hA,⟨none,0,[],rfl,bR.nil _ _⟩,rfl,Ix.az q,hs⟩);refine mO fun b6=>?_;refine oA (ir xb ba q r _ hA _) ?_;refine mc ?_;refine aQ.fZ 20 (.agg #[.int .i64 b.id,.int .i64 b.kind,.int .i64 b.af,.int .i64 b.stat,.int .i64 b.home,.int .i64 0]) rfl (rfl) ?_;refine aQ.fZ 27 (.agg #[.int .i64 (r.p.aj f.up).id,.int .i64 (r.p.aj f.up).key,.int .i64 (r.p.aj f.up).left,.int .i64 (r.p.aj f.up).right,.int .i64 (r.p.aj f.up).join]) rfl (rfl) ?_;refine mc ?_;refine aQ.fZ 29 (.agg #[.int .i64 b.id,.int .i64 b.kind,.int .i64 b.af,.int .i64 b.stat,.int .i64 b.home,.int .i64 0,.int .i64 0,.int .i64 0,.int .i64 0,.int .i64 0,.int .i64 0,.int .i64 (r.p.aj f.up).id,.int .i64 (r.p.aj f.up).key,.int .i64 (r.p.aj f.up).left,.int .i64 (r.p.aj f.up).right,.int .i64 (r.p.aj f.up).join,.bool false,.slice none 0 0,.int .i64 0,.func f_av a_av c_av]) rfl (rfl) ?_
 refine nX fun b7=>?_;refine dw 9 [] r_ ?_;refine mc ?_;refine At.piece (B:=dH b7 (gM r.p f b a) (.func f_av a_av c_av) none 0) rfl ?_;refine At.freeze 3 (φ:=aW b6 _) rfl (fun _ h=>cO.2 ⟨_,_,h⟩) ?_;refine At.aJ (xF tb (gM r.p f b a) (b7,.func f_av a_av c_av) (dE 250 [p3,b6,p2])) (fun _ h=>bK (p3,b6,p2) rfl ⟨h.2.2.2.2.2.2.2.1,h.1,h.2.2.2.2.2.2.1,h.2.2.2.2.2.2.2.2.1,trivial⟩) ?_;refine At.draw 8 (.q 0 (.q 1 (.q 3 (.q 4 (.q 5 (.q 7 (.t 2 (.o 6 (.e)) 6 (.o 2 (.e))))))))) (_::_::_::_::L₀) (d_ (k_ (k_ (k_ (k_ r_))))) mixed (by kernel_rfl) rfl ?_;refine mc ?_;refine aQ.two ?_ ?_;refine oA (j9 b7 (gM r.p f b a) (.func f_av a_av c_av) none 0) ?_;refine mc ?_;refine yI rfl (bF.eJ (aY t4 rfl (Rd.loc (i:=0) rfl rfl))) ?_;refine ca (nK tb xb _ _ _ _ _ (gM r.p f b a) (b7,.func f_av a_av c_av) _) ?_;rintro _ _ _ ⟨nv,rfl,rfl⟩;refine re ?_;exact rs (by rw[jH (s:=sy _ q r) h1 h2];exact⟨q,r,nv,s,Mo,_,_,[(b7,.func f_av a_av c_av)],rfl,rfl,hO,hA,⟨none,0,[],rfl,bR.nil _ _⟩,rfl,Ix.az q,hs⟩);refine oM rfl (bF.eJ (aY t4 rfl (Rd.loc (i:=0) rfl rfl))) ?_;refine oA (j9 b7 (gM r.p f b a) (.func f_av a_av c_av) none 0) ?_;refine ca (nK tb xb _ _ _ _ _ (gM r.p f b a) (b7,.func f_av a_av c_av) _) ?_;rintro _ _ _ ⟨nv,rfl,rfl⟩;refine re ?_;exact rs (by rw[jH (s:=sy _ q r) h1 h2];exact⟨q,r,nv,s,Mo,_,_,[(b7,.func f_av a_av c_av)],rfl,rfl,hO,hA,⟨none,0,[],rfl,bR.nil _ _⟩,rfl,Ix.az q,hs⟩)
end Go.Proofs.YtcnohdmimheoaaaGreat
