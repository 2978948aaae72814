/- Texts of this seat, joined: part 5. -/
import Derived.Test.YtcnohdmimheoaaaGreatQ4
set_option linter.all false
set_option maxRecDepth 4000
namespace Go.Proofs.YtcnohdmimheoaaaGreat
open E Ar Go.Proofs.Tryz
section
variable {A B:Ar} {K:eE} {g:Gh} {root:Int}
theorem Af {u k lo hi x:Int} (q:g.iv x=none):g.kb u k lo hi x=none:=by unfold Gh.kb;rw[q]
theorem fY {u k lo hi x l v:Int} (e:g.cG u x) (q:g.iv x=some (l,v)):g.kb u k lo hi x=if v=k then some (l,hi)else if l=k then some (lo,v)else some (l,v):=by
 unfold Gh.kb;rw[q];exact if_pos e
theorem iz {u k lo hi x:Int} (e:¬g.cG u x):g.kb u k lo hi x=g.iv x:=by
 unfold Gh.kb
 cases q:g.iv x with
 |none=>rfl
 |some z=>obtain⟨l,v⟩:=z;exact if_neg e
theorem CG {u k lo hi x:Int} {z:Int×Int} (q:g.kb u k lo hi x=some z):g.dn x:=by
 cases e:g.iv x with
 |none=>rw[Af e]at q;cases q
 |some z=>exact⟨z.1,z.2,e⟩
theorem MR {u k lo hi x l v:Int} (hv:l≠k) (q:g.iv x=some (l,v)):∃v',g.kb u k lo hi x=some (l,v'):=by
 by_cases e:g.cG u x;rw[fY e q];split;exact⟨_,rfl⟩;exact⟨_,rfl⟩;rw[iz e];exact⟨_,q⟩
theorem MS {u k lo hi x l v:Int} (hv:v≠k) (q:g.iv x=some (l,v)):∃l',g.kb u k lo hi x=some (l',v):=by
 by_cases e:g.cG u x;rw[fY e q,if_neg hv];split<;>exact⟨_,rfl⟩;rw[iz e];exact⟨_,q⟩
theorem Ar.Inv.e8 (h:Inv A K g root) {m p lo hi:Int} (hm:g.aa m=p) (hp:p≠0) (u:ka A B (A.val p 3) (A.val p 5)) (t:c9 B K root) (e:Ext A B) (hu:A.holds (A.val p 3)=A.val p 2) (hn:A.holds (A.val (A.val p 1) 2)≠A.val p 1) (hi':g.iv (A.val p 3)=some (lo,hi)):Inv B K (g.join (A.val p 2) (g.key (A.val p 2)) lo hi) root:=by
 subst hm;obtain⟨q,ph⟩:=h.aa m hp;rcases ph with⟨sm,w⟩|d;have hnc:A.holds (A.val (A.val (g.aa m) 1) 2)=A.val (g.aa m) 0:=w.nc.2.resolve_left hn;have tr:=h.sk.tr;have hk:∀x,B.kind x=A.kind x:=u.kind;have hv:∀x i,B.val x i=A.val x i:=u.val;have hbp:∀b,B.bp b=A.bp b:=fun b=>by unfold Ar.bp;rw[u.ps,hv]
 have hc:B.holds (A.val (g.aa m) 3)=A.val (g.aa m) 5:=by rw[u.holds,if_pos rfl]
 have o:∀x,x≠A.val (g.aa m) 3->B.holds x=A.holds x:=fun x hx=>by rw[u.holds,if_neg hx]
 have tcc:A.TC (A.val (g.aa m) 3):=h.sk.cell _ (tr.gH _ w.pc.1);have nl:∀r,A.kind r=2->r-1≠A.val (g.aa m) 3:=fun r hr z=>by have:=tcc.2;rw[<-z,show r-1+1=r by omega,hr]at this;cases this
 have hst:∀m',A.kind m'=4->B.st m'=A.st m':=fun m' hm=>o _ fun z=>by have:=tcc.2;rw[<-z,show m'-1+1=m' by omega,hm]at this;cases this
 have kU:=q.u;have urt:=w.live.1;have key:=(h.sk.rt _ urt).2.1;have wlw:A.val (g.aa m) 3=root\/∃w,g.rt w/\(A.val (g.aa m) 3=w-5\/A.val (g.aa m) 3=w-3)/\A.holds (w-1)=m:=w.lw.imp (fun z=>z.2) fun⟨x,x1,x2,x3,x4⟩=>⟨x,x1,x3,by rw[<-x2];exact x4⟩;have wst:=w.st;rw[key]at wst
 have wX:(A.val (g.aa m) 5=A.val (g.aa m) 0/\A.val (A.val (g.aa m) 1) 2=A.oc m (g.aa m)/\A.val (A.val (g.aa m) 0) 2=A.val (g.aa m) 3)\/(A.kind (A.val (g.aa m) 5)=2/\A.val (g.aa m) 2<A.val (g.aa m) 5/\A.val (A.val (g.aa m) 0) 2=A.val (A.val (g.aa m) 1) 2/\A.val (A.val (g.aa m) 1) 2≠A.oc m (g.aa m)/\A.holds (A.oc m (g.aa m))=A.val (g.aa m) 5):=
  q.rp.imp id fun⟨a,b,c,d⟩=>⟨a,b,c,d,w.oc a⟩
 have side:(A.val m 2=A.val (g.aa m) 2-5/\A.oc m (g.aa m)=A.val (g.aa m) 2-3)\/(A.val m 2=A.val (g.aa m) 2-3/\A.oc m (g.aa m)=A.val (g.aa m) 2-5):=by
  unfold Ar.oc;rcases q.side with x|x;exact .inl ⟨x,by omega⟩;exact .inr ⟨x,by omega⟩
 have wl:=w.live;have wpc:=w.pc;have whm:=w.hm;have wlu:=w.lu;have wnc:=w.nc.1;have qk:=q.k;have qn:=q.n;have qj:=q.jd;have qlt:=q.lt;have qnm:=q.nm;have qbp:=q.bp
 have vJ:A.gI (A.val (g.aa m) 0)=A.val (g.aa m) 1:=by
  unfold Ar.gI;rw[q.jd.2,sm,if_pos ⟨q.jd.1,q.k.2,rfl,w.pc.2⟩]
 have vm:A.gI m=m:=sO (by rw[q.k.1];decide);generalize hJ:A.val (g.aa m) 0=J at*;generalize hN:A.val (g.aa m) 1=N at*;generalize hU:A.val (g.aa m) 2=U at*;generalize hP:A.val (g.aa m) 3=P at*;generalize hX:A.val (g.aa m) 5=X at*;generalize hC:A.val N 2=C at*;generalize hM:A.val m 2=M at*;generalize hO:A.oc m (g.aa m)=O at*;obtain⟨k,hkk⟩:∃k,g.key U=k:=⟨_,rfl⟩;rw[hkk]at wst;have RP:A.R P=some U:=Ar.fV.2 ⟨by rw[wpc.2];exact kU,wpc.2⟩;have RM:A.R M=none:=Ar.du.2 (by rw[whm,qk.1];decide);have RC:A.R C=none:=Ar.du.2 (by rw[hnc,qj.1];decide);obtain⟨k1,k2,_⟩:=tr.rk P U lo hi hi' RP;obtain⟨la,lb,ia,ib⟩:=tr.kq P U lo hi wpc.1 hi' RP;rw[hkk]at k1 k2 ia ib;have hbd:=tr.pt _ _ _ hi'
 have hR:B.R=jr A.R P O:=by
  funext x
  by_cases z:x=P;subst z;rw[show jr A.R x O x=A.R O by simp[jr]];rcases wX with⟨x1,x2,x3⟩| ⟨x1,x2,x3,x4,x5⟩;rw[<-x2,RC];exact Ar.du.2 (by rw[hc,x1,hk,qj.1];decide);rw[Ar.fV.2 ⟨by rw[x5];exact x1,x5⟩];exact Ar.fV.2 ⟨by rw[hc,hk];exact x1,hc⟩;rw[show jr A.R P O x=A.R x by simp[jr,z]];unfold Ar.R;rw[o x z,hk]
 have T:=tr.join wpc.1 RP hi' side RM;rw[hkk]at T⊢
 have lvp:g.cG U P:=⟨wpc.1,fun z=>by
  rcases wlw with y| ⟨y,y1,y2,y3⟩;have:=(tr.sep U urt).1;omega;have:=tr.ord y U y1 (by rcases y2 with y2|y2<;>(rw[<-y2];simp[RP]));rcases y2 with y2|y2;omega;exact(tr.sep U urt).2 y y1 (by omega),fun z=>by
  rcases wlw with y| ⟨y,y1,y2,y3⟩;have:=(tr.sep U urt).1;omega;have:=tr.ord y U y1 (by rcases y2 with y2|y2<;>(rw[<-y2];simp[RP]));rcases y2 with y2|y2;exact(tr.sep y y1).2 U urt (by omega);omega⟩
 have lM:g.live M:=by rcases side with⟨a,_⟩| ⟨a,_⟩<;>rw[a]<;>assumption
 have lO:g.live O:=by rcases side with⟨_,a⟩| ⟨_,a⟩<;>rw[a]<;>assumption
 have dM:¬g.cG U M:=fun z=>by rcases side with⟨a,_⟩| ⟨a,_⟩;exact z.2.1 a;exact z.2.2 a
 have dO:¬g.cG U O:=fun z=>by rcases side with⟨_,a⟩| ⟨_,a⟩;exact z.2.2 a;exact z.2.1 a
 have dead:∀x,g.live x->¬g.cG U x->x=M\/x=O:=fun x hx hn=>by
  by_cases e5:x=U-5;rcases side with⟨a,b⟩| ⟨a,b⟩;exact .inl (e5.trans a.symm);exact .inr (e5.trans b.symm);by_cases e3:x=U-3;rcases side with⟨a,b⟩| ⟨a,b⟩;exact .inr (e3.trans b.symm);exact .inl (e3.trans a.symm);exact absurd ⟨hx,e5,e3⟩ hn
 have CP:C≠P:=fun z=>by rw[z,wpc.2]at hnc;rw[hnc]at kU;rw[kU]at qj;cases qj.1
 obtain⟨l1,v1,iC,sC⟩:=wst;have bN:dr A N:=bL qn.1 (by decide) (by decide);have bJ:dr A J:=bL qj.1 (by decide) (by decide);have cC:=h.cont C l1 v1 wnc RC iC;rw[hnc,vJ]at cC
 have XU:X≠U:=fun z=>by
  rcases wX with⟨a,_⟩| ⟨_,a,_⟩;have:=qlt.2;omega;omega
 have XlU:U<X:=by
  rcases wX with⟨a,_⟩| ⟨_,a,_⟩;rw[a];exact qlt.2;exact a
 have low:M=U-5->l1=k/\(∀x∈A.bp J,lo<=x.k/\x.k<v1)/\∀z,lo<=z->z<v1->lk (A.bp J) z=lk g.cur z:=fun hl=>by
  rw[if_pos hl]at sC qbp;have cM:=h.cont M lo k lM RM (by rw[hl];exact ia);rw[whm,vm]at cM;have iv:=tr.pt _ _ _ iC;have g1:=cC.1;have g2:=cM.1;rw[sC]at g1 iv;refine⟨sC,fun x hx=>?_,fun z z1 z2=>?_⟩;rw[qbp]at hx;rcases List.mem_append.1 hx with hx|hx;have:=g2 x hx;omega;have:=g1 x hx;omega;rw[qbp];by_cases zk:z<k;rw[rH (fun x hx=>(g1 x hx).1) zk];exact cM.2 z z1 zk;rw[oy (fun x hx=>(g2 x hx).2) (by omega)];exact cC.2 z (by omega) z2
 have high:M=U-3->v1=k/\(∀x∈A.bp J,l1<=x.k/\x.k<hi)/\∀z,l1<=z->z<hi->lk (A.bp J) z=lk g.cur z:=fun hl=>by
  rw[if_neg (by omega)]at sC qbp;have cM:=h.cont M k hi lM RM (by rw[hl];exact ib);rw[whm,vm]at cM;have iv:=tr.pt _ _ _ iC;have g1:=cC.1;have g2:=cM.1;rw[sC]at g1 iv;refine⟨sC,fun x hx=>?_,fun z z1 z2=>?_⟩;rw[qbp]at hx;rcases List.mem_append.1 hx with hx|hx;have:=g1 x hx;omega;have:=g2 x hx;omega;rw[qbp];by_cases zk:z<k;rw[rH (fun x hx=>(g2 x hx).1) zk];exact cC.2 z z1 (by omega);rw[oy (fun x hx=>(g1 x hx).2) (by omega)];exact cM.2 z (by omega) z2
 have other:∀x l v,g.cG U x->A.R x=none->x≠C->g.iv x=some (l,v)->l≠k/\v≠k:=fun x l v hx hr hxC hxi=>by
  have i1:=tr.pt _ _ _ hxi;have i2:=tr.pt _ _ _ iC;rcases side with⟨a,_⟩| ⟨a,_⟩;have l1k:=(low a).1;refine⟨fun z=>hxC (tr.rq x C l v l1 v1 k hx.1 wnc hr RC hxi iC (by omega) (by omega) (by omega) (by omega)),fun z=>?_⟩;exact dM (tr.rq x M l v lo k (k-1) hx.1 lM hr RM hxi (by rw[a];exact ia) (by omega) (by omega) (by omega) (by omega)▸hx);have v1k:=(high a).1;refine⟨fun z=>?_,fun z=>hxC (tr.rq x C l v l1 v1 (k-1) hx.1 wnc hr RC hxi iC (by omega) (by omega) (by omega) (by omega))⟩;exact dM (tr.rq x M l v k hi k hx.1 lM hr RM hxi (by rw[a];exact ib) (by omega) (by omega) (by omega) (by omega)▸hx)
 have uq:∀m',g.aa m'≠0->Wp A g root m' (g.aa m')->A.val (g.aa m') 2=U->m'=m:=fun m' a b c=>by
  have:=b.lu;rw[c,wlu]at this;exact this.symm
 have hvis:∀b,dr A b->b≠J->B.gI b=A.gI b:=fun b hb hbJ=>by
  unfold Ar.gI;rw[hk,hv];by_cases k5:A.kind b=5;have k4:=(h.bg.cg b hb.ne).ai k5;rw[hst _ k4];simp only[hk,hv];by_cases k8:A.kind (A.st (A.val b 3))=8;by_cases jb:A.val (A.st (A.val b 3)) 0=b;by_cases pP:A.val (A.st (A.val b 3)) 3=P;rcases h.main _ k4 with⟨_,z⟩| ⟨z1,z2⟩;exact absurd k8 (fa (by omega) (by decide));rcases z2 with z2|z2;rw[z2]at jb pP⊢;obtain⟨q',ph'⟩:=h.aa _ z1;rcases ph' with⟨_,w'⟩|d';have:=uq _ z1 w' (by have:=w'.pc.2;rw[pP,wpc.2]at this;exact this.symm);rw[this,hJ]at jb;exact absurd jb.symm hbJ;have:=d'.pc;rw[pP,wpc.2]at this;rw[if_neg (fun z=>by have:=z.2.2.2;rw[pP,hc]at this;omega),if_neg (fun z=>by have:=z.2.2.2;rw[pP,wpc.2]at this;omega)];exact absurd k8 (fa (by omega) (by decide));rw[o _ pP];rw[if_neg (fun z=>jb z.2.2.1),if_neg (fun z=>jb z.2.2.1)];rw[if_neg (fun z=>k8 z.2.1),if_neg (fun z=>k8 z.2.1)];rw[if_neg (fun z=>k5 z.1),if_neg (fun z=>k5 z.1)]
 have visJ:B.gI J=J:=by
  unfold Ar.gI;rw[if_neg];simp only[hk,hv];rw[qj.2,hst m qk.1,sm,hP,hU,hc];exact fun z=>XU z.2.2.2
 have pz:∀x,A.holds x<=B.holds x:=fun x=>by
  by_cases z:x=P;subst z;rw[hc,wpc.2];omega;rw[o x z];omega
 have lv:∀r,g.rt r->r≠U->g.live (r-5)->g.cG U (r-5):=fun r hr hn hl=>⟨hl,by omega,(tr.sep r hr).2 U urt⟩;have leafB:∀x,g.live x->A.R x=none->dr A (A.holds x):=fun x hx hr=>((h.bg.mq x).tc (h.sk.cell x (tr.gH x hx))).resolve_right (Ar.du.1 hr);have conv:∀x,x≠P->B.R x=none->A.R x=none:=fun x z hr=>by rw[hR]at hr;simpa[jr,z]using hr
 have whereJ:∀x,g.live x->A.R x=none->A.holds x=J->x=C:=fun x hx hr hxJ=>by
  rcases h.home x hx hr with z| ⟨m',a,b,c,d,f,f2⟩;rw[hxJ]at z;rcases wX with⟨_,_,x3⟩| ⟨_,_,x3,_⟩;have:x=P:=z.symm.trans x3;subst this;rw[RP]at hr;cases hr;exact z.symm.trans x3;have:=(h.aa m' a).1.jd.2;rw[<-f,hxJ,qj.2]at this;subst this;rw[hN,hC]at f2;exact f2
 refine⟨t,⟨by rw[hR];exact T,fun x ⟨a,b,hx⟩=>e.TC (h.sk.cell x (CG hx)),fun r hr=>?_,fun r hr=>h.sk.has r (List.mem_of_mem_erase hr)⟩,fun x hx hr=>?_,fun x l v hx hr hxi=>?_,fun x hx hn=>?_,fun r hr hn=>?_,fun m' hm'=>?_,fun m' z=>?_⟩;simp only[hk,hv];exact h.sk.rt r hr;simp only[hv];by_cases z:x=P;subst z;rw[hc];rcases wX with⟨x1,x2,x3⟩| ⟨x1,_⟩;left;rw[x1];exact x3;exact absurd (Ar.du.1 hr) (by rw[hc,hk];simpa using x1);rw[o x z];have hr':=conv x z hr;by_cases xC:x=C;subst xC;rw[hnc];rcases wX with⟨x1,x2,x3⟩| ⟨x1,_,x3,_⟩;exact absurd hx (x2▸dO);exact .inl x3;refine(h.home x hx.1 hr').imp id fun⟨m',a,b,c,d,f,f2⟩=>⟨m',a,(hst m' (h.aa m' a).1.k.1).trans b,?_,d,f,f2⟩;have w':Wp A g root m' (g.aa m'):=(h.aa m' a).2.elim (fun y=>y.2) fun y=>absurd c y.dead.2
 exact lv _ w'.live.1 (fun y=>by
  have:=uq m' a w' y;subst this;rw[hN,hC]at f2;exact xC f2) c
 change g.kb U k lo hi x=some (l,v)at hxi
 show(∀y∈B.bp (B.gI (B.holds x)),l<=y.k/\y.k<v)/\∀z,l<=z->z<v->lk (B.bp (B.gI (B.holds x))) z=lk g.cur z;rw[hbp];have hxl:g.cG U x:=hx;by_cases z:x=P;subst z;rw[fY hxl hi',if_neg (by omega),if_neg (by omega)]at hxi
 cases hxi
 rw[hc];rcases wX with⟨x1,x2,x3⟩| ⟨x1,_⟩;rw[x1,visJ];rcases side with⟨a,b⟩| ⟨a,b⟩;obtain⟨_,c1,c2⟩:=low a;rw[x2,b,ib]at iC;cases iC;exact⟨c1,c2⟩;obtain⟨_,c1,c2⟩:=high a;rw[x2,b,ia]at iC;cases iC;exact⟨c1,c2⟩;exact absurd (Ar.du.1 hr) (by rw[hc,hk];simpa using x1);have hr':=conv x z hr;rw[o x z];by_cases xC:x=C;subst xC;rw[hnc,visJ];have i2:=tr.pt _ _ _ iC;rcases side with⟨a,b⟩| ⟨a,b⟩;obtain⟨c0,c1,c2⟩:=low a;rw[fY hxl iC,if_neg (by omega),if_pos c0]at hxi
 cases hxi;exact⟨c1,c2⟩
 obtain⟨c0,c1,c2⟩:=high a;rw[fY hxl iC,if_pos c0]at hxi
 cases hxi;exact⟨c1,c2⟩
 have bx:=leafB x hxl.1 hr';rw[hvis _ bx fun y=>xC (whereJ x hxl.1 hr' y)];obtain⟨l0,v0,i0⟩:=tr.gH x hxl.1;obtain⟨o1,o2⟩:=other x l0 v0 hxl hr' xC i0;rw[fY hxl i0,if_neg o2,if_neg o1]at hxi
 cases hxi
 exact h.cont x l v hxl.1 hr' i0;have hx':g.dn x:=by obtain⟨a,b,y⟩:=hx;exact CG y
 have hn':¬g.cG U x:=hn;rw[o x fun y=>hn' (y▸lvp)];simp only[hk,hv];by_cases xl:g.live x;rcases dead x xl hn' with rfl|rfl;left;rw[whm];exact⟨qk.1,hp,hM⟩;right;rcases wX with⟨x1,x2,x3⟩| ⟨x1,_,_,_,x5⟩;right;rw[<-x2,hnc];exact⟨qj.1,by rw[x3];exact fun y=>CP y.symm,by
 rw[x3];have jp:g.kb U k lo hi P=some (lo,hi):=by rw[fY lvp hi',if_neg (by omega),if_neg (by omega)]
 rw[x2];rcases side with⟨_,b⟩| ⟨_,b⟩;exact⟨k,hi,lo,hi,(iz hn').trans (by rw[b];exact ib),jp,by omega,by omega⟩;exact⟨lo,k,lo,hi,(iz hn').trans (by rw[b];exact ia),jp,by omega,by omega⟩⟩
 left;rw[x5];exact x1
 exact(h.dead x hx' xl).imp id (Or.imp id fun⟨y1,y2,y3⟩=>⟨y1,y2,by
  obtain⟨a,b,a',b',y4,y5,y6,y7⟩:=y3;have jd:g.kb U k lo hi x=some (a,b):=(iz hn').trans y4
  have jm:∃l'' v'',g.kb U k lo hi (A.val (A.holds x) 2)=some (l'',v'')/\l''<=a'/\b'<=v'':=by
   by_cases e:g.cG U (A.val (A.holds x) 2);rw[fY e y5];split;exact⟨_,_,rfl,by omega,by omega⟩;split;exact⟨_,_,rfl,by omega,by omega⟩;exact⟨_,_,rfl,by omega,by omega⟩;rw[iz e];exact⟨_,_,y5,by omega,by omega⟩
  obtain⟨l'',v'',j1,j2,j3⟩:=jm;exact⟨a,b,l'',v'',jd,j1,by omega,by omega⟩⟩)
 rw[o _ (nl r (h.sk.rt r hr).1)];simp only[hk,hv];by_cases rU:r=U;subst rU;rw[wlu];exact⟨qk.1,hp,hU⟩;exact h.lock r hr fun y=>hn (lv r hr rU y);rw[hk]at hm';rw[hst m' hm'];exact h.main m' hm';have z':g.aa m'≠0:=z;obtain⟨p',ph'⟩:=h.aa m' z';refine⟨p'.ext h.bg e,?_⟩;show(B.st m'=g.aa m'/\Wp B (g.join U k lo hi) root m' (g.aa m'))\/Dp B (g.join U k lo hi) m' (g.aa m');rw[hst m' p'.k.1];by_cases mm:m'=m;rw[mm];refine .inr ⟨?_,?_,?_,fun _=>?_⟩;rw[hv,hU];exact⟨urt,fun y=>y.2.1 rfl⟩;rw[hv,hv,hU,hP,hc];exact XlU;simp only[hv];rw[hN,hC,o C CP,hnc];exact qlt.1;simp only[hv];rw[hJ];rcases wX with⟨x1,x2,x3⟩| ⟨x1,_,x3,x4,_⟩;rw[x3];exact⟨lvp,hc.trans x1⟩;rw[x3];exact⟨Classical.byContradiction fun y=>(dead C wnc y).elim qnm x4,(o C CP).trans hnc⟩;have ho:B.oc m' (g.aa m')=A.oc m' (g.aa m'):=by unfold Ar.oc;rw[hv,hv]
 have keepL:∀x b,g.live x->A.holds x=b->A.kind b=5->A.val b 3=m'->g.cG U x:=fun x b hx hb b5 bm=>Classical.byContradiction fun y=>by
  rcases dead x hx y with z|z;rw[z,whm]at hb;rw[<-hb]at b5;have:=qk.1;omega;rcases wX with⟨_,x2,_⟩| ⟨x1,_,_,_,x5⟩;rw[z,<-x2,hnc]at hb;rw[<-hb,qj.2]at bm;exact mm bm.symm;rw[z,x5]at hb;rw[<-hb]at b5;omega
 have notP:∀x b,A.holds x=b->A.kind b≠2->x≠P:=fun x b hb hb2 y=>by
  rw[y,wpc.2]at hb;rw[<-hb]at hb2;exact hb2 kU
 rcases ph' with⟨a,w'⟩|d;have un:A.val (g.aa m') 2≠U:=fun y=>mm (uq m' z' w' y);refine .inl ⟨a,?_,?_,?_,?_,?_,?_,?_,?_,?_⟩;rw[hv];exact⟨w'.live.1,lv _ w'.live.1 un w'.live.2⟩;rw[hv,hv]
 have pP:A.val (g.aa m') 3≠P:=fun y=>by
  have:=w'.pc.2;rw[y,wpc.2]at this;exact un this.symm
 rw[o _ pP]
 have hne:∀w0,g.rt w0->A.val (g.aa m') 4=w0-1->A.holds (A.val (g.aa m') 4)=m'->w0≠U:=fun w0 _ y2 y4 y=>by
  rw[y2,y,wlu]at y4;exact mm y4.symm
 refine⟨⟨w'.pc.1,fun y=>?_,fun y=>?_⟩,w'.pc.2⟩;rcases w'.lw with⟨_,b⟩| ⟨w0,y1,y2,y3,y4⟩;have:=(tr.sep U urt).1;omega;rcases y3 with y3|y3;exact hne w0 y1 y2 y4 (by omega);exact(tr.sep U urt).2 w0 y1 (by omega);rcases w'.lw with⟨_,b⟩| ⟨w0,y1,y2,y3,y4⟩;have:=(tr.sep U urt).1;omega;rcases y3 with y3|y3;exact(tr.sep w0 y1).2 U urt (by omega);exact hne w0 y1 y2 y4 (by omega);rw[hv,o _ (notP _ _ w'.hm (by rw[p'.k.1];decide))];exact w'.hm;rw[hv,o _ (nl _ p'.u)];exact w'.lu;rw[hv,hv];exact w'.lw.imp id fun⟨y,y1,y2,y3,y4⟩=>⟨y,y1,y2,y3,by rw[y2,o _ (nl y (h.sk.rt y y1).1),<-y2];exact y4⟩;rw[hv,hv,hv];rcases w'.nc.2 with y|y;rw[o _ (notP _ _ y (by rw[p'.n.1];decide))];exact⟨keepL _ _ w'.nc.1 y p'.n.1 p'.n.2,w'.nc.2⟩;rw[o _ (notP _ _ y (by rw[p'.jd.1];decide))];exact⟨keepL _ _ w'.nc.1 y p'.jd.1 p'.jd.2,w'.nc.2⟩;rw[hv,ho,hk];intro kr
 have oP:A.oc m' (g.aa m')≠P:=fun y=>by
  have ur:=w'.live.1
  have sd:P=A.val (g.aa m') 2-5\/P=A.val (g.aa m') 2-3:=by
   rw[<-y];unfold Ar.oc;rcases p'.side with x|x<;>rw[x];right;omega;left;omega
  rcases wlw with z1| ⟨w0,z1,z2,z3⟩;have:=(tr.sep _ ur).1;omega
  have:w0=A.val (g.aa m') 2:=by
   rcases sd with sd|sd;rcases z2 with z2|z2;omega;exact absurd (show A.val (g.aa m') 2-5=w0-3 by omega) ((tr.sep _ ur).2 w0 z1);rcases z2 with z2|z2;exact absurd (show w0-5=A.val (g.aa m') 2-3 by omega) ((tr.sep w0 z1).2 _ ur);omega
  rw[this,w'.lu]at z3;exact mm z3
 rw[o _ oP];exact w'.oc kr;simp only[hv];exact .inl w'.bl;simp only[hv];obtain⟨l0,v0,y1,y2⟩:=w'.st
 have kn:A.val (A.val (g.aa m') 2) 0≠k:=fun y=>by
  rw[(h.sk.rt _ w'.live.1).2.1]at y;obtain⟨c0,c1,c2⟩:=tr.cellOf w'.live.1 w'.live.2;have:=tr.qx c0 P _ U c1 wpc.1 c2 RP (y.trans hkk.symm);rw[this,RP]at c2;cases c2;exact un rfl
 by_cases ss:A.val m' 2=A.val (g.aa m') 2-5;rw[if_pos ss]at y2;obtain⟨v',y3⟩:=MR (u:=U) (k:=k) (lo:=lo) (hi:=hi) (by rw[y2];exact kn) y1;exact⟨l0,v',y3,by rw[if_pos ss];exact y2⟩;rw[if_neg ss]at y2;obtain⟨l',y3⟩:=MS (u:=U) (k:=k) (lo:=lo) (hi:=hi) (by rw[y2];exact kn) y1;exact⟨l',v0,y3,by rw[if_neg ss];exact y2⟩;refine .inr ⟨?_,?_,?_,?_⟩;rw[hv];exact⟨d.dead.1,fun y=>d.dead.2 y.1⟩;rw[hv,hv];have:=pz (A.val (g.aa m') 3);have:=d.pc;omega;rw[hv,hv];have:=pz (A.val (A.val (g.aa m') 1) 2);have:=d.nc;omega;rw[hst m' p'.k.1,hv,hv];intro y;obtain⟨y1,y2⟩:=d.jd y;rw[o _ (notP _ _ y2 (by rw[p'.jd.1];decide))];exact⟨keepL _ _ y1 y2 p'.jd.1 p'.jd.2,y2⟩;have:=d.pc;omega
end
section
variable {A B:Ar} {K:eE} {g:Gh} {root:Int}
def Gh.shown (g:Gh) (m p:Int):Gh:={g with aa:=fun x=>if x=m then p else g.aa x}
theorem fz.shown {R:Int->Option Int} (h:fz R g root) (m p:Int):fz R (g.shown m p) root:=
 ⟨h.rt,h.pt,h.gH,h.oE,h.rk,h.kq,h.j8,h.ord,h.rm,h.sep,h.par,h.up,h.rq,h.str,h.Ck,h.qx,h.both,h.j7,h.nd,h.Gy,h.Cl,h.Eg,h.Eh⟩
theorem Ar.Wp.shown {m p x y:Int} (h:Wp A g root x y):Wp A (g.shown m p) root x y:=⟨h.live,h.pc,h.hm,h.lu,h.lw,h.nc,h.oc,h.bl,h.st⟩
theorem Ar.Wp.gF {c v m p:Int} (u:ka A B c v) (t:c9 A K root) (sk:lN A g root) (h:Wp A g root m p) (e:Ext A B) (q:kS A m p) (hc:A.SC c):Wp B g root m p:=by
 have hk:∀x,B.kind x=A.kind x:=u.kind;have hv:∀x i,B.val x i=A.val x i:=u.val;have o:∀x,x≠c->B.holds x=A.holds x:=fun x hx=>by rw[u.holds,if_neg hx]
 have nt:∀x,A.TC x->x≠c:=fun x hx z=>by have:=hx.2;rw[z,hc.2]at this;cases this
 have nl:∀r,A.kind r=2->r-1≠c:=fun r hr z=>by have:=hc.2;rw[<-z,show r-1+1=r by omega,hr]at this;cases this
 have tl:∀x,g.live x->x≠c:=fun x hx=>nt x (sk.cell x (sk.tr.gH x hx));have ho:B.oc m p=A.oc m p:=by unfold Ar.oc;rw[hv,hv]
 have tcm:A.TC (A.val m 2):=((t.cg _ (k0 q.k.1 (by decide))).base (bL q.k.1 (by decide) (by decide))).1
 have tco:A.TC (A.oc m p):=by
  have r:=(t.cg _ (k0 q.u (by decide))).ro q.u;unfold Ar.oc;rcases q.side with x|x<;>rw[x];rw[show 2*A.val p 2-8-(A.val p 2-5)=A.val p 2-3 by omega];exact r.2.2.2.2.1;rw[show 2*A.val p 2-8-(A.val p 2-3)=A.val p 2-5 by omega];exact r.2.2.2.1
 refine⟨?_,?_,?_,?_,?_,?_,?_,?_,?_⟩;rw[hv];exact h.live;rw[hv,hv,o _ (tl _ h.pc.1)];exact h.pc;rw[hv,o _ (nt _ tcm)];exact h.hm;rw[hv,o _ (nl _ q.u)];exact h.lu;rw[hv,hv];exact h.lw.imp id fun⟨y,y1,y2,y3,y4⟩=>⟨y,y1,y2,y3,by rw[y2,o _ (nl y (sk.rt y y1).1),<-y2];exact y4⟩;rw[hv,hv,hv,o _ (tl _ h.nc.1)];exact h.nc;rw[hv,ho,hk,o _ (nt _ tco)];exact h.oc;simp only[hv];exact h.bl;simp only[hv];exact h.st
theorem Ar.Inv.show (h:Inv A K g root) {m p:Int} (hm:A.kind m=4) (h0:g.aa m=0) (hp:p≠0) (u:ka A B (m-1) p) (t:c9 B K root) (e:Ext A B) (q:kS A m p) (w:Wp A g root m p) (hj:∀c,g.dn c->A.holds c≠A.val p 0):Inv B K (g.shown m p) root:=by
 have hk:∀x,B.kind x=A.kind x:=u.kind;have hv:∀x i,B.val x i=A.val x i:=u.val;have hbp:∀b,B.bp b=A.bp b:=fun b=>by unfold Ar.bp;rw[u.ps,hv]
 have o:∀x,x≠m-1->B.holds x=A.holds x:=fun x hx=>by rw[u.holds,if_neg hx]
 have sc:A.SC (m-1):=gw h.bg hm;have nt:∀x,A.TC x->x≠m-1:=fun x hx z=>by have:=hx.2;rw[z,sc.2]at this;cases this
 have np:∀x,g.dn x->x≠m-1:=fun x hx=>nt x (h.sk.cell x hx);have nl:∀r,A.kind r=2->r-1≠m-1:=fun r hr z=>by have:=sc.2;rw[<-z,show r-1+1=r by omega,hr]at this;cases this
 have sm:B.st m=p:=by unfold Ar.st;rw[u.holds,if_pos rfl]
 have hst:∀m',m'≠m->B.st m'=A.st m':=fun m' z=>o _ (by omega);have pl:∀m',m'≠m->(g.shown m p).aa m'=g.aa m':=fun m' z=>if_neg z;have plm:(g.shown m p).aa m=p:=if_pos rfl;have ne:∀m',g.aa m'≠0->m'≠m:=fun m' a z=>a (z▸h0);have hR:∀x,g.dn x->B.R x=A.R x:=fun x hx=>by unfold Ar.R;rw[o x (np x hx),hk]
 have leafB:∀x,g.live x->A.R x=none->dr A (A.holds x):=fun x hx hr=>((h.bg.mq x).tc (h.sk.cell x (h.sk.tr.gH x hx))).resolve_right (Ar.du.1 hr)
 have hvis:∀b,dr A b->b≠A.val p 0->B.gI b=A.gI b:=fun b hb hbj=>by
  unfold Ar.gI;rw[hk,hv];by_cases k5:A.kind b=5;have k4:=(h.bg.cg b hb.ne).ai k5;by_cases z:A.val b 3=m;rw[z,sm];rw[if_neg (fun y=>by have:=y.2.2.1;rw[hv]at this;exact hbj this.symm)];rw[if_neg (fun y=>?_)];rcases h.main m hm with⟨_,x⟩| ⟨x,_⟩;exact fa (by omega) (by decide) y.2.1;exact x h0;rw[hst _ z];simp only[hk,hv];by_cases k8:A.kind (A.st (A.val b 3))=8;obtain⟨_,_,_,tc,_⟩:=(h.bg.cg _ (k0 k8 (by decide))).GD k8;rw[o _ (nt _ tc)];rw[if_neg (fun z=>k8 z.2.1),if_neg (fun z=>k8 z.2.1)];rw[if_neg (fun z=>k5 z.1),if_neg (fun z=>k5 z.1)]
 refine⟨t,⟨(h.sk.tr.congr hR).shown m p,fun x hx=>e.TC (h.sk.cell x hx),fun r hr=>?_,h.sk.has⟩,fun x hx hr=>?_,fun x l v hx hr hi'=>?_,fun x hx hn=>?_,fun r hr hn=>?_,fun m' hm'=>?_,fun m' z=>?_⟩;simp only[hk,hv];exact h.sk.rt r hr;have hp':=h.sk.tr.gH x hx;rw[hR x hp']at hr;rw[o x (np x hp')];simp only[hv];refine(h.home x hx hr).imp id fun⟨m',a,b,c,d,f,f2⟩=>⟨m',?_⟩;rw[pl m' (ne m' a),hst m' (ne m' a)];exact⟨a,b,c,d,f,f2⟩;have hp':=h.sk.tr.gH x hx;rw[hR x hp']at hr;rw[o x (np x hp'),hbp,hvis _ (leafB x hx hr) (hj x hp')];exact h.cont x l v hx hr hi';have hp':g.dn x:=hx;rw[o x (np x hp')];simp only[hk,hv];refine(h.dead x hx hn).imp (fun⟨a,b,c⟩=>⟨a,?_,c⟩) id;rw[pl _ (ne _ b)];exact b;rw[o _ (nl r (h.sk.rt r hr).1)];simp only[hk,hv];obtain⟨a,b,c⟩:=h.lock r hr hn;rw[pl _ (ne _ b)];exact⟨a,b,c⟩;rw[hk]at hm';by_cases z:m'=m;subst z;exact .inr ⟨by rw[plm];exact hp,.inl (by rw[plm];exact sm)⟩;rw[pl m' z,hst m' z];exact h.main m' hm';by_cases zm:m'=m;subst zm;rw[plm];exact⟨q.ext h.bg e,.inl ⟨sm,(w.gF u h.bg h.sk e q sc).shown⟩⟩;rw[pl m' zm]at z⊢;obtain⟨q',ph⟩:=h.aa m' z;rw[hst m' zm];refine⟨q'.ext h.bg e,ph.imp (fun⟨a,b⟩=>⟨a,(b.gF u h.bg h.sk e q' sc).shown⟩) fun d=>?_⟩;have tcn:A.TC (A.val (A.val (g.aa m') 1) 2):=((h.bg.cg _ (k0 q'.n.1 (by decide))).base (bL q'.n.1 (by decide) (by decide))).1;have tcj:A.TC (A.val (A.val (g.aa m') 0) 2):=((h.bg.cg _ (k0 q'.jd.1 (by decide))).base (bL q'.jd.1 (by decide) (by decide))).1;have tcp:A.TC (A.val (g.aa m') 3):=((h.bg.cg _ (k0 q'.k.2 (by decide))).GD q'.k.2).2.2.2.1;refine⟨by rw[hv];exact d.dead,?_,?_,?_⟩;rw[hv,hv,o _ (nt _ tcp)];exact d.pc;rw[hv,hv,o _ (nt _ tcn)];exact d.nc;rw[hst m' zm,hv,hv,o _ (nt _ tcj)];exact d.jd
end
structure Rel (i:Nat) (A:Ar) (g:Gh) (B:Ar) (g':Gh):Prop where
 ext:Ext A B
 iv:∀c l h,g.iv c=some (l,h)->∃l' h',g'.iv c=some (l',h')/\l'<=l/\h<=h'
 rt:∀r,g.rt r->g'.rt r/\g'.key r=g.key r
 own:∀x,x<=A.len->g'.own x=g.own x
 dead:∀c,g.dn c->¬g.live c->¬g'.live c/\B.holds c=A.holds c
 pz:∀c,g.dn c->A.holds c<=B.holds c
 st:∀m,A.kind m=4->(A.st m= -2->B.st m= -2)/\(A.st m= -3->B.st m= -3)/\(B.st m= -1->A.st m= -1)
 aa:∀m,g.aa m≠0->g'.aa m=g.aa m
 HC:∀m,A.kind m=4->g.own m=i->g.aa m=0->g'.aa m=0
 lock:∀r m,A.kind m=4->g.own m=i->g.aa m=0->g.rt r->A.holds (r-1)=m->B.holds (r-1)=m/\(g.live (r-5)->g'.live (r-5))/\(∀c,g.dn c->A.holds c=r->B.holds c=r)/\∀c,(c=r-5\/c=r-3)->A.kind (A.holds c)=2->B.holds c=A.holds c
 bl:∀u c,g.rt u->g'.live (u-5)->g.bl u c->g'.bl u c
 new:∀v,A.kind v≠0->v<=A.len->g.own v=i->(A.kind v=5->g'.aa (A.val v 3)=0)->(∀c,A.TC c->A.holds c≠v)->∀c,B.TC c->B.holds c≠v
 main:∀m,A.kind m=4->B.st m= -1->A.holds (A.val m 2)=m->B.holds (A.val m 2)=m
 ai:∀n,A.kind n=5->A.kind (A.val n 3)=4->B.st (A.val n 3)= -1->A.holds (A.val n 2)=n->B.holds (A.val n 2)=n
 sN:∀b,A.kind b=6->A.kind (A.val b 3)=7->B.holds (A.val b 3-1)=0->A.holds (A.val b 2)=b->B.holds (A.val b 2)=b
 Vu:∀r,g'.rt r->¬g.rt r->g.own r≠i
 Qs:∀c,g.iv c=none->g'.iv c=none\/∃r,g.own r≠i/\A.kind r=2/\(c=r-5\/c=r-3)
 mq:∀c,A.TC c->¬g.dn c->B.holds c=A.holds c
 div:∀c,g.dn c->¬g.live c->g'.iv c=g.iv c
section
variable {i:Nat} {A B C:Ar} {K:eE} {g g1 g2:Gh} {root:Int}
theorem CH (h:lN A g root) {r c:Int} (hr:g.rt r) (hc:c=r-5\/c=r-3):g.dn c:=by
 obtain⟨a,b,c',d,e1,e2,_⟩:=h.tr.j8 r hr;rcases hc with rfl|rfl;exact⟨a,b,e1⟩;exact⟨c',d,e2⟩
theorem Rel.refl (i:Nat) (A:Ar) (g:Gh):Rel i A g A g:=
 ⟨.refl A,fun c l h e=>⟨l,h,e,Int.le_refl _,Int.le_refl _⟩,fun r h=>⟨h,rfl⟩,fun _ _=>rfl,fun c _ h=>⟨h,rfl⟩,fun c _=>Int.le_refl _,fun m _=>⟨id,id,id⟩,fun m _=>rfl,fun m _ _ h=>h,
  fun r m _ _ _ _ h=>⟨h,id,fun c _ h=>h,fun c _ _=>rfl⟩,fun u c _ _ h=>h,fun v _ _ _ _ h=>h,fun m _ _ h=>h,fun n _ _ _ h=>h,fun b _ _ _ h=>h,fun r h q=>absurd h q,fun c h=>.inl h,fun c _ _=>rfl,fun c _ _=>rfl⟩
theorem Rel.dn (h:Rel i A g B g1) {c:Int} (hc:g.dn c):g1.dn c:=by
 obtain⟨l,v,e⟩:=hc;obtain⟨l',v',e',_⟩:=h.iv c l v e;exact⟨l',v',e'⟩
def Gh.g7 (g:Gh) (j:Nat) (n:Int):Gh:={g with own:=fun x=>if n<x then j else g.own x}
theorem fz.g7 {R:Int->Option Int} (h:fz R g root) (j:Nat) (n:Int):fz R (g.g7 j n) root:=
 ⟨h.rt,h.pt,h.gH,h.oE,h.rk,h.kq,h.j8,h.ord,h.rm,h.sep,h.par,h.up,h.rq,h.str,h.Ck,h.qx,h.both,h.j7,h.nd,h.Gy,h.Cl,h.Eg,h.Eh⟩
theorem Ar.Wp.g7 {j:Nat} {n x y:Int} (h:Wp A g root x y):Wp A (g.g7 j n) root x y:=⟨h.live,h.pc,h.hm,h.lu,h.lw,h.nc,h.oc,h.bl,h.st⟩
theorem Ar.Dp.g7 {j:Nat} {n x y:Int} (h:Dp A g x y):Dp A (g.g7 j n) x y:=⟨h.dead,h.pc,h.nc,h.jd⟩
theorem Ar.Inv.g7 (h:Inv A K g root) (j:Nat) (n:Int):Inv A K (g.g7 j n) root:=
 ⟨h.bg,⟨h.sk.tr.g7 j n,h.sk.cell,h.sk.rt,h.sk.has⟩,h.home,h.cont,h.dead,h.lock,h.main,fun m q=>⟨(h.aa m q).1,(h.aa m q).2.imp (fun⟨a,b⟩=>⟨a,b.g7⟩) Dp.g7⟩⟩
section
variable (h:Inv A K g root)
include h
theorem Rel.grow (o:vB A B) (hB:B.Ok) (j:Nat) (hn:∀c,A.len<c->B.TC c->A.len<B.holds c):Rel i A g B (g.g7 j A.len):=by
 have e:=o.ext;have cl:∀c,g.dn c->B.holds c=A.holds c:=fun c hc=>o.holds c (dc (h.sk.cell c hc).1).2;have sm:∀m,A.kind m=4->B.st m=A.st m:=fun m hm=>o.holds _ (dc (gw h.bg hm).1).2;have bt:∀b,dr A b->B.holds (A.val b 2)=A.holds (A.val b 2):=fun b hb=>o.holds _ (dc ((h.bg.cg b hb.ne).base hb).1.1).2;refine⟨e,fun c l v q=>⟨l,v,q,Int.le_refl _,Int.le_refl _⟩,fun r q=>⟨q,rfl⟩,fun x q=>if_neg (by omega),fun c a b=>⟨b,cl c a⟩,fun c a=>by rw[cl c a];exact Int.le_refl _,fun m a=>by rw[sm m a];exact⟨id,id,id⟩,fun m a=>rfl,fun m _ _ a=>a,fun r m a b c d q=>?_,fun u c _ _ q=>q,fun v a a2 b b2 c x hx=>?_,fun m a c d=>?_,fun n a b d q=>?_,fun b a a2 z q=>?_,fun r q z=>absurd q z,fun c q=>.inl q,fun x p q=>?_,fun x _ _=>rfl⟩;have hr:=aF (A:=A) (id:=r) (k0 (h.sk.rt r d).1 (by decide));exact⟨by rw[o.holds _ (by omega)];exact q,id,fun c p w=>by rw[cl c p];exact w,fun c p w=>cl c (CH h.sk d p)⟩;by_cases hle:A.len<x;have:=hn x hle hx;omega;by_cases hl:x=A.len
 ·
  subst hl;have hcell:A.aB A.len=true:=by rw[<-o.aB _ (Int.le_refl _)];exact hx.1
  by_cases hk:A.kind (A.len+1)=3;rw[o.holds _ (Int.le_refl _)];exact c _ ⟨hcell,hk⟩;have full:=h.bg.Mx hcell;have k1:=aF (A:=B) (id:=A.len+1) (by rw[hx.2];decide);have:=o.room;have okB:B.len<=B.room:=hB.1;omega
 have tc:A.TC x:=⟨by rw[<-o.aB x (by omega)];exact hx.1,by rw[<-o.kind _ (by omega)];exact hx.2⟩;rw[o.holds x (by omega)];exact c x tc;rw[bt m (bL a (by decide) (by decide))];exact d;rw[bt n (bL a (by decide) (by decide))];exact q;rw[bt b (bL a (by decide) (by decide))];exact q;exact o.holds x (dc p.1).2
theorem Rel.gF {c v:Int} (u:ka A B c v) (e:Ext A B) (h1:¬A.TC c) (h2:¬A.SC c) (hl:∀r m,g.rt r->A.kind m=4->g.own m=i->g.aa m=0->A.holds (r-1)=m->c≠r-1):Rel i A g B g:=by
 have o:∀x,x≠c->B.holds x=A.holds x:=fun x hx=>by rw[u.holds,if_neg hx]
 have tc:∀x,A.TC x->B.holds x=A.holds x:=fun x hx=>o x fun q=>h1 (q▸hx);have cl:∀x,g.dn x->B.holds x=A.holds x:=fun x hx=>tc x (h.sk.cell x hx);have sm:∀m,A.kind m=4->B.st m=A.st m:=fun m hm=>o _ fun q=>h2 (q▸gw h.bg hm);have bt:∀b,dr A b->B.holds (A.val b 2)=A.holds (A.val b 2):=fun b hb=>tc _ ((h.bg.cg b hb.ne).base hb).1;refine⟨e,fun c l v q=>⟨l,v,q,Int.le_refl _,Int.le_refl _⟩,fun r q=>⟨q,rfl⟩,fun x q=>rfl,fun c a b=>⟨b,cl c a⟩,fun c a=>by rw[cl c a];exact Int.le_refl _,fun m a=>by rw[sm m a];exact⟨id,id,id⟩,fun m a=>rfl,fun m _ _ a=>a,fun r m a b c d q=>?_,fun u c _ _ q=>q,fun v a a2 b b2 c x hx=>?_,fun m a c d=>?_,fun n a b d q=>?_,fun b a a2 z q=>?_,fun r q z=>absurd q z,fun c q=>.inl q,fun x p q=>?_,fun x _ _=>rfl⟩;exact⟨by rw[o _ fun z=>hl r m d a b c q z.symm];exact q,id,fun c p w=>by rw[cl c p];exact w,fun c p w=>cl c (CH h.sk d p)⟩;have tx:A.TC x:=⟨by rw[<-u.aB];exact hx.1,by rw[<-u.kind];exact hx.2⟩;rw[tc x tx];exact c x tx;rw[bt m (bL a (by decide) (by decide))];exact d;rw[bt n (bL a (by decide) (by decide))];exact q;rw[bt b (bL a (by decide) (by decide))];exact q;exact tc x p
theorem Rel.state {m v:Int} (hm:A.kind m=4) (u:ka A B (m-1) v) (e:Ext A B) (hv:(A.st m= -1/\v= -2)\/(g.aa m≠0/\A.st m=g.aa m/\v= -3)):Rel i A g B g:=by
 have sc:=gw h.bg hm;have o:∀x,x≠m-1->B.holds x=A.holds x:=fun x hx=>by rw[u.holds,if_neg hx]
 have tc:∀x,A.TC x->B.holds x=A.holds x:=fun x hx=>o x fun q=>by have:=hx.2;rw[q,sc.2]at this;cases this
 have cl:∀x,g.dn x->B.holds x=A.holds x:=fun x hx=>tc x (h.sk.cell x hx);have sv:B.st m=v:=by unfold Ar.st;rw[u.holds,if_pos rfl]
 have bt:∀b,dr A b->B.holds (A.val b 2)=A.holds (A.val b 2):=fun b hb=>tc _ ((h.bg.cg b hb.ne).base hb).1
 have lk:∀r,g.rt r->B.holds (r-1)=A.holds (r-1):=fun r hr=>o _ fun q=>by
  have:=sc.2;rw[<-q,show r-1+1=r by omega,(h.sk.rt r hr).1]at this;cases this
 refine⟨e,fun c l v q=>⟨l,v,q,Int.le_refl _,Int.le_refl _⟩,fun r q=>⟨q,rfl⟩,fun x q=>rfl,fun c a b=>⟨b,cl c a⟩,fun c a=>by rw[cl c a];exact Int.le_refl _,fun m' a=>?_,fun m a=>rfl,fun m _ _ a=>a,fun r m a b c d q=>?_,fun u c _ _ q=>q,fun v a a2 b b2 c x hx=>?_,fun m a c d=>?_,fun n a b d q=>?_,fun b a a2 z q=>?_,fun r q z=>absurd q z,fun c q=>.inl q,fun x p q=>?_,fun x _ _=>rfl⟩;by_cases z:m'=m;rw[z,sv];rcases hv with⟨x,y⟩| ⟨w,x,y⟩;rw[x,y];exact⟨fun _=>rfl,fun q=>by omega,fun _=>rfl⟩;have:=h.py w;rw[x,y];exact⟨fun q=>by omega,fun q=>by omega,fun q=>by omega⟩;have:B.st m'=A.st m':=o _ (by omega);rw[this];exact⟨id,id,id⟩;exact⟨(lk r d).trans q,id,fun c p w=>by rw[cl c p];exact w,fun c p w=>cl c (CH h.sk d p)⟩;have tx:A.TC x:=⟨by rw[<-u.aB];exact hx.1,by rw[<-u.kind];exact hx.2⟩;rw[tc x tx];exact c x tx;rw[bt m (bL a (by decide) (by decide))];exact d;rw[bt n (bL a (by decide) (by decide))];exact q;rw[bt b (bL a (by decide) (by decide))];exact q;exact tc x p
theorem Rel.kC {c v:Int} {l:List Pr} (u:ka A B c v) (e:Ext A B) (qq:Ae A g c v l) (hnew:g.own v=i->A.kind v=5/\g.aa (A.val v 3)≠0) (hmain:∀m,A.kind m=4->A.st m= -1->A.holds c≠m) (hneigh:∀n,A.kind n=5->A.kind (A.val n 3)=4->A.st (A.val n 3)= -1->A.holds c≠n) (hrng:∀b,A.kind b=6->A.kind (A.val b 3)=7->A.holds (A.val b 3-1)=0->A.holds c≠b):Rel i A g B (g.mM l):=by
 have o:∀x,x≠c->B.holds x=A.holds x:=fun x hx=>by rw[u.holds,if_neg hx]
 have hc:B.holds c=v:=by rw[u.holds,if_pos rfl]
 have tcc:A.TC c:=h.sk.cell c (h.sk.tr.gH c qq.live);have bB:dr A (A.holds c):=((h.bg.mq c).tc tcc).resolve_right (Ar.du.1 qq.leaf);have nl:∀r,A.kind r=2->r-1≠c:=fun r hr z=>by have:=tcc.2;rw[<-z,show r-1+1=r by omega,hr]at this;cases this
 have hst:∀m,A.kind m=4->B.st m=A.st m:=fun m hm=>o _ fun z=>by have:=tcc.2;rw[<-z,show m-1+1=m by omega,hm]at this;cases this
 refine⟨e,fun c l v q=>⟨l,v,q,Int.le_refl _,Int.le_refl _⟩,fun r q=>⟨q,rfl⟩,fun x q=>rfl,fun x a b=>⟨b,o x fun z=>b (z▸qq.live)⟩,fun x a=>?_,fun m a=>by rw[hst m a];exact⟨id,id,id⟩,fun m a=>rfl,fun m _ _ a=>a,fun r m a b c' d f=>?_,fun u c _ _ q=>q,fun w a a2 b b2 c' x hx=>?_,fun m a c' d=>?_,fun n a b d f=>?_,fun b a a2 z q=>?_,fun r q z=>absurd q z,fun c q=>.inl q,fun x p q=>?_,fun x _ _=>rfl⟩;by_cases z:x=c;subst z;rw[hc];have:=qq.lt;omega;rw[o x z];exact Int.le_refl _;refine⟨by rw[o _ (nl r (h.sk.rt r d).1)];exact f,id,fun x p w=>?_,fun x p w=>o x fun z=>bB.nr (z▸w)⟩;rw[o x];exact w;intro z;have:=(h.sk.rt r d).1;rw[<-w,z]at this;exact bB.nr this;have tx:A.TC x:=⟨by rw[<-u.aB];exact hx.1,by rw[<-u.kind];exact hx.2⟩;by_cases z:x=c;subst z;rw[hc];intro y;subst y;obtain⟨n1,n2⟩:=hnew b;exact n2 (b2 n1);rw[o x z];exact c' x tx;rw[hst m a]at c';rw[o _ fun z=>hmain m a c' (z▸d)];exact d;rw[hst _ b]at d;rw[o _ fun z=>hneigh n a b d (z▸f)];exact f;have nc:A.val b 3-1≠c:=fun y=>by have:=tcc.2;rw[<-y,show A.val b 3-1+1=A.val b 3 by omega,a2]at this;cases this
 rw[o _ nc]at z;rw[o _ fun y=>hrng b a a2 z (y▸q)];exact q;exact o x fun z=>q (z▸h.sk.tr.gH c qq.live)
end
theorem Rel.show (h:Inv A K g root) {m p:Int} (hm:A.kind m=4) (h0:g.aa m=0) (hs:A.st m= -1) (hp:1<=p) (u:ka A B (m-1) p) (e:Ext A B) (ho:g.own m≠i):Rel i A g B (g.shown m p):=by
 have sc:=gw h.bg hm;have o:∀x,x≠m-1->B.holds x=A.holds x:=fun x hx=>by rw[u.holds,if_neg hx]
 have tc:∀x,A.TC x->B.holds x=A.holds x:=fun x hx=>o x fun q=>by have:=hx.2;rw[q,sc.2]at this;cases this
 have cl:∀x,g.dn x->B.holds x=A.holds x:=fun x hx=>tc x (h.sk.cell x hx);have sv:B.st m=p:=by unfold Ar.st;rw[u.holds,if_pos rfl]
 have bt:∀b,dr A b->B.holds (A.val b 2)=A.holds (A.val b 2):=fun b hb=>tc _ ((h.bg.cg b hb.ne).base hb).1
 have lk:∀r,g.rt r->B.holds (r-1)=A.holds (r-1):=fun r hr=>o _ fun q=>by
  have:=sc.2;rw[<-q,show r-1+1=r by omega,(h.sk.rt r hr).1]at this;cases this
 refine⟨e,fun c l v q=>⟨l,v,q,Int.le_refl _,Int.le_refl _⟩,fun r q=>⟨q,rfl⟩,fun x q=>rfl,fun c a b=>⟨b,cl c a⟩,fun c a=>by rw[cl c a];exact Int.le_refl _,fun m' a=>?_,fun m' a=>if_neg (fun z:m'=m=>a (by rw[z];exact h0)),fun m' _ a b=>?_,fun r m a b c d q=>?_,fun u c _ _ q=>q,fun v a a2 b b2 c x hx=>?_,fun m a c d=>?_,fun n a b d q=>?_,fun b a a2 z q=>?_,fun r q z=>absurd q z,fun c q=>.inl q,fun x p q=>?_,fun x _ _=>rfl⟩;by_cases z:m'=m;rw[z,sv,hs];exact⟨fun q=>by omega,fun q=>by omega,fun q=>by omega⟩;have:B.st m'=A.st m':=o _ (by omega);rw[this];exact⟨id,id,id⟩;show(if m'=m then p else g.aa m')=0;rw[if_neg (fun z:m'=m=>ho (by rw[<-z];exact a))];exact b;exact⟨(lk r d).trans q,id,fun c p w=>by rw[cl c p];exact w,fun c p w=>cl c (CH h.sk d p)⟩;have tx:A.TC x:=⟨by rw[<-u.aB];exact hx.1,by rw[<-u.kind];exact hx.2⟩;rw[tc x tx];exact c x tx;rw[bt m (bL a (by decide) (by decide))];exact d;rw[bt n (bL a (by decide) (by decide))];exact q;rw[bt b (bL a (by decide) (by decide))];exact q;exact tc x p
end
section
variable {i:Nat} {A B:Ar} {K:eE} {g:Gh} {root:Int}
theorem Ar.lN.yb (h:lN A g root) {r:Int} (hr:g.rt r):g.dn (r-5)/\g.dn (r-3):=by
 obtain⟨a,b,c,d,e1,e2,_⟩:=h.tr.j8 r hr;exact⟨⟨a,b,e1⟩,⟨c,d,e2⟩⟩
theorem Rel.split (h:Inv A K g root) {c n k lo hi:Int} (u:ka A B c n) (e:Ext A B) (q:Bq A g root c n k lo hi) (ho:g.own n≠i) (hrng:A.kind (A.holds c)=6->A.holds (A.val (A.holds c) 3-1)≠0):Rel i A g B (g.split n k lo hi):=by
 obtain⟨cl,cr⟩:=h.gu q.dn rfl q.free q.at_;have o:∀x,x≠c->B.holds x=A.holds x:=fun x hx=>by rw[u.holds,if_neg hx]
 have hc:B.holds c=n:=by rw[u.holds,if_pos rfl]
 obtain⟨n1,n5,n3,nr,nlt,nq⟩:=q.new;have tcc:A.TC c:=h.sk.cell c q.dn;have bB:=q.free.is;have nl:∀r,A.kind r=2->r-1≠c:=fun r hr z=>by have:=tcc.2;rw[<-z,show r-1+1=r by omega,hr]at this;cases this
 have hst:∀m,A.kind m=4->B.st m=A.st m:=fun m hm=>o _ fun z=>by have:=tcc.2;rw[<-z,show m-1+1=m by omega,hm]at this;cases this
 have bZ:∀x,g.dn x->x≠n-5/\x≠n-3:=fun x ⟨a,b,w⟩=>⟨fun z=>by(rw[z,n5]at w;cases w),fun z=>by(rw[z,n3]at w;cases w)⟩;refine⟨e,fun x l v w=>⟨l,v,?_,Int.le_refl _,Int.le_refl _⟩,fun r w=>⟨.inr w,?_⟩,fun x q=>rfl,fun x a b=>⟨fun w=>?_,o x fun z=>b (z▸cl)⟩,fun x a=>?_,fun m a=>by rw[hst m a];exact⟨id,id,id⟩,fun m a=>rfl,fun m _ _ a=>a,fun r m a b c' d f=>?_,fun r x a _ w=>.inl ⟨fun z=>n1 (z▸a),w⟩,fun w a a2 b b2 c' x hx=>?_,fun m a c' d=>?_,fun n' a b d f=>?_,fun b a a2 z y=>?_,fun r y z=>y.elim (fun w=>by rw[w];exact ho) (fun w=>absurd w z),fun x y=>?_,fun x p y=>o x fun z=>y (z▸q.dn),fun x p y=>?_⟩;obtain⟨z1,z2⟩:=bZ x ⟨l,v,w⟩;show g.jG n k lo hi x=_;unfold Gh.jG;rw[if_neg z1,if_neg z2];exact w;show g.gp n k r=g.key r;unfold Gh.gp;rw[if_neg (fun z:r=n=>n1 (z▸w))];obtain⟨z1,z2⟩:=bZ x a;exact w.elim z1 fun w=>w.elim z2 b;by_cases z:x=c;subst z;rw[hc];omega;rw[o x z];exact Int.le_refl _;refine⟨by rw[o _ (nl r (h.sk.rt r d).1)];exact f,fun w=>.inr (.inr w),fun x p w=>?_,fun x p w=>o x fun z=>bB.nr (z▸w)⟩;rw[o x];exact w;intro z;have:=(h.sk.rt r d).1;rw[<-w,z]at this;exact bB.nr this;have tx:A.TC x:=⟨by rw[<-u.aB];exact hx.1,by rw[<-u.kind];exact hx.2⟩;by_cases z:x=c;subst z;rw[hc];intro y;rw[y]at ho;exact ho b;rw[o x z];exact c' x tx;rw[hst m a]at c';rw[o _ fun z=>?_];exact d;rw[z]at d;have:=q.free.main (by rw[d];exact a);rw[d]at this;omega;rw[hst _ b]at d;rw[o _ fun z=>?_];exact f;rw[z]at f;have:=q.free.ai (by rw[f];exact a);rw[f]at this;omega;have nc:A.val b 3-1≠c:=fun y=>by have:=tcc.2;rw[<-y,show A.val b 3-1+1=A.val b 3 by omega,a2]at this;cases this
 rw[o _ nc]at z;rw[o _ fun w=>?_];exact y;rw[w]at y;rw[y]at hrng;exact hrng a z;show g.jG n k lo hi x=none\/_;by_cases z5:x=n-5;exact .inr ⟨n,ho,q.rt.1,.inl z5⟩;by_cases z3:x=n-3;exact .inr ⟨n,ho,q.rt.1,.inr z3⟩;unfold Gh.jG;rw[if_neg z5,if_neg z3];exact .inl y;obtain⟨z1,z2⟩:=bZ x p;show g.jG n k lo hi x=_;unfold Gh.jG;rw[if_neg z1,if_neg z2]
theorem Rel.e8 (h:Inv A K g root) {m p lo hi:Int} (hm:g.aa m=p) (hp:p≠0) (u:ka A B (A.val p 3) (A.val p 5)) (e:Ext A B) (hu:A.holds (A.val p 3)=A.val p 2) (hi':g.iv (A.val p 3)=some (lo,hi)):Rel i A g B (g.join (A.val p 2) (g.key (A.val p 2)) lo hi):=by
 subst hm;obtain⟨q,ph⟩:=h.aa m hp;rcases ph with⟨sm,w⟩|d
 ·have tr:=h.sk.tr;have o:∀x,x≠A.val (g.aa m) 3->B.holds x=A.holds x:=fun x hx=>by rw[u.holds,if_neg hx]
  have hc:B.holds (A.val (g.aa m) 3)=A.val (g.aa m) 5:=by rw[u.holds,if_pos rfl]
  have tcc:A.TC (A.val (g.aa m) 3):=h.sk.cell _ (tr.gH _ w.pc.1);have nl:∀r,A.kind r=2->r-1≠A.val (g.aa m) 3:=fun r hr z=>by have:=tcc.2;rw[<-z,show r-1+1=r by omega,hr]at this;cases this
  have hst:∀m',A.kind m'=4->B.st m'=A.st m':=fun m' hm=>o _ fun z=>by have:=tcc.2;rw[<-z,show m'-1+1=m' by omega,hm]at this;cases this
  have XlU:A.val (g.aa m) 2<A.val (g.aa m) 5:=by
   rcases q.rp with⟨a,_⟩| ⟨_,a,_⟩;rw[a];exact q.lt.2;exact a
  have RP:A.R (A.val (g.aa m) 3)=some (A.val (g.aa m) 2):=Ar.fV.2 ⟨by rw[w.pc.2];exact q.u,w.pc.2⟩;have hk:=tr.rk _ _ lo hi hi' RP
  have notP:∀x b,A.holds x=b->A.kind b≠2->x≠A.val (g.aa m) 3:=fun x b hb hb2 y=>by
   rw[y,w.pc.2]at hb;rw[<-hb]at hb2;exact hb2 q.u
  refine⟨e,fun x l v z=>?_,fun r w=>⟨w,rfl⟩,fun x q=>rfl,fun x a b=>⟨fun z=>b z.1,o x fun z=>b (z▸w.pc.1)⟩,fun x a=>?_,fun m a=>by rw[hst m a];exact⟨id,id,id⟩,fun m a=>rfl,fun m _ _ a=>a,fun r m' a b c' d f=>?_,fun r x a _ w=>.inl w,fun v a a2 b b2 c' x hx=>?_,fun m' a c' d=>?_,fun n' a b d f=>?_,fun b a a2 z y=>?_,fun r y z=>absurd y z,fun x y=>.inl (Af y),fun x p y=>o x fun z=>y (z▸h.sk.tr.gH _ w.pc.1),fun x p y=>iz fun z=>y z.1⟩;show∃l' h',g.kb _ _ lo hi x=some (l',h')/\l'<=l/\v<=h';by_cases y:g.cG (A.val (g.aa m) 2) x;rw[fY y z];split;exact⟨_,_,rfl,by omega,by omega⟩;split;exact⟨_,_,rfl,by omega,by omega⟩;exact⟨_,_,rfl,by omega,by omega⟩;rw[iz y];exact⟨l,v,z,Int.le_refl _,Int.le_refl _⟩;by_cases z:x=A.val (g.aa m) 3;rw[z,hc,w.pc.2];omega;rw[o x z];exact Int.le_refl _
  ·have rU:r≠A.val (g.aa m) 2:=fun z=>by
    rw[z,w.lu]at f;rw[<-f]at c';exact hp c'
   refine⟨by rw[o _ (nl r (h.sk.rt r d).1)];exact f,fun z=>⟨z,by omega,(tr.sep r d).2 _ w.live.1⟩,fun x p y=>?_,fun x p y=>o x fun z=>?_⟩
   rotate_left
   have sr:=tr.sep r d;rcases w.lw with⟨_,z2⟩| ⟨w',z1,z2,z3,z4⟩;rw[z,z2]at p;omega;have sw:=tr.sep w' z1
   have e:w'=r:=by
    have:=sr.2 w' z1;have:=sw.2 r d;rcases p with p|p<;>rcases z3 with z3|z3<;>omega
   rw[z2,e,f]at z4;rw[z4]at c';exact hp c';rw[o x];exact y;intro z;rw[z,w.pc.2]at y;exact rU y.symm
  have tx:A.TC x:=⟨by rw[<-u.aB];exact hx.1,by rw[<-u.kind];exact hx.2⟩;by_cases z:x=A.val (g.aa m) 3;rw[z,hc];intro y;rcases q.rp with⟨x1,_⟩| ⟨x1,_⟩;have:=b2 (by rw[<-y,x1];exact q.jd.1);rw[<-y,x1,q.jd.2]at this;exact hp this;exact c' _ (PU h hp) ((w.oc x1).trans y);rw[o x z];exact c' x tx;rw[o _ (notP _ _ d (by rw[a];decide))];exact d;rw[o _ (notP _ _ f (by rw[a];decide))];exact f;rw[o _ (notP _ _ y (by rw[a];decide))];exact y
 have:=d.pc;omega
end
section
variable {i:Nat} {A B:Ar} {K:eE} {g g1:Gh} {root:Int}
theorem Gh.JZ.In {c d k:Int} (h:g.JZ c d) (hk:g.In c k):g.In d k:=by
 obtain⟨l,v,l',v',e,e',a,b⟩:=h;obtain⟨l0,v0,e0,x,y⟩:=hk;rw[e]at e0;cases e0;exact⟨l',v',e',by omega,by omega⟩
theorem Gh.In.dn {c k:Int} (h:g.In c k):g.dn c:=by obtain⟨l,v,e,_⟩:=h;exact⟨l,v,e⟩
theorem Rel.In (h:Rel i A g B g1) {c k:Int} (hk:g.In c k):g1.In c k:=by
 obtain⟨l,v,e,x,y⟩:=hk;obtain⟨l',v',e',a,b⟩:=h.iv c l v e;exact⟨l',v',e',by omega,by omega⟩
structure Xx (g:Gh) (f:Fo) (key:Int):Prop where
 at_:g.In f.cell key
 up:f.up≠0->g.rt f.up/\(f.cell=f.up-5\/f.cell=f.up-3)
theorem Ar.Inv.top (h:Inv A K g root) {key:Int} (h1:fM<=key) (h2:key<eU):Xx g ⟨.zero,root,0,0,false⟩ key:=⟨⟨_,_,h.sk.tr.rt.2,h1,h2⟩,fun q=>absurd rfl q⟩
theorem nR.rel {b:Int} (t:c9 A K root) (h:nR A b) (r:Rel i A g B g1):nR B b:=by
 have hn:=h.is.ne;refine⟨r.ext.dr h.is,fun k=>?_,fun k=>?_⟩;rw[r.ext.kind b hn]at k;exact(r.st b k).1 (h.main k);rw[r.ext.kind b hn]at k;rw[r.ext.val b 3 hn];have k4:=(t.cg b hn).ai k;exact(h.ai k).imp (r.st _ k4).1 (r.st _ k4).2.1
end
theorem Li {l m:List Pr} (h1:jv l) (h2:jv m) {k:Int} (h:∀v,(⟨k,v⟩:Pr)∈l<->(⟨k,v⟩:Pr)∈m):lk l k=lk m k:=by
 cases e:lk m k with
 |some v=>exact(fq h1).2 ((h v).2 ((fq h2).1 e))
 |none=>
  cases e2:lk l k with
  |none=>rfl
  |some v=>rw[(fq h2).2 ((h v).1 ((fq h1).1 e2))]at e;cases e
theorem HD {l:List Pr} (h:jv l) (p:Pr) (k:Int):lk (yo p l) k=if k=p.k then some p.v else lk l k:=by
 split;rename_i e;subst e;exact(fq (qs h)).2 (mn.2 (.inl rfl));rename_i e;refine Li (qs h) h fun v=>?_;rw[mn];constructor;rintro(q|q);rw[<-q]at e;exact absurd rfl e;exact q.1;intro q;exact .inr ⟨q,e⟩
theorem Br {l:List Pr} (h:jv l) (z k:Int):lk (cc l z) k=if k=z then none else lk l k:=by
 split;rename_i e;subst e
 exact sY.2 fun x hx=>by
  have:=(List.mem_filter.1 hx).2;simpa[pD]using this
 rename_i e;refine Li (h.filter _) h fun v=>?_;constructor;intro q;exact(List.mem_filter.1 q).1;intro q;exact List.mem_filter.2 ⟨q,by simpa[pD]using e⟩
def PV (x:Option Int) (o:bA):Option Int:=if o.kind=1 then some o.v else if o.kind=2 then some (x.getD o.v)else none
section
variable {l:List Pr} {o:bA} (h:jv l) (ho:eG o=true)
include l o h ho
theorem CI:(eB l o).1=(if o.kind=1 then yo ⟨o.key,o.v⟩ l else if o.kind=2 then(if(lk l o.key).isSome then l else yo ⟨o.key,o.v⟩ l)else cc l o.key):=by
 have hm:fj o=true:=by
  simp[eG]at ho;simp[fj];omega
 have h3:o.kind=1\/o.kind=2\/o.kind=3:=by simpa[eG]using ho
 unfold eB;rw[dF.2 h,hm,A5,xR h];rcases h3 with e|e|e<;>simp[e]
theorem J1:jv (eB l o).1:=by
 rw[CI h ho];split;exact qs h;split;split;exact h;exact qs h;exact h.filter _
theorem Bt (k:Int):lk (eB l o).1 k=if k=o.key then PV (lk l o.key) o else lk l k:=by
 rw[CI h ho];unfold PV;by_cases e1:o.kind=1;rw[if_pos e1,if_pos e1,HD h];rw[if_neg e1,if_neg e1];by_cases e2:o.kind=2;rw[if_pos e2,if_pos e2]
 cases q:lk l o.key with
 |none=>simp only[Option.isSome_none,Bool.false_eq_true,if_false];rw[HD h];rfl
 |some v=>
  simp only[Option.isSome_some,if_true];split;rename_i e;rw[e,q];rfl;rfl
 rw[if_neg e2,if_neg e2,Br h]
end
section
variable {A B:Ar} {K:eE} {g:Gh} {root:Int}
theorem Bu (t:c9 A K root) {b:Int} (hb:dr A b):jv (A.bp b):=by
 obtain⟨_,l,h,_⟩:=(t.cg b hb.ne).base hb;unfold Ar.bp;rw[h.ps];exact h.iA
end
section
variable {i:Nat} {A B:Ar} {K:eE} {g g1:Gh} {root:Int}
theorem Ar.Inv.PW (h:Inv A K g root) {r:Int} (hr:g.rt r) (h0:A.holds (r-1)=0):g.live (r-5):=
 Classical.byContradiction fun q=>by
  have:=(h.lock r hr q).1;rw[h0]at this;have:=aF (A:=A) (id:=0) (by rw[this];decide);omega
def Ib (g:Gh) (u c:Int) (right:Bool):Prop:=g.live (u-5)->g.bl u c/\∃l h,g.iv c=some (l,h)/\(if right then h=g.key u else l=g.key u)
theorem Ib.rel {u c:Int} {b:Bool} (hb:Ib g u c b) (hu:g.rt u) (h:Inv A K g root) (h1:Inv B K g1 root) (r:Rel i A g B g1):Ib g1 u c b:=fun q=>by
 obtain⟨ur,uk⟩:=r.rt u hu;have hl:g.live (u-5):=Classical.byContradiction fun z=>(r.dead _ (Ar.lN.yb h.sk hu).1 z).1 q;obtain⟨x,l,v,e,s⟩:=hb hl;have x':=r.bl u c hu q x;obtain⟨l',v',e',a,b'⟩:=r.iv c l v e;obtain⟨l2,v2,e2,s2⟩:=h1.sk.tr.Eg u c ur q x';rw[e']at e2;cases e2;have i0:=h.sk.tr.pt _ _ _ e;rw[uk]at s2;refine⟨x',l',v',e',?_⟩;rw[uk]
 cases b
 simp only[Bool.false_eq_true,if_false]at s⊢;omega;simp only[if_true]at s⊢;omega
section
variable (h:Inv A K g root)
include h
theorem Ar.Inv.MT {u:Int} (hu:g.rt u) (b:Bool):Ib g u (if b then u-5 else u-3) b:=fun hl=>by
 have tr:=h.sk.tr;obtain⟨p,hp,hR⟩:=tr.cellOf hu hl;obtain⟨lo,hi,e⟩:=tr.gH p hp;obtain⟨a,a',c,d⟩:=tr.kq p u lo hi hp e hR
 cases b
 exact⟨tr.Cl u _ _ _ hu hl a' d (.inl rfl),_,_,d,rfl⟩;exact⟨tr.Cl u _ _ _ hu hl a c (.inr rfl),_,_,c,rfl⟩
theorem Ar.Inv.HE {u c r:Int} {b:Bool} (hu:g.rt u) (hb:Ib g u c b) (hR:A.R c=some r):Ib g u (if b then r-3 else r-5) b:=fun hl=>by
 obtain⟨x,l,v,e,s⟩:=hb hl;obtain⟨a,d⟩:=h.sk.tr.Eh u c l v r hu hl x e hR
 cases b
 simp only[Bool.false_eq_true,if_false]at s⊢;obtain⟨y,w,z⟩:=d s;exact⟨y,_,_,z,s⟩;simp only[if_true]at s⊢;obtain⟨y,w,z⟩:=a s;exact⟨y,_,_,z,s⟩
theorem Ar.Inv.beside {u C:Int} {b:Bool} (hu:g.rt u) (hl:g.live (u-5)) (hb:Ib g u C b) (hC:g.live C) (rC:A.R C=none):C=(if b then u-5 else u-3)\/A.kind (A.holds (if b then u-5 else u-3))=2:=by
 have tr:=h.sk.tr;obtain⟨p,hp,hR⟩:=tr.cellOf hu hl;obtain⟨lo,hi,e⟩:=tr.gH p hp;obtain⟨a,a',c,d⟩:=tr.kq p u lo hi hp e hR;have rk:=tr.rk p u lo hi e hR;obtain⟨_,l,v,eC,s⟩:=hb hl;have iC:=tr.pt _ _ _ eC
 cases b
 simp only[Bool.false_eq_true,if_false]at s⊢
 cases q:A.R (u-3)with
 |some r=>exact .inr (by obtain⟨x,y⟩:=Ar.fV.1 q;exact x)
 |none=>exact .inl (tr.rq _ _ l v _ _ (g.key u) hC a' rC q eC d (by omega) (by omega) (by omega) (by omega))
 simp only[if_true]at s⊢
 cases q:A.R (u-5)with
 |some r=>exact .inr (by obtain⟨x,y⟩:=Ar.fV.1 q;exact x)
 |none=>exact .inl (tr.rq _ _ l v _ _ (g.key u-1) hC a rC q eC c (by omega) (by omega) (by omega) (by omega))
end
structure Ag (A:Ar) (g:Gh) (root m p:Int) (b:Bool):Prop where
 u:g.rt (A.val p 2)
 ma:A.kind m=4/\A.val m 2=(if b then A.val p 2-3 else A.val p 2-5)
 hm:A.holds (A.val m 2)=m
 lu:A.holds (A.val p 2-1)=m/\g.live (A.val p 2-5)
 pc:g.dn (A.val p 3)/\A.holds (A.val p 3)=A.val p 2
 lw:(A.val p 4=0/\A.val p 3=root)\/∃w,g.rt w/\A.val p 4=w-1/\(A.val p 3=w-5\/A.val p 3=w-3)/\A.holds (A.val p 4)=m/\g.live (w-5)
 n:A.kind (A.val p 1)=5/\A.holds (A.val (A.val p 1) 2)=A.val p 1/\A.val (A.val p 1) 3=m
 MT:Ib g (A.val p 2) (A.val (A.val p 1) 2) b
 oc:A.kind (A.val p 5)=2->A.holds (A.oc m p)=A.val p 5
theorem Ag.wp {m p:Int} {b:Bool} (o:Ag A g root m p b) (h:Inv A K g root) (h0:g.aa m=0):Wp A g root m p:=by
 have tr:=h.sk.tr;obtain⟨x,l,v,e,s⟩:=o.MT o.lu.2;have key:=(h.sk.rt _ o.u).2.1
 have lpc:g.live (A.val p 3):=by
  rcases o.lw with⟨_,q⟩| ⟨w,q1,q2,q3,q4,q5⟩;rw[q];exact tr.rt.1;rcases q3 with q3|q3;rw[q3];exact q5;rw[q3];exact(tr.both w q1).1 q5
 have lnc:g.live (A.val (A.val p 1) 2):=Classical.byContradiction fun q=>by
  rcases h.dead _ ⟨l,v,e⟩ q with⟨k,_⟩|k| ⟨_,k,_⟩;rw[o.n.2.1,o.n.1]at k;cases k;rw[o.n.2.1,o.n.1]at k;cases k;rw[o.n.2.1]at k;exact k rfl
 refine⟨⟨o.u,o.lu.2⟩,⟨lpc,o.pc.2⟩,o.hm,o.lu.1,o.lw.imp id fun⟨w,q1,q2,q3,q4,_⟩=>⟨w,q1,q2,q3,q4⟩,⟨lnc,.inl o.n.2.1⟩,o.oc,x,l,v,e,?_⟩;rw[key,o.ma.2]
 cases b
 simp only[Bool.false_eq_true,if_false]at s⊢;rw[if_pos trivial];exact s;simp only[if_true]at s⊢;rw[if_neg (by omega)];exact s
end
section
variable {A B C:Ar} {K:eE} {g:Gh} {root:Int}
theorem Ar.vB.trans (h:vB A B) (k:vB B C):vB A C:=by
 have l:=h.len;refine⟨fun id hi=>?_,fun id j hi=>?_,fun id hi=>?_,fun x hx=>?_,Int.le_trans h.len k.len,k.room.trans h.room,h.bE.trans k.bE⟩;rw[k.kind id (by omega),h.kind id hi];rw[k.val id j (by omega),h.val id j hi];rw[k.aB id (by omega),h.aB id hi];rw[k.holds x (by omega),h.holds x hx]
theorem Bv (hs:B.sl=A.sl) (hr:B.room=A.room):vB A B:=by
 have h0:∀id,B.bP id=A.bP id:=fun id=>by unfold bP has;rw[hs]
 refine⟨fun id _=>by unfold Ar.kind;rw[h0],fun id i _=>by unfold Ar.val;rw[h0],fun id _=>by unfold aB;rw[h0],fun x _=>by unfold Ar.holds;rw[h0],?_,hr,fun id k vs e=>by rw[h0];exact e⟩;unfold Ar.len;rw[hs];exact Int.le_refl _
theorem HF {xs:List Slot} (hs:B.sl=A.sl++xs) (hr:B.room=A.room):vB A B:=by
 have h1:vB A {A with sl:=A.sl++xs}:=Gr.jZ (xs:=xs) rfl;exact h1.trans (Bv hs hr)
def yc (A B:Ar):Prop:=∀m,A.kind m=0->B.kind m=4->B.st m= -1
theorem yc.trans (g:vB A B) (k:vB B C) (h:yc A B) (l:yc B C) (tB:c9 B K root):yc A C:=fun m h0 h4=>by
 by_cases z:B.kind m=0;exact l m z h4;have e:=k.ext.kind m z;have b4:=e.symm.trans h4;have:=h m h0 b4;have hl:=aF (A:=B) (id:=m) z;unfold Ar.st at*;rw[k.holds _ (by omega)];exact this
theorem CJ {xs:List Slot} (hs:B.sl=A.sl++xs) (hr:B.room=A.room) (hx:∀x∈xs,∀vs,x≠ .cg 4 vs):yc A B:=fun m h0 h4=>by
 obtain⟨vs,e⟩:=nE (A:=B) (id:=m) (by rw[h4];decide)
 have e':({A with sl:=A.sl++xs}:Ar).bP m=some (.cg 4 vs):=by
  rw[h4]at e;unfold bP has at e⊢;rw[hs]at e;exact e
 rcases Gr.from (A:=A) (B:={A with sl:=A.sl++xs}) (xs:=xs) rfl e' with q| ⟨i,_,q⟩;have:=jY q;rw[h0]at this;cases this;exact absurd rfl (hx _ (List.mem_of_getElem? q) vs)
structure Mk (A B:Ar):Prop where
 ok:B.Ok
 jZ:vB A B
 n4:yc A B
 tc:∀c,A.len<c->B.TC c->A.len<B.holds c
 st:∀b,A.len<b->dr B b-> -1000000<=B.val b 1/\B.val b 1<=1000000
 n7:∀S,A.len<S->B.kind S≠7
theorem Mk.refl {A:Ar} (h:A.Ok):Mk A A:=by
 refine⟨h,Bv rfl rfl,fun m h0 h4=>?_,fun c h t=>?_,fun b h q=>?_,fun S h q=>?_⟩;rw[h0]at h4;cases h4;have:=(dc t.1).2;omega;have:=(aF (A:=A) q.ne).2;omega;have:=(aF (A:=A) (id:=S) (by rw[q];decide)).2;omega
theorem Mk.trans (t:c9 B K root) (h:Mk A B) (k:Mk B C):Mk A C:=by
 have l:=h.jZ.len;refine⟨k.ok,h.jZ.trans k.jZ,yc.trans h.jZ k.jZ h.n4 k.n4 t,fun c hc tc=>?_,fun b hb q=>?_,fun S hS q=>?_⟩;by_cases z:B.len<c;have:=k.tc c z tc;omega;rw[k.jZ.holds c (by omega)];have hcell:B.aB c=true:=by rw[<-k.jZ.aB c (by omega)];exact tc.1
 by_cases z2:c+1<=B.len;exact h.tc c hc ⟨hcell,by rw[<-k.jZ.kind _ z2];exact tc.2⟩;have e:c=B.len:=by omega
 rw[e]at hcell tc;have full:=t.Mx hcell;have k1:=aF (A:=C) (id:=B.len+1) (by rw[tc.2];decide);have r:=k.jZ.room;have okC:=k.ok;unfold Ar.Ok at okC;unfold Ar.len at*;omega;by_cases z:B.len<b;exact k.st b z q;have e:=k.jZ.kind b (by omega);rw[k.jZ.val b 1 (by omega)];exact h.st b hb (by unfold dr at*;omega);by_cases z:B.len<S;exact k.n7 S z q;rw[k.jZ.kind S (by omega)]at q;exact h.n7 S hS q
def yd:Slot->Prop
 | .cg k vs=>k≠4/\k≠7/\(3<=k->k<=6-> -1000000<=vs.getD 1 0/\vs.getD 1 0<=1000000)
 | .cell _=>True
theorem oO {xs:List Slot} (hok:B.Ok) (hs:B.sl=A.sl++xs) (hr:B.room=A.room) (hx:∀x∈xs,yd x) (hc:∀(i:Nat) v vs,xs[i]? =some (.cell v)->xs[i+1]? =some (.cg 3 vs)->A.len<v):Mk A B:=by
 have fr:∀{id:Int} {s:Slot},B.bP id=some s->A.len<id->∃i:Nat,id=A.len+1+i/\xs[i]? =some s:=fun{id s} e hl=>by
  have e':({A with sl:=A.sl++xs}:Ar).bP id=some s:=by
   unfold bP has at e⊢;rw[hs]at e;exact e
  rcases Gr.from (A:=A) (B:={A with sl:=A.sl++xs}) (xs:=xs) rfl e' with q| ⟨i,a,b⟩;have:=(eT q).2;unfold Ar.len at hl;omega;exact⟨i,a,b⟩
 have rc:∀{id:Int},B.kind id≠0->A.len<id->∃(i:Nat) (vs:List Int),id=A.len+1+i/\xs[i]? =some (.cg (B.kind id) vs)/\yd (.cg (B.kind id) vs)/\B.val id 1=vs.getD 1 0:=fun{id} hk hl=>by
  obtain⟨vs,e⟩:=nE hk;obtain⟨i,a,b⟩:=fr e hl;refine⟨i,vs,a,b,hx _ (List.mem_of_getElem? b),?_⟩;unfold Ar.val;rw[e];simp only;split;rfl;rename_i h;rw[List.getD_eq_getElem?_getD,List.getElem?_eq_none (by omega)];rfl
 refine⟨hok,HF hs hr,CJ hs hr fun x h vs q=>?_,fun c hc' t=>?_,fun b hb q=>?_,fun S hS q=>?_⟩;subst q;exact(hx _ h).1 rfl;obtain⟨i,a,b⟩:=fr (iL t.1) hc';obtain⟨k,vs,a',b',_⟩:=rc (id:=c+1) (by rw[t.2];decide) (by omega);have:k=i+1:=by omega
 subst this;rw[t.2]at b';exact hc i _ vs b b';obtain⟨i,vs,_,_,d,e⟩:=rc q.ne hb;rw[e];exact d.2.2 q.1 q.2;obtain⟨i,vs,_,_,d,e⟩:=rc (id:=S) (by rw[q];decide) hS;exact d.2.1 q
theorem ye {N:Nat} {e:Int} (r:qK A N e B):Mk A B:=by
 obtain⟨_,hok,xs,g,_,hx⟩:=r;have h1:∀x∈xs,∃vs,x= .cg 1 vs:=hx;refine oO (xs:=xs) hok (by rw[g]) g.room (fun x h=>?_) fun i v vs a b=>?_;obtain⟨ws,e⟩:=h1 x h;subst e;exact⟨by decide,by decide,fun q _=>absurd q (by decide)⟩;obtain⟨ws,e⟩:=h1 _ (List.mem_of_getElem? a)
 cases e
theorem Ar.Inv.made (h:Inv A K g root) (o:vB A B) (n:yc A B) (t:c9 B K root) (j:Nat):Inv B K (g.g7 j A.len) root:=(h.grow o t n).g7 j _
end
section
variable {A B C:Ar} {K:eE} {root:Int}
structure HG (A C:Ar) (b n k:Int):Prop where
 new:A.len<n-5
 rt:C.kind n=2/\C.val n 0=k
 low:C.kind (n-4)=3/\C.holds (n-5)=n-4/\C.val (n-4) 2=n-5
 high:C.kind (n-2)=3/\C.holds (n-3)=n-2/\C.val (n-2) 2=n-3
 bp:C.bp b=C.bp (n-4)++C.bp (n-2)
 lt:(∀x∈C.bp (n-4),x.k<k)/\(∀x∈C.bp (n-2),k<=x.k)/\(∃x∈C.bp (n-4),True)/\∃x∈C.bp (n-2),x.k=k
theorem Bw {s:Sy} {b:Bs} {a:An} (t:c9 s.ar K root) (hb:jy s.ar b):
  (∃C,s.split b a=(s.bq C).ret a/\Mk s.ar C)\/∃C n k,s.split b a=(s.bq C).go (.swap b.home b.id n (.split a))/\Mk s.ar C/\HG s.ar C b.id n k:=by
 obtain⟨q1,l,q2,q3⟩:=t.bs hb;unfold Sy.split;rcases zG t.ok q2 with⟨_,e⟩| ⟨hlen,⟨x,hx,hok⟩,hres⟩;rw[e];dsimp only;rw[if_pos (by decide)];exact .inl ⟨_,rfl,.refl t.ok⟩;obtain⟨tB,xB⟩:=t.res hres;have mB:=ye hres;generalize s.ar.half b.af=z at hok tB xB mB;obtain⟨key,zl,zr,e,B⟩:=z;dsimp only at hok tB xB mB⊢;by_cases hne:e≠0;rw[if_pos hne];exact .inl ⟨_,rfl,mB⟩;rw[if_neg hne];have he:e=0:=by simpa using hne
 obtain⟨hkey,hl,hr⟩:=hok he;have kl:∃l,Tp B zl l/\∀x∈l,x.k∈K.keys:=⟨_,hl,fun x hx=>q3 x (List.mem_of_mem_take hx)⟩;have kr:∃l,Tp B zr l/\∀x∈l,x.k∈K.keys:=⟨_,hr,fun x hx=>q3 x (List.mem_of_mem_drop hx)⟩;rcases tB.cellOf (s:=s) kl with⟨e1,i1,C,c1,n1,tC,xC,fC,xs,sC,cx⟩| ⟨C,c1,tC,xC,cC,lC,hC,k3C,v0C,_,v2C,sC⟩;rw[c1];dsimp only;rw[sg fC];dsimp only;rw[lI fC];dsimp only;rw[iM fC (by decide) (by simp)];dsimp only;rw[if_pos (.inl n1)];exact .inl ⟨_,rfl,mB.trans tB (oO tC.ok sC xC.room (fun y hy=>by rw[cx y hy];trivial) fun i v vs p q=>by have:=cx _ (List.mem_of_getElem? q);cases this)⟩;rw[c1];dsimp only
 have m1C:Mk B C:=oO tC.ok sC xC.room (fun y hy=>by
  rcases List.mem_cons.1 hy with rfl|hy;trivial;rw[List.mem_singleton.1 hy];exact⟨by decide,by decide,fun _ _=>by simp⟩) fun i v vs p q=>by
  cases i with
  |zero=>simp at p;omega
  |succ i=>cases i<;>simp at p
 have mC:Mk s.ar C:=mB.trans tB m1C;have kr':∃l,Tp C zr l/\∀x∈l,x.k∈K.keys:=by obtain⟨l,a,b⟩:=kr;exact⟨l,a.bE xC.bE,b⟩
 rcases tC.cellOf (s:=s) kr' with⟨e2,i2,D,c2,n2,tD,xD,fD,xs,sD,cx⟩| ⟨D,c2,tD,xD,cD,lD,hD,k3D,v0D,_,v2D,sD⟩;rw[c2];dsimp only;rw[lI fD];dsimp only;rw[iM fD (by decide) (by simp)];dsimp only;rw[if_pos (.inr (.inl n2))];exact .inl ⟨_,rfl,mC.trans tC (oO tD.ok sD xD.room (fun y hy=>by rw[cx y hy];trivial) fun i v vs p q=>by have:=cx _ (List.mem_of_getElem? q);cases this)⟩;rw[c2];dsimp only
 have m1D:Mk C D:=oO tD.ok sD xD.room (fun y hy=>by
  rcases List.mem_cons.1 hy with rfl|hy;trivial;rw[List.mem_singleton.1 hy];exact⟨by decide,by decide,fun _ _=>by simp⟩) fun i v vs p q=>by
  cases i with
  |zero=>simp at p;omega
  |succ i=>cases i<;>simp at p
 have g1D:vB C D:=m1D.jZ;have mD:Mk s.ar D:=mC.trans tC m1D;rcases lF tD.ok (v:=0)with⟨e1,hf⟩| ⟨e1,ok1⟩;rw[e1];dsimp only;rw[iM (by unfold Ar.len;omega) (by decide) (by simp)];dsimp only;rw[if_pos (by simp)];exact .inl ⟨_,rfl,mD⟩;rw[e1];dsimp only;rcases fy ok1 (k:=2) (vs:=[key,B.len+1,C.len+1,(D.sl.length:Int)+1]) (by decide) (by simp)with⟨e2,hf⟩| ⟨e2,ok2⟩;rw[e2];dsimp only;rw[if_pos (by simp)];exact .inl ⟨_,rfl,mD.trans tD (oO (xs:=[.cell 0]) ok1 rfl rfl (fun y hy=>by rw[List.mem_singleton.1 hy];trivial) fun i v vs p q=>by cases i<;>simp at q)⟩;rw[e2];dsimp only;rw[if_neg (by simp)];have eq:({({D with sl:=D.sl++[.cell 0]}:Ar)with sl:=(D.sl++[.cell 0])++[.cg 2 [key,B.len+1,C.len+1,(D.sl.length:Int)+1]]}:Ar)={D with sl:=D.sl++[.cell 0,.cg 2 [key,B.len+1,C.len+1,(D.sl.length:Int)+1]]}:=by simp
 have en:((({D with sl:=D.sl++[.cell 0]}:Ar).sl.length:Nat):Int)+1=D.len+2:=by simp[Ar.len];omega
 rw[en];obtain⟨g2,k2,v2,l2,_,_⟩:=jx (A:=D) (w:=0) (k:=2) (vs:=[key,B.len+1,C.len+1,(D.sl.length:Int)+1]) _ rfl;have gE:vB D {D with sl:=D.sl++[.cell 0,.cg 2 [key,B.len+1,C.len+1,(D.sl.length:Int)+1]]}:=HF (xs:=[.cell 0,.cg 2 [key,B.len+1,C.len+1,(D.sl.length:Int)+1]]) rfl rfl
 refine .inr ⟨{D with sl:=D.sl++[.cell 0,.cg 2 [key,B.len+1,C.len+1,(D.sl.length:Int)+1]]},D.len+2,key,?_,mD.trans tD (oO (xs:=[.cell 0,.cg 2 [key,B.len+1,C.len+1,(D.sl.length:Int)+1]]) (by rw[<-eq];exact ok2) rfl rfl (fun y hy=>by
  rcases List.mem_cons.1 hy with rfl|hy;trivial;rw[List.mem_singleton.1 hy];exact⟨by decide,by decide,fun q _=>absurd q (by decide)⟩) fun i v vs p q=>by
  cases i with
  |zero=>simp at q
  |succ i=>cases i<;>simp at p),?_⟩
 rw[<-eq];have e5:D.len+2-5=B.len+1:=by omega
 have e4:D.len+2-4=B.len+2:=by omega
 have e3:D.len+2-3=C.len+1:=by omega
 have e2':D.len+2-2=C.len+2:=by omega
 have hg:=mB.jZ.len;have v0:=v2 0 _ rfl;generalize({D with sl:=D.sl++[.cell 0,.cg 2 [key,B.len+1,C.len+1,(D.sl.length:Int)+1]]}:Ar)=E at gE k2 v0;have gCE:=g1D.trans gE;have xE:=gE.ext;have xCE:=gCE.ext;have kl3:C.kind (B.len+2)≠0:=by rw[k3C];decide
 have kr3:D.kind (C.len+2)≠0:=by rw[k3D];decide
 have bl:E.bp (B.len+2)=l.take (l.length/2):=by
  unfold Ar.bp;rw[xCE.val _ 0 kl3,v0C];exact((hl.bE xC.bE).bE xCE.bE).ps
 have br:E.bp (C.len+2)=l.drop (l.length/2):=by
  unfold Ar.bp;rw[xE.val _ 0 kr3,v0D];exact(((hr.bE xC.bE).bE xD.bE).bE xE.bE).ps
 have bb:E.bp b.id=l:=by
  have xx:=xB.trans (xC.trans (xD.trans xE));unfold Ar.bp;rw[xx.val _ 0 hb.is.ne,<-hb.af];exact(q2.bE xx.bE).ps
 have tk:=Cj q2.iA hx;refine⟨by rw[e5];omega,⟨k2,v0⟩,?_,?_,?_,?_⟩;rw[e4,e5];exact⟨xCE.k k3C (by decide),by rw[gCE.holds _ (by omega)];exact hC,by rw[xCE.val _ 2 kl3];exact v2C⟩;rw[e2',e3];exact⟨xE.k k3D (by decide),by rw[gE.holds _ (by omega)];exact hD,by rw[xE.val _ 2 kr3];exact v2D⟩;rw[e4,e2',bb,bl,br,List.take_append_drop];rw[e4,e2',bl,br,hkey,<-tk.1,<-tk.2];refine⟨fun y hy=>(pe.1 hy).2,fun y hy=>(pf.1 hy).2,?_,x,pf.2 ⟨List.mem_of_getElem? hx,Int.le_refl _⟩,rfl⟩;rw[tk.1];have:0<(l.take (l.length/2)).length:=by rw[List.length_take];omega
 exact⟨_,List.getElem_mem this,trivial⟩
end
section
variable {A B C:Ar} {K:eE} {root:Int}
theorem wI (p:iH) (a b:Int): -1000000<=cS p a b/\cS p a b<=1000000:=yQ _
theorem lP (hok:A.Ok) {k:Int} {vs:List Int} (hk:1<=k) (h4:yd (.cg k vs)) (hl:vs.length<=12):
  A.make k vs=(0,2,A)\/∃B,A.make k vs=(A.len+1,0,B)/\Mk A B/\B.kind (A.len+1)=k/\∀(i:Nat) v,vs[i]? =some v->B.val (A.len+1) i=v:=by
 rcases fy hok hk hl with⟨e,_⟩| ⟨e,ok⟩;exact .inl e;obtain⟨g,a,b,c⟩:=s8 (A:=A) (k:=k) (vs:=vs) _ rfl;exact .inr ⟨_,e,oO (xs:=[.cg k vs]) ok rfl rfl (fun y hy=>by rw[List.mem_singleton.1 hy];exact h4) (fun i v ws p q=>by cases i<;>simp at p),a,b⟩
theorem D3 {s:Sy} {b:Bs} {p:Int} (t:c9 s.ar K root) (hb:jy s.ar b) (ho:eG s.th.op=true):
  Mk s.ar (s.made b p).2.2.2/\((s.made b p).2.2.1=0->s.ar.len<(s.made b p).1/\(s.made b p).2.2.2.kind (s.made b p).1=3/\(s.made b p).2.2.2.val (s.made b p).1 2=b.home/\
   (s.made b p).2.2.2.bp (s.made b p).1=(eB (s.ar.bp b.id) s.th.op).1/\(s.made b p).2.1=(eB (s.ar.bp b.id) s.th.op).2):=by
 obtain⟨q1,l,q2,q3⟩:=t.bs hb;obtain⟨r1,r2⟩:=Ci t.ok q2 ho;obtain⟨tB,xB⟩:=t.res r1;have mB:=ye r1;have bl:s.ar.bp b.id=l:=by unfold Ar.bp;rw[<-hb.af];exact q2.ps
 by_cases he:(ed s.ar s.th.op b.af).2.2.2.1≠0;rw[lG he];exact⟨mB,fun q=>absurd q he⟩;rw[jw he];dsimp only;obtain⟨r3,r4⟩:=r2 (by simpa using he);rcases lP tB.ok (k:=3) (vs:=[(ed s.ar s.th.op b.af).1,cS s.cF p (if s.th.late then 1 else 2),b.home]) (by decide) ⟨by decide,by decide,fun _ _=>wI _ _ _⟩ (by simp)with e| ⟨C,e,m,hk,hv⟩;rw[e];exact⟨mB,fun q=>by cases q⟩;rw[e];dsimp only;have v0:=hv 0 _ rfl;have v2:=hv 2 _ rfl;simp only[Int.natCast_zero,Int.cast_ofNat_Int]at v0 v2;have g:=m.jZ;refine⟨mB.trans tB m,fun _=>⟨by have:=mB.jZ.len;omega,hk,v2,?_,by rw[bl];exact r4⟩⟩;rw[bl];unfold Ar.bp;rw[v0];exact(r3.bE g.bE).ps
end
section
variable {A B C:Ar} {K:eE} {root:Int}
theorem yf {a b:Int} (h:B.val a 0=A.val b 0) {l:List Pr} (ht:Tp A (A.val b 0) l) (k:kg A B):B.bp a=A.bp b:=by
 unfold Ar.bp;rw[h,(ht.bE k).ps,ht.ps]
theorem va {s:Sy} {j:Jo} {n:Bs} (t:c9 s.ar K root) (hb:jy s.ar j.main.b) (hst: -1000000<=j.main.b.stat/\j.main.b.stat<=1000000):
  (∃C,s.aL j n=(s.bq C).ret j.cR/\Mk s.ar C)\/∃C m,s.aL j n=(s.bq C).go (.swap j.main.b.home j.main.b.id m (.aL j n m))/\Mk s.ar C/\s.ar.len<m/\C.kind m=4/\C.val m 2=j.main.b.home/\C.st m= -1/\C.bp m=s.ar.bp j.main.b.id:=by
 obtain⟨q1,l,q2,q3⟩:=t.bs hb;unfold Sy.aL;rcases lF t.ok (v:= -1)with⟨e1,hf⟩| ⟨e1,ok1⟩;rw[e1];dsimp only;rw[iM (by unfold Ar.len;omega) (by decide) (by simp)];dsimp only;rw[if_pos (by simp)];exact .inl ⟨_,rfl,.refl t.ok⟩;rw[e1];dsimp only;rcases fy ok1 (k:=4) (vs:=[j.main.b.af,j.main.b.stat,j.main.b.home,(s.ar.sl.length:Int)+1]) (by decide) (by simp)with⟨e2,hf⟩| ⟨e2,ok2⟩;rw[e2];dsimp only;rw[if_pos (by simp)];exact .inl ⟨_,rfl,oO (xs:=[.cell (-1)]) ok1 rfl rfl (fun y hy=>by rw[List.mem_singleton.1 hy];trivial) fun i v vs p q=>by cases i<;>simp at q⟩;rw[e2];dsimp only;rw[if_neg (by simp)];have eq:({({s.ar with sl:=s.ar.sl++[.cell (-1)]}:Ar)with sl:=(s.ar.sl++[.cell (-1)])++[.cg 4 [j.main.b.af,j.main.b.stat,j.main.b.home,(s.ar.sl.length:Int)+1]]}:Ar)={s.ar with sl:=s.ar.sl++[.cell (-1),.cg 4 [j.main.b.af,j.main.b.stat,j.main.b.home,(s.ar.sl.length:Int)+1]]}:=by simp
 have en:((({s.ar with sl:=s.ar.sl++[.cell (-1)]}:Ar).sl.length:Nat):Int)+1=s.ar.len+2:=by simp[Ar.len];omega
 rw[en];obtain⟨g2,k2,v2,l2,c2,h2⟩:=jx (A:=s.ar) (w:= -1) (k:=4) (vs:=[j.main.b.af,j.main.b.stat,j.main.b.home,(s.ar.sl.length:Int)+1]) _ rfl;have gE:vB s.ar {s.ar with sl:=s.ar.sl++[.cell (-1),.cg 4 [j.main.b.af,j.main.b.stat,j.main.b.home,(s.ar.sl.length:Int)+1]]}:=Gr.jZ g2;have v0:=v2 0 _ rfl;have v1:=v2 1 _ rfl;have v22:=v2 2 _ rfl;simp only[Int.natCast_zero,Int.natCast_one,Int.cast_ofNat_Int]at v0 v1 v22;refine .inr ⟨{s.ar with sl:=s.ar.sl++[.cell (-1),.cg 4 [j.main.b.af,j.main.b.stat,j.main.b.home,(s.ar.sl.length:Int)+1]]},s.ar.len+2,by rw[<-eq],⟨by rw[<-eq];exact ok2,gE,?_,fun c hc tc=>?_,fun b hb' q=>?_,fun S hS q=>?_⟩,by omega,k2,v22,?_,?_⟩;intro m h0 h4;have hm:=aF (A:=_) (id:=m) (show({s.ar with sl:=s.ar.sl++[.cell (-1),.cg 4 [j.main.b.af,j.main.b.stat,j.main.b.home,(s.ar.sl.length:Int)+1]]}:Ar).kind m≠0 by rw[h4];decide)
 have:m=s.ar.len+2:=by
  by_cases z:m<=s.ar.len;rw[gE.kind m z,h0]at h4;cases h4;by_cases z2:m=s.ar.len+1;rw[z2]at h4;have:=(gX c2).symm.trans h4;cases this;have hm2:m<=s.ar.len+2:=Int.le_trans hm.2 (Int.le_of_eq l2);omega
 rw[this];unfold Ar.st;rw[show s.ar.len+2-1=s.ar.len+1 by omega];exact h2;have hm:=dc tc.1;have hm2:c<=s.ar.len+2:=Int.le_trans hm.2 (Int.le_of_eq l2);by_cases z:c=s.ar.len+1;have:=tc.2;rw[z,show s.ar.len+1+1=s.ar.len+2 by omega,k2]at this;cases this;have:=gX tc.1;rw[show c=s.ar.len+2 by omega,k2]at this;cases this;have hm:=aF q.ne;have hm2:b<=s.ar.len+2:=Int.le_trans hm.2 (Int.le_of_eq l2);by_cases z:b=s.ar.len+1;exact absurd (by rw[z];exact gX c2) q.ne;rw[show b=s.ar.len+2 by omega,v1];exact hst;have hm:=aF (id:=S) (k0 q (by decide));have hm2:S<=s.ar.len+2:=Int.le_trans hm.2 (Int.le_of_eq l2);by_cases z:S=s.ar.len+1;rw[z,gX c2]at q;cases q;rw[show S=s.ar.len+2 by omega,k2]at q;cases q;unfold Ar.st;rw[show s.ar.len+2-1=s.ar.len+1 by omega];exact h2;exact yf (by rw[v0,hb.af]) (by rw[<-hb.af];exact q2) gE.bE
end
section
variable {A:Ar} {K:eE} {root:Int}
theorem HH (t:c9 A K root) {l r:Int} {la lb:List Pr} (a1:Tp A l la) (b1:Tp A r lb) (a2:∀x∈la,x.k∈K.keys) (b2:∀x∈lb,x.k∈K.keys):
  Mk A (A.two l r).2.2/\c9 (A.two l r).2.2 K root/\((A.two l r).2.1=0->Tp (A.two l r).2.2 (A.two l r).1 (la++lb)):=by
 by_cases hc:(A.g6 l).2=true/\(A.ig r).2=true/\(A.ig r).1.k<=(A.g6 l).1.k;have:A.two l r=(0,1,A):=by unfold two;rw[if_pos (.inr (.inr hc))]
 rw[this];exact⟨.refl t.ok,t,fun q=>by cases q⟩
 have hab:∀x∈la,∀y∈lb,x.k<y.k:=by
  intro x hx y hy;rcases a1.g6 with⟨rfl,_⟩| ⟨p,l',rfl,e1⟩
  cases hx
  rcases b1.ig with⟨rfl,_⟩| ⟨q,l'',rfl,e2⟩
  cases hy
  rw[e1,e2]at hc;have h1:¬q.k<=p.k:=fun q=>hc ⟨rfl,rfl,q⟩
  have h2:x.k<=p.k:=by
   rcases List.mem_append.1 hx with hx|hx;have:=(List.pairwise_append.1 a1.iA).2.2 x hx p (List.mem_singleton.2 rfl);omega;rw[List.mem_singleton.1 hx];omega
  have h3:q.k<=y.k:=by
   rcases List.mem_cons.1 hy with rfl|hy;omega;have:=(List.pairwise_cons.1 b1.iA).1 y hy;omega
  omega
 obtain⟨r1,r2⟩:=xS t.ok a1 b1 hab;exact⟨ye r1,(t.res r1).1,r2⟩
end
structure gB (A:Ar) (b:Int):Prop where
 fb:nR A b
 sN:A.kind b=6->A.holds (A.val b 3-1)≠0
def Gh.Cf (g:Gh) (c:Int) (f:Fo) (key:Int):Prop:=g.Cv c key (if f.cY then f.dW else eU)
def SB (b:Bs):Prop:= -1000000<=b.stat/\b.stat<=1000000
structure HI (K:eE) (g:Gh) (root:Int) (f:Fo) (key:Int):Prop where
 dW:f.cY=true->f.dW∈K.keys
 at_:g.Cf f.cell f key
 up:f.up≠0->g.rt f.up/\(f.cell=f.up-5\/f.cell=f.up-3)
 top:f.up=0->f.cell=root
structure D4 (K:eE) (g:Gh) (root:Int) (f:Fo) (key:Int):Prop where
 fo:HI K g root f key
 home:g.Cf f.b.home f key
 st:SB f.b
def Ah (o:bA) (ls:List (List Pr)):An:=ls.foldl (fun a l=>if o.kind=6 then{a with n:=IntKind.i64.wrap (a.n+((dG l o.key o.hi).length:Int))}
  else{a with l:=a.l++dG l o.key o.hi,n:=((a.l++dG l o.key o.hi).length:Int)}) .zero
def D5 (o:bA) (a:An) (l:List Pr):An:=match(if o.kind=8 then l.getLast? else l.head?)with
 |some p=>if a.ok=false\/o.kind=8 then⟨0,true,p,0,[]⟩else a
 |none=>a
def qE (o:bA) (ls:List (List Pr)):An:=ls.foldl (D5 o) .zero
def qF (o:bA) (ls:List (List Pr)):An:=if o.kind=7\/o.kind=8 then qE o ls else Ah o ls
def HJ (o:bA):Prop:=fM<=o.key/\o.key<eU/\fM<=o.hi/\o.hi<eU
def GI (o:bA) (key:Int):KG->Prop
 | .qV=>o.kind=4/\key=o.key
 | .ends=>(o.kind=7/\key=Ar.jP)\/(o.kind=8/\key=Ar.jf)
 | .dL=>(o.kind=5\/o.kind=6)/\key=o.key/\o.key<=o.hi
def WI (o:bA) (lo hi q:Int):KW->Prop
 | .ends=>(o.kind=7\/o.kind=8)/\lo=Ar.jP/\hi=Ar.jf/\q=1
 | .dL=>(o.kind=5\/o.kind=6)/\lo=o.key/\hi=o.hi/\q=0/\o.key<=o.hi
def PX (o:bA) (lo hi q:Int):Prop:=WI o lo hi q .ends\/WI o lo hi q .dL
structure gS (c:Int) (A:Ar) (g:Gh) (B:Ar) (g':Gh):Prop where
 eK:g'.eK c=g.eK c
 cT:∀a,g.cT c=some a->g'.cT c=some a
 ef:∀S,B.kind S=7->A.kind S=0->B.val S 4≠c
 PY:g'.cT c=g.cT c\/∃S,A.kind S=7/\A.val S 4=c/\A.holds (S-1)=0/\B.kind (B.holds (S-1))=9
 res:∀S l,A.kind S=7->A.val S 4=c->A.holds (S-1)=0->B.kind (B.holds (S-1))=9->Rs B (B.holds (S-1)) l->g'.cT c=some (qF (g.eK c) (l.map B.bp))
def oQ (A:Ar) (g:Gh) (c:Int):Prop:=g.cT c=none/\∀S,A.kind S=7->A.val S 4=c->A.holds (S-1)= -1
structure Ai (A:Ar) (g:Gh) (c:Int) (o:bA) (S:Int):Prop where
 k:A.kind S=7/\A.val S 4=c
 op:g.eK c=o
 one:∀S',A.kind S'=7->A.val S' 4=c->S'≠S->A.holds (S'-1)= -1
 no:A.holds (S-1)=0\/A.holds (S-1)= -1->g.cT c=none
 yes:∀l,A.kind (A.holds (S-1))=9->Rs A (A.holds (S-1)) l->g.cT c=some (qF o (l.map A.bp))
inductive yp (A:Ar) (g:Gh) (S lo:Int):List Int->Int->Prop
 |nil:yp A g S lo [] lo
 |snoc {l:List Int} {b k k':Int}:yp A g S lo l k->A.kind b=6->A.val b 3=S->g.Cv (A.val b 2) k k'->l.getLast?≠some b->yp A g S lo (l++[b]) k'
 |more {l:List Int} {b k k':Int}:yp A g S lo l k->l.getLast?=some b->g.Cv (A.val b 2) k k'->yp A g S lo l k'
structure wJ (K:eE) (A:Ar) (g:Gh) (j:Jb) (key:Int):Prop where
 gN:∃ks:List Int,ks.Pairwise (·<·)/\(∀x∈ks,x∈K.keys/\x<=key)/\j.au.length<=ks.length
 lo:A.val j.store.id 0<=key
 hi:key<=A.val j.store.id 1
 PZ:yp A g j.store.id (A.val j.store.id 0) j.au key
 at_:A.holds (j.store.id-1)=0->∀b∈j.au,A.holds (A.val b 2)=b
def oz (K:eE) (A:Ar) (g:Gh) (o:bA) (c:Int):Int->KR->Prop
 |S,.whole lo hi q w=>Ai A g c o S/\A.val S 0=lo/\A.val S 1=hi/\A.val S 3=q/\WI o lo hi q w
 |_,.looks key k=>oQ A g c/\GI o key k
 |_,.update=>oQ A g c/\eG o=true
 |_,.leaf j key r=>wJ K A g j key/\oz K A g o c j.store.id r
def El (K:eE) (A:Ar) (g:Gh) (o:bA) (c:Int):KU->Prop
 | .looks key k=>oQ A g c/\GI o key k
 | .update=>oQ A g c/\eG o=true
 | .leaf j key r=>wJ K A g j key/\oz K A g o c j.store.id r
def vl (K:eE) (A:Ar) (g:Gh) (o:bA) (c:Int):KT->Prop
 | .ret a=>g.cT c=some a
 | .u u=>El K A g o c u
def Ic (K:eE) (A:Ar) (g:Gh) (o:bA) (c:Int) (key:Int):KF->Prop
 | .looks key' k=>key'=key/\oQ A g c/\GI o key k
 | .update=>oQ A g c/\eG o=true/\key=o.key
 | .aA b a=>g.cT c=some a/\SB b/\gB A b.id/\(A.kind b.id=3\/A.kind b.id=6)
 | .leaf j key' r=>key'=key/\wJ K A g j key/\oz K A g o c j.store.id r
section
variable {i:Nat} {A B:Ar} {K:eE} {g g1:Gh} {root c:Int} {o:bA}
theorem gB.rel {b:Int} (t:c9 A K root) (h:gB A b) (r:Rel i A g B g1):gB B b:=by
 have hn:=h.fb.is.ne;refine⟨nR.rel t h.fb r,fun k=>?_⟩;rw[r.ext.kind b hn]at k;have k7:=(t.cg b hn).sN k;rw[r.ext.val b 3 hn];have sc:=(t.cg _ (k0 k7 (by decide))).ef k7;have rc:A.RC (A.val b 3-1):=⟨sc.2,by rw[show A.val b 3-1+1=A.val b 3 by omega];exact k7⟩;rw[r.ext.oL _ rc (h.sN k)];exact h.sN k
theorem Gh.Cv.rel {x k m:Int} (h:g.Cv x k m) (r:Rel i A g B g1):g1.Cv x k m:=by
 obtain⟨a,lo,hi,e,b,d⟩:=h;obtain⟨l',h',e',p,q⟩:=r.iv x lo hi e;exact⟨a,l',h',e',by omega,by omega⟩
theorem Gh.Cv.In {x k m:Int} (h:g.Cv x k m):g.In x k:=by
 obtain⟨a,lo,hi,e,b,d⟩:=h;exact⟨lo,hi,e,b,by omega⟩
theorem Gh.JZ.Cv {x y k m:Int} (h:g.JZ x y) (q:g.Cv x k m):g.Cv y k m:=by
 obtain⟨l,v,l',v',e,e',a,b⟩:=h;obtain⟨z,l0,v0,e0,p,p'⟩:=q;rw[e]at e0;cases e0;exact⟨z,l',v',e',by omega,by omega⟩
theorem HI.rel {f:Fo} {key:Int} (h:HI K g root f key) (r:Rel i A g B g1):HI K g1 root f key:=⟨h.dW,h.at_.rel r,fun q=>⟨(r.rt _ (h.up q).1).1,(h.up q).2⟩,h.top⟩
theorem D4.rel {f:Fo} {key:Int} (h:D4 K g root f key) (r:Rel i A g B g1):D4 K g1 root f key:=⟨h.fo.rel r,h.home.rel r,h.st⟩
theorem Ar.c9.Ie (t:c9 A K root) {S:Int} (h:A.kind S=7):A.RC (S-1):=
 ⟨((t.cg S (k0 h (by decide))).ef h).2,by rw[show S-1+1=S by omega];exact h⟩
theorem oQ.rel (t:c9 A K root) (h:oQ A g c) (x:Ext A B) (r:gS c A g B g1):oQ B g1 c:=by
 have bZ:∀S,B.kind S=7->B.val S 4=c->A.kind S=7/\A.val S 4=c:=fun S a b=>by
  have n:A.kind S≠0:=fun q=>r.ef S a q b;rw[x.kind S n]at a;rw[x.val S 4 n]at b;exact⟨a,b⟩
 refine⟨?_,fun S a b=>?_⟩;rcases r.PY with q| ⟨S,a,b,d,_⟩;rw[q];exact h.1;rw[h.2 S a b]at d;omega;obtain⟨p,q⟩:=bZ S a b;have:=h.2 S p q;rw[x.oL _ (t.Ie p) (by omega)];exact this
theorem Ar.Rs.Nr {r:Int} {l m:List Int} (h:Rs A r l) (k:Rs A r m):l=m:=by
 have:=h.au.symm.trans k.au;cases this;rfl
theorem CK (t:c9 A K root) (e:Ext A B) {l:List Int} (h:∀b∈l,dr A b):l.map B.bp=l.map A.bp:=List.map_congr_left fun b hb=>dJ t e (h b hb)
theorem MU (t:c9 A K root) {r:Int} (hk:A.kind r=9) {l:List Int} (h:Rs A r l):∀b∈l,dr A b:=by
 obtain⟨m,a,_,_,d⟩:=(t.cg r (k0 hk (by decide))).res hk;rw[h.Nr a];exact d
theorem Ai.rel {S:Int} (t:c9 A K root) (h:Ai A g c o S) (x:Ext A B) (r:gS c A g B g1):Ai B g1 c o S:=by
 have hn:=k0 h.k.1 (by decide);have rc:=t.Ie h.k.1;have hone:∀S',A.kind S'=7->A.val S' 4=c->A.holds (S'-1)=0->S'=S:=fun S' a b d=>Classical.byContradiction fun q=>by rw[h.one S' a b q]at d;omega
 refine⟨⟨x.k h.k.1 (by decide),by rw[x.val S 4 hn];exact h.k.2⟩,r.eK.trans h.op,fun S' a b d=>?_,fun q=>?_,fun l k9 rs=>?_⟩;have n:A.kind S'≠0:=fun q=>r.ef S' a q b;rw[x.kind S' n]at a;rw[x.val S' 4 n]at b;have:=h.one S' a b d;rw[x.oL _ (t.Ie a) (by omega)];exact this
 have q0:A.holds (S-1)=0\/A.holds (S-1)= -1:=by
  by_cases z:A.holds (S-1)=0;exact .inl z;rw[x.oL _ rc z]at q;exact q
 rcases r.PY with e| ⟨S',a,b,d,f⟩;rw[e];exact h.no q0;rw[hone S' a b d]at f;exact absurd f (by rcases q with q|q<;>exact fa (by omega) (by decide));by_cases z:A.holds (S-1)=0;rw[r.res S l h.k.1 h.k.2 z k9 rs,h.op];rw[x.oL _ rc z]at k9 rs
 have k9':A.kind (A.holds (S-1))=9:=by
  rcases(t.mq _).rc rc with q|q|q;exact absurd q z;exact absurd k9 (fa (by omega) (by decide));exact q
 obtain⟨m,a,_,_,d⟩:=(t.cg _ (k0 k9' (by decide))).res k9';have:l=m:=rs.Nr (a.ext x);subst this;rw[CK t x d];exact r.cT _ (h.yes _ k9' a)
theorem yp.rel {S lo k:Int} {l:List Int} (h:yp A g S lo l k) (r:Rel i A g B g1):yp B g1 S lo l k/\∀b∈l,A.kind b=6:=by
 induction h with
 |nil=>exact⟨.nil,fun b hb=>by cases hb⟩
 | @snoc l b k k' h1 a d e f ih=>
  have hn:=k0 a (by decide);refine⟨.snoc ih.1 (r.ext.k a (by decide)) (by rw[r.ext.val _ _ hn];exact d) (by rw[r.ext.val _ _ hn];exact e.rel r) f,fun x hx=>?_⟩;rcases List.mem_append.1 hx with hx|hx;exact ih.2 x hx;rw[List.mem_singleton.1 hx];exact a
 | @more l b k k' h1 a d ih=>
  have hn:=k0 (ih.2 b (List.mem_of_getLast? a)) (by decide);exact⟨.more ih.1 a (by rw[r.ext.val _ _ hn];exact d.rel r),ih.2⟩
theorem yp.ef {S lo k:Int} {l:List Int} (h:yp A g S lo l k):∀b∈l,A.kind b=6/\A.val b 3=S:=by
 induction h with
 |nil=>intro b hb;cases hb
 | @snoc l b k k' h1 a d e f ih=>
  intro x hx;rcases List.mem_append.1 hx with hx|hx;exact ih x hx;rw[List.mem_singleton.1 hx];exact⟨a,d⟩
 | @more l b k k' h1 a d ih=>exact ih
theorem qG {S lo k:Int} {l:List Int} (t:c9 A K root) (h:yp A g S lo l k) (k7:A.kind S=7) (hp:A.holds (S-1)=0->∀b∈l,A.holds (A.val b 2)=b) (r:Rel i A g B g1):B.holds (S-1)=0->∀b∈l,B.holds (B.val b 2)=b:=fun q b hb=>by
 obtain⟨a,d⟩:=h.ef b hb;have z:A.holds (S-1)=0:=Classical.byContradiction fun z=>z (by rw[<-r.ext.oL _ (t.Ie k7) z];exact q);rw[r.ext.val b 2 (k0 a (by decide))];exact r.sN b a (by rw[d];exact k7) (by rw[d];exact q) (hp z b hb)
theorem wJ.rel {j:Jb} {key:Int} (t:c9 A K root) (k7:A.kind j.store.id=7) (h:wJ K A g j key) (r:Rel i A g B g1):wJ K B g1 j key:=by
 have hn:=k0 k7 (by decide);refine⟨h.gN,by rw[r.ext.val _ _ hn];exact h.lo,by rw[r.ext.val _ _ hn];exact h.hi,by rw[r.ext.val _ _ hn];exact(h.PZ.rel r).1,qG t h.PZ k7 h.at_ r⟩
theorem oz.rel (t:c9 A K root) {N:Nat} (r:Rel i A g B g1) (rc:gS c A g B g1):∀{k:KR} {S:Int},qL A K N o k->oz K A g o c S k->oz K B g1 o c S k
 | .whole lo hi q w,S,_,⟨a,b,d,e,f⟩=>by
  have hn:=k0 a.k.1 (by decide);exact⟨a.rel t r.ext rc,by rw[r.ext.val _ _ hn];exact b,by rw[r.ext.val _ _ hn];exact d,by rw[r.ext.val _ _ hn];exact e,f⟩
 | .looks ..,_,_,h=>⟨h.1.rel t r.ext rc,h.2⟩
 | .update,_,_,h=>⟨h.1.rel t r.ext rc,h.2⟩
 | .leaf j key k,_,ht,h=>⟨h.1.rel t ht.1.ef r,oz.rel t r rc ht.2 h.2⟩
theorem El.rel (t:c9 A K root) {N:Nat} (r:Rel i A g B g1) (rc:gS c A g B g1):∀{k:KU},zK A K N o k->El K A g o c k->El K B g1 o c k
 | .looks ..,_,h=>⟨h.1.rel t r.ext rc,h.2⟩
 | .update,_,h=>⟨h.1.rel t r.ext rc,h.2⟩
 | .leaf j key k,ht,h=>⟨h.1.rel t ht.1.ef r,oz.rel t r rc ht.2 h.2⟩
theorem vl.rel (t:c9 A K root) {N:Nat} (r:Rel i A g B g1) (rc:gS c A g B g1):∀{k:KT},vk A K N o k->vl K A g o c k->vl K B g1 o c k
 | .ret a,_,h=>rc.cT _ h
 | .u u,ht,h=>El.rel (N:=N) t r rc ht h
theorem wK (x:Ext A B) {b k:Int} (hb:dr A b) (h:A.kind b=k):B.kind b=k:=by rw[x.kind b hb.ne];exact h
theorem Ic.rel (t:c9 A K root) {N:Nat} {key:Int} (r:Rel i A g B g1) (rc:gS c A g B g1):∀{k:KF},Ei A K N o k->Ic K A g o c key k->Ic K B g1 o c key k
 | .looks ..,_,h=>⟨h.1,h.2.1.rel t r.ext rc,h.2.2⟩
 | .update,_,h=>⟨h.1.rel t r.ext rc,h.2⟩
 | .aA b a,_,h=>⟨rc.cT _ h.1,h.2.1,h.2.2.1.rel t r,h.2.2.2.imp (wK r.ext h.2.2.1.fb.is) (wK r.ext h.2.2.1.fb.is)⟩
 | .leaf j key' k,ht,h=>⟨h.1,h.2.1.rel t ht.1.ef r,oz.rel t r rc ht.2 h.2.2⟩
end
structure Em (g:Gh) (j:Jo):Prop where
 st:SB j.main.b
 u:g.rt j.up.id
 hm:j.main.b.home=if j.right then j.up.id-3 else j.up.id-5
 gN:j.aU.length<=2
def Ig (g:Gh) (j:Jo) (h:Int):Prop:=g.dn h/\(g.live (j.up.id-5)->g.In h (if j.right then g.key j.up.id-1 else g.key j.up.id))
structure D6 (A:Ar) (g:Gh) (i:Nat) (m:Int):Prop where
 k:A.kind m=4
 own:g.own m=i
 un:g.aa m=0
 pl:A.st m= -1->A.holds (A.val m 2)=m
structure P0 (A:Ar) (g:Gh) (j:Jo):Prop where
 k:A.kind j.ai.id=5
 m3:A.val j.ai.id 3=j.main.b.id
 pl:A.st j.main.b.id= -1->A.holds (A.val j.ai.id 2)=j.ai.id
 nb:Ig g j (A.val j.ai.id 2)
structure Ns (A:Ar) (g:Gh) (r m:Int):Prop where
 rt:g.rt r
 lk:A.holds (r-1)=m
 live:g.live (r-5)
structure CL (A:Ar) (g:Gh) (i:Nat) (j:Jo):Prop where
 jo:Em g j
 ma:D6 A g i j.main.b.id
 ne:P0 A g j
 lk:Ns A g j.up.id j.main.b.id
structure P1 (A:Ar) (g:Gh) (j:Jo):Prop where
 dn:g.dn j.cell
 at_:A.holds j.cell=j.up.id
structure Nt (A:Ar) (g:Gh) (root:Int) (j:Jo) (lock:Int):Prop where
 ce:P1 A g j
 lw:(lock=0/\j.cell=root)\/∃w,lock=w-1/\(j.cell=w-5\/j.cell=w-3)/\Ns A g w j.main.b.id
def Nu:KO->Bs
 | .update f=>f.b
 | .aA j n=>n
 | .leaf j key f r=>f.b
def CM (K:eE) (A:Ar) (g:Gh) (root:Int) (o:bA) (c:Int):KO->Prop
 | .update f=>D4 K g root f o.key/\oQ A g c/\eG o=true
 | .aA j n=>Em g j/\g.cT c=some j.cR/\gB A j.main.b.id/\Ig g j n.home/\SB n/\j.aU=[]/\(A.kind j.main.b.id=3\/A.kind j.main.b.id=6)
 | .leaf j key f r=>D4 K g root f key/\wJ K A g j key/\oz K A g o c j.store.id r
def J2 (K:eE) (A:Ar) (g:Gh) (root:Int) (i:Nat) (o:bA) (c:Int) (cell:Int):KV->Prop
 | .down f key k=>HI K g root f key/\Ic K A g o c key k
 | .cd f key k=>cell=f.b.id-1/\A.kind f.b.id=4/\f.cell=f.b.home/\D4 K g root f key/\(A.st f.b.id= -1->A.holds (A.val f.b.id 2)=f.b.id)/\oQ A g c/\GI o key k
 | .cB f key k=>A.kind f.b.id=4/\A.st f.b.id= -2/\f.cell=f.b.home/\D4 K g root f key/\oQ A g c/\GI o key k
 | .dm b k=>A.kind b.id=4/\cell=b.id-1/\Nu k=b/\CM K A g root o c k
 | .cN b k=>A.kind b.id=5/\cell=A.val b.id 3-1/\Nu k=b/\CM K A g root o c k
 | .cU b k=>A.kind b.id=6/\cell=A.val b.id 3-1/\Nu k=b/\CM K A g root o c k
 | .cE m u=>El K A g o c u
 | .mf right j=>right=j.right/\Em g j/\g.cT c=some j.cR/\gB A j.main.b.id/\Ib g j.up.id cell right/\g.dn cell/\j.aU=[]/\(A.kind j.main.b.id=3\/A.kind j.main.b.id=6)
 | .bh j up cell=>g.cT c=some j.cR/\CL A g i j/\j.aU.length<=1/\g.dn cell/\((up=0/\cell=root)\/(up≠0/\g.rt up/\(cell=up-5\/cell=up-3)))
 | .bH j lock=>g.cT c=some j.cR/\CL A g i j/\Nt A g root j lock/\cell=Sy.Jo.other j
 | .leaf j key f r=>D4 K g root f key/\wJ K A g j key/\oz K A g o c j.store.id r
 | .res j r=>oz K A g o c j.store.id r/\j.au.length<=K.keys.length+1
structure Ao (A:Ar) (g:Gh) (i:Nat) (cell bZ now:Int):Prop where
 dn:g.dn cell
 free:gB A bZ
 home:A.val bZ 2=cell
 own:g.own now=i
 lt:bZ<now
 nk:A.kind now≠0
structure Bx (A:Ar) (g:Gh) (root cell b n k:Int):Prop where
 rt:A.kind n=2/\A.val n 0=k
 low:A.kind (n-4)=3/\A.holds (n-5)=n-4/\A.val (n-4) 2=n-5
 high:A.kind (n-2)=3/\A.holds (n-3)=n-2/\A.val (n-2) 2=n-3
 bp:A.bp b=A.bp (n-4)++A.bp (n-2)
 lt:(∀x∈A.bp (n-4),x.k<k)/\(∀x∈A.bp (n-2),k<=x.k)/\(∃x∈A.bp (n-4),True)/\∃x∈A.bp (n-2),x.k=k
 W8:¬g.rt n
 A8:g.iv (n-5)=none
 A9:g.iv (n-3)=none
 mf:cell<n-5/\root+1<n-5
def Ih (K:eE) (A:Ar) (g:Gh) (root:Int) (i:Nat) (o:bA) (c:Int) (cell bZ now:Int):KB->Prop
 | .marks j key f id r=>now=id/\cell=f.b.home/\bZ=f.b.id/\Ao A g i cell bZ now/\A.kind id=6/\A.val id 2=cell/\A.val id 3=j.store.id/\A.bp id=A.bp bZ/\D4 K g root f key/\wJ K A g j key/\oz K A g o c j.store.id r
 | .results _ _ _=>False
 | .update id a=>now=id/\Ao A g i cell bZ now/\g.In cell o.key/\A.kind id=3/\A.val id 2=cell/\A.bp id=(eB (A.bp bZ) o).1/\a=(eB (A.bp bZ) o).2/\oQ A g c/\eG o=true
 | .split a=>Ao A g i cell bZ now/\(∃k,Bx A g root cell bZ now k)/\g.cT c=some a
 | .aL j n id=>now=id/\cell=j.main.b.home/\Ao A g i cell bZ now/\A.kind id=4/\A.val id 2=cell/\A.bp id=A.bp bZ/\g.aa id=0/\Em g j/\g.cT c=some j.cR/\Ig g j n.home/\SB n/\gB A n.id/\j.aU=[]
 | .aG j id=>now=id/\Ao A g i cell bZ now/\A.kind id=5/\A.val id 2=cell/\A.val id 3=j.main.b.id/\A.bp id=A.bp bZ/\Em g j/\D6 A g i j.main.b.id/\g.cT c=some j.cR/\Ig g j cell/\j.aU=[]
 | .bS j cell'=>cell'=cell/\cell=j.up.id-1/\bZ=0/\now=j.main.b.id/\Em g j/\D6 A g i j.main.b.id/\P0 A g j/\g.cT c=some j.cR/\j.aU=[]
 | .bO j cell' lock=>cell'=cell/\lock=cell/\bZ=0/\now=j.main.b.id/\CL A g i j/\j.aU.length<=1/\g.cT c=some j.cR/\P1 A g j/\∃w,g.rt w/\cell=w-1/\(j.cell=w-5\/j.cell=w-3)
 | .bW j last=>bZ=j.main.b.id/\now=0/\D6 A g i j.main.b.id/\g.cT c=some j.cR/\j.aU.length<=2
 | .cK t=>bZ= -1/\now= -2/\A.SC cell/\vl K A g o c t
 | .bH j id=>now=id/\cell=j.main.b.id-1/\bZ= -1/\(A.kind id=8/\A.kind (A.val id 0)=5/\A.val (A.val id 0) 3=j.main.b.id)/\(A.st j.main.b.id= -1->kS A j.main.b.id id/\Ag A g root j.main.b.id id j.right)/\g.own (A.val id 0)=i/\(∀x,A.TC x->A.holds x≠A.val id 0)/\D6 A g i j.main.b.id/\g.cT c=some j.cR/\j.aU.length<=2
 | .fQ m p t=>g.aa m.b.id=p.id/\cell=A.val p.ai 2/\bZ=p.ai/\now=p.dZ/\vl K A g o c t
 | .e8 m p t=>g.aa m.b.id=p.id/\cell=p.cell/\bZ=p.parent/\now=p.fu/\p.ai<A.holds (A.val p.ai 2)/\vl K A g o c t
 | .cZ m p t=>g.aa m.b.id=p.id/\cell=p.lock/\bZ=m.b.id/\now=0/\p.parent<A.holds p.cell/\vl K A g o c t
 | .cL t=>(∃m,A.kind m=4/\cell=m-1/\g.aa m=bZ/\bZ≠0/\now= -3/\A.val bZ 2<A.holds (A.val bZ 3))/\vl K A g o c t
def CN (K:eE) (A:Ar) (g:Gh) (root:Int) (i:Nat) (o:bA) (c:Int):Nx->Prop
 | .load cell k=>J2 K A g root i o c cell k
 | .swap cell bZ now k=>Ih K A g root i o c cell bZ now k
 | .once cell v k=>∃j r,k= .results j v r/\oz K A g o c j.store.id r/\j.au.length<=K.keys.length+1/\(v≠-1->∃key,yp A g j.store.id (A.val j.store.id 0) j.au key/\A.val j.store.id 1<key/\Rs A v j.au/\(A.holds (j.store.id-1)=0->∀b∈j.au,A.holds (A.val b 2)=b))
 | .zero=>oQ A g c/\(o.kind=5\/o.kind=6)/\o.hi<o.key
section
variable {i:Nat} {A B:Ar} {K:eE} {g g1:Gh} {root c:Int} {o:bA}
def Qt (A:Ar) (g:Gh):Prop:=∀m,g.aa m≠0->g.dn (A.val (g.aa m) 3)/\g.dn (A.val (A.val (g.aa m) 1) 2)
theorem Em.rel {j:Jo} (h:Em g j) (r:Rel i A g B g1):Em g1 j:=⟨h.st,(r.rt _ h.u).1,h.hm,h.gN⟩
theorem D7 (h:Inv A K g root) (r:Rel i A g B g1) {u:Int} (hu:g.rt u) (hl:g1.live (u-5)):g.live (u-5):=
 Classical.byContradiction fun z=>(r.dead _ (Ar.lN.yb h.sk hu).1 z).1 hl
theorem Ig.rel {j:Jo} {x:Int} (h:Inv A K g root) (hu:g.rt j.up.id) (q:Ig g j x) (r:Rel i A g B g1):Ig g1 j x:=⟨r.dn q.1,fun hl=>by
 rw[(r.rt _ hu).2];exact r.In (q.2 (D7 h r hu hl))⟩
theorem D6.rel {m:Int} (h:D6 A g i m) (r:Rel i A g B g1):D6 B g1 i m:=by
 have hn:=k0 h.k (by decide);refine⟨r.ext.k h.k (by decide),(r.own m (aF (A:=A) hn).2).trans h.own,r.HC m h.k h.own h.un,fun q=>?_⟩;rw[r.ext.val m 2 hn];exact r.main m h.k q (h.pl ((r.st m h.k).2.2 q))
theorem P0.rel {j:Jo} (hI:Inv A K g root) (hu:g.rt j.up.id) (k4:A.kind j.main.b.id=4) (h:P0 A g j) (r:Rel i A g B g1):P0 B g1 j:=by
 have hn:=k0 h.k (by decide);refine⟨r.ext.k h.k (by decide),by rw[r.ext.val _ _ hn];exact h.m3,fun q=>?_,by rw[r.ext.val _ _ hn];exact h.nb.rel hI hu r⟩;rw[r.ext.val _ 2 hn];refine r.ai _ h.k (by rw[h.m3];exact k4) (by rw[h.m3];exact q) (h.pl ((r.st _ k4).2.2 q))
theorem Ns.rel {x m:Int} (h:Ns A g x m) (q:D6 A g i m) (r:Rel i A g B g1):Ns B g1 x m:=by
 obtain⟨a,b,_⟩:=r.lock x m q.k q.own q.un h.rt h.lk;exact⟨(r.rt x h.rt).1,a,b h.live⟩
theorem CL.rel {j:Jo} (hI:Inv A K g root) (h:CL A g i j) (r:Rel i A g B g1):CL B g1 i j:=⟨h.jo.rel r,h.ma.rel r,h.ne.rel hI h.jo.u h.ma.k r,h.lk.rel h.ma r⟩
theorem P1.rel {j:Jo} (h:P1 A g j) (l:CL A g i j) (r:Rel i A g B g1):P1 B g1 j:=
 ⟨r.dn h.dn,(r.lock _ _ l.ma.k l.ma.own l.ma.un l.lk.rt l.lk.lk).2.2.1 _ h.dn h.at_⟩
theorem Nt.rel {j:Jo} {lock:Int} (h:Nt A g root j lock) (l:CL A g i j) (r:Rel i A g B g1):Nt B g1 root j lock:=
 ⟨h.ce.rel l r,h.lw.imp id fun⟨w,a,b,d⟩=>⟨w,a,b,d.rel l.ma r⟩⟩
theorem CM.rel (hI:Inv A K g root) {N:Nat} (r:Rel i A g B g1) (rc:gS c A g B g1):∀{k:KO},Co A K N o k->CM K A g root o c k->CM K B g1 root o c k
 | .update f,_,h=>⟨h.1.rel r,h.2.1.rel hI.bg r.ext rc,h.2.2⟩
 | .aA j n,_,h=>⟨h.1.rel r,rc.cT _ h.2.1,h.2.2.1.rel hI.bg r,h.2.2.2.1.rel hI h.1.u r,h.2.2.2.2.1,h.2.2.2.2.2.1,h.2.2.2.2.2.2.imp (wK r.ext h.2.2.1.fb.is) (wK r.ext h.2.2.1.fb.is)⟩
 | .leaf j key f k,ht,h=>⟨h.1.rel r,h.2.1.rel hI.bg ht.1.ef r,oz.rel hI.bg r rc ht.2.2 h.2.2⟩
theorem J2.rel (hI:Inv A K g root) (hB:Inv B K g1 root) {N:Nat} {cell:Int} (r:Rel i A g B g1) (rc:gS c A g B g1):∀{k:KV},Am A K N o cell k->J2 K A g root i o c cell k->J2 K B g1 root i o c cell k
 | .down f key k,ht,h=>⟨h.1.rel r,Ic.rel hI.bg r rc ht.2.2 h.2⟩
 | .cd f key k,ht,⟨a,b,d,e,f',x,y⟩=>by
  have hn:=k0 b (by decide);refine⟨a,r.ext.k b (by decide),d,e.rel r,fun q=>?_,x.rel hI.bg r.ext rc,y⟩;rw[r.ext.val _ 2 hn];exact r.main _ b q (f' ((r.st _ b).2.2 q))
 | .cB f key k,ht,⟨b,a,d,e,x,y⟩=>⟨r.ext.k b (by decide),(r.st _ b).1 a,d,e.rel r,x.rel hI.bg r.ext rc,y⟩
 | .dm b k,ht,⟨a,d,e,f⟩=>⟨r.ext.k a (by decide),d,e,CM.rel hI r rc ht.2.2 f⟩
 | .cN b k,ht,⟨a,d,e,f⟩=>⟨r.ext.k a (by decide),by rw[r.ext.val _ _ (k0 a (by decide))];exact d,e,CM.rel hI r rc ht.2.2 f⟩
 | .cU b k,ht,⟨a,d,e,f⟩=>⟨r.ext.k a (by decide),by rw[r.ext.val _ _ (k0 a (by decide))];exact d,e,CM.rel hI r rc ht.2.2 f⟩
 | .cE m u,ht,h=>El.rel hI.bg r rc ht.2.2 h
 | .mf right j,ht,⟨a,b,d,e,f,p,q,z⟩=>⟨a,b.rel r,rc.cT _ d,e.rel hI.bg r,f.rel b.u hI hB r,r.dn p,q,z.imp (wK r.ext e.fb.is) (wK r.ext e.fb.is)⟩
 | .bh j up cell,ht,⟨a,b,l,d,e⟩=>⟨rc.cT _ a,b.rel hI r,l,r.dn d,e.imp id fun⟨x,y,z⟩=>⟨x,(r.rt _ y).1,z⟩⟩
 | .bH j lock,ht,⟨a,b,d,e⟩=>⟨rc.cT _ a,b.rel hI r,d.rel b r,e⟩
 | .leaf j key f k,ht,⟨a,b,d⟩=>⟨a.rel r,b.rel hI.bg ht.2.1.ef r,oz.rel hI.bg r rc ht.2.2.2 d⟩
 | .res j k,ht,h=>⟨oz.rel hI.bg r rc ht.2.2.1 h.1,h.2⟩
theorem Ao.rel {cell bZ now:Int} (t:c9 A K root) (h:Ao A g i cell bZ now) (r:Rel i A g B g1):Ao B g1 i cell bZ now:=
 ⟨r.dn h.dn,h.free.rel t r,by rw[r.ext.val _ _ h.free.fb.is.ne];exact h.home,(r.own _ (aF (A:=A) h.nk).2).trans h.own,h.lt,by rw[r.ext.kind _ h.nk];exact h.nk⟩
theorem Bx.rel {cell b n k:Int} (t:c9 A K root) (hb:dr A b) (ho:g.own n=i) (h:Bx A g root cell b n k) (r:Rel i A g B g1):Bx B g1 root cell b n k:=by
 have e:=r.ext;have n2:=k0 h.rt.1 (by decide);have n4:=k0 h.low.1 (by decide);have n3:=k0 h.high.1 (by decide);obtain⟨_,_,_,t5,t3,_⟩:=(t.cg n n2).ro h.rt.1;have np:∀x,g.iv x=none->¬g.dn x:=fun x q ⟨a,b,w⟩=>by rw[q]at w;cases w
 have b4:=dJ t e (bL h.low.1 (by decide) (by decide));have b2:=dJ t e (bL h.high.1 (by decide) (by decide))
 refine⟨⟨e.k h.rt.1 (by decide),by rw[e.val _ _ n2];exact h.rt.2⟩,⟨e.k h.low.1 (by decide),by rw[r.mq _ t5 (np _ h.A8)];exact h.low.2.1,by rw[e.val _ _ n4];exact h.low.2.2⟩,
  ⟨e.k h.high.1 (by decide),by rw[r.mq _ t3 (np _ h.A9)];exact h.high.2.1,by rw[e.val _ _ n3];exact h.high.2.2⟩,by rw[b4,b2,dJ t e hb];exact h.bp,by rw[b4,b2];exact h.lt,fun q=>r.Vu n q h.W8 ho,?_,?_,h.mf⟩
 rcases r.Qs _ h.A8 with q| ⟨x,a,b,d⟩;exact q;rcases d with d|d;rw[show x=n by omega]at a;exact absurd ho a;rw[show x=n-2 by omega,h.high.1]at b;cases b;rcases r.Qs _ h.A9 with q| ⟨x,a,b,d⟩;exact q;rcases d with d|d;obtain⟨_,_,_,_,q3,_⟩:=(t.cg x (k0 b (by decide))).ro b;have:=q3.2;rw[show x-3+1=n by omega,h.rt.1]at this;cases this;rw[show x=n by omega]at a;exact absurd ho a
theorem Ag.rel {m p:Int} {b:Bool} (hI:Inv A K g root) (hB:Inv B K g1 root) (q:kS A m p) (hm:D6 A g i m) (hs:B.st m= -1) (o:Ag A g root m p b) (r:Rel i A g B g1):Ag B g1 root m p b:=by
 have e:=r.ext;have km:=k0 q.k.1 (by decide);have kp:=k0 q.k.2 (by decide);have kn:=k0 q.n.1 (by decide);have vm:=fun i=>e.val m i km;have vp:=fun i=>e.val p i kp;have vn:=fun i=>e.val (A.val p 1) i kn;have lu:=r.lock _ m hm.k hm.own hm.un o.u o.lu.1;have ho:B.oc m p=A.oc m p:=by unfold Ar.oc;rw[vm,vp]
 refine⟨by rw[vp];exact(r.rt _ o.u).1,⟨e.k o.ma.1 (by decide),by rw[vm,vp];exact o.ma.2⟩,by rw[vm];exact r.main m hm.k hs o.hm,?_,?_,?_,?_,?_,fun k2=>?_⟩;rw[vp];exact⟨lu.1,lu.2.1 o.lu.2⟩;rw[vp,vp];exact⟨r.dn o.pc.1,lu.2.2.1 _ o.pc.1 o.pc.2⟩;rw[vp,vp];refine o.lw.imp id fun⟨w,a,b,d,f,f2⟩=>?_;obtain⟨x,y,_⟩:=r.lock w m hm.k hm.own hm.un a (by rw[<-b];exact f);exact⟨w,(r.rt w a).1,b,d,by rw[b];exact x,y f2⟩;rw[vp,vn,vn];exact⟨e.k o.n.1 (by decide),r.ai _ o.n.1 (by rw[o.n.2.2];exact hm.k) (by rw[o.n.2.2];exact hs) o.n.2.1,o.n.2.2⟩;rw[vp,vp,vn];exact o.MT.rel o.u hI hB r;rw[vp]at k2
 have k2':A.kind (A.val p 5)=2:=by
  rcases q.rp with⟨x,_⟩| ⟨x,_⟩;rw[x,e.k q.jd.1 (by decide)]at k2;cases k2;exact x
 have h2:=o.oc k2'
 have oc2:A.oc m p=A.val p 2-5\/A.oc m p=A.val p 2-3:=by
  unfold Ar.oc;rcases q.side with z|z<;>rw[z]<;>omega
 rw[ho,vp,lu.2.2.2 _ oc2 (by rw[h2];exact k2')];exact h2
theorem Ih.rel (hI:Inv A K g root) (hB:Inv B K g1 root) (hpp:Qt A g) {N:Nat} {cell bZ now:Int} (r:Rel i A g B g1) (rc:gS c A g B g1):∀{k:KB},GG A K N o k->Ih K A g root i o c cell bZ now k->Ih K B g1 root i o c cell bZ now k
 | .marks j key f id k,ht,⟨a,b,d,e,f1,f2,f3,f4,f5,f6,f7⟩=>by
  have hn:=k0 f1 (by decide);refine⟨a,b,d,e.rel hI.bg r,r.ext.k f1 (by decide),by rw[r.ext.val _ _ hn];exact f2,by rw[r.ext.val _ _ hn];exact f3,?_,f5.rel r,f6.rel hI.bg ht.1.ef r,oz.rel hI.bg r rc ht.2.2.2 f7⟩;rw[dJ hI.bg r.ext (bL f1 (by decide) (by decide)),dJ hI.bg r.ext e.free.fb.is];exact f4
 | .results ..,_,h=>h
 | .update id a,ht,⟨a1,a2,a3,a4,a5,a6,a7,a8,a9⟩=>by
  have hn:=k0 a4 (by decide);refine⟨a1,a2.rel hI.bg r,r.In a3,r.ext.k a4 (by decide),by rw[r.ext.val _ _ hn];exact a5,?_,?_,a8.rel hI.bg r.ext rc,a9⟩;rw[dJ hI.bg r.ext (bL a4 (by decide) (by decide)),dJ hI.bg r.ext a2.free.fb.is];exact a6;rw[dJ hI.bg r.ext a2.free.fb.is];exact a7
 | .split a,ht,⟨a1,⟨k,a2⟩,a3⟩=>⟨a1.rel hI.bg r,⟨k,a2.rel hI.bg a1.free.fb.is a1.own r⟩,rc.cT _ a3⟩
 | .aL j n id,ht,⟨a,b,a1,a2,a3,a4,a5,a6,a7,a8,a9,a10,a11⟩=>by
  have hn:=k0 a2 (by decide);refine⟨a,b,a1.rel hI.bg r,r.ext.k a2 (by decide),by rw[r.ext.val _ _ hn];exact a3,?_,r.HC _ a2 (by rw[<-a];exact a1.own) a5,a6.rel r,rc.cT _ a7,a8.rel hI a6.u r,a9,a10.rel hI.bg r,a11⟩;rw[dJ hI.bg r.ext (bL a2 (by decide) (by decide)),dJ hI.bg r.ext a1.free.fb.is];exact a4
 | .aG j id,ht,⟨a,a1,a2,a3,a4,a5,a6,a7,a8,a9,a10⟩=>by
  have hn:=k0 a2 (by decide);refine⟨a,a1.rel hI.bg r,r.ext.k a2 (by decide),by rw[r.ext.val _ _ hn];exact a3,by rw[r.ext.val _ _ hn];exact a4,?_,a6.rel r,a7.rel r,rc.cT _ a8,a9.rel hI a6.u r,a10⟩;rw[dJ hI.bg r.ext (bL a2 (by decide) (by decide)),dJ hI.bg r.ext a1.free.fb.is];exact a5
 | .bS j cell',ht,⟨a,b,d,e,a1,a2,a3,a4,a5⟩=>⟨a,b,d,e,a1.rel r,a2.rel r,a3.rel hI a1.u a2.k r,rc.cT _ a4,a5⟩
 | .bO j cell' lock,ht,⟨a,b,d,e,a1,l,a2,a3,w,x,y,z⟩=>⟨a,b,d,e,a1.rel hI r,l,rc.cT _ a2,a3.rel a1 r,w,(r.rt w x).1,y,z⟩
 | .bW j last,ht,⟨a,b,d,e,l⟩=>⟨a,b,d.rel r,rc.cT _ e,l⟩
 | .cK t,ht,⟨a,b,x,d⟩=>⟨a,b,r.ext.SC x,vl.rel hI.bg r rc ht d⟩
 | .bH j id,ht,⟨a,b,d,e,f1,f2,f3,f4,f5,f6⟩=>by
  have kp:=k0 e.1 (by decide);have kj:=k0 e.2.1 (by decide);refine⟨a,b,d,⟨r.ext.k e.1 (by decide),?_,?_⟩,fun q=>?_,?_,?_,f4.rel r,rc.cT _ f5,f6⟩;rw[r.ext.val _ _ kp];exact r.ext.k e.2.1 (by decide);rw[r.ext.val _ _ kp,r.ext.val _ _ kj];exact e.2.2;obtain⟨p1,p2⟩:=f1 ((r.st _ f4.k).2.2 q);exact⟨p1.ext hI.bg r.ext,p2.rel hI hB p1 f4 q r⟩;rw[r.ext.val _ _ kp];exact(r.own _ (aF (A:=A) kj).2).trans f2;rw[r.ext.val _ _ kp];exact r.new _ kj (aF (A:=A) kj).2 f2 (fun _=>by rw[e.2.2];exact r.HC _ f4.k f4.own f4.un) f3
 | .fQ m p t,ht,⟨a,b,d,e,f⟩=>by
  have kp:=k0 ht.2.1.1 (by decide);have hp:g.aa m.b.id≠0:=by rw[a];have:=aF (A:=A) kp;omega
  have q:=(hI.aa _ hp).1;rw[a]at q;have e2:p.ai=A.val p.id 1:=congrArg Pl.ai ht.2.1.2;refine⟨(r.aa _ hp).trans a,?_,d,e,vl.rel hI.bg r rc ht.2.2 f⟩;rw[e2,r.ext.val _ _ (k0 q.n.1 (by decide)),<-e2];exact b
 | .e8 m p t,ht,⟨a,b,d,e,f,f'⟩=>by
  have kp:=k0 ht.2.1.1 (by decide);have hp:g.aa m.b.id≠0:=by rw[a];have:=aF (A:=A) kp;omega
  obtain⟨q,ph⟩:=hI.aa _ hp;rw[a]at q ph;have e2:p.ai=A.val p.id 1:=congrArg Pl.ai ht.2.1.2;refine⟨(r.aa _ hp).trans a,b,d,e,?_,vl.rel hI.bg r rc ht.2.2 f'⟩;have hn:=k0 q.n.1 (by decide);have hg:g.dn (A.val (A.val p.id 1) 2):=by rw[<-a];exact(hpp _ hp).2
  rw[e2]at f⊢;rw[r.ext.val _ _ hn];have:=r.pz _ hg;omega
 | .cZ m p t,ht,⟨a,b,d,e,f,f'⟩=>by
  have kp:=k0 ht.2.1.1 (by decide);have hp:g.aa m.b.id≠0:=by rw[a];have:=aF (A:=A) kp;omega
  have e2:p.cell=A.val p.id 3:=congrArg Pl.cell ht.2.1.2;refine⟨(r.aa _ hp).trans a,b,d,e,?_,vl.rel hI.bg r rc ht.2.2 f'⟩;have:=r.pz p.cell (by rw[e2,<-a];exact(hpp _ hp).1);omega
 | .cL t,ht,⟨⟨m,a,b,d,e,f,f'⟩,h⟩=>by
  have hp:g.aa m≠0:=by rw[d];exact e
  obtain⟨q,_⟩:=hI.aa _ hp;rw[d]at q;have kp:=k0 q.k.2 (by decide);refine⟨⟨m,r.ext.k a (by decide),b,(r.aa _ hp).trans d,e,f,?_⟩,vl.rel hI.bg r rc ht h⟩;rw[r.ext.val _ _ kp,r.ext.val _ _ kp];have:=r.pz (A.val bZ 3) (by rw[<-d];exact(hpp _ hp).1);omega
end
def mapOf (eK:Int->bA) (bY:List Pr) (l:List Int):List Pr:=l.foldl (fun m c=>(eB m (eK c)).1) bY
structure J3 (n:Int) (ord:List Int) (g:Gh) (bY:List Pr):Prop where
 cur:g.cur=mapOf g.eK bY ord
 cT:∀(k:Nat) c,ord[k]? =some c->g.cT c=some (eB (mapOf g.eK bY (ord.take k)) (g.eK c)).2
 out:∀c,g.cT c≠none->c∈ord
 nd:ord.Nodup
 low:∀c∈ord,0<=c/\c<n
structure HK (A:Ar) (g:Gh) (n:Int):Prop where
 op:∀S,A.kind S=7->PX (g.eK (A.val S 4)) (A.val S 0) (A.val S 1) (A.val S 3)
 rg:∀S,A.kind S=7->fM<=A.val S 0/\A.val S 0<=A.val S 1/\A.val S 1<eU
 low:∀S,A.kind S=7->0<=A.val S 4/\A.val S 4<n
 cT:∀S,A.kind S=7->A.holds (S-1)=0->g.cT (A.val S 4)=none
 one:∀S S',A.kind S=7->A.kind S'=7->A.val S 4=A.val S' 4->A.holds (S-1)=0->A.holds (S'-1)=0->S=S'
 bs:∀S l,A.kind S=7->A.kind (A.holds (S-1))=9->Rs A (A.holds (S-1)) l->∀b∈l,A.kind b=6/\A.val b 3=S/\g.dn (A.val b 2)
def MV (A:Ar) (g:Gh) (m:Int):Prop:=g.JZ (A.val m 2) (A.val (A.val (g.aa m) 0) 2)/\(∀k,g.In (A.val m 2) k->lk (A.bp m) k=lk (A.bp (A.val (g.aa m) 0)) k)/\∀x∈A.bp m,g.In (A.val m 2) x.k
structure Iv (T:Nat) (K:eE) (bY:List Pr) (n:Int) (root:Int) (A:Ar) (ord:List Int) (g:Gh):Prop where
 inv:Inv A K g root
 own:∀x,g.own x<T
 iA:jv g.cur
 cT:J3 n ord g bY
 ef:HK A g n
 stat:∀b,dr A b-> -1000000<=A.val b 1/\A.val b 1<=1000000
 pp:Qt A g
 mc:∀m,g.aa m≠0->Dp A g m (g.aa m)->MV A g m
 key:∀r,g.rt r->g.key r∈K.keys
 vF:∀x∈g.cur,x.k∈K.keys
section
variable {T i:Nat} {A B:Ar} {K:eE} {bY:List Pr} {n root c:Int} {ord:List Int} {g g1:Gh} {o:bA}
theorem By (eK:Int->bA) (bY:List Pr) (l:List Int) (c:Int):mapOf eK bY (l++[c])=(eB (mapOf eK bY l) (eK c)).1:=by unfold mapOf;rw[List.foldl_append];rfl
def Gh.tell (g:Gh) (c:Int):Gh:={g with cur:=(eB g.cur (g.eK c)).1,cT:=fun x=>if x=c then some (eB g.cur (g.eK c)).2 else g.cT x}
theorem J3.tell (h:J3 n ord g bY) (hc:g.cT c=none) (h0:0<=c/\c<n):J3 n (ord++[c]) (g.tell c) bY:=by
 have nin:c∉ord:=fun q=>by
  obtain⟨k,hk,e⟩:=List.mem_iff_getElem.1 q;have:=h.cT k c (by rw[List.getElem?_eq_getElem hk,e]);rw[hc]at this;cases this
 refine⟨?_,fun k x hx=>?_,fun x hx=>?_,?_,fun x hx=>?_⟩;show(eB g.cur (g.eK c)).1=mapOf g.eK bY (ord++[c]);rw[By,<-h.cur];show(if x=c then some (eB g.cur (g.eK c)).2 else g.cT x)=_;by_cases e:k<ord.length;rw[List.getElem?_append_left e]at hx;rw[if_neg (fun z=>nin (by rw[<-z];exact List.mem_of_getElem? hx)),h.cT k x hx,List.take_append_of_le_length (by omega)];rfl
 have hk:k=ord.length:=by
  have:=ae hx;simp at this;omega
 subst hk;have:x=c:=by simpa using hx.symm
 subst this;rw[if_pos rfl,List.take_left' rfl];show _=some (eB (mapOf g.eK bY ord) (g.eK x)).2;rw[<-h.cur];have hx':(if x=c then some (eB g.cur (g.eK c)).2 else g.cT x)≠none:=hx;by_cases e:x=c;rw[e];simp;rw[if_neg e]at hx';exact List.mem_append_left _ (h.out x hx');rw[List.nodup_append];exact⟨h.nd,by simp,fun a ha b hb=>by rw[List.mem_singleton.1 hb];rintro rfl;exact nin ha⟩;rcases List.mem_append.1 hx with hx|hx;exact h.low x hx;rw[List.mem_singleton.1 hx];exact h0
theorem vc {l:List Pr} (h:jv l) (o:bA):jv (eB l o).1:=by
 by_cases ho:eG o=true;exact J1 h ho
 ·have:(eB l o).1=l:=by
   simp[eG]at ho;unfold eB;split
   ·rw[if_neg ho.1,if_neg ho.2.1,if_neg ho.2.2]
    repeat' split
    all_goals rfl
   rfl
  rw[this];exact h
theorem Ar.Inv.Bz (h:Inv A K g root) (f:Int->Option An):Inv A K {g with cT:=f} root:=
 ⟨h.bg,⟨⟨h.sk.tr.rt,h.sk.tr.pt,h.sk.tr.gH,h.sk.tr.oE,h.sk.tr.rk,h.sk.tr.kq,h.sk.tr.j8,h.sk.tr.ord,h.sk.tr.rm,h.sk.tr.sep,h.sk.tr.par,h.sk.tr.up,h.sk.tr.rq,h.sk.tr.str,h.sk.tr.Ck,h.sk.tr.qx,h.sk.tr.both,h.sk.tr.j7,h.sk.tr.nd,h.sk.tr.Gy,h.sk.tr.Cl,h.sk.tr.Eg,h.sk.tr.Eh⟩,h.sk.cell,h.sk.rt,h.sk.has⟩,h.home,h.cont,h.dead,h.lock,h.main,
  fun m q=>⟨(h.aa m q).1,(h.aa m q).2.imp (fun⟨a,b⟩=>⟨a,⟨b.live,b.pc,b.hm,b.lu,b.lw,b.nc,b.oc,b.bl,b.st⟩⟩) fun b=>⟨b.dead,b.pc,b.nc,b.jd⟩⟩⟩
theorem Rel.Bz (h:Rel i A g B g1) (f:Int->Option An):Rel i A g B {g1 with cT:=f}:=⟨h.ext,h.iv,h.rt,h.own,h.dead,h.pz,h.st,h.aa,h.HC,h.lock,h.bl,h.new,h.main,h.ai,h.sN,h.Vu,h.Qs,h.mq,h.div⟩
theorem fK (h:Inv A K g root) (e:Ext A B) (hl:∀u,g.rt u->g.live (u-5)->g1.live (u-5)) {m:Int} (hm:g.aa m≠0) (d:Dp B g1 m (g.aa m)):Dp A g m (g.aa m):=by
 obtain⟨q,ph⟩:=h.aa m hm;rcases ph with⟨_,w⟩|w;have kp:=k0 q.k.2 (by decide);have:=d.dead.2;rw[e.val _ _ kp]at this;exact absurd (hl _ w.live.1 w.live.2) this;exact w
theorem MV.rel (h:Inv A K g root) (r:Rel i A g B g1) {m:Int} (hm:g.aa m≠0) (d:Dp A g m (g.aa m)) (q:MV A g m):MV B g1 m:=by
 obtain⟨p,_⟩:=h.aa m hm;have e:=r.ext;have km:=k0 p.k.1 (by decide);have kp:=k0 p.k.2 (by decide);have kj:=k0 p.jd.1 (by decide);have ep:=r.aa m hm;have bm:=dJ h.bg e (bL p.k.1 (by decide) (by decide));have bj:=dJ h.bg e (bL p.jd.1 (by decide) (by decide))
 have dd:¬g.live (A.val m 2):=by
  rcases p.side with z|z;rw[z];exact d.dead.2;rw[z];exact fun y=>d.dead.2 ((h.sk.tr.both _ d.dead.1).2 y)
 obtain⟨l,v,l',v',a,b,x,y⟩:=q.1;have ia:g1.iv (A.val m 2)=some (l,v):=(r.div _ ⟨l,v,a⟩ dd).trans a;unfold MV;rw[ep,e.val _ _ km,e.val _ _ kp,e.val _ _ kj,bm,bj];refine⟨?_,fun k hk=>q.2.1 k ?_,fun x hx=>r.In (q.2.2 x hx)⟩;obtain⟨l2,v2,b',x',y'⟩:=r.iv _ _ _ b;exact⟨l,v,l2,v2,ia,b',by omega,by omega⟩;obtain⟨l0,v0,e0,z⟩:=hk;rw[ia]at e0;cases e0;exact⟨_,_,a,z⟩
theorem J4 (t:c9 A K root) (e:Ext A B) {r:Int} (hk:A.kind r=9) {l:List Int} (h:Rs B r l):Rs A r l:=by
 obtain⟨m,a,_⟩:=(t.cg r (k0 hk (by decide))).res hk;rw[h.Nr (a.ext e)];exact a
theorem qH (t:c9 A K root) (e:Ext A B) (hp:∀c,g.dn c->g1.dn c) (h:HK A g n) {S:Int} {l:List Int} (k7:A.kind S=7) (hs:B.holds (S-1)=A.holds (S-1)) (k9:B.kind (B.holds (S-1))=9) (rs:Rs B (B.holds (S-1)) l):∀b∈l,B.kind b=6/\B.val b 3=S/\g1.dn (B.val b 2):=by
 rw[hs]at k9 rs
 have k9':A.kind (A.holds (S-1))=9:=by
  rcases(t.mq _).rc (t.Ie k7)with q|q|q;exact absurd k9 (fa (by omega) (by decide));exact absurd k9 (fa (by omega) (by decide));exact q
 intro b hb;obtain⟨a,d,f⟩:=h.bs S l k7 k9' (J4 t e k9' rs) b hb;have hn:=k0 a (by decide);exact⟨e.k a (by decide),by rw[e.val _ _ hn];exact d,by rw[e.val _ _ hn];exact hp _ f⟩
theorem HK.ed {x v:Int} (h:HK A g n) (t:c9 A K root) (u:ka A B x v) (hx:¬A.RC x) (ee:Ext A B) (hp:∀c,g.dn c->g1.dn c) (e1:g1.eK=g.eK) (e2:∀c,g1.cT c≠g.cT c->∀S,A.kind S=7->A.val S 4=c->A.holds (S-1)≠0):HK B g1 n:=by
 have hh:∀S,A.kind S=7->B.holds (S-1)=A.holds (S-1):=fun S hS=>by rw[u.holds,if_neg (fun z:S-1=x=>hx (z▸t.Ie hS))]
 refine⟨fun S hS=>?_,fun S hS=>?_,fun S hS=>?_,fun S hS h0=>?_,fun S S' hS hS' hc h0 h0'=>?_,fun S l hS=>?_⟩;rw[u.kind]at hS;rw[e1];simp only[u.val];exact h.op S hS;rw[u.kind]at hS;simp only[u.val];exact h.rg S hS;rw[u.kind]at hS;simp only[u.val];exact h.low S hS;rw[u.kind]at hS;rw[hh S hS]at h0;rw[u.val];by_cases z:g1.cT (A.val S 4)=g.cT (A.val S 4);rw[z];exact h.cT S hS h0;exact absurd h0 (e2 _ z S hS rfl);rw[u.kind]at hS hS';rw[hh S hS]at h0;rw[hh S' hS']at h0';simp only[u.val]at hc;exact h.one S S' hS hS' hc h0 h0';rw[u.kind]at hS;exact qH t ee hp h hS (hh S hS)
theorem qI {x v:Int} (u:ka A B x v) (h:∀b,dr A b-> -1000000<=A.val b 1/\A.val b 1<=1000000):∀b,dr B b-> -1000000<=B.val b 1/\B.val b 1<=1000000:=fun b hb=>by
 rw[u.val];refine h b ?_;unfold dr at*;rw[u.kind]at hb;exact hb
theorem gS.ed {x v:Int} (t:c9 A K root) (u:ka A B x v) (hx:¬A.RC x) (e1:g1.eK=g.eK) (e2:g1.cT c=g.cT c):gS c A g B g1:=by
 have hh:∀S,A.kind S=7->B.holds (S-1)=A.holds (S-1):=fun S hS=>by rw[u.holds,if_neg (fun z:S-1=x=>hx (z▸t.Ie hS))]
 refine⟨by rw[e1],fun a q=>e2.trans q,fun S hS h0=>?_,.inl e2,fun S l hS hc h0 k9=>?_⟩;rw[u.kind,h0]at hS;cases hS;rw[hh S hS,h0,u.kind]at k9;exact absurd k9 (fa (by omega) (by decide))
theorem Iv.gF (h:Iv T K bY n root A ord g) {x v:Int} (u:ka A B x v) (hx:¬A.RC x) (hi:Inv B K g1 root) (r:Rel T A g B g1) (eo:g1.own=g.own) (e1:g1.eK=g.eK) (e2:g1.cT=g.cT) (e3:g1.cur=g.cur)
  (hk:∀r,g1.rt r->g.rt r\/g1.key r∈K.keys) (hp:∀m,g1.aa m≠0->g.aa m≠0\/(g1.dn (A.val (g1.aa m) 3)/\g1.dn (A.val (A.val (g1.aa m) 1) 2)))
  (hm:∀m,g1.aa m≠0->Dp B g1 m (g1.aa m)->(g.aa m≠0/\Dp A g m (g.aa m))\/MV B g1 m):Iv T K bY n root B ord g1:=by
 refine⟨hi,fun y=>by rw[eo];exact h.own y,by rw[e3];exact h.iA,⟨by rw[e3,e1];exact h.cT.cur,fun k y=>by rw[e2,e1];exact h.cT.cT k y,fun y=>by rw[e2];exact h.cT.out y,h.cT.nd,h.cT.low⟩,h.ef.ed h.inv.bg u hx r.ext (fun _=>r.dn) e1 (fun y z=>absurd (by rw[e2]) z),qI u h.stat,fun m q=>?_,fun m q d=>?_,fun r' q=>?_,by rw[e3];exact h.vF⟩;rcases hp m q with z|z;rw[r.aa m z];simp only[u.val];exact⟨r.dn (h.pp m z).1,r.dn (h.pp m z).2⟩;simp only[u.val];exact z;rcases hm m q d with⟨a,b⟩|z;exact(h.mc m a b).rel h.inv r a b;exact z;rcases hk r' q with z|z;rw[(r.rt r' z).2];exact h.key r' z;exact z
end
section
variable {T i:Nat} {A B:Ar} {K:eE} {bY:List Pr} {n root c:Int} {ord:List Int} {g g1:Gh} {o:bA}
theorem Aj {x:Int} (h:A.TC x):¬A.RC x:=fun q=>by have:=h.2.symm.trans q.2;cases this
theorem CO {x:Int} (h:A.SC x):¬A.RC x:=fun q=>by have:=h.2.symm.trans q.2;cases this
theorem wL {x:Int} (h:A.LC x):¬A.RC x:=fun q=>by have:=h.2.symm.trans q.2;cases this
theorem Iv.grow (h:Iv T K bY n root A ord g) (hi:i<T) (mk:Mk A B) (t:c9 B K root):Iv T K bY n root B ord (g.g7 i A.len)/\(∀j,Rel j A g B (g.g7 i A.len))/\∀c,gS c A g B (g.g7 i A.len):=by
 have o:=mk.jZ;have r:∀j,Rel j A g B (g.g7 i A.len):=fun j=>Rel.grow h.inv o mk.ok i mk.tc;have e:=o.ext
 have bZ:∀{S},B.kind S=7->A.kind S=7/\S<=A.len:=fun{S} q=>by
  have hle:S<=A.len:=Int.not_lt.1 fun z=>mk.n7 S z q;exact⟨by rw[<-o.kind S hle];exact q,hle⟩
 have hh:∀S,A.kind S=7->B.holds (S-1)=A.holds (S-1):=fun S hS=>o.holds _ (dc (h.inv.bg.Ie hS).1).2;refine⟨⟨h.inv.made o mk.n4 t i,fun x=>?_,h.iA,⟨h.cT.cur,h.cT.cT,h.cT.out,h.cT.nd,h.cT.low⟩,⟨fun S q=>?_,fun S q=>?_,fun S q=>?_,fun S q h0=>?_,fun S S' q q' hc h0 h0'=>?_,fun S l q=>?_⟩,fun b hb=>?_,fun m q=>?_,fun m q d=>?_,h.key,h.vF⟩,r,fun c=>⟨rfl,fun a q=>q,fun S q h0=>?_,.inl rfl,fun S l q hc h0 k9=>?_⟩⟩;show(if A.len<x then i else g.own x)<T;split;exact hi;exact h.own x;obtain⟨a,b⟩:=bZ q;simp only[o.val S _ b];exact h.ef.op S a;obtain⟨a,b⟩:=bZ q;simp only[o.val S _ b];exact h.ef.rg S a;obtain⟨a,b⟩:=bZ q;simp only[o.val S _ b];exact h.ef.low S a;obtain⟨a,b⟩:=bZ q;rw[hh S a]at h0;rw[o.val S _ b];exact h.ef.cT S a h0;obtain⟨a,b⟩:=bZ q;obtain⟨a',b'⟩:=bZ q';rw[hh S a]at h0;rw[hh S' a']at h0';rw[o.val S _ b,o.val S' _ b']at hc;exact h.ef.one S S' a a' hc h0 h0';obtain⟨a,b⟩:=bZ q;exact qH h.inv.bg e (fun _ z=>z) h.ef a (hh S a);by_cases z:A.len<b;exact mk.st b z hb;rw[o.val b 1 (by omega)];exact h.stat b (by unfold dr at*;rw[o.kind b (by omega)]at hb;exact hb);have q':g.aa m≠0:=q;obtain⟨p,_⟩:=h.inv.aa m q';show g.dn (B.val (g.aa m) 3)/\g.dn (B.val (B.val (g.aa m) 1) 2);rw[e.val _ _ (k0 p.k.2 (by decide)),e.val _ 1 (k0 p.k.2 (by decide)),e.val _ _ (k0 p.n.1 (by decide))];exact h.pp m q';have q':g.aa m≠0:=q;have d':=fK (g1:=g.g7 i A.len) h.inv e (fun u _ z=>z) q' d;exact(h.mc m q' d').rel h.inv (r i) q' d';exact absurd h0 (by rw[(bZ q).1];decide);rw[hh S q,h0]at k9;exact absurd k9 (fa (by omega) (by decide))
section
variable {cell bZ now:Int} {l:List Pr} (h:Inv A K g root) (w:Ao A g i cell bZ now) (hh:A.holds cell=bZ)
include cell bZ now l h w hh
theorem Ao.kC (hv:dr A now) (hv2:A.val now 2=cell) (hcont:∀lo hi,g.iv cell=some (lo,hi)->(∀x∈A.bp (A.gI now),lo<=x.k/\x.k<hi)/\(∀k,lo<=k->k<hi->lk (A.bp (A.gI now)) k=lk l k)/\∀k,¬(lo<=k/\k<hi)->lk l k=lk g.cur k):Ae A g cell now l:=by
 obtain⟨a1,a2⟩:=h.gu w.dn hh w.free.fb w.home;refine⟨a1,a2,hv,by rw[hh];exact w.lt,.inl hv2,hcont,fun m m1 m2=>?_⟩;obtain⟨x1,x2,x3⟩:=h.qD m1 m2 w.free.fb;rw[hh];exact⟨x1,x3,fun y=>absurd y x2⟩
theorem Ao.P2 (u:ka A B cell now) (e:Ext A B) (q:Ae A g cell now l) {j:Nat} (hj:j≠i):Rel j A g B (g.mM l):=by
 refine Rel.kC h u e q (fun z=>absurd (z.symm.trans w.own) hj) (fun m k4 s=>?_) (fun m k5 k4 s=>?_) fun b k6 k7 s=>?_;rw[hh];rintro rfl;have:=w.free.fb.main k4;omega;rw[hh];rintro rfl;have:=w.free.fb.ai k5;omega;rw[hh];rintro rfl;exact w.free.sN k6 s
end
section
variable (h:Inv A K g root) {cell bZ now:Int} (w:Ao A g i cell bZ now) (hh:A.holds cell=bZ)
include h cell bZ now w hh
theorem HL (hk:g.In cell o.key) (hv:A.kind now=3) (ho:eG o=true) (hbp:A.bp now=(eB (A.bp bZ) o).1) (hcur:jv g.cur) {l:List Pr} (hl:l=(eB g.cur o).1):
  ∀lo hi,g.iv cell=some (lo,hi)->(∀x∈A.bp (A.gI now),lo<=x.k/\x.k<hi)/\(∀k,lo<=k->k<hi->lk (A.bp (A.gI now)) k=lk l k)/\∀k,¬(lo<=k/\k<hi)->lk l k=lk g.cur k:=fun lo hi hi'=>by
 subst hl;obtain⟨cl,cr⟩:=h.gu w.dn hh w.free.fb w.home;have ab:=Bu h.bg w.free.fb.is;obtain⟨lo',hi'',ei,k1,k2⟩:=hk;rw[hi']at ei;cases ei;obtain⟨in1,in2⟩:=h.cont cell lo hi cl cr hi';rw[hh,w.free.fb.gI]at in1 in2;rw[sO (by rw[hv];decide),hbp];refine⟨fun x hx=>?_,fun k z1 z2=>?_,fun k z=>?_⟩;rcases uT ab ho x hx with q|q;exact in1 x q;rw[q];exact⟨k1,k2⟩;rw[Bt ab ho,Bt hcur ho,in2 _ k1 k2,in2 k z1 z2];rw[Bt hcur ho,if_neg];rintro rfl;exact z ⟨k1,k2⟩
theorem D8 (hbp:A.bp (A.gI now)=A.bp bZ):
  ∀lo hi,g.iv cell=some (lo,hi)->(∀x∈A.bp (A.gI now),lo<=x.k/\x.k<hi)/\(∀k,lo<=k->k<hi->lk (A.bp (A.gI now)) k=lk g.cur k)/\∀k,¬(lo<=k/\k<hi)->lk g.cur k=lk g.cur k:=fun lo hi hi'=>by
 obtain⟨cl,cr⟩:=h.gu w.dn hh w.free.fb w.home;have:=h.cont cell lo hi cl cr hi';rw[hh,w.free.fb.gI]at this;rw[hbp];exact⟨this.1,this.2,fun _ _=>rfl⟩
end
theorem Iv.copy (h:Iv T K bY n root A ord g) (hi:i<T) {cell bZ now:Int} (w:Ao A g i cell bZ now) (hh:A.holds cell=bZ) (u:ka A B cell now) (t:c9 B K root) (e:Ext A B) (hv:dr A now) (hv2:A.val now 2=cell)
  (hbp:A.bp (A.gI now)=A.bp bZ):Iv T K bY n root B ord g/\(∀j,j≠i->Rel j A g B g)/\∀c,gS c A g B g:=by
 have q:=w.kC h.inv hh hv hv2 (D8 h.inv w hh hbp);have r:∀j,j≠i->Rel j A g B g:=fun j hj=>w.P2 h.inv hh u e q hj;have hx:¬A.RC cell:=Aj (h.inv.sk.cell _ w.dn);have hI:Inv B K g root:=h.inv.kC u t e q;refine⟨h.gF u hx hI (r T (by omega)) rfl rfl rfl rfl (fun _ z=>.inl z) (fun _ z=>.inl z) (fun m z d=>.inl ⟨z,fK h.inv e (fun _ _ z=>z) z d⟩),r,fun c=>.ed h.inv.bg u hx rfl rfl⟩
theorem Iv.ed (h:Iv T K bY n root A ord g) (hi:i<T) {cell bZ now:Int} (w:Ao A g i cell bZ now) (hh:A.holds cell=bZ) (u:ka A B cell now) (t:c9 B K root) (e:Ext A B) (hk:g.In cell (g.eK c).key) (hv:A.kind now=3) (hv2:A.val now 2=cell)
  (ho:eG (g.eK c)=true) (hbp:A.bp now=(eB (A.bp bZ) (g.eK c)).1) (hb:oQ A g c) (hc:0<=c/\c<n) (hkey:(g.eK c).key∈K.keys):
  Iv T K bY n root B (ord++[c]) (g.tell c)/\(∀j,j≠i->Rel j A g B (g.tell c))/\(∀c',c'≠c->gS c' A g B (g.tell c))/\(g.tell c).cT c=some (eB (A.bp bZ) (g.eK c)).2:=by
 have hcont:=HL h.inv w hh hk hv ho hbp h.iA (l:=(eB g.cur (g.eK c)).1) rfl;have q:=w.kC h.inv hh (bL hv (by decide) (by decide)) hv2 hcont;have r0:∀j,j≠i->Rel j A g B (g.mM (eB g.cur (g.eK c)).1):=fun j hj=>w.P2 h.inv hh u e q hj;have r:∀j,j≠i->Rel j A g B (g.tell c):=fun j hj=>(r0 j hj).Bz _;have hx:¬A.RC cell:=Aj (h.inv.sk.cell _ w.dn);have hI:Inv B K (g.tell c) root:=(h.inv.kC u t e q).Bz _;have hne:∀c',c'≠c->(g.tell c).cT c'=g.cT c':=fun c' z=>if_neg z;refine⟨⟨hI,h.own,vc h.iA _,h.cT.tell hb.1 hc,h.ef.ed h.inv.bg u hx e (fun _ z=>z) rfl fun c' z S hS hS4=>?_,qI u h.stat,fun m q=>?_,fun m q d=>?_,h.key,fun x hx=>?_⟩,r,fun c' hc'=>.ed h.inv.bg u hx rfl (hne c' hc'),?_⟩;by_cases z2:c'=c;rw[z2]at hS4;rw[hb.2 S hS hS4];decide;exact absurd (hne c' z2) z;rw[(r T (by omega)).aa m q];simp only[u.val];exact h.pp m q;have d':=fK (g1:=g.tell c) h.inv e (fun _ _ z=>z) q d;exact(h.mc m q d').rel h.inv (r T (by omega)) q d';rcases uT h.iA ho x hx with q|q;exact h.vF x q;rw[q];exact hkey;show(if c=c then some (eB g.cur (g.eK c)).2 else g.cT c)=_;rw[if_pos rfl];congr 1;obtain⟨cl,cr⟩:=h.inv.gu w.dn hh w.free.fb w.home;obtain⟨lo,hi,ei,k1,k2⟩:=hk;obtain⟨_,in2⟩:=h.inv.cont cell lo hi cl cr ei;rw[hh,w.free.fb.gI]at in2;have ab:=Bu h.inv.bg w.free.fb.is
 have cR:∀{l:List Pr},jv l->(eB l (g.eK c)).2=vV l (g.eK c).key:=fun{l} hl=>by
  have hm:fj (g.eK c)=true:=by simp[eG]at ho;simp[fj];omega
  have h3:(g.eK c).kind=1\/(g.eK c).kind=2\/(g.eK c).kind=3:=by simpa[eG]using ho
  unfold eB;rw[dF.2 hl,hm];rcases h3 with e|e|e<;>simp[e]
 rw[cR h.iA,cR ab,nI,nI,in2 _ k1 k2]
theorem Iv.take (h:Iv T K bY n root A ord g) {r m:Int} (hr:g.rt r) (h0:A.holds (r-1)=0) (hm:A.kind m=4) (hp:g.aa m=0) (u:ka A B (r-1) m) (t:c9 B K root) (e:Ext A B):Iv T K bY n root B ord g/\(∀j,Rel j A g B g)/\(∀c,gS c A g B g)/\Ns B g r m:=by
 have kr:=(h.inv.sk.rt r hr).1;obtain⟨_,_,_,_,_,ic⟩:=(h.inv.bg.cg r (k0 kr (by decide))).ro kr;have lc:A.LC (r-1):=⟨ic,by rw[show r-1+1=r by omega];exact kr⟩;have h1:¬A.TC (r-1):=fun q=>by have:=q.2.symm.trans lc.2;cases this
 have h2:¬A.SC (r-1):=fun q=>by have:=q.2.symm.trans lc.2;cases this
 have n4:∀{x:Int},A.kind x=4->x≠0:=fun{x} q z=>by have:=aF (A:=A) (id:=x) (k0 q (by decide));omega
 have hI:Inv B K g root:=by
  refine h.inv.gF u t e h1 h2 (fun r' a b z=>?_) fun m' q w=>⟨fun z=>?_,fun x a b z=>?_⟩;have:=(h.inv.lock r' a b).1;rw[<-z,h0]at this;exact n4 this rfl;have:=w.lu;rw[<-z,h0]at this;exact n4 (h.inv.aa m' q).1.k.1 this.symm;rcases w.lw with⟨y,_⟩| ⟨x',_,y,_,y2⟩;have:=aF (A:=A) (id:=x) (k0 (h.inv.sk.rt x a).1 (by decide));have l2:=dc (A:=A) (id:=r-1) lc.1;omega;rw[b,<-z,h0]at y2;exact n4 (h.inv.aa m' q).1.k.1 y2.symm
 have rr:∀j,Rel j A g B g:=fun j=>Rel.gF h.inv u e h1 h2 fun r' m' a b d f x z=>by
  rw[<-z,h0]at x;exact n4 b x.symm
 refine⟨h.gF u (wL lc) hI (rr T) rfl rfl rfl rfl (fun _ z=>.inl z) (fun _ z=>.inl z) (fun m z d=>.inl ⟨z,fK h.inv e (fun _ _ z=>z) z d⟩),rr,fun c=>.ed h.inv.bg u (wL lc) rfl rfl,hr,by rw[u.holds,if_pos rfl],h.inv.PW hr h0⟩
theorem Iv.P3 (h:Iv T K bY n root A ord g) {x m:Int} (lc:A.LC x) (h0:A.holds x=m) (hm:A.kind m=4) (hp:(g.aa m=0/\g.own m=i)\/(g.aa m≠0/\Dp A g m (g.aa m)/\x=A.val (g.aa m) 4)) (u:ka A B x 0) (t:c9 B K root) (e:Ext A B):
  Iv T K bY n root B ord g/\(∀j,j≠i->Rel j A g B g)/\∀c,gS c A g B g:=by
 have h1:¬A.TC x:=fun q=>by have:=q.2.symm.trans lc.2;cases this
 have h2:¬A.SC x:=fun q=>by have:=q.2.symm.trans lc.2;cases this
 have noW:∀{m'},g.aa m'≠0->Wp A g root m' (g.aa m')->m'≠m:=fun{m'} q w z=>by
  subst z;rcases hp with⟨a,_⟩| ⟨_,d,_⟩;exact q a;have:=w.pc.2;have:=d.pc;omega
 have hI:Inv B K g root:=by
  refine h.inv.gF u t e h1 h2 (fun r' a b z=>?_) fun m' q w=>⟨fun z=>?_,fun y a b z=>?_⟩;obtain⟨x1,x2,x3⟩:=h.inv.lock r' a b;rw[<-z,h0]at x2 x3;rcases hp with⟨y,_⟩| ⟨_,_,y⟩;exact x2 y;obtain⟨p,_⟩:=h.inv.aa m x2;rcases p.lk with k| ⟨w,k1,k2,k3⟩;have:=(dc lc.1).1;omega;omega;have:=w.lu;rw[<-z,h0]at this;exact noW q w this.symm;rcases w.lw with⟨y2,_⟩| ⟨x',_,y2,_,y3⟩;have:=(dc lc.1).1;omega;rw[b,<-z,h0]at y3;exact noW q w y3.symm
 have rr:∀j,j≠i->Rel j A g B g:=fun j hj=>Rel.gF h.inv u e h1 h2 fun r' m' a b d f y z=>by
  rw[<-z,h0]at y;subst y;rcases hp with⟨_,q⟩| ⟨q,_⟩;exact hj (d.symm.trans q);exact q f
 by_cases hT:T=i;subst hT;have:=h.own m;have rT:Rel T A g B g:=Rel.gF h.inv u e h1 h2 fun r' m' a b d f y z=>by have:=h.own m';omega
 exact⟨h.gF u (wL lc) hI rT rfl rfl rfl rfl (fun _ z=>.inl z) (fun _ z=>.inl z) (fun m z d=>.inl ⟨z,fK h.inv e (fun _ _ z=>z) z d⟩),rr,fun c=>.ed h.inv.bg u (wL lc) rfl rfl⟩;exact⟨h.gF u (wL lc) hI (rr T hT) rfl rfl rfl rfl (fun _ z=>.inl z) (fun _ z=>.inl z) (fun m z d=>.inl ⟨z,fK h.inv e (fun _ _ z=>z) z d⟩),rr,fun c=>.ed h.inv.bg u (wL lc) rfl rfl⟩
theorem Iv.state (h:Iv T K bY n root A ord g) {m v:Int} (hm:A.kind m=4) (hv:(A.st m= -1/\v= -2)\/(g.aa m≠0/\A.st m=g.aa m/\v= -3/\Dp A g m (g.aa m))) (u:ka A B (m-1) v) (t:c9 B K root) (e:Ext A B):
  Iv T K bY n root B ord g/\(∀j,Rel j A g B g)/\∀c,gS c A g B g:=by
 have sc:=gw h.inv.bg hm
 have hv':(g.aa m=0/\v= -2)\/(g.aa m≠0/\A.st m=g.aa m/\v= -3/\Dp A g m (g.aa m)):=hv.imp (fun⟨a,b⟩=>⟨by
  rcases h.inv.main m hm with⟨q,_⟩| ⟨q,z⟩;exact q;have:=h.inv.py q;omega,b⟩) id
 have hI:Inv B K g root:=h.inv.state hm u t e hv';have rr:∀j,Rel j A g B g:=fun j=>Rel.state h.inv hm u e (hv.imp id fun⟨a,b,d,_⟩=>⟨a,b,d⟩);exact⟨h.gF u (CO sc) hI (rr T) rfl rfl rfl rfl (fun _ z=>.inl z) (fun _ z=>.inl z) (fun m z d=>.inl ⟨z,fK h.inv e (fun _ _ z=>z) z d⟩),rr,fun c=>.ed h.inv.bg u (CO sc) rfl rfl⟩
theorem Iv.show (h:Iv T K bY n root A ord g) (hi:i<T) {m p:Int} (hm:D6 A g i m) (hs:A.st m= -1) (q:kS A m p) {b:Bool} (o:Ag A g root m p b) (hj:∀c,A.TC c->A.holds c≠A.val p 0) (u:ka A B (m-1) p) (t:c9 B K root) (e:Ext A B):
  Iv T K bY n root B ord (g.shown m p)/\(∀j,j≠i->Rel j A g B (g.shown m p))/\∀c,gS c A g B (g.shown m p):=by
 have sc:=gw h.inv.bg hm.k;have w:=o.wp h.inv hm.un;have hp:1<=p:=(aF (A:=A) (k0 q.k.2 (by decide))).1;have hI:Inv B K (g.shown m p) root:=h.inv.show hm.k hm.un (by omega) u t e q w fun c hc=>hj c (h.inv.sk.cell c hc);have rr:∀j,j≠i->Rel j A g B (g.shown m p):=fun j hj=>Rel.show h.inv hm.k hm.un hs hp u e fun z=>hj (z.symm.trans hm.own);refine⟨h.gF u (CO sc) hI (rr T (by omega)) rfl rfl rfl rfl (fun _ z=>.inl z) (fun m' z=>?_) (fun m' z d=>?_),rr,fun c=>.ed h.inv.bg u (CO sc) rfl rfl⟩;by_cases z2:m'=m;subst z2;have e1:(g.shown m' p).aa m'=p:=if_pos rfl;rw[e1];exact .inr ⟨h.inv.sk.tr.gH _ w.pc.1,h.inv.sk.tr.gH _ w.nc.1⟩;have e1:(g.shown m p).aa m'=g.aa m':=if_neg z2;rw[e1]at z;exact .inl z;by_cases z2:m'=m;subst z2;have e1:(g.shown m' p).aa m'=p:=if_pos rfl;rw[e1]at d;have:=d.dead.2;rw[u.val]at this;exact absurd w.live.2 this;have e1:(g.shown m p).aa m'=g.aa m':=if_neg z2;rw[e1]at z d;exact .inl ⟨z,fK (g1:=g.shown m p) h.inv e (fun _ _ z=>z) z d⟩
theorem Iv.fQ (h:Iv T K bY n root A ord g) {m p:Int} (hm:g.aa m=p) (hp:p≠0) (hn:A.holds (A.val (A.val p 1) 2)=A.val p 1) (u:ka A B (A.val (A.val p 1) 2) (A.val p 0)) (t:c9 B K root) (e:Ext A B):
  Iv T K bY n root B ord g/\(∀j,Rel j A g B g)/\∀c,gS c A g B g:=by
 obtain⟨q,hs⟩:=h.inv.HB hm hp hn;obtain⟨p0,_⟩:=h.inv.aa m (by rw[hm];exact hp);rw[hm]at p0;have hp1:=h.inv.py (m:=m) (by rw[hm];exact hp);have hx:¬A.RC (A.val (A.val p 1) 2):=Aj (h.inv.sk.cell _ (h.inv.sk.tr.gH _ q.live))
 have rr:∀j,Rel j A g B g:=fun j=>by
  refine Rel.kC h.inv u e q (fun _=>⟨p0.jd.1,by rw[p0.jd.2,hm];exact hp⟩) (fun m' k4 s=>?_) (fun m' k5 k4 s=>?_) fun b k6 k7 s=>?_;rw[hn];intro z;have:=p0.n.1;rw[z,k4]at this;cases this;rw[hn];intro z;subst z;rw[p0.n.2]at s;omega;rw[hn];intro z;have:=p0.n.1;rw[z,k6]at this;cases this
 have hI:Inv B K g root:=h.inv.fQ hm hp u t e hn;exact⟨h.gF u hx hI (rr T) rfl rfl rfl rfl (fun _ z=>.inl z) (fun _ z=>.inl z) (fun m z d=>.inl ⟨z,fK h.inv e (fun _ _ z=>z) z d⟩),rr,fun c=>.ed h.inv.bg u hx rfl rfl⟩
end
section
variable {T i:Nat} {A B C:Ar} {K:eE} {bY:List Pr} {n root c:Int} {ord:List Int} {g g1:Gh} {o:bA}
theorem Iv.split (h:Iv T K bY n root A ord g) (hi:i<T) {cell bZ v k:Int} (w:Ao A g i cell bZ v) (hh:A.holds cell=bZ) (q:Bx A g root cell bZ v k) (u:ka A B cell v) (t:c9 B K root) (e:Ext A B):
  ∃lo hi,Iv T K bY n root B ord (g.split v k lo hi)/\(∀j,j≠i->Rel j A g B (g.split v k lo hi))/\∀c,gS c A g B (g.split v k lo hi):=by
 subst hh;obtain⟨cl,cr⟩:=h.inv.gu w.dn rfl w.free.fb w.home;obtain⟨lo,hi',ei⟩:=h.inv.sk.tr.gH cell cl;have s:Bq A g root cell v k lo hi':=⟨w.dn,w.free.fb,w.home,ei,q.rt,q.low,q.high,q.bp,q.lt,q.W8,q.A8,q.A9,q.mf.2,w.lt,fun r hr z=>by have:=q.mf.1;omega⟩;have hI:=h.inv.split u t e s;have rr:∀j,j≠i->Rel j A g B (g.split v k lo hi'):=fun j hj=>Rel.split h.inv u e s (fun z=>hj (z.symm.trans w.own)) w.free.sN;have hx:¬A.RC cell:=Aj (h.inv.sk.cell _ w.dn);refine⟨lo,hi',h.gF u hx hI (rr T (by omega)) rfl rfl rfl rfl (fun r z=>?_) (fun _ z=>.inl z) (fun m z d=>.inl ⟨z,fK (g1:=g.split v k lo hi') h.inv e (fun u _ z=>show g.lH v (u-5)from .inr (.inr z)) z d⟩),rr,fun c=>.ed h.inv.bg u hx rfl rfl⟩;rcases z with z|z;refine .inr ?_;show g.gp v k r∈K.keys;unfold Gh.gp;rw[if_pos z];obtain⟨x,hx,ek⟩:=q.lt.2.2.2;obtain⟨_,l,hl,hk⟩:=(h.inv.bg.cg (v-2) (k0 q.high.1 (by decide))).base (bL q.high.1 (by decide) (by decide));unfold Ar.bp at hx;rw[hl.ps]at hx;rw[<-ek];exact hk x hx;exact .inl z
theorem Iv.e8 (h:Iv T K bY n root A ord g) {m p:Int} (hm:g.aa m=p) (hp:p≠0) (u:ka A B (A.val p 3) (A.val p 5)) (t:c9 B K root) (e:Ext A B) (hu:A.holds (A.val p 3)=A.val p 2) (hn:A.holds (A.val (A.val p 1) 2)≠A.val p 1):
  ∃lo hi,Iv T K bY n root B ord (g.join (A.val p 2) (g.key (A.val p 2)) lo hi)/\(∀j,Rel j A g B (g.join (A.val p 2) (g.key (A.val p 2)) lo hi))/\∀c,gS c A g B (g.join (A.val p 2) (g.key (A.val p 2)) lo hi):=by
 subst hm;obtain⟨q,ph⟩:=h.inv.aa m hp;rcases ph with⟨sm,w⟩|d
 rotate_left
 have:=d.pc;omega;have tr:=h.inv.sk.tr;obtain⟨lo,hi,ei⟩:=tr.gH _ w.pc.1;have hI:=h.inv.e8 rfl hp u t e hu hn ei;have rr:∀j,Rel j A g B (g.join (A.val (g.aa m) 2) (g.key (A.val (g.aa m) 2)) lo hi):=fun j=>Rel.e8 h.inv rfl hp u e hu ei;have hx:¬A.RC (A.val (g.aa m) 3):=Aj (h.inv.sk.cell _ (tr.gH _ w.pc.1));have RP:A.R (A.val (g.aa m) 3)=some (A.val (g.aa m) 2):=Ar.fV.2 ⟨by rw[w.pc.2];exact q.u,w.pc.2⟩;refine⟨lo,hi,h.gF u hx hI (rr T) rfl rfl rfl rfl (fun _ z=>.inl z) (fun _ z=>.inl z) (fun m' z d=>?_),rr,fun c=>.ed h.inv.bg u hx rfl rfl⟩;obtain⟨q',ph'⟩:=h.inv.aa m' z;rcases ph' with⟨_,w'⟩|d'
 rotate_left
 exact .inl ⟨z,d'⟩;have kp':=k0 q'.k.2 (by decide)
 have hU:A.val (g.aa m') 2=A.val (g.aa m) 2:=Classical.byContradiction fun y=>by
  have dd:¬g.cG (A.val (g.aa m) 2) (B.val (g.aa m') 2-5):=d.dead.2;rw[e.val _ _ kp']at dd;refine dd ⟨w'.live.2,?_,?_⟩;intro x;exact y (by omega);intro x;exact(tr.sep _ w'.live.1).2 _ w.live.1 x
 have:m'=m:=by rw[<-w'.lu,hU,w.lu]
 subst this;refine .inr ?_;obtain⟨a5,a3,e5,e3⟩:=tr.kq _ _ lo hi w.pc.1 ei RP;have rk:=tr.rk _ _ lo hi ei RP;have hkey:=(h.inv.sk.rt _ w.live.1).2.1;have km:=k0 q.k.1 (by decide);have kp:=k0 q.k.2 (by decide);have kj:=k0 q.jd.1 (by decide);have bm:=dJ h.inv.bg e (bL q.k.1 (by decide) (by decide));have bj:=dJ h.inv.bg e (bL q.jd.1 (by decide) (by decide));have bn:dr A (A.val (g.aa m') 1):=bL q.n.1 (by decide) (by decide);obtain⟨ln,hn',en,es⟩:=w.st;have iln:=tr.pt _ _ _ en
 have lfn:A.R (A.val (A.val (g.aa m') 1) 2)=none:=by
  rcases w.nc.2 with y|y;exact absurd y hn;exact Ar.du.2 (by rw[y,q.jd.1];decide)
 have cn:∀x∈A.bp (A.val (g.aa m') 1),ln<=x.k/\x.k<hn':=by
  have:=(h.inv.cont _ ln hn' w.nc.1 lfn en).1;rcases w.nc.2 with y|y;exact absurd y hn;rw[y]at this
  have vj:A.gI (A.val (g.aa m') 0)=A.val (g.aa m') 1:=by
   unfold Ar.gI;rw[q.jd.2,sm,if_pos ⟨q.jd.1,q.k.2,rfl,w.pc.2⟩]
  rw[vj]at this;exact this
 have hml:g.live (A.val m' 2)/\A.R (A.val m' 2)=none:=by
  refine⟨?_,Ar.du.2 (by rw[w.hm,q.k.1];decide)⟩;rcases q.side with y|y<;>rw[y];exact a5;exact a3
 have cm:∀l v,g.iv (A.val m' 2)=some (l,v)->∀x∈A.bp m',l<=x.k/\x.k<v:=fun l v el=>by
  have:=(h.inv.cont _ l v hml.1 hml.2 el).1;rw[w.hm,sO (by rw[q.k.1];decide)]at this;exact this
 have pne:A.val m' 2≠A.val (g.aa m') 3:=fun y=>by
  have:=w.hm;rw[y,w.pc.2]at this;have k4:=q.k.1;rw[<-this,q.u]at k4;cases k4
 have dead:¬g.cG (A.val (g.aa m') 2) (A.val m' 2):=fun y=>by
  rcases q.side with z|z;exact y.2.1 z;exact y.2.2 z
 have im:(g.join (A.val (g.aa m') 2) (g.key (A.val (g.aa m') 2)) lo hi).iv (A.val m' 2)=g.iv (A.val m' 2):=iz dead
 have Pl:g.cG (A.val (g.aa m') 2) (A.val (g.aa m') 3):=⟨w.pc.1,fun y=>by
  have:=tr.ord;have s:=(tr.sep _ w.live.1).1;have:=tr.ord (A.val (g.aa m') 2) (A.val (g.aa m') 2) w.live.1 (.inl (by rw[<-y];exact RP));omega,fun y=>by
  have:=tr.ord (A.val (g.aa m') 2) (A.val (g.aa m') 2) w.live.1 (.inr (by rw[<-y];exact RP));omega⟩
 have hj:∃l' v',(g.join (A.val (g.aa m') 2) (g.key (A.val (g.aa m') 2)) lo hi).iv (A.val (A.val (g.aa m') 0) 2)=some (l',v')/\(if A.val m' 2=A.val (g.aa m') 2-5 then l'<=lo/\g.key (A.val (g.aa m') 2)<=v' else l'<=g.key (A.val (g.aa m') 2)/\hi<=v'):=by
  rcases q.rp with⟨x1,x2,x3⟩| ⟨x1,x2,x3,x4⟩;rw[x3];refine⟨lo,hi,?_,?_⟩;show g.kb _ _ lo hi _=_;rw[fY Pl ei,if_neg (by omega),if_neg (by omega)];split<;>omega;rw[x3]
  have nl:g.cG (A.val (g.aa m') 2) (A.val (A.val (g.aa m') 1) 2):=by
   refine⟨w.nc.1,?_,?_⟩;intro y;rcases q.side with z|z;exact q.nm (y.trans z.symm);exact x4 (by unfold Ar.oc;rw[z];omega);intro y;rcases q.side with z|z;exact x4 (by unfold Ar.oc;rw[z];omega);exact q.nm (y.trans z.symm)
  show∃l' v',g.kb _ _ lo hi _=some (l',v')/\_;rw[fY nl en];rw[hkey]at es;by_cases z:A.val m' 2=A.val (g.aa m') 2-5;rw[if_pos z]at es;rw[if_neg (by omega),if_pos es];exact⟨_,_,rfl,by rw[if_pos z];omega⟩;rw[if_neg z]at es;rw[if_pos es];exact⟨_,_,rfl,by rw[if_neg z];omega⟩
 obtain⟨l',v',ej,hj2⟩:=hj;unfold MV;rw[show(g.join (A.val (g.aa m') 2) (g.key (A.val (g.aa m') 2)) lo hi).aa m'=g.aa m' from rfl,e.val _ _ km,e.val _ _ kp,e.val _ _ kj,bm,bj,q.bp];rcases q.side with z|z;rw[if_pos z]at hj2⊢;rw[z]at im cm⊢;refine⟨⟨lo,_,l',v',im.trans e5,ej,by omega,by omega⟩,fun k hk=>?_,fun x hx=>⟨_,_,im.trans e5,cm _ _ e5 x hx⟩⟩;obtain⟨a,b,eab,k1,k2⟩:=hk;rw[im,e5]at eab;cases eab;rw[if_pos z]at es;rw[hkey]at es;exact(rH (fun x hx=>by have:=cn x hx;omega) k2).symm;have z':¬A.val m' 2=A.val (g.aa m') 2-5:=by omega
 rw[if_neg z']at hj2⊢;rw[z]at im cm⊢;refine⟨⟨_,hi,l',v',im.trans e3,ej,by omega,by omega⟩,fun k hk=>?_,fun x hx=>⟨_,_,im.trans e3,cm _ _ e3 x hx⟩⟩;obtain⟨a,b,eab,k1,k2⟩:=hk;rw[im,e3]at eab;cases eab;rw[if_neg z']at es;rw[hkey]at es;exact(oy (fun x hx=>by have:=cn x hx;omega) k1).symm
theorem BA {S:Int} (t:c9 A K root) (h:A.kind S=7):¬A.TC (S-1)/\¬A.SC (S-1)/\∀r,A.kind r=2->S-1≠r-1:=by
 have rc:=t.Ie h;refine⟨fun q=>?_,fun q=>?_,fun r hr z=>?_⟩;have:=q.2.symm.trans rc.2;cases this;have:=q.2.symm.trans rc.2;cases this;rw[show r=S by omega,h]at hr;cases hr
theorem Rel.res (h:Inv A K g root) {j:Nat} {S v:Int} (k7:A.kind S=7) (u:ka A B (S-1) v) (e:Ext A B):Rel j A g B g:=by
 obtain⟨a,b,d⟩:=BA h.bg k7;exact Rel.gF h u e a b fun r m hr _ _ _ _=>d r (h.sk.rt r hr).1
theorem Ar.Inv.res (h:Inv A K g root) {S v:Int} (k7:A.kind S=7) (u:ka A B (S-1) v) (t:c9 B K root) (e:Ext A B):Inv B K g root:=by
 obtain⟨a,b,d⟩:=BA h.bg k7;exact h.gF u t e a b (fun r hr _=>d r (h.sk.rt r hr).1) fun m q w=>⟨d _ (h.aa m q).1.u,fun x hx _=>d x (h.sk.rt x hx).1⟩
theorem lQ {S v:Int} (u:ka A B (S-1) v) {S':Int} (hS:S'≠S):B.holds (S'-1)=A.holds (S'-1):=by rw[u.holds,if_neg (by omega)]
theorem Iv.P4 (h:Iv T K bY n root A ord g) {S:Int} (k7:A.kind S=7) (h0:A.holds (S-1)=0) (u:ka A B (S-1) (-1)) (t:c9 B K root) (e:Ext A B):Iv T K bY n root B ord g/\(∀j,Rel j A g B g)/\∀c,gS c A g B g:=by
 have hI:=h.inv.res k7 u t e;have rr:∀j,Rel j A g B g:=fun j=>Rel.res h.inv k7 u e;have hs:B.holds (S-1)= -1:=by rw[u.holds,if_pos rfl]
 have z0:∀{S'},B.holds (S'-1)=0->A.holds (S'-1)=0:=fun{S'} q=>by
  by_cases z:S'=S;rw[z,hs]at q;omega;rw[<-lQ u z];exact q
 refine⟨⟨hI,h.own,h.iA,h.cT,⟨fun S' q=>?_,fun S' q=>?_,fun S' q=>?_,fun S' q q0=>?_,fun S' S'' q q' hc q0 q0'=>?_,fun S' l q k9=>?_⟩,qI u h.stat,fun m q=>?_,fun m q d=>?_,h.key,h.vF⟩,rr,fun c=>⟨rfl,fun a q=>q,fun S' q q0=>?_,.inl rfl,fun S' l q hc q0 k9=>?_⟩⟩;rw[u.kind]at q;simp only[u.val];exact h.ef.op S' q;rw[u.kind]at q;simp only[u.val];exact h.ef.rg S' q;rw[u.kind]at q;simp only[u.val];exact h.ef.low S' q;rw[u.kind]at q;rw[u.val];exact h.ef.cT S' q (z0 q0);rw[u.kind]at q q';simp only[u.val]at hc;exact h.ef.one S' S'' q q' hc (z0 q0) (z0 q0');rw[u.kind]at q;by_cases z:S'=S;rw[z,hs]at k9;exact absurd k9 (fa (by omega) (by decide));exact qH h.inv.bg e (fun _ z=>z) h.ef q (lQ u z) k9;simp only[u.val];exact h.pp m q;have d':=fK (g1:=g) h.inv e (fun _ _ z=>z) q d;exact(h.mc m q d').rel h.inv (rr T) q d';rw[u.kind,q0]at q;cases q;by_cases z:S'=S;rw[z,hs]at k9;exact absurd k9 (fa (by omega) (by decide));rw[lQ u z,q0]at k9;exact absurd k9 (fa (by omega) (by decide))
theorem Iv.res (h:Iv T K bY n root A ord g) {S r:Int} {l:List Int} (k7:A.kind S=7) (h0:A.holds (S-1)=0) (k9:A.kind r=9) (rs:Rs A r l) (hbs:∀b∈l,A.kind b=6/\A.val b 3=S/\g.dn (A.val b 2)) (hsame:(eB g.cur (g.eK (A.val S 4))).1=g.cur) (hans:(eB g.cur (g.eK (A.val S 4))).2=qF (g.eK (A.val S 4)) (l.map A.bp))
  (u:ka A B (S-1) r) (t:c9 B K root) (e:Ext A B):Iv T K bY n root B (ord++[A.val S 4]) (g.tell (A.val S 4))/\(∀j,Rel j A g B (g.tell (A.val S 4)))/\∀c,gS c A g B (g.tell (A.val S 4)):=by
 have hl:=h.ef.cT S k7 h0;have eg:g.tell (A.val S 4)={g with cT:=(g.tell (A.val S 4)).cT}:=by unfold Gh.tell;rw[hsame]
 have hI:Inv B K (g.tell (A.val S 4)) root:=by rw[eg];exact(h.inv.res k7 u t e).Bz _
 have rr:∀j,Rel j A g B (g.tell (A.val S 4)):=fun j=>by rw[eg];exact(Rel.res h.inv k7 u e).Bz _
 have hs:B.holds (S-1)=r:=by rw[u.holds,if_pos rfl]
 have r0:r≠0:=fun z=>by have:=aF (A:=A) (id:=r) (k0 k9 (by decide));omega
 have z0:∀{S'},B.holds (S'-1)=0->A.holds (S'-1)=0/\S'≠S:=fun{S'} q=>by
  by_cases z:S'=S;rw[z,hs]at q;exact absurd q r0;exact⟨by rw[<-lQ u z];exact q,z⟩
 have hne:∀c',c'≠A.val S 4->(g.tell (A.val S 4)).cT c'=g.cT c':=fun c' z=>if_neg z;have heq:(g.tell (A.val S 4)).cT (A.val S 4)=some (eB g.cur (g.eK (A.val S 4))).2:=if_pos rfl;refine⟨⟨hI,h.own,vc h.iA _,h.cT.tell hl (h.ef.low S k7),⟨fun S' q=>?_,fun S' q=>?_,fun S' q=>?_,fun S' q q0=>?_,fun S' S'' q q' hc q0 q0'=>?_,fun S' l' q q9 q2=>?_⟩,qI u h.stat,fun m q=>?_,fun m q d=>?_,h.key,by rw[eg];exact h.vF⟩,rr,fun c=>⟨rfl,fun a q=>?_,fun S' q q0=>?_,?_,fun S' l' q hc q0 q9 rs'=>?_⟩⟩;rw[u.kind]at q;simp only[u.val];exact h.ef.op S' q;rw[u.kind]at q;simp only[u.val];exact h.ef.rg S' q;rw[u.kind]at q;simp only[u.val];exact h.ef.low S' q;rw[u.kind]at q;rw[u.val];obtain⟨a,b⟩:=z0 q0;by_cases z:A.val S' 4=A.val S 4;exact absurd (h.ef.one S' S q k7 z a h0) b;rw[hne _ z];exact h.ef.cT S' q a;rw[u.kind]at q q';simp only[u.val]at hc;exact h.ef.one S' S'' q q' hc (z0 q0).1 (z0 q0').1;rw[u.kind]at q;by_cases z:S'=S;subst z;rw[hs]at q2;have:=q2.Nr (rs.ext e);subst this;intro b hb;simp only[u.kind,u.val];exact hbs b hb;exact qH (g:=g) (g1:=g.tell (A.val S 4)) h.inv.bg e (fun _ z=>z) h.ef q (lQ u z) q9 q2;simp only[u.val];exact h.pp m q;have d':=fK (g1:=g.tell (A.val S 4)) h.inv e (fun _ _ z=>z) q d;exact(h.mc m q d').rel h.inv (rr T) q d';by_cases z:c=A.val S 4;rw[z,hl]at q;cases q;rw[hne c z];exact q;rw[u.kind,q0]at q;cases q;by_cases z:c=A.val S 4;exact .inr ⟨S,k7,z.symm,h0,by rw[hs,u.kind];exact k9⟩;exact .inl (hne c z);by_cases z:S'=S;subst z;subst hc;rw[heq,hans];rw[hs]at rs';have:=rs'.Nr (rs.ext e);subst this;rw[CK h.inv.bg e (MU h.inv.bg k9 rs)];rw[lQ u z,q0]at q9;exact absurd q9 (fa (by omega) (by decide))
theorem Iv.gU (h:Iv T K bY n root A ord g) (hb:oQ A g c) (hc:0<=c/\c<n) (hsame:(eB g.cur (g.eK c)).1=g.cur):Iv T K bY n root A (ord++[c]) (g.tell c)/\(∀j,Rel j A g A (g.tell c))/\(∀c',c'≠c->gS c' A g A (g.tell c))/\(g.tell c).cT c=some (eB g.cur (g.eK c)).2:=by
 have eg:g.tell c={g with cT:=(g.tell c).cT}:=by unfold Gh.tell;rw[hsame]
 have hI:Inv A K (g.tell c) root:=by rw[eg];exact h.inv.Bz _
 have rr:∀j,Rel j A g A (g.tell c):=fun j=>by rw[eg];exact(Rel.refl j A g).Bz _
 have hne:∀c',c'≠c->(g.tell c).cT c'=g.cT c':=fun c' z=>if_neg z;refine⟨⟨hI,h.own,vc h.iA _,h.cT.tell hb.1 hc,⟨h.ef.op,h.ef.rg,h.ef.low,fun S q q0=>?_,h.ef.one,h.ef.bs⟩,h.stat,h.pp,fun m q d=>?_,h.key,by rw[eg];exact h.vF⟩,rr,fun c' hc'=>⟨rfl,fun a q=>by rw[hne c' hc'];exact q,fun S q q0=>(by rw[q0]at q;cases q),.inl (hne c' hc'),fun S l q _ q0 k9=>?_⟩,if_pos rfl⟩;by_cases z:A.val S 4=c;have:=hb.2 S q z;omega;rw[hne _ z];exact h.ef.cT S q q0;have d':=fK (g1:=g.tell c) h.inv (.refl A) (fun _ _ z=>z) q d;exact(h.mc m q d').rel h.inv (rr T) q d';rw[q0]at k9;exact absurd k9 (fa (by omega) (by decide))
theorem Iv.store (h:Iv T K bY n root A ord g) (hi:i<T) (hb:oQ A g c) (hc:0<=c/\c<n) (ho:g.eK c=o) {lo hi' q:Int} (hs:PX o lo hi' q) (hr:fM<=lo/\lo<=hi'/\hi'<eU) (t:c9 C K root)
  (hC:C={A with sl:=A.sl++[.cell 0,.cg 7 [lo,hi',A.len+1,q,c]]}):Iv T K bY n root C ord (g.g7 i A.len)/\(∀j,Rel j A g C (g.g7 i A.len))/\(∀c',c'≠c->gS c' A g C (g.g7 i A.len))/\Ai C (g.g7 i A.len) c o (A.len+2)/\C.kind (A.len+2)=7/\C.val (A.len+2) 0=lo/\C.val (A.len+2) 1=hi'/\C.val (A.len+2) 3=q/\C.holds (A.len+1)=0:=by
 obtain⟨g2,k2,v2,l2,c2,h2⟩:=jx (A:=A) (w:=0) (k:=7) (vs:=[lo,hi',A.len+1,q,c]) C hC;have o':vB A C:=Gr.jZ g2;have e:=o'.ext;have v0:=v2 0 _ rfl;have v1:=v2 1 _ rfl;have v3:=v2 3 _ rfl;have v4:=v2 4 _ rfl;simp only[Int.natCast_zero,Int.natCast_one,Int.cast_ofNat_Int]at v0 v1 v3 v4
 have nw:∀{x},C.kind x≠0->A.len<x->x=A.len+2:=fun{x} hx hl=>by
  have hm:=aF (A:=C) (id:=x) hx;by_cases z:x=A.len+1;rw[z,gX c2]at hx;exact absurd rfl hx;omega
 have n4:yc A C:=CJ (xs:=[.cell 0,.cg 7 [lo,hi',A.len+1,q,c]]) (by rw[hC]) (by rw[hC]) (by intro y hy vs z;subst z;simp at hy)
 have ntc:∀x,A.len<x->C.TC x->A.len<C.holds x:=fun x hl hx=>by
  have:=nw (x:=x+1) (by rw[hx.2];decide) (by omega);have k:=hx.2;rw[this,k2]at k;cases k
 have r:∀j,Rel j A g C (g.g7 i A.len):=fun j=>Rel.grow h.inv o' t.ok i ntc
 have bZ:∀{S},C.kind S=7->S=A.len+2\/(A.kind S=7/\S<=A.len):=fun{S} z=>by
  by_cases hl:A.len<S;exact .inl (nw (by rw[z];decide) hl);exact .inr ⟨by rw[<-o'.kind S (by omega)];exact z,by omega⟩
 have hh:∀S,A.kind S=7->C.holds (S-1)=A.holds (S-1):=fun S hS=>o'.holds _ (dc (h.inv.bg.Ie hS).1).2;have e1:A.len+2-1=A.len+1:=by omega
 refine⟨⟨h.inv.made o' n4 t i,fun x=>?_,h.iA,⟨h.cT.cur,h.cT.cT,h.cT.out,h.cT.nd,h.cT.low⟩,⟨fun S z=>?_,fun S z=>?_,fun S z=>?_,fun S z z0=>?_,fun S S' z z' hc' z0 z0'=>?_,fun S l z k9=>?_⟩,fun b hb'=>?_,fun m z=>?_,fun m z d=>?_,h.key,h.vF⟩,r,fun c' hc'=>⟨rfl,fun a z=>z,fun S z z0=>?_,.inl rfl,fun S l z _ z0 k9=>?_⟩,⟨⟨k2,v4⟩,ho,fun S z zc hS=>?_,fun _=>hb.1,fun l k9=>?_⟩,k2,v0,v1,v3,h2⟩;show(if A.len<x then i else g.own x)<T;split;exact hi;exact h.own x;rcases bZ z with rfl| ⟨a,b⟩;rw[v0,v1,v3,v4];show PX (g.eK c) lo hi' q;rw[ho];exact hs;simp only[o'.val S _ b];exact h.ef.op S a;rcases bZ z with rfl| ⟨a,b⟩;rw[v0,v1];exact hr;simp only[o'.val S _ b];exact h.ef.rg S a;rcases bZ z with rfl| ⟨a,b⟩;rw[v4];exact hc;simp only[o'.val S _ b];exact h.ef.low S a;rcases bZ z with rfl| ⟨a,b⟩;rw[v4];exact hb.1;rw[hh S a]at z0;rw[o'.val S _ b];exact h.ef.cT S a z0;rcases bZ z with rfl| ⟨a,b⟩;rcases bZ z' with rfl| ⟨a',b'⟩;rfl;rw[v4,o'.val S' _ b']at hc';rw[hh S' a',hb.2 S' a' hc'.symm]at z0';omega;rcases bZ z' with rfl| ⟨a',b'⟩;rw[v4,o'.val S _ b]at hc';rw[hh S a,hb.2 S a hc']at z0;omega;rw[hh S a]at z0;rw[hh S' a']at z0';rw[o'.val S _ b,o'.val S' _ b']at hc';exact h.ef.one S S' a a' hc' z0 z0';rcases bZ z with rfl| ⟨a,b⟩;rw[e1,h2]at k9;exact absurd k9 (fa (by omega) (by decide));exact qH h.inv.bg e (fun _ z=>z) h.ef a (hh S a) k9;by_cases z:A.len<b;have:=nw hb'.ne z;unfold dr at hb';rw[this,k2]at hb';omega;rw[o'.val b 1 (by omega)];exact h.stat b (by unfold dr at*;rw[o'.kind b (by omega)]at hb';exact hb');have z':g.aa m≠0:=z;obtain⟨p,_⟩:=h.inv.aa m z';show g.dn (C.val (g.aa m) 3)/\g.dn (C.val (C.val (g.aa m) 1) 2);rw[e.val _ _ (k0 p.k.2 (by decide)),e.val _ 1 (k0 p.k.2 (by decide)),e.val _ _ (k0 p.n.1 (by decide))];exact h.pp m z';have z':g.aa m≠0:=z;have d':=fK (g1:=g.g7 i A.len) h.inv e (fun u _ y=>y) z' d;exact(h.mc m z' d').rel h.inv (r i) z' d';rcases bZ z with rfl| ⟨a,b⟩;rw[v4];exact fun y=>hc' y.symm;rw[a]at z0;cases z0;rw[hh S z,z0]at k9;exact absurd k9 (fa (by omega) (by decide));rcases bZ z with rfl| ⟨a,b⟩;exact absurd rfl hS;rw[o'.val S _ b]at zc;rw[hh S a];exact hb.2 S a zc;rw[e1,h2]at k9;exact absurd k9 (fa (by omega) (by decide))
end
section
variable {T i:Nat} {A B C:Ar} {K:eE} {bY:List Pr} {n root c:Int} {ord:List Int} {g g1:Gh} {o:bA}
def P5 (A:Ar) (g:Gh) (b c:Int):Prop:=∃l v,(∀k,g.In c k->l<=k/\k<v)/\(∀x∈A.bp b,l<=x.k/\x.k<v)/\∀k,l<=k->k<v->lk (A.bp b) k=lk g.cur k
theorem sq {x l v:Int} (e:g.iv x=some (l,v)) {k:Int} (h:g.In x k):l<=k/\k<v:=by
 obtain⟨a,b,e',p,q⟩:=h;rw[e]at e';cases e';exact⟨p,q⟩
section
variable (h:Iv T K bY n root A ord g)
include h
theorem Iv.MW {b x:Int} (hp:g.dn x) (hh:A.holds x=b) (hb:dr A b) (h4:A.kind b≠4) (hm:A.val b 2=x):P5 A g b x:=by
 have hl:g.live x:=Classical.byContradiction fun z=>by
  rcases h.inv.dead x hp z with⟨k,_⟩|k| ⟨_,k,_⟩;rw[hh]at k;exact h4 k;rw[hh]at k;exact hb.nr k;rw[hh]at k;exact k hm
 have lf:A.R x=none:=Ar.du.2 (by rw[hh];exact hb.nr);obtain⟨l,v,e⟩:=hp;have ct:=h.inv.cont x l v hl lf e;rw[hh]at ct;by_cases z:A.gI b=b;rw[z]at ct;exact⟨l,v,fun k hk=>sq e hk,ct.1,ct.2⟩
 ·unfold Ar.gI at z;split at z
  rotate_left
  exact absurd rfl z;rename_i w0;have k4:=(h.inv.bg.cg b hb.ne).ai w0.1;generalize hmm:A.val b 3=m at w0 z k4
  have hp':g.aa m≠0/\A.st m=g.aa m:=by
   rcases h.inv.main m k4 with⟨_,y⟩| ⟨y,y2⟩;exact absurd w0.2.1 (by rcases y with y|y<;>exact fa (by omega) (by decide));rcases y2 with y2|y2;exact⟨y,y2⟩;exact absurd w0.2.1 (fa (by omega) (by decide))
  obtain⟨q,ph⟩:=h.inv.aa m hp'.1;rw[hp'.2]at w0;obtain⟨w1,w2,w3,w4⟩:=w0;rcases ph with⟨sm,w⟩|d
  rotate_left
  have:=d.pc;omega
  have vb:A.gI b=A.val (g.aa m) 1:=by
   unfold Ar.gI;rw[hmm,hp'.2,if_pos ⟨w1,w2,w3,w4⟩]
  rw[vb]at ct
  have hx:x=A.val (A.val (g.aa m) 1) 2:=by
   rcases q.rp with⟨x1,x2,x3⟩| ⟨_,_,x3,_⟩;rw[w3,hm]at x3;rw[x3,w.pc.2]at hh;rw[<-hh,q.u]at w1;cases w1;rw[w3,hm]at x3;exact x3
  obtain⟨ln,vn,en,es⟩:=w.st;rw[<-hx,e]at en;cases en;have tr:=h.inv.sk.tr;have RP:A.R (A.val (g.aa m) 3)=some (A.val (g.aa m) 2):=Ar.fV.2 ⟨by rw[w.pc.2];exact q.u,w.pc.2⟩;obtain⟨lo,hi,ei⟩:=tr.gH _ w.pc.1;obtain⟨a5,a3,e5,e3⟩:=tr.kq _ _ lo hi w.pc.1 ei RP;have rk:=tr.rk _ _ lo hi ei RP;have hkey:=(h.inv.sk.rt _ w.live.1).2.1;rw[hkey]at es;have ilx:=tr.pt _ _ _ e
  have hml:g.live (A.val m 2)/\A.R (A.val m 2)=none:=by
   refine⟨?_,Ar.du.2 (by rw[w.hm,q.k.1];decide)⟩;rcases q.side with y|y<;>rw[y];exact a5;exact a3
  have cm:∀l v,g.iv (A.val m 2)=some (l,v)->(∀x∈A.bp m,l<=x.k/\x.k<v)/\∀k,l<=k->k<v->lk (A.bp m) k=lk g.cur k:=fun l v el=>by
   have:=h.inv.cont _ l v hml.1 hml.2 el;rw[w.hm,sO (by rw[q.k.1];decide)]at this;exact this
  have bb:=q.bp;rw[w3]at bb;by_cases s:A.val m 2=A.val (g.aa m) 2-5;rw[if_pos s]at bb es;rw[s]at cm;obtain⟨c1,c2⟩:=cm _ _ e5;refine⟨lo,v,fun k hk=>?_,fun y hy=>?_,fun k k1 k2=>?_⟩;have:=sq e hk;omega;rw[bb]at hy;rcases List.mem_append.1 hy with hy|hy;have:=c1 y hy;omega;have:=ct.1 y hy;omega;rw[bb];by_cases y:k<g.key (A.val (g.aa m) 2);rw[rH (fun x hx=>by have:=ct.1 x hx;omega) y];exact c2 k k1 y;rw[oy (fun x hx=>(c1 x hx).2) (by omega)];exact ct.2 k (by omega) k2;rw[if_neg s]at bb es;have s':A.val m 2=A.val (g.aa m) 2-3:=q.side.resolve_left s;rw[s']at cm;obtain⟨c1,c2⟩:=cm _ _ e3;refine⟨l,hi,fun k hk=>?_,fun y hy=>?_,fun k k1 k2=>?_⟩;have:=sq e hk;omega;rw[bb]at hy;rcases List.mem_append.1 hy with hy|hy;have:=ct.1 y hy;omega;have:=c1 y hy;omega;rw[bb];by_cases y:k<g.key (A.val (g.aa m) 2);rw[rH (fun x hx=>(c1 x hx).1) y];exact ct.2 k k1 (by omega);rw[oy (k:=g.key (A.val (g.aa m) 2)) (fun x hx=>by have:=ct.1 x hx;omega) (by omega)];exact c2 k (by omega) k2
theorem Iv.J5 {m:Int} (k4:A.kind m=4) (hp:g.dn (A.val m 2)) (h1:A.st m= -1->A.holds (A.val m 2)=m) (h2:A.st m≠-2) (h3:A.st m≠-3):P5 A g m (A.val m 2):=by
 have place:A.holds (A.val m 2)=m->g.live (A.val m 2)->P5 A g m (A.val m 2):=fun hh hl=>by
  have lf:A.R (A.val m 2)=none:=Ar.du.2 (by rw[hh,k4];decide);obtain⟨l,v,e⟩:=hp;have ct:=h.inv.cont _ l v hl lf e;rw[hh,sO (by rw[k4];decide)]at ct;exact⟨l,v,fun k hk=>sq e hk,ct.1,ct.2⟩
 rcases h.inv.main m k4 with⟨y0,y⟩| ⟨y,y2⟩;have hs:A.st m= -1:=y.resolve_right h2;refine place (h1 hs) (Classical.byContradiction fun z=>?_);rcases h.inv.dead _ hp z with⟨_,k,_⟩|k| ⟨k,_⟩;rw[h1 hs]at k;exact k y0;rw[h1 hs,k4]at k;cases k;rw[h1 hs,k4]at k;cases k;have hs:A.st m=g.aa m:=y2.resolve_right h3;obtain⟨q,ph⟩:=h.inv.aa m y;rcases ph with⟨_,w⟩|d
 have hl:g.live (A.val m 2):=by
  rcases q.side with z|z<;>rw[z];exact w.live.2;exact(h.inv.sk.tr.both _ w.live.1).1 w.live.2
 exact place w.hm hl;obtain⟨j1,j2⟩:=d.jd hs;obtain⟨cv,c1,c2⟩:=h.mc m y d;obtain⟨l,v,l',v',e,e',p,p'⟩:=cv;have lf:A.R (A.val (A.val (g.aa m) 0) 2)=none:=Ar.du.2 (by rw[j2,q.jd.1];decide);have ct:=h.inv.cont _ l' v' j1 lf e'
 have vj:A.gI (A.val (g.aa m) 0)=A.val (g.aa m) 0:=by
  unfold Ar.gI;rw[q.jd.2,hs,if_neg];intro z;have:=z.2.2.2;have:=d.pc;omega
 rw[j2,vj]at ct;refine⟨l,v,fun k hk=>sq e hk,fun x hx=>sq e (c2 x hx),fun k k1 k2=>?_⟩;rw[c1 k ⟨l,v,e,k1,k2⟩];exact ct.2 k (by omega) (by omega)
theorem Iv.J6 {m x:Int} (k4:A.kind m=4) (hp:g.dn x) (hs:A.st m= -2) (hh:A.holds x=m) (hm:A.val m 2=x):P5 A g m x:=by
 have hb:dr A m:=bL k4 (by decide) (by decide);obtain⟨hl,lf⟩:=h.inv.gu hp hh ⟨hb,fun _=>hs,fun z=>by rw[k4]at z;cases z⟩ hm;obtain⟨l,v,e⟩:=hp;have ct:=h.inv.cont _ l v hl lf e;rw[hh,sO (by rw[k4];decide)]at ct;exact⟨l,v,fun k hk=>sq e hk,ct.1,ct.2⟩
end
theorem D9 {l m:List Pr} (h1:jv l) (h2:jv m) {lo hi:Int} (h:∀k,lo<=k->k<=hi->lk l k=lk m k):dG l lo hi=dG m lo hi:=by
 refine(h1.filter _).ext (h2.filter _) fun x=>?_
 have key:∀{l m:List Pr},jv l->jv m->(∀k,lo<=k->k<=hi->lk l k=lk m k)->x∈l.filter (Ef lo hi)->x∈m.filter (Ef lo hi):=fun{l m} a b q hx=>by
  obtain⟨p,r⟩:=List.mem_filter.1 hx;have r':lo<=x.k/\x.k<=hi:=by simpa[Ef]using r
  refine List.mem_filter.2 ⟨?_,r⟩;have:=(fq a (k:=x.k) (v:=x.v)).2 p;rw[q x.k r'.1 r'.2]at this;exact(fq b).1 this
 exact⟨key h1 h2 h,key h2 h1 fun k a b=>(h k a b).symm⟩
section
variable {l:List Pr} (h:jv l)
include l h
theorem nS (o:bA) (ho:eG o=false):(eB l o).1=l:=by
 simp[eG]at ho;unfold eB;split
 ·rw[if_neg ho.1,if_neg ho.2.1,if_neg ho.2.2]
  repeat' split
  all_goals rfl
 rfl
theorem J7 {o:bA} (ho:o.kind=4):(eB l o).2=vV l o.key:=by
 unfold eB;rw[dF.2 h,show fj o=true by simp[fj];omega];simp[ho]
theorem rI {o:bA} (ho:o.kind=5):(eB l o).2=⟨0,false,⟨0,0⟩,((dG l o.key o.hi).length:Int),dG l o.key o.hi⟩:=by
 unfold eB;rw[dF.2 h,show fj o=true by simp[fj];omega];simp[ho]
theorem rJ {o:bA} (ho:o.kind=6):(eB l o).2=⟨0,false,⟨0,0⟩,((dG l o.key o.hi).length:Int),[]⟩:=by
 unfold eB;rw[dF.2 h,show fj o=true by simp[fj];omega];simp[ho]
theorem CQ {o:bA} (ho:o.kind=7):(eB l o).2=o0 l.head?:=by
 unfold eB;rw[dF.2 h,show fj o=true by simp[fj];omega];simp[ho]
theorem CR {o:bA} (ho:o.kind=8):(eB l o).2=o0 l.getLast?:=by
 unfold eB;rw[dF.2 h,show fj o=true by simp[fj];omega];simp[ho]
end
theorem BB {o:bA} (ho:o.kind=5):∀(ls:List (List Pr)) (a:An),ls.foldl (fun a l=>if o.kind=6 then{a with n:=IntKind.i64.wrap (a.n+((dG l o.key o.hi).length:Int))}
  else{a with l:=a.l++dG l o.key o.hi,n:=((a.l++dG l o.key o.hi).length:Int)}) a=if ls=[]then a else{a with l:=a.l++dG ls.flatten o.key o.hi,n:=((a.l++dG ls.flatten o.key o.hi).length:Int)}
 | [],a=>rfl
 |l::ls,a=>by
  have h6:¬o.kind=6:=by omega
  rw[List.foldl_cons,BB ho ls];simp only[if_neg h6];have ba:∀a b:List Pr,dG (a++b) o.key o.hi=dG a o.key o.hi++dG b o.key o.hi:=fun a b=>List.filter_append ..;by_cases e:ls=[];subst e;simp;rw[if_neg e,if_neg (by simp)];simp[ba,List.append_assoc]
theorem BC {o:bA} (ho:o.kind=6):∀(ls:List (List Pr)) (a:An),0<=a.n->a.n+(ls.flatten.length:Int)<=1000000->ls.foldl (fun a l=>if o.kind=6 then{a with n:=IntKind.i64.wrap (a.n+((dG l o.key o.hi).length:Int))}
  else{a with l:=a.l++dG l o.key o.hi,n:=((a.l++dG l o.key o.hi).length:Int)}) a={a with n:=a.n+((dG ls.flatten o.key o.hi).length:Int)}
 | [],a,_,_=>by simp[dG]
 |l::ls,a,h0,h1=>by
  have ba:∀a b:List Pr,dG (a++b) o.key o.hi=dG a o.key o.hi++dG b o.key o.hi:=fun a b=>List.filter_append ..;have hl:(dG l o.key o.hi).length<=l.length:=List.length_filter_le _ _;have e:((l::ls).flatten.length:Int)=l.length+ls.flatten.length:=by simp
  rw[e]at h1;rw[List.foldl_cons,if_pos ho,sZ (by omega) (by omega),BC ho ls _ (by show(0:Int)<=a.n+_;omega) (by show a.n+_+_<=_;omega)];simp[ba];omega
def Ak:Option Pr->An->An
 |some p,_=>⟨0,true,p,0,[]⟩
 |none,a=>a
theorem yg (o:bA) (a:An) (l:List Pr):D5 o a l=if a.ok=false\/o.kind=8 then Ak (if o.kind=8 then l.getLast? else l.head?) a else a:=by
 unfold D5
 cases(if o.kind=8 then l.getLast? else l.head?)with
 |none=>simp[Ak]
 |some p=>simp[Ak]
theorem yh {o:bA} (ho:o.kind=7):∀(ls:List (List Pr)) (a:An),ls.foldl (D5 o) a=if a.ok then a else Ak ls.flatten.head? a
 | [],a=>by simp[Ak]
 |l::ls,a=>by
  have h8:¬o.kind=8:=by omega
  rw[List.foldl_cons,yh ho ls,yg,if_neg h8]
  cases l with
  |nil=>cases e:a.ok<;>simp[Ak,h8,e]
  |cons p l=>cases e:a.ok<;>simp[Ak,h8,e]
theorem yi {o:bA} (ho:o.kind=8):∀(ls:List (List Pr)) (a:An),ls.foldl (D5 o) a=Ak ls.flatten.getLast? a
 | [],a=>by simp[Ak]
 |l::ls,a=>by
  rw[List.foldl_cons,yi ho ls,yg,if_pos (.inr ho),if_pos ho,List.flatten_cons,List.getLast?_append]
  cases e:ls.flatten.getLast? with
  |some p=>simp[Ak]
  |none=>simp[Ak]
theorem HM (hc:jv g.cur) (hf:g.cur.length<=1000000) {ls:List (List Pr)} {lo hi q:Int} (hs:PX o lo hi q) (hrng:∀x∈g.cur,fM<=x.k/\x.k<eU) (h1:jv ls.flatten) (h2:∀x∈ls.flatten,x∈g.cur) (h3:∀x∈g.cur,lo<=x.k->x.k<=hi->x∈ls.flatten):
  (eB g.cur o).1=g.cur/\(eB g.cur o).2=qF o ls:=by
 have hu:eG o=false:=by
  rcases hs with⟨a,_⟩| ⟨a,_⟩<;>(simp[eG];omega)
 refine⟨nS hc o hu,?_⟩;have hlen:ls.flatten.length<=g.cur.length:=eu _ _ h1.nodup h2;rcases hs with⟨a,rfl,rfl,_⟩| ⟨a,rfl,rfl,_⟩
 ·have hall:ls.flatten=g.cur:=h1.ext hc fun x=>⟨h2 x,fun hx=>h3 x hx (hrng x hx).1 (by have:=(hrng x hx).2;unfold Ar.jf;unfold eU at this;omega)⟩;unfold qF;rw[if_pos a];unfold qE;rcases a with a|a
  ·rw[yh a,CQ hc a,hall]
   cases e:g.cur.head?<;>rfl
  ·rw[yi a,CR hc a,hall]
   cases e:g.cur.getLast?<;>rfl
 ·have hb:dG ls.flatten o.key o.hi=dG g.cur o.key o.hi:=by
   refine(h1.filter _).ext (hc.filter _) fun x=>?_;unfold dG;rw[List.mem_filter,List.mem_filter];refine⟨fun⟨p,r⟩=>⟨h2 x p,r⟩,fun⟨p,r⟩=>⟨?_,r⟩⟩;have r':o.key<=x.k/\x.k<=o.hi:=by simpa[Ef]using r
   exact h3 x p r'.1 r'.2
  unfold qF;rw[if_neg (by omega)];unfold Ah;rcases a with a|a
  ·rw[BB a,rI hc a];by_cases e:ls=[]
   ·subst e;rw[if_pos rfl,<-hb];simp[dG,An.zero]
   ·rw[if_neg e,hb];simp[An.zero]
  ·rw[BC a _ _ (Int.le_refl _) (by show(0:Int)+_<=_;omega),rJ hc a,hb];simp[An.zero]
theorem J8 (h:Inv A K g root) {S lo k:Int} {l:List Int} (hc:yp A g S lo l k) (hp:∀b∈l,A.holds (A.val b 2)=b) (hcur:jv g.cur):
  jv (l.map A.bp).flatten/\(∀x∈(l.map A.bp).flatten,x∈g.cur)/\(∀x∈g.cur,lo<=x.k->x.k<k->x∈(l.map A.bp).flatten)/\lo<=k/\
  ((l=[]/\k=lo)\/∃b p q,l.getLast?=some b/\g.live (A.val b 2)/\A.R (A.val b 2)=none/\g.iv (A.val b 2)=some (p,q)/\p<k/\k<=q/\(∀x∈(l.map A.bp).flatten,x.k<q)/\∀x,p<=x.k->x.k<q->x∈g.cur->x∈A.bp b):=by
 have dx:∀{b k k':Int},A.kind b=6->A.holds (A.val b 2)=b->g.Cv (A.val b 2) k k'->g.live (A.val b 2)/\A.R (A.val b 2)=none/\∃p q,g.iv (A.val b 2)=some (p,q)/\p<=k/\k<k'/\k'<=q/\(∀x∈A.bp b,p<=x.k/\x.k<q)/\∀z,p<=z->z<q->lk (A.bp b) z=lk g.cur z:=fun{b k k'} k6 hh cv=>by
  obtain⟨lt,p,q,e,a,d⟩:=cv;have lf:A.R (A.val b 2)=none:=Ar.du.2 (by rw[hh,k6];decide)
  have hl:g.live (A.val b 2):=Classical.byContradiction fun z=>by
   rcases h.dead _ ⟨p,q,e⟩ z with⟨y,_⟩|y| ⟨y,_⟩<;>(rw[hh,k6]at y;cases y)
  have ct:=h.cont _ p q hl lf e;rw[hh,sO (by rw[k6];decide)]at ct;exact⟨hl,lf,p,q,e,a,lt,d,ct.1,ct.2⟩
 induction hc with
 |nil=>exact⟨by simp[jv],by simp,fun x _ a b=>by omega,Int.le_refl _,.inl ⟨rfl,rfl⟩⟩
 | @snoc l b k k' h1 k6 b3 cv nl ih=>
  obtain⟨i1,i2,i3,i4,i5⟩:=ih fun x hx=>hp x (List.mem_append_left _ hx);have hb:=hp b (List.mem_append_right _ (List.mem_singleton.2 rfl));obtain⟨lv,lf,p,q,e,a1,a2,a3,c1,c2⟩:=dx k6 hb cv;have ab:=Bu h.bg (b:=b) (bL k6 (by decide) (by decide))
  have cur1:∀x∈A.bp b,x∈g.cur:=fun x hx=>by
   obtain⟨z1,z2⟩:=c1 x hx;exact(fq hcur).1 ((c2 x.k z1 z2).symm.trans ((fq ab).2 hx))
  have cur2:∀x∈g.cur,p<=x.k->x.k<q->x∈A.bp b:=fun x hx z1 z2=>(fq ab).1 ((c2 x.k z1 z2).trans ((fq hcur).2 hx));have em:((l++[b]).map A.bp).flatten=(l.map A.bp).flatten++A.bp b:=by simp
  have before:∀x∈(l.map A.bp).flatten,x.k<p:=by
   rcases i5 with⟨rfl,_⟩| ⟨b',p',q',z1,z2,z3,z4,z5,z6,z7,_⟩;intro x hx;simp at hx;have hb':=hp b' (List.mem_append_left _ (List.mem_of_getLast? z1))
   have hne:A.val b' 2≠A.val b 2:=fun y=>by
    rw[y,hb]at hb';rw[hb']at nl;exact nl z1
   have d1:∀z,p'<=z->z<q'->p<=z->z<q->False:=fun z y1 y2 y3 y4=>hne (h.sk.tr.rq _ _ p' q' p q z z2 lv z3 lf z4 e y1 y2 y3 y4);have hq:q'<=p:=Int.not_lt.1 fun y=>d1 (if p'<=p then p else p') (by split<;>omega) (by split<;>omega) (by split<;>omega) (by split<;>omega);intro x hx;have:=z7 x hx;omega
  refine⟨?_,fun x hx=>?_,fun x hx z1 z2=>?_,by omega,.inr ⟨b,p,q,by simp,lv,lf,e,by omega,a3,fun x hx=>?_,fun x z1 z2 hx=>cur2 x hx z1 z2⟩⟩;rw[em];refine List.pairwise_append.2 ⟨i1,ab,fun x hx y hy=>?_⟩;have:=before x hx;have:=(c1 y hy).1;omega;rw[em]at hx;rcases List.mem_append.1 hx with hx|hx;exact i2 x hx;exact cur1 x hx;rw[em];by_cases z:x.k<k;exact List.mem_append_left _ (i3 x hx z1 z);exact List.mem_append_right _ (cur2 x hx (by omega) (by omega));rw[em]at hx;rcases List.mem_append.1 hx with hx|hx;have:=before x hx;omega;exact(c1 x hx).2
 | @more l b k k' h1 hl cv ih=>
  obtain⟨i1,i2,i3,i4,i5⟩:=ih hp;obtain⟨lt,p,q,e,a,d⟩:=cv;refine⟨i1,i2,fun x hx z1 z2=>?_,by omega,?_⟩;by_cases z:x.k<k;exact i3 x hx z1 z;rcases i5 with⟨rfl,_⟩| ⟨b',p',q',y1,y2,y3,y4,y5,y6,y7,y8⟩;simp at hl;rw[hl]at y1;cases y1;rw[e]at y4;cases y4;have:=y8 x (by omega) (by omega) hx;exact List.mem_flatten.2 ⟨_,List.mem_map.2 ⟨b,List.mem_of_getLast? hl,rfl⟩,this⟩;rcases i5 with⟨rfl,_⟩| ⟨b',p',q',y1,y2,y3,y4,y5,y6,y7,y8⟩;simp at hl;have y1':=y1;rw[hl]at y1';cases y1';have y4':=y4;rw[e]at y4';cases y4';exact .inr ⟨b,_,_,y1,y2,y3,y4,by omega,d,y7,y8⟩
end
def ji (A:Ar) (g:Gh) (sp jn:Int):Prop:=0<=jn/\∃sw:List Int,sw.Nodup/\(∀m,m∈sw<->g.aa m≠0/\A.st m=g.aa m/\¬g.live (A.val (g.aa m) 2-5))/\(g.j7.length:Int)+sw.length+jn=sp
structure Cn (T:Nat) (K:eE) (i:Nat) (n c:Int) (o:bA):Prop where
 iT:i<T
 c0:0<=c/\c<n
 op:HJ o
 may:fj o=true
 gN:K.keys.length<=1000000
 sN:∀k∈K.keys,fM<=k/\k<eU
 key:eG o=true->o.key∈K.keys
 km:K.keys.length+1<=K.m
structure Fx where
 T:Nat
 K:eE
 bY:List Pr
 n:Int
 root:Int
 i:Nat
 c:Int
 o:bA
 A0:Ar
 g0:Gh
 P6:List Int
 P7:Int
 Vv:Int
structure Qu (F:Fx) (A:Ar) (g:Gh):Prop where
 nx:∀j c' o' N nx,j≠F.i->c'≠F.c->xW F.A0 F.K N o' nx->CN F.K F.A0 F.g0 F.root j o' c' nx->xW A F.K N o' nx/\CN F.K A g F.root j o' c' nx
 cT:∀c',c'≠F.c->∀a,F.g0.cT c'=some a->g.cT c'=some a
 MY:∀c',c'≠F.c->oQ F.A0 F.g0 c'->oQ A g c'
 eK:g.eK=F.g0.eK
structure Md (F:Fx) (s:Sy) (g:Gh):Prop where
 cn:Cn F.T F.K F.i F.n F.c F.o
 iv:Iv F.T F.K F.bY F.n F.root s.ar s.ord g
 vG:Qu F s.ar g
 eK:g.eK F.c=F.o
 cl:s.th.call=F.c
 op:s.th.op=F.o
 rt:s.root=F.root
 bz:s.th.busy=true
 nx:s.th.next=none
 pre:F.P6<+:s.ord
 mN:ji s.ar g s.splits s.aA
 sp:s.splits=F.P7/\F.P7<1000000/\F.Vv<=s.aA
structure Xy (F:Fx) (s:Sy) (g:Gh):Prop where
 iv:Iv F.T F.K F.bY F.n F.root s.ar s.ord g
 vG:Qu F s.ar g
 cl:s.th.call=F.c
 op:s.th.op=F.o
 rt:s.root=F.root
 pre:F.P6<+:s.ord
 mN:ji s.ar g s.splits s.aA
 sp:(s.splits=F.P7\/(s.splits=F.P7+1/\s.th.busy=false))/\F.Vv<=s.aA
 fin:(s.th.busy=true/\∃nx,s.th.next=some nx/\CN F.K s.ar g F.root F.i F.o F.c nx)\/(s.th.busy=false/\s.th.next=none/\s.th.iR=true/\(g.cT F.c=some s.th.cR\/(s.th.cR= .full/\oQ s.ar g F.c)))
def En (F:Fx) (s:Sy):Prop:=∃g,Xy F s g
section
variable {F:Fx} {s:Sy} {g g1:Gh} {A B:Ar}
theorem ji.bE {sp jn:Int} {K:eE} {root:Int} (hI:Inv A K g root) (h:ji A g sp jn) (e:Ext A B) (hr:g1.j7.length=g.j7.length) (h1:∀m,g.aa m≠0->g1.aa m=g.aa m/\B.st m=A.st m/\(g1.live (A.val (g.aa m) 2-5)<->g.live (A.val (g.aa m) 2-5)))
  (h2:∀m,g.aa m=0->g1.aa m≠0->g1.live (B.val (g1.aa m) 2-5)):ji B g1 sp jn:=by
 obtain⟨h0,sw,nd,hm,hc⟩:=h;refine⟨h0,sw,nd,fun m=>?_,by rw[hr];exact hc⟩;rw[hm m];by_cases z:g.aa m=0;exact⟨fun q=>absurd z q.1,fun q=>absurd (h2 m z q.1) q.2.2⟩;obtain⟨a,b,d⟩:=h1 m z;have kp:=k0 (hI.aa m z).1.k.2 (by decide);rw[a,b,e.val _ _ kp,d]
theorem Md.iY (h:Qu F A g) (hI:Inv A F.K g F.root) (hpp:Qt A g) (hB:Inv B F.K g1 F.root) (r:∀j,j≠F.i->Rel j A g B g1) (rc:∀c',c'≠F.c->gS c' A g B g1) (e1:g1.eK=g.eK) (e:Ext A B):Qu F B g1:=by
 refine⟨fun j c' o' N nx hj hc ht hx=>?_,fun c' hc a q=>(rc c' hc).cT a (h.cT c' hc a q),fun c' hc q=>(h.MY c' hc q).rel hI.bg e (rc c' hc),e1.trans h.eK⟩;obtain⟨a,b⟩:=h.nx j c' o' N nx hj hc ht hx;refine⟨a.ext hI.bg e (Nat.le_refl _),?_⟩;have R:=r j hj;have C:=rc c' hc
 cases nx with
 |load cell k=>exact J2.rel hI hB R C a b
 |swap cell bZ now k=>exact Ih.rel hI hB hpp R C a.2 b
 |once cell v k=>
  obtain⟨j',r',rfl,hk,hf,hv⟩:=b;obtain⟨j2,r2,e2,h2,h3,h4,h5⟩:=a
  cases e2
  refine⟨_,_,rfl,oz.rel hI.bg R C h4 hk,hf,fun q=>?_⟩;obtain⟨key,c1,c2,c3,c4⟩:=hv q;have hn:=k0 h3.ef (by decide);exact⟨key,by rw[R.ext.val _ _ hn];exact(c1.rel R).1,by rw[R.ext.val _ _ hn];exact c2,c3.ext e,qG hI.bg c1 h3.ef c4 R⟩
 |zero=>exact⟨b.1.rel hI.bg e C,b.2⟩
theorem Md.grow (h:Md F s g) (mk:Mk s.ar B) (t:c9 B F.K F.root):Md F (s.bq B) (g.g7 F.i s.ar.len)/\(∀j,Rel j s.ar g B (g.g7 F.i s.ar.len))/\∀c,gS c s.ar g B (g.g7 F.i s.ar.len):=by
 obtain⟨iv,r,rc⟩:=h.iv.grow h.cn.iT mk t;have e:=mk.jZ.ext;refine⟨⟨h.cn,iv,Md.iY h.vG h.iv.inv h.iv.pp iv.inv (fun j _=>r j) (fun c _=>rc c) rfl e,h.eK,h.cl,h.op,h.rt,h.bz,h.nx,h.pre,h.mN.bE h.iv.inv e rfl (fun m z=>⟨rfl,?_,Iff.rfl⟩) fun m z q=>absurd z q,h.sp⟩,r,rc⟩;exact mk.jZ.holds _ (dc (gw h.iv.inv.bg (h.iv.inv.aa m z).1.k.1).1).2
theorem Md.go (h:Md F s g) {n:Nx} (hn:CN F.K s.ar g F.root F.i F.o F.c n):En F (s.go n):=⟨g,h.iv,h.vG,h.cl,h.op,h.rt,h.pre,h.mN,⟨.inl h.sp.1,h.sp.2.2⟩,.inl ⟨h.bz,n,rfl,hn⟩⟩
theorem Md.ret (h:Md F s g) {a:An} (ha:g.cT F.c=some a):En F (s.ret a):=⟨g,h.iv,h.vG,h.cl,h.op,h.rt,h.pre,h.mN,⟨.inl h.sp.1,h.sp.2.2⟩,.inr ⟨rfl,h.nx,rfl,.inl ha⟩⟩
theorem Md.full (h:Md F s g) (hb:oQ s.ar g F.c):En F s.full:=⟨g,h.iv,h.vG,h.cl,h.op,h.rt,h.pre,h.mN,⟨.inl h.sp.1,h.sp.2.2⟩,.inr ⟨rfl,h.nx,rfl,.inr ⟨rfl,hb⟩⟩⟩
theorem Md.gU (h:Md F s g) {a:An} (hb:oQ s.ar g F.c) (h1:(eB g.cur F.o).1=g.cur) (h2:(eB g.cur F.o).2=a):En F (s.gU a):=by
 obtain⟨iv,r,rc,hl⟩:=h.iv.gU hb h.cn.c0 (by rw[h.eK];exact h1);rw[h.eK,h2]at hl;refine⟨g.tell F.c,?_,Md.iY h.vG h.iv.inv h.iv.pp iv.inv (fun j _=>r j) rc rfl (.refl _),h.cl,h.op,h.rt,?_,h.mN.bE h.iv.inv (.refl _) rfl (fun m z=>⟨rfl,rfl,Iff.rfl⟩) fun m z q=>absurd z q,⟨.inl h.sp.1,h.sp.2.2⟩,.inr ⟨rfl,h.nx,rfl,.inl hl⟩⟩;show Iv F.T F.K F.bY F.n F.root s.ar (s.ord++[s.th.call]) (g.tell F.c);rw[h.cl];exact iv;obtain⟨l,e⟩:=h.pre;exact⟨l++[s.th.call],by show _=s.ord++[s.th.call];rw[<-e,List.append_assoc]⟩
theorem Md.late (h:Md F s g):Md F s.late g:=⟨h.cn,h.iv,h.vG,h.eK,h.cl,h.op,h.rt,h.bz,h.nx,h.pre,h.mN,h.sp⟩
theorem Md.down (h:Md F s g) {f:Fo} {key:Int} {k:KF} (hf:HI F.K g F.root f key) (hk:Ic F.K s.ar g F.o F.c key k):En F (s.down f key k):=h.go (n:=.load f.cell (.down f key k)) ⟨hf,hk⟩
theorem Md.find (h:Md F s g) {key:Int} {k:KF} (hr:fM<=key/\key<eU) (hk:Ic F.K s.ar g F.o F.c key k):En F (s.find key k):=by
 refine h.down ⟨fun q=>(by cases q),?_,fun q=>absurd rfl q,fun _=>h.rt⟩ hk;show g.Cv s.root key eU;rw[h.rt];exact⟨hr.2,_,_,h.iv.inv.sk.tr.rt.2,hr.1,Int.le_refl _⟩
theorem GI.sN {o:bA} {key:Int} {k:KG} (ho:HJ o) (h:GI o key k):fM<=key/\key<eU:=by
 obtain⟨a,b,_,_⟩:=ho
 cases k with
 |qV=>rw[h.2];exact⟨a,b⟩
 |ends=>rcases h with⟨_,rfl⟩| ⟨_,rfl⟩<;>(unfold fM eU;first|unfold Ar.jP|unfold Ar.jf)<;>omega
 |dL=>rw[h.2.1];exact⟨a,b⟩
theorem Md.looks (h:Md F s g) {key:Int} {k:KG} (hb:oQ s.ar g F.c) (hk:GI F.o key k):En F (s.looks key k):=h.find (k:=.looks key k) (hk.sN h.cn.op) ⟨rfl,hb,hk⟩
theorem Md.update (h:Md F s g) (hb:oQ s.ar g F.c) (ho:eG F.o=true):En F s.update:=by
 refine h.find (k:=.update) ?_ ⟨hb,ho,by rw[h.op]⟩;rw[h.op];exact⟨h.cn.op.1,h.cn.op.2.1⟩
theorem Md.dx (h:Md F s g) {j:Jb} {key:Int} {r:KR} (k7:s.ar.kind j.store.id=7) (hj:wJ F.K s.ar g j key) (hr:oz F.K s.ar g F.o F.c j.store.id r):En F (s.dx j key r):=by
 have:=h.iv.ef.rg _ k7;have a:=hj.lo;have b:=hj.hi;exact h.find (k:=.leaf j key r) (by omega) ⟨rfl,hj,hr⟩
theorem Md.mJ (h:Md F s g) {N:Nat}:∀{u:KU},zK s.ar F.K N F.o u->El F.K s.ar g F.o F.c u->En F (s.mJ u)
 | .looks ..,_,hu=>h.looks hu.1 hu.2
 | .update,_,hu=>h.update hu.1 hu.2
 | .leaf ..,ht,hu=>h.dx ht.1.ef hu.1 hu.2
theorem Md.runT (h:Md F s g) {N:Nat}:∀{u:KT},vk s.ar F.K N F.o u->vl F.K s.ar g F.o F.c u->En F (s.runT u)
 | .ret a,_,hu=>h.ret hu
 | .u u,ht,hu=>h.mJ ht hu
theorem El.BO {o:bA} {c S:Int}:∀{u:KU},El F.K A g o c u->oz F.K A g o c S u.BO
 | .looks ..,h=>h
 | .update,h=>h
 | .leaf ..,h=>h
theorem wJ.new {ord:List Int} (h:Iv F.T F.K F.bY F.n F.root A ord g) {S:Int} (k7:A.kind S=7) (f:Bool):wJ F.K A g ⟨A.store S,[],f⟩ (A.val S 0):=by
 have:=h.ef.rg S k7;exact⟨⟨[],.nil,fun x hx=>(by cases hx),Nat.le_refl _⟩,Int.le_refl _,this.2.1,.nil,fun _ b hb=>(by cases hb)⟩
theorem Md.iI (h:Md F s g) {N:Nat} {b:Bs} {u:KU} (hb:jy s.ar b) (ht:zK s.ar F.K N F.o u) (hu:El F.K s.ar g F.o F.c u):En F (s.iI b u):=by
 have hr:=h.iv.inv.bg.cg _ hb.is.ne;unfold Sy.iI;split;exact h.go (n:=.load _ (.cE _ u)) hu;split;exact h.go (n:=.load _ (.cE _ u)) hu;split;rename_i e;rw[hb.kind]at e;have k7:=hr.sN e;exact h.dx (j:=⟨s.ar.store (s.ar.val b.id 3),[],false⟩) k7 (wJ.new h.iv k7 _) hu.BO;exact h.mJ ht hu
theorem Md.results (h:Md F s g) {j:Jb} {v:Int} {r:KR} (hr:oz F.K s.ar g F.o F.c j.store.id r) (hf:j.au.length<=F.K.keys.length+1) (hv:v≠-1->∃key,yp s.ar g j.store.id (s.ar.val j.store.id 0) j.au key/\s.ar.val j.store.id 1<key/\Rs s.ar v j.au/\(s.ar.holds (j.store.id-1)=0->∀b∈j.au,s.ar.holds (s.ar.val b 2)=b)):En F (s.results j v r):=
 h.go (n:=.once _ v (.results j v r)) ⟨j,r,rfl,hr,hf,hv⟩
end
section
variable {F:Fx} {s:Sy} {g g1:Gh} {A B:Ar}
theorem vd {K:eE} {root several:Int}:∀(n:Nat) {A:Ar} (h:c9 A K root) (l:List Int),(∀b∈l,dr A b)->l≠[]->l.length<=K.m->l.length<=n->Mk A (aZ several n A l).2.2
 |0,A,h,l,hb,hn,hm,hl=>absurd (List.eq_nil_of_length_eq_zero (by omega)) hn
 |n+1,A,h,l,hb,hn,hm,hl=>by
  have one:∀{A:Ar} (ok:A.Ok) (next:Int) (t:List Int),t.length<=10->Mk A (A.make 9 (several::next::t)).2.2:=fun{A} ok next t ht=>by
   rcases lP ok (k:=9) (vs:=several::next::t) (by decide) ⟨by decide,by decide,fun _ q=>absurd q (by decide)⟩ (by simp;omega)with e| ⟨B,e,m,_⟩;rw[e];exact .refl ok;rw[e];exact m
  unfold aZ;by_cases h10:10<l.length;rw[if_pos h10];have hd:∀b∈l.drop 10,dr A b:=fun b hx=>hb b (List.mem_of_mem_drop hx);have hne:l.drop 10≠[]:=by intro q;have:=congrArg List.length q;rw[List.length_drop,List.length_nil]at this;omega
  have m1:=vd (several:=several) n h (l.drop 10) hd hne (by rw[List.length_drop];omega) (by rw[List.length_drop];omega);obtain⟨t1,_,_⟩:=kH (several:=several) n h (l.drop 10) hd hne (by rw[List.length_drop];omega) (by rw[List.length_drop];omega);generalize aZ several n A (l.drop 10)=z at m1 t1;obtain⟨next,e,B⟩:=z;simp only at m1 t1⊢;by_cases he:e=0;rw[if_neg (by simpa using he)];exact m1.trans t1 (one m1.ok next (l.take 10) (by rw[List.length_take];omega));rw[if_pos he];exact m1;rw[if_neg h10];exact one h.ok 0 l (by omega)
section
variable {K:eE} {j:Jb} {key:Int} (h:wJ K A g j key)
include K j key h
theorem wJ.P8:∀b∈j.au,dr A b:=fun b hb=>bL (h.PZ.ef b hb).1 (by decide) (by decide)
theorem wJ.len:j.au.length<=K.keys.length:=by
 obtain⟨ks,a,b,d⟩:=h.gN;have:=eu ks K.keys (a.imp fun{x y} hxy e=>by omega) fun x hx=>(b x hx).1;omega
end
theorem Md.marked (h:Md F s g) {N:Nat} {j:Jb} {key:Int} {f:Fo} {r:KR} (ht:om s.ar N j) (hrt:qL s.ar F.K N F.o r) (hj:wJ F.K s.ar g j key) (hf:D4 F.K g F.root f key) (k6:s.ar.kind f.b.id=6) (k3:s.ar.val f.b.id 3=j.store.id) (hh:f.b.home=s.ar.val f.b.id 2)
  (hp:s.ar.holds (j.store.id-1)=0->s.ar.holds (s.ar.val f.b.id 2)=f.b.id) (hr:oz F.K s.ar g F.o F.c j.store.id r):En F (s.marked j f r):=by
 have cf:=hf.home;unfold Gh.Cf at cf;rw[hh]at cf;have k7:=ht.ef
 have hj1:∃j1:Jb,j1=(if j.au.getLast?=some f.b.id then j else{j with au:=j.au++[f.b.id]})/\j1.store=j.store/\yp s.ar g j.store.id (s.ar.val j.store.id 0) j1.au (if f.cY then f.dW else eU)/\
   (s.ar.holds (j.store.id-1)=0->∀b∈j1.au,s.ar.holds (s.ar.val b 2)=b)/\j1.au.length<=j.au.length+1/\j1.au≠[]:=by
  refine⟨_,rfl,?_⟩;split;rename_i e;exact⟨rfl,.more hj.PZ e cf,hj.at_,Nat.le_succ _,fun q=>by rw[q]at e;cases e⟩;rename_i e;refine⟨rfl,.snoc hj.PZ k6 k3 cf e,fun q b hb=>?_,by simp,by simp⟩;rcases List.mem_append.1 hb with hb|hb;exact hj.at_ q b hb;rw[List.mem_singleton.1 hb];exact hp q
 obtain⟨j1,e1,es,cv,inp,len,ne⟩:=hj1;unfold Sy.marked;rw[<-e1];dsimp only;have lenK:=hj.len;split;rename_i hm;have hi:f.dW<=s.ar.val j.store.id 1:=by have:=hm.2;rw[es,ht.eq]at this;exact this
 rw[if_pos hm.1]at cv;have lt:key<f.dW:=by have:=cf.1;rw[if_pos hm.1]at this;exact this
 have a:=hj.lo;refine h.dx (by rw[es];exact k7) ⟨?_,by rw[es];omega,by rw[es];exact hi,by rw[es];exact cv,by rw[es];exact inp⟩ (by rw[es];exact hr);obtain⟨ks,x1,x2,x3⟩:=hj.gN;refine⟨ks++[f.dW],List.pairwise_append.2 ⟨x1,List.pairwise_singleton ..,fun x hx y hy=>?_⟩,fun x hx=>?_,by simp;omega⟩;rw[List.mem_singleton.1 hy];have:=(x2 x hx).2;omega;rcases List.mem_append.1 hx with hx|hx;have:=x2 x hx;exact⟨this.1,by omega⟩;rw[List.mem_singleton.1 hx];exact⟨hf.fo.dW hm.1,Int.le_refl _⟩;rename_i hm;have isB1:∀b∈j1.au,dr s.ar b:=fun b hb=>bL (cv.ef b hb).1 (by decide) (by decide)
 have hend:s.ar.val j.store.id 1<(if f.cY then f.dW else eU):=by
  have:=(h.iv.ef.rg _ k7).2.2;split;rename_i z;have:¬f.dW<=j1.store.hi:=fun q=>hm ⟨z,q⟩;rw[es,ht.eq]at this;have:¬f.dW<=s.ar.val j.store.id 1:=this;omega;omega
 have t:=h.iv.inv.bg;have km:=h.cn.km;have hm1:j1.au.length<=F.K.m:=by omega
 have mk:=vd (several:=if 1<j1.au.length/\j1.store.quiet=false then 1 else 0) (j1.au.length+1) t j1.au isB1 ne hm1 (Nat.le_succ _);obtain⟨tB,xB,q⟩:=kH (several:=if 1<j1.au.length/\j1.store.quiet=false then 1 else 0) (j1.au.length+1) t j1.au isB1 ne hm1 (Nat.le_succ _);generalize aZ (if 1<j1.au.length/\j1.store.quiet=false then 1 else 0) (j1.au.length+1) s.ar j1.au=z at mk tB xB q;obtain⟨z1,z2,z3⟩:=z;dsimp only at mk tB xB q⊢;obtain⟨hB,R,C⟩:=h.grow mk tB;have kr:=oz.rel t (R 0) (C F.c) hrt hr;have n7:=k0 k7 (by decide);split;exact hB.results (j:={j1 with full:=true}) (by rw[show({j1 with full:=true}:Jb).store=j.store from es];exact kr) (Nat.le_trans len (by omega)) fun q=>absurd rfl q;rename_i he;refine hB.results (by rw[es];exact kr) (Nat.le_trans len (by omega)) fun _=>?_;rw[es];obtain⟨c1,c2⟩:=cv.rel (R 0);exact⟨_,by rw[show(s.bq z3).ar=z3 from rfl,xB.val _ _ n7];exact c1,by rw[show(s.bq z3).ar=z3 from rfl,xB.val _ _ n7];exact hend,(q (by simpa using he)).2,qG t cv k7 inp (R 0)⟩
theorem Md.marks (h:Md F s g) {N:Nat} {j:Jb} {key p:Int} {f:Fo} {r:KR} (ht:om s.ar N j) (hft:Cm s.ar f) (hrt:qL s.ar F.K N F.o r) (hj:wJ F.K s.ar g j key) (hf:D4 F.K g F.root f key) (hfr:gB s.ar f.b.id) (hp: -1000000<=p/\p<=1000000)
  (hr:oz F.K s.ar g F.o F.c j.store.id r):En F (s.marks j key f p r):=by
 have t:=h.iv.inv.bg;obtain⟨q1,l,q2,q3⟩:=t.bs hft.b;unfold Sy.marks;rcases lP t.ok (k:=6) (vs:=[f.b.af,p,f.b.home,j.store.id]) (by decide) ⟨by decide,by decide,fun _ _=>hp⟩ (by simp)with e| ⟨B,e,mk,hk,hv⟩;rw[e];exact h.results (j:={j with full:=true}) hr (Nat.le_succ_of_le hj.len) fun q=>absurd rfl q
 ·have v0:=hv 0 _ rfl;have v2:=hv 2 _ rfl;have v3:=hv 3 _ rfl;simp only[Int.natCast_zero,Int.cast_ofNat_Int]at v0 v2 v3
  have tB:c9 B F.K F.root:=by
   rcases t.MA (k:=6) (vs:=[f.b.af,p,f.b.home,j.store.id]) (by decide) (by simp) (fun B e hk hv=>by
    have v0:=hv 0 _ rfl;have v2:=hv 2 _ rfl;have v3:=hv 3 _ rfl;simp only[Int.natCast_zero,Int.cast_ofNat_Int]at v0 v2 v3;exact .O1 hk (by rw[v2];exact e.TC q1) ⟨l,by rw[v0];exact q2.bE e.bE,q3⟩ (by rw[v3];exact e.k ht.ef (by decide)))with e'| ⟨B',e',t',_⟩
   rw[e']at e;cases e;rw[e']at e;cases e;exact t'
  rw[e];obtain⟨hB,R,C⟩:=h.grow mk tB;have x:=mk.jZ.ext;refine hB.go (n:=.swap _ _ _ (.marks j key f _ r)) ⟨rfl,rfl,rfl,⟨?_,hfr.rel t (R 0),?_,?_,?_,?_⟩,hk,v2,v3,?_,hf.rel (R 0),hj.rel t ht.ef (R 0),oz.rel t (R 0) (C F.c) hrt hr⟩;exact(hf.home.In.dn:g.dn f.b.home);show B.val f.b.id 2=f.b.home;rw[x.val _ _ hft.b.is.ne,<-hft.b.home];show(if s.ar.len<s.ar.len+1 then F.i else _)=F.i;rw[if_pos (by omega)];have:=(aF (A:=s.ar) hft.b.is.ne).2;omega;show B.kind _≠0;rw[hk];decide;show B.bp (s.ar.len+1)=B.bp f.b.id;rw[dJ t x hft.b.is];exact yf (by rw[v0,hft.b.af]) (by rw[<-hft.b.af];exact q2) mk.jZ.bE
theorem Md.whole (h:Md F s g) {lo hi q:Int} {w:KW} (hb:oQ s.ar g F.c) (hw:WI F.o lo hi q w):En F (s.whole lo hi q w):=by
 have t:=h.iv.inv.bg;unfold Sy.whole
 have hso:PX F.o lo hi q:=by
  cases w with
  |ends=>exact .inl hw
  |dL=>exact .inr hw
 have hrg:fM<=lo/\lo<=hi/\hi<eU:=by
  obtain⟨a,b,d,e⟩:=h.cn.op
  cases w with
  |ends=>obtain⟨_,rfl,rfl,_⟩:=hw;decide
  |dL=>obtain⟨_,rfl,rfl,_,z⟩:=hw;exact⟨a,z,e⟩
 rcases lF t.ok (v:=0)with⟨e1,hf⟩| ⟨e1,ok1⟩;rw[e1];dsimp only;rw[iM (by unfold Ar.len;omega) (by decide) (by simp)];dsimp only;rw[if_pos (by simp)];exact h.full hb;rw[e1];dsimp only;rcases fy ok1 (k:=7) (vs:=[lo,hi,(s.ar.sl.length:Int)+1,q,s.th.call]) (by decide) (by simp)with⟨e2,hf⟩| ⟨e2,ok2⟩;rw[e2];dsimp only;rw[if_pos (by simp)];have mk:Mk s.ar {s.ar with sl:=s.ar.sl++[.cell 0]}:=oO (xs:=[.cell 0]) ok1 rfl rfl (fun y hy=>by rw[List.mem_singleton.1 hy];trivial) fun i v vs p q=>by cases i<;>simp at q
 obtain⟨hB,R,C⟩:=h.grow mk (t.GF (w:=0) rfl ok1 hf.symm).1;exact hB.full (hb.rel t mk.jZ.ext (C F.c));rw[e2];dsimp only;rw[if_neg (by simp)];have eq:({({s.ar with sl:=s.ar.sl++[.cell 0]}:Ar)with sl:=(s.ar.sl++[.cell 0])++[.cg 7 [lo,hi,(s.ar.sl.length:Int)+1,q,s.th.call]]}:Ar)={s.ar with sl:=s.ar.sl++[.cell 0,.cg 7 [lo,hi,s.ar.len+1,q,F.c]]}:=by rw[h.cl];simp[Ar.len]
 have en:((({s.ar with sl:=s.ar.sl++[.cell 0]}:Ar).sl.length:Nat):Int)+1=s.ar.len+2:=by simp[Ar.len];omega
 rw[eq,en];rw[eq]at ok2;obtain⟨g2,k2,v2,l2,c2,h2⟩:=jx (A:=s.ar) (w:=0) (k:=7) (vs:=[lo,hi,s.ar.len+1,q,F.c]) _ rfl;have vv:=v2 2 _ rfl;simp only[Int.cast_ofNat_Int]at vv;obtain⟨tC,xC⟩:=t.Mz (w:=0) (k:=7) (vs:=[lo,hi,s.ar.len+1,q,F.c]) rfl ok2 fun x=>⟨.W6 k2 (by rw[vv];omega) (by rw[show s.ar.len+2-1=s.ar.len+1 by omega];exact c2),.W7 (by rw[show s.ar.len+1+1=s.ar.len+2 by omega];exact k2) (.inl h2)⟩;generalize hC:({s.ar with sl:=s.ar.sl++[.cell 0,.cg 7 [lo,hi,s.ar.len+1,q,F.c]]}:Ar)=C at*;obtain⟨iv,R,RC,os,k7,w0,w1,w3,_⟩:=h.iv.store h.cn.iT hb h.cn.c0 h.eK hso hrg tC hC.symm
 have hB:Md F (s.bq C) (g.g7 F.i s.ar.len):=by
  refine⟨h.cn,iv,Md.iY h.vG h.iv.inv h.iv.pp iv.inv (fun j _=>R j) RC rfl xC,h.eK,h.cl,h.op,h.rt,h.bz,h.nx,h.pre,h.mN.bE h.iv.inv xC rfl (fun m z=>⟨rfl,?_,Iff.rfl⟩) fun m z q=>absurd z q,h.sp⟩;exact(Gr.jZ g2).holds _ (dc (gw t (h.iv.inv.aa m z).1.k.1).1).2
 exact hB.dx (j:=⟨C.store (s.ar.len+2),[],false⟩) k7 (by rw[<-w0];exact wJ.new iv k7 false) ⟨os,w0,w1,w3,hw⟩
theorem Bx.of {ord:List Int} {b n k cell:Int} (h:Iv F.T F.K F.bY F.n F.root A ord g) {C:Ar} (hc:g.dn cell) (d:HG A C b n k):Bx C (g.g7 F.i A.len) F.root cell b n k:=by
 have bZ:∀x,g.dn x->x<=A.len:=fun x hx=>(dc (h.inv.sk.cell x hx).1).2
 have no:∀x,A.len<x->g.iv x=none:=fun x hx=>by
  cases e:g.iv x with
  |none=>rfl
  |some y=>have:=bZ x ⟨y.1,y.2,e⟩;omega
 have hn:=d.new;refine⟨d.rt,d.low,d.high,d.bp,d.lt,fun q=>?_,no _ hn,no _ (by omega),by have:=bZ cell hc;omega,?_⟩;have:=(aF (A:=A) (k0 (h.inv.sk.rt n q).1 (by decide))).2;omega;have:=aF (A:=A) (k0 h.inv.bg.root.2 (by decide));omega
end
section
variable {F:Fx} {s:Sy} {g g1:Gh} {A B:Ar}
theorem Md.in (h:Md F s g):In s.ar F.K F.o F.root s:=⟨h.iv.inv.bg,.refl _,h.op,h.rt,h.bz,h.nx,h.cn.key⟩
theorem gB.Nn {b:Int} (h:A.kind b=3):gB A b:=⟨⟨bL h (by decide) (by decide),fun q=>(by rw[h]at q;cases q),fun q=>(by rw[h]at q;cases q)⟩,fun q=>(by rw[h]at q;cases q)⟩
theorem gB.O1 {b:Int} (h:A.kind b=6) (hr:A.holds (A.val b 3-1)≠0):gB A b:=⟨⟨bL h (by decide) (by decide),fun q=>(by rw[h]at q;cases q),fun q=>(by rw[h]at q;cases q)⟩,fun _=>hr⟩
theorem Md.split (h:Md F s g) {b:Bs} {a:An} (hb:jy s.ar b) (hf:gB s.ar b.id) (hp:g.dn b.home) (hl:g.cT F.c=some a) (ha:xV F.K a):En F (s.split b a):=by
 have t:=h.iv.inv.bg;have G:=h.in.split (N:=0) hb ha;rcases Bw (a:=a) t hb with⟨C,e,mk⟩| ⟨C,n,k,e,mk,d⟩;rw[e]at G⊢;obtain⟨hB,R,RC⟩:=h.grow mk G.bg;exact hB.ret ((RC F.c).cT _ hl)
 ·rw[e]at G⊢;obtain⟨hB,R,RC⟩:=h.grow mk G.bg;have x:=mk.jZ.ext;have hn:=d.new;refine hB.go (n:=.swap _ _ _ (.split a)) ⟨⟨hp,hf.rel t (R 0),?_,?_,?_,?_⟩,⟨k,.of h.iv hp d⟩,(RC F.c).cT _ hl⟩;show C.val b.id 2=b.home;rw[x.val _ _ hb.is.ne,<-hb.home];show(if s.ar.len<n then F.i else _)=F.i;rw[if_pos (by omega)];have:=(aF (A:=s.ar) hb.is.ne).2;omega;show C.kind n≠0;rw[d.rt.1];decide
theorem Md.kQ (h:Md F s g) {b:Bs} {key:Int} {a:An} (hb:jy s.ar b) (hst:SB b) (hf:gB s.ar b.id) (hk:s.ar.kind b.id=3\/s.ar.kind b.id=6) (hp:g.dn b.home) (hkey:fM<=key/\key<eU) (hl:g.cT F.c=some a) (ha:xV F.K a):En F (s.kQ b key a):=by
 unfold Sy.kQ;split;exact h.split hb hf hp hl ha;split;exact h.find (k:=.aA b a) hkey ⟨hl,hst,hf,hk⟩;exact h.ret hl
section
variable (t:c9 s.ar F.K F.root) {l:List Int} (hl:∀b∈l,dr s.ar b)
include t l hl
theorem wM:s.cy l=Ah s.th.op (l.map s.ar.bp):=by
 have e:∀b∈l,∀lo hi,s.ar.range (s.ar.base b).af lo hi=dG (s.ar.bp b) lo hi:=fun b hb lo hi=>by
  obtain⟨_,l',h1,_⟩:=t.bs (jy.of (hl b hb));rw[zF t.ok h1];have:s.ar.bp b=l':=h1.ps;rw[this]
 unfold Sy.cy Ah;rw[List.foldl_map];generalize An.zero=z
 induction l generalizing z with
 |nil=>rfl
 |cons b l ih=>
  rw[List.foldl_cons,List.foldl_cons,e b (List.mem_cons_self ..)];exact ih (fun x hx=>hl x (List.mem_cons_of_mem _ hx)) (fun x hx=>e x (List.mem_cons_of_mem _ hx)) _
theorem yj:s.gC l=qE s.th.op (l.map s.ar.bp):=by
 have e:∀b∈l,∀a,s.tY a b=D5 s.th.op a (s.ar.bp b):=fun b hb a=>by
  obtain⟨_,l',h1,_⟩:=t.bs (jy.of (hl b hb));have e1:s.ar.bp b=l':=h1.ps;have h1':Tp s.ar (s.ar.base b).af l':=h1;rw[e1,yg];unfold Sy.tY;dsimp only;by_cases k8:s.th.op.kind=8;simp only[if_pos k8];rcases h1'.g6 with⟨rfl,q⟩| ⟨p,l2,rfl,q⟩;rw[if_neg (by rw[q];simp)];simp[Ak];rw[q];simp[Ak,k8];simp only[if_neg k8];rcases h1'.ig with⟨rfl,q⟩| ⟨p,l2,rfl,q⟩;rw[if_neg (by rw[q];simp)];simp[Ak];rw[q]
  cases a.ok<;>simp[Ak,k8]
 unfold Sy.gC qE;rw[List.foldl_map];generalize An.zero=z
 induction l generalizing z with
 |nil=>rfl
 |cons b l ih=>
  rw[List.foldl_cons,List.foldl_cons,e b (List.mem_cons_self ..)];exact ih (fun x hx=>hl x (List.mem_cons_of_mem _ hx)) (fun x hx=>e x (List.mem_cons_of_mem _ hx)) _
end
theorem su {b:Bs} (hb:SB b) (r:Int): -1000000<=s.fp b r/\s.fp b r<=1000000:=by
 unfold Sy.fp;split;exact hb;exact wI _ _ _
theorem Md.kf (h:Md F s g) {S v lo hi q:Int} {l:List Int} {w:KW} (hs:Ai s.ar g F.c F.o S) (hv:s.ar.holds (S-1)=v) (k9:s.ar.kind v=9) (rs:Rs s.ar v l) (hw:WI F.o lo hi q w):En F (s.kf l v w):=by
 have t:=h.iv.inv.bg;subst hv;have hl:=hs.yes l k9 rs;have bs:=h.iv.ef.bs S l hs.k.1 k9 rs;obtain⟨m,a1,ne,len,P8⟩:=(t.cg _ (k0 k9 (by decide))).res k9;have:=rs.Nr a1;subst this
 cases w with
 |ends=>
  refine h.ret ?_;rw[yj t P8,h.op,hl];unfold qF;rw[if_pos hw.1]
 |dL=>
  have ht:qF F.o (l.map s.ar.bp)=s.cy l:=by
   rw[wM t P8,h.op];unfold qF;rw[if_neg (by have:=hw.1;omega)]
  rw[ht]at hl;have ha:xV F.K (s.cy l):=h.in.cy P8 len;unfold Sy.kf;dsimp only;split;exact h.ret hl;obtain⟨x,l',rfl⟩:=List.exists_cons_of_ne_nil ne;obtain⟨k6,k3,kp⟩:=bs x (List.mem_cons_self ..);have hb:jy s.ar (s.ar.base x):=.of (P8 x (List.mem_cons_self ..));have hsb:SB (s.ar.base x):=h.iv.stat x hb.is;have n0:s.ar.holds (S-1)≠0:=fun z=>by rw[z]at k9;exact absurd k9 (fa (by omega) (by decide))
  exact h.kQ (hb.stat _) (su hsb _) (gB.O1 k6 (by show s.ar.holds (s.ar.val x 3-1)≠0;rw[k3];exact n0)) (.inr k6) kp (by rw[h.op];exact⟨h.cn.op.1,h.cn.op.2.1⟩) hl ha
theorem Ai.MY {c S:Int} {o:bA} (h:Ai A g c o S) (hv:A.holds (S-1)= -1):oQ A g c:=⟨h.no (.inr hv),fun S' a b=>by
 by_cases z:S'=S;rw[z];exact hv;exact h.one S' a b z⟩
theorem Md.iV (h:Md F s g) {N:Nat} {j:Jb} {v:Int} {r:KR} (k7:s.ar.kind j.store.id=7) (hv:s.ar.holds (j.store.id-1)=v) (h9:v= -1\/s.ar.kind v=9) (hrt:qL s.ar F.K N F.o r) (hr:oz F.K s.ar g F.o F.c j.store.id r):En F (s.iV j v r):=by
 cases r with
 |looks key k=>exact h.looks hr.1 hr.2
 |update=>exact h.update hr.1 hr.2
 |leaf j' key r=>exact h.dx hrt.1.ef hr.1 hr.2
 |whole lo hi q w=>
  obtain⟨os,_,_,_,hw⟩:=hr;unfold Sy.iV;dsimp only;split;rename_i hne;have k9:=h9.resolve_left hne;obtain⟨l,r1,_⟩:=(h.iv.inv.bg.cg v (k0 k9 (by decide))).res k9;rw[r1.au];exact h.kf os hv k9 r1 hw;rename_i hne;have hb:=os.MY (hv.trans (by simpa using hne));split;exact h.full hb;exact h.whole hb hw
end
section
variable {F:Fx} {s:Sy} {g g1:Gh} {A B:Ar}
theorem Md.cK (h:Md F s g) {m:MB} {t:KT} (hm:mK s.ar m) (ht:vl F.K s.ar g F.o F.c t):En F (s.cK m t):=h.go (n:=.swap _ _ _ (.cK t)) ⟨rfl,rfl,hm.sc h.iv.inv.bg,ht⟩
theorem Md.bW (h:Md F s g) {j:Jo} (hmt:mK s.ar j.main) (hm:D6 s.ar g F.i j.main.b.id) (hl:g.cT F.c=some j.cR) (hf:j.aU.length<=2):En F (s.bW j):=by
 unfold Sy.bW;split;exact h.cK (t:=.ret j.cR) hmt hl
 ·exact h.go (n:=.swap _ _ _ (.bW j _)) ⟨rfl,rfl,hm,hl,hf⟩
theorem Md.bh (h:Md F s g) {j:Jo} {cell up:Int} (hl:g.cT F.c=some j.cR) (hj:CL s.ar g F.i j) (hf:j.aU.length<=1) (hp:g.dn cell) (hu:(up=0/\cell=F.root)\/(up≠0/\g.rt up/\(cell=up-5\/cell=up-3))):En F (s.bh j cell up):=
 h.go (n:=.load _ (.bh j up cell)) ⟨hl,hj,hf,hp,hu⟩
theorem Md.bH (h:Md F s g) {j:Jo} {lock:Int} (hl:g.cT F.c=some j.cR) (hj:CL s.ar g F.i j) (hc:Nt s.ar g F.root j lock):En F (s.bH j lock):=h.go (n:=.load _ (.bH j lock)) ⟨hl,hj,hc,rfl⟩
theorem Md.eD (h:Md F s g) {m:MB} {p:Pl} {t:KT} (hp:g.aa m.b.id=p.id) (ht:vl F.K s.ar g F.o F.c t):En F (s.eD m p t):=h.go (n:=.swap _ _ _ (.fQ m p t)) ⟨hp,rfl,rfl,rfl,ht⟩
theorem Md.aG (h:Md F s g) {N:Nat} {j:Jo} {n:Bs} (hjt:oF s.ar F.K N j) (hmt:mK s.ar j.main) (hnt:jy s.ar n) (hj:Em g j) (hm:D6 s.ar g F.i j.main.b.id) (hl:g.cT F.c=some j.cR) (hn:Ig g j n.home) (hs:SB n) (hf:gB s.ar n.id) (h0:j.aU=[]):En F (s.aG j n):=by
 have t:=h.iv.inv.bg;obtain⟨q1,l,q2,q3⟩:=t.bs hnt;have G:=h.in.aG hjt hmt hnt;unfold Sy.aG at G⊢;rcases lP t.ok (k:=5) (vs:=[n.af,n.stat,n.home,j.main.b.id]) (by decide) ⟨by decide,by decide,fun _ _=>hs⟩ (by simp)with e| ⟨B,e,mk,hk,hv⟩;rw[e];exact h.cK (t:=.ret j.cR) hmt hl
 ·rw[e]at G⊢;have v0:=hv 0 _ rfl;have v2:=hv 2 _ rfl;have v3:=hv 3 _ rfl;simp only[Int.natCast_zero,Int.cast_ofNat_Int]at v0 v2 v3;obtain⟨hB,R,C⟩:=h.grow mk G.bg;have x:=mk.jZ.ext;refine hB.go (n:=.swap _ _ _ (.aG j _)) ⟨rfl,⟨hn.1,hf.rel t (R 0),?_,?_,?_,?_⟩,hk,v2,v3,?_,hj.rel (R 0),hm.rel (R F.i),(C F.c).cT _ hl,hn.rel h.iv.inv hj.u (R 0),h0⟩;show B.val n.id 2=n.home;rw[x.val _ _ hnt.is.ne,<-hnt.home];show(if s.ar.len<s.ar.len+1 then F.i else _)=F.i;rw[if_pos (by omega)];have:=(aF (A:=s.ar) hnt.is.ne).2;omega;show B.kind _≠0;rw[hk];decide;show B.bp (s.ar.len+1)=B.bp n.id;rw[dJ t x hnt.is];exact yf (by rw[v0,hnt.af]) (by rw[<-hnt.af];exact q2) mk.jZ.bE
theorem Md.aL (h:Md F s g) {N:Nat} {j:Jo} {n:Bs} (hjt:oF s.ar F.K N j) (hnt:jy s.ar n) (hj:Em g j) (hl:g.cT F.c=some j.cR) (hfm:gB s.ar j.main.b.id) (hn:Ig g j n.home) (hs:SB n) (hf:gB s.ar n.id) (h0:j.aU=[]):En F (s.aL j n):=by
 have t:=h.iv.inv.bg;have G:=h.in.aL hjt hnt;rcases va (n:=n) t hjt.b hj.st with⟨C,e,mk⟩| ⟨C,m,e,mk,hm,k4,v2,_,hbp⟩;rw[e]at G⊢;obtain⟨hB,R,RC⟩:=h.grow mk G.bg;exact hB.ret ((RC F.c).cT _ hl)
 ·rw[e]at G⊢;obtain⟨hB,R,RC⟩:=h.grow mk G.bg;have x:=mk.jZ.ext;have rp:=Ar.lN.yb h.iv.inv.sk hj.u
  have pm:g.dn j.main.b.home:=by
   rw[hj.hm];split;exact rp.2;exact rp.1
  refine hB.go (n:=.swap _ _ _ (.aL j n m)) ⟨rfl,rfl,⟨pm,hfm.rel t (R 0),?_,?_,?_,?_⟩,k4,v2,?_,?_,hj.rel (R 0),(RC F.c).cT _ hl,hn.rel h.iv.inv hj.u (R 0),hs,hf.rel t (R 0),h0⟩;show C.val j.main.b.id 2=j.main.b.home;rw[x.val _ _ hjt.b.is.ne,<-hjt.b.home];show(if s.ar.len<m then F.i else _)=F.i;rw[if_pos hm];have:=(aF (A:=s.ar) hjt.b.is.ne).2;omega;show C.kind _≠0;rw[k4];decide;show C.bp m=C.bp j.main.b.id;rw[dJ t x hjt.b.is];exact hbp;show g.aa m=0
  exact Classical.byContradiction fun z=>by
   have:=(aF (A:=s.ar) (k0 (h.iv.inv.aa m z).1.k.1 (by decide))).2;omega
theorem MZ {i:Nat} {K:eE} {root:Int} (I:Inv A K g root) {j:Jo} {lock other p:Int} (l:CL A g i j) (ce:Nt A g root j lock) (hh:j.main.b.home=A.val j.main.b.id 2) (ho:A.holds (if j.right then j.up.id-5 else j.up.id-3)=other)
  (k8:A.kind p=8) (k5:A.kind (A.val p 0)=5) (j3:A.val (A.val p 0) 3=j.main.b.id) (v1:A.val p 1=j.ai.id) (v2:A.val p 2=j.up.id) (v3:A.val p 3=j.cell) (v4:A.val p 4=lock) (v5:A.val p 5=if other=j.ai.id then A.val p 0 else other)
  (j2:A.val (A.val p 0) 2=if other=j.ai.id then j.cell else A.val j.ai.id 2) (bp:A.bp (A.val p 0)=if j.right then A.bp j.ai.id++A.bp j.main.b.id else A.bp j.main.b.id++A.bp j.ai.id) (lt1:j.ai.id<A.val p 0) (lt2:j.up.id<A.val p 0)
  (hs:A.st j.main.b.id= -1):kS A j.main.b.id p/\Ag A g root j.main.b.id p j.right:=by
 have tr:=I.sk.tr;have hu:=l.lk.rt;have hl:=l.lk.live;have hm:=l.ma.pl hs;have hn:=l.ne.pl hs;obtain⟨P,hP,hR⟩:=tr.cellOf hu hl;obtain⟨lo,hi,e⟩:=tr.gH P hP;obtain⟨a5,a3,e5,e3⟩:=tr.kq P _ lo hi hP e hR;have rk:=tr.rk P _ lo hi e hR;have hmv:A.val j.main.b.id 2=if j.right then j.up.id-3 else j.up.id-5:=hh.symm.trans l.jo.hm;obtain⟨pn,nb⟩:=l.ne.nb;have inn:=nb hl
 have ln:g.live (A.val j.ai.id 2):=Classical.byContradiction fun z=>by
  rcases I.dead _ pn z with⟨k,_⟩|k| ⟨_,k,_⟩;rw[hn,l.ne.k]at k;cases k;rw[hn,l.ne.k]at k;cases k;rw[hn]at k;exact k rfl
 have rn:A.R (A.val j.ai.id 2)=none:=Ar.du.2 (by rw[hn,l.ne.k];decide);obtain⟨nl,nh,en⟩:=pn;have hin:=sq en inn;have str:=tr.str _ P _ nl nh ln rn en hP hR
 have MT:Ib g j.up.id (A.val j.ai.id 2) j.right:=fun _=>by
  cases hr:j.right
  rw[hr]at hin;simp only[Bool.false_eq_true,if_false]at hin⊢;have:nl=g.key j.up.id:=by omega
  exact⟨tr.Cl _ _ _ _ hu hl ln en (.inl this),_,_,en,this⟩;rw[hr]at hin;simp only[if_true]at hin⊢;have:nh=g.key j.up.id:=by omega
  exact⟨tr.Cl _ _ _ _ hu hl ln en (.inr this),_,_,en,this⟩
 have hoc:A.oc j.main.b.id p=if j.right then j.up.id-5 else j.up.id-3:=by
  unfold Ar.oc;rw[v2,hmv]
  cases j.right<;>simp<;>omega
 have loc:g.live (if j.right then j.up.id-5 else j.up.id-3):=by cases j.right<;>simp<;>assumption
 have nm:A.val j.ai.id 2≠A.val j.main.b.id 2:=fun z=>by
  rw[z,hmv]at en
  cases hr:j.right
  rw[hr]at en hin;simp only[Bool.false_eq_true,if_false]at en hin;rw[e5]at en;cases en;omega;rw[hr]at en hin;simp only[if_true]at en hin;rw[e3]at en;cases en;omega
 have hw:∀{w},g.rt w->(j.cell=w-5\/j.cell=w-3)->w<j.up.id:=fun{w} hwr hc=>by
  have k2:=(I.sk.rt _ hu).1;have RU:A.R j.cell=some j.up.id:=Ar.fV.2 ⟨by rw[ce.ce.at_];exact k2,ce.ce.at_⟩;exact tr.ord w _ hwr (hc.imp (fun z=>by rw[<-z];exact RU) fun z=>by rw[<-z];exact RU)
 have ku:=(I.sk.rt _ hu).1
 have other2:other≠j.ai.id->A.kind other=2/\A.val j.ai.id 2≠(if j.right then j.up.id-5 else j.up.id-3):=fun z=>by
  have hne:A.val j.ai.id 2≠(if j.right then j.up.id-5 else j.up.id-3):=fun y=>z (by rw[<-ho,<-y];exact hn);rcases I.beside hu hl MT ln rn with y|y;exact absurd y hne;rw[ho]at y;exact⟨y,hne⟩
 have oth2:other=j.ai.id->A.val j.ai.id 2=(if j.right then j.up.id-5 else j.up.id-3):=fun z=>by
  have rO:A.R (if j.right then j.up.id-5 else j.up.id-3)=none:=Ar.du.2 (by rw[ho,z,l.ne.k];decide);rcases I.home _ loc rO with q| ⟨m',b1,b2,b3,b4,b5,b6⟩;rw[ho,z]at q;exact q;have:=(I.aa m' b1).1.jd.2;rw[<-b5,ho,z,l.ne.m3]at this;rw[<-this]at b1;exact absurd l.ma.un b1
 refine⟨⟨⟨l.ma.k,k8⟩,?_,⟨k5,j3⟩,?_,?_,?_,?_,?_,?_,?_⟩,?_,⟨l.ma.k,?_⟩,hm,?_,?_,?_,?_,?_,?_⟩;rw[v1];exact⟨l.ne.k,l.ne.m3⟩;rw[v2];exact ku;rw[v2,hmv];cases j.right<;>simp;rw[v4,v2];rcases ce.lw with⟨z,_⟩| ⟨w,z1,z2,z3⟩;exact .inl z;exact .inr ⟨w,(I.sk.rt w z3.rt).1,z1,hw z3.rt z2⟩;rw[hoc,v5,v1,v2,v3,j2];by_cases z:other=j.ai.id;rw[if_pos z,if_pos z];exact .inl ⟨rfl,oth2 z,rfl⟩;rw[if_neg z,if_neg z];obtain⟨y1,y2⟩:=other2 z;refine .inr ⟨y1,?_,rfl,y2⟩;have RO:A.R (if j.right then j.up.id-5 else j.up.id-3)=some other:=Ar.fV.2 ⟨by rw[ho];exact y1,ho⟩;refine tr.ord _ _ hu ?_
 cases hr:j.right
 rw[hr]at RO;exact .inr (by simpa using RO);rw[hr]at RO;exact .inl (by simpa using RO);rw[v1];exact nm;rw[bp,v1,v2,hmv]
 cases j.right
 simp;simp;rw[v1,v2];exact⟨lt1,lt2⟩;rw[v2];exact hu;rw[v2];exact hmv;rw[v2];exact⟨l.lk.lk,hl⟩;rw[v2,v3];exact⟨ce.ce.dn,ce.ce.at_⟩;rw[v3,v4];refine ce.lw.imp id fun⟨w,z1,z2,z3⟩=>⟨w,z3.rt,z1,z2,by rw[z1];exact z3.lk,z3.live⟩;rw[v1];exact⟨l.ne.k,hn,l.ne.m3⟩;rw[v1,v2];exact MT;rw[hoc,v5];intro k2;by_cases z:other=j.ai.id;rw[if_pos z,k5]at k2;cases k2;rw[if_neg z];exact ho
end
structure Mr (A B:Ar):Prop where
 made:Mk A B
 no:∀c,A.len<c->B.aB c=false
section
variable {F:Fx} {s:Sy} {g g1:Gh} {A B C:Ar}
theorem Mr.trans {K:eE} {root:Int} (t:c9 B K root) (h:Mr A B) (k:Mr B C):Mr A C:=by
 refine⟨h.made.trans t k.made,fun c hc=>?_⟩;by_cases z:B.len<c;exact k.no c z;rw[k.made.jZ.aB c (by omega)];exact h.no c hc
theorem Lj {xs:List Slot} (hs:B.sl=A.sl++xs) (hx:∀x∈xs,∀v,x≠ .cell v):∀c,A.len<c->B.aB c=false:=fun c hc=>by
 cases e:B.aB c with
 |false=>rfl
 |true=>
  have e0:=iL e
  have e':({A with sl:=A.sl++xs}:Ar).bP c=some (.cell (B.holds c)):=by
   unfold bP has at e0⊢;rw[hs]at e0;exact e0
  rcases Gr.from (A:=A) (B:={A with sl:=A.sl++xs}) (xs:=xs) rfl e' with q| ⟨i,_,q⟩;have:=(eT q).2;unfold Ar.len at hc;omega;exact absurd rfl (hx _ (List.mem_of_getElem? q) _)
theorem M4 {N:Nat} {e:Int} (r:qK A N e B):Mr A B:=by
 refine⟨ye r,?_⟩;obtain⟨_,hok,xs,g,_,hx⟩:=r;refine Lj (xs:=xs) (by rw[g]) fun x h v q=>?_;obtain⟨ws,e⟩:=hx x h;rw[e]at q;cases q
theorem CS (hok:A.Ok) {k:Int} {vs:List Int} (hk:1<=k) (h4:yd (.cg k vs)) (hl:vs.length<=12):
  A.make k vs=(0,2,A)\/∃B,A.make k vs=(A.len+1,0,B)/\Mr A B/\B.kind (A.len+1)=k/\∀(i:Nat) v,vs[i]? =some v->B.val (A.len+1) i=v:=by
 rcases lP hok hk h4 hl with e| ⟨B,e,mk,a,b⟩;exact .inl e;refine .inr ⟨B,e,⟨mk,?_⟩,a,b⟩;rcases fy hok hk hl with⟨e',_⟩| ⟨e',_⟩;rw[e']at e;cases e;rw[e']at e;cases e;exact Lj (xs:=[.cg k vs]) rfl fun x h v q=>by rw[List.mem_singleton.1 h]at q;cases q
theorem HN {K:eE} {root:Int} (t:c9 A K root) {l r:Int} {la lb:List Pr} (a1:Tp A l la) (b1:Tp A r lb) (a2:∀x∈la,x.k∈K.keys) (b2:∀x∈lb,x.k∈K.keys):
  Mr A (A.two l r).2.2/\c9 (A.two l r).2.2 K root/\((A.two l r).2.1=0->Tp (A.two l r).2.2 (A.two l r).1 (la++lb)):=by
 obtain⟨mk,tB,h⟩:=HH t a1 b1 a2 b2;refine⟨⟨mk,?_⟩,tB,h⟩;by_cases hc:A.fL l=false\/A.fL r=false\/((A.g6 l).2=true/\(A.ig r).2=true/\(A.ig r).1.k<=(A.g6 l).1.k);have:A.two l r=(0,1,A):=by unfold two;rw[if_pos hc]
 rw[this];intro c hc'
 cases e:A.aB c with
 |false=>rfl
 |true=>have:=(dc e).2;omega
 have hab:∀x∈la,∀y∈lb,x.k<y.k:=by
  intro x hx y hy;rcases a1.g6 with⟨rfl,_⟩| ⟨p,l',rfl,e1⟩
  cases hx
  rcases b1.ig with⟨rfl,_⟩| ⟨q,l'',rfl,e2⟩
  cases hy
  rw[e1,e2]at hc;have h1:¬q.k<=p.k:=fun q=>hc (.inr (.inr ⟨rfl,rfl,q⟩))
  have h2:x.k<=p.k:=by
   rcases List.mem_append.1 hx with hx|hx;have:=(List.pairwise_append.1 a1.iA).2.2 x hx p (List.mem_singleton.2 rfl);omega;rw[List.mem_singleton.1 hx];omega
  have h3:q.k<=y.k:=by
   rcases List.mem_cons.1 hy with rfl|hy;omega;have:=(List.pairwise_cons.1 b1.iA).1 y hy;omega
  omega
 exact(M4 (xS t.ok a1 b1 hab).1).no
structure Xz (A C:Ar) (j:Jo) (other lock p:Int):Prop where
 k8:C.kind p=8
 k5:C.kind (C.val p 0)=5
 j3:C.val (C.val p 0) 3=j.main.b.id
 v1:C.val p 1=j.ai.id
 v2:C.val p 2=j.up.id
 v3:C.val p 3=j.cell
 v4:C.val p 4=lock
 v5:C.val p 5=if other=j.ai.id then C.val p 0 else other
 j2:C.val (C.val p 0) 2=if other=j.ai.id then j.cell else j.ai.home
 bp:C.bp (C.val p 0)=if j.right then A.bp j.ai.id++A.bp j.main.b.id else A.bp j.main.b.id++A.bp j.ai.id
 lt:A.len<C.val p 0
theorem yl {K:eE} {root:Int} {N:Nat} {j:Jo} {other lock:Int} (t:c9 s.ar K root) (hm:mK s.ar j.main) (hn:Ba s.ar j.ai) (hcl:s.ar.TC j.cell) (hj:oF s.ar K N j):
  Mr s.ar (s.bI j other lock).2.2/\((s.bI j other lock).2.1=0->Xz s.ar (s.bI j other lock).2.2 j other lock (s.bI j other lock).1):=by
 obtain⟨m1,lm,m2,m3⟩:=t.bs hm.bs;obtain⟨n1,ln,n2,n3⟩:=t.bs hn.bs;have bm:s.ar.bp j.main.b.id=lm:=by unfold Ar.bp;rw[<-hm.bs.af];exact m2.ps
 have bn:s.ar.bp j.ai.id=ln:=by unfold Ar.bp;rw[<-hn.bs.af];exact n2.ps
 have h1:Mr s.ar (fX s.ar j).2.2/\c9 (fX s.ar j).2.2 K root/\((fX s.ar j).2.1=0->Tp (fX s.ar j).2.2 (fX s.ar j).1 (if j.right then ln++lm else lm++ln)):=by
  cases e:j.right
  rw[GU e];simpa using HN t m2 n2 m3 n3;rw[GS e];simpa using HN t n2 m2 n3 m3
 obtain⟨r1,t1,k1⟩:=h1;by_cases e1:(fX s.ar j).2.1≠0;rw[mu e1];exact⟨r1,fun q=>absurd q e1⟩;have tp:=k1 (by simpa using e1)
 have hkeys:∀x∈(if j.right then ln++lm else lm++ln),x.k∈K.keys:=by
  intro x hx;split at hx<;>rcases List.mem_append.1 hx with hx|hx;exact n3 x hx;exact m3 x hx;exact m3 x hx;exact n3 x hx
 have hH:s.ar.TC (if other=j.ai.id then j.cell else j.ai.home):=by split<;>assumption
 have key:∀H,H=(if other=j.ai.id then j.cell else j.ai.home)->(qM s.ar j H=(0,2,(fX s.ar j).2.2)\/∃D,qM s.ar j H=((fX s.ar j).2.2.len+1,0,D)/\Mr (fX s.ar j).2.2 D/\c9 D K root/\D.kind ((fX s.ar j).2.2.len+1)=5/\∀(i:Nat) v,[(fX s.ar j).1,0,H,j.main.b.id][i]? =some v->D.val ((fX s.ar j).2.2.len+1) i=v):=by
  intro H hHe;have x1:=r1.made.jZ.ext;unfold qM;rcases CS t1.ok (k:=5) (vs:=[(fX s.ar j).1,0,H,j.main.b.id]) (by decide) ⟨by decide,by decide,fun _ _=>by simp⟩ (by simp)with e| ⟨D,e,mr,hk,hv⟩;exact .inl e;refine .inr ⟨D,e,mr,?_,hk,hv⟩
  rcases t1.MA (k:=5) (vs:=[(fX s.ar j).1,0,H,j.main.b.id]) (by decide) (by simp) (fun B e hk hv=>by
   have v0:=hv 0 _ rfl;have v2:=hv 2 _ rfl;have v3:=hv 3 _ rfl;simp only[Int.natCast_zero,Int.cast_ofNat_Int]at v0 v2 v3;exact .Vn hk (by rw[v2,hHe];exact e.TC (x1.TC hH)) ⟨_,by rw[v0];exact tp.bE e.bE,hkeys⟩ (by rw[v3];exact e.k (x1.k hm.1 (by decide)) (by decide)))with e'| ⟨B',e',t',_⟩
  rw[e']at e;cases e;rw[e']at e;cases e;exact t'
 rcases key _ rfl with e| ⟨D,e,mr,tD,hk,hv⟩;rw[gY rfl e1 (by rw[e];simp),e];exact⟨r1,fun q=>by cases q⟩;have e2:¬(qM s.ar j (if other=j.ai.id then j.cell else j.ai.home)).2.1≠0:=by rw[e];simp
 rw[gZ rfl e1 e2 rfl,e];dsimp only;have rD:=r1.trans t1 mr;have v0:=hv 0 _ rfl;have v2:=hv 2 _ rfl;have v3:=hv 3 _ rfl;simp only[Int.natCast_zero,Int.cast_ofNat_Int]at v0 v2 v3;generalize hJ:(fX s.ar j).2.2.len+1=J at*;rcases CS tD.ok (k:=8) (vs:=[J,j.ai.id,j.up.id,j.cell,lock,if other=j.ai.id then J else other]) (by decide) ⟨by decide,by decide,fun _ q=>absurd q (by decide)⟩ (by simp)with e3| ⟨E,e3,me,hk8,hw⟩;rw[e3];exact⟨rD,fun q=>by cases q⟩;rw[e3];have w0:=hw 0 _ rfl;have w1:=hw 1 _ rfl;have w2:=hw 2 _ rfl;have w3:=hw 3 _ rfl;have w4:=hw 4 _ rfl;have w5:=hw 5 _ rfl;simp only[Int.natCast_zero,Int.natCast_one,Int.cast_ofNat_Int]at w0 w1 w2 w3 w4 w5;have xE:=me.made.jZ.ext;have nJ:D.kind J≠0:=by rw[hk];decide
 refine⟨rD.trans tD me,fun _=>⟨hk8,by rw[w0];exact xE.k hk (by decide),by rw[w0,xE.val _ _ nJ];exact v3,w1,w2,w3,w4,by rw[w0];exact w5,by rw[w0,xE.val _ _ nJ];exact v2,?_,?_⟩⟩;rw[w0,bm,bn];unfold Ar.bp;rw[xE.val _ _ nJ,v0];exact((tp.bE mr.made.jZ.bE).bE me.made.jZ.bE).ps;rw[w0];have:=r1.made.jZ.len;omega
theorem Mr.fresh {K:eE} {root:Int} (t:c9 A K root) (h:Mr A B) {v:Int} (hv:A.len<v) (hk:B.kind v≠0):∀c,B.TC c->B.holds c≠v:=fun c hc z=>by
 have hle:c<=A.len:=Int.not_lt.1 fun y=>by have:=hc.1;rw[h.no c y]at this;cases this
 have hcell:A.aB c=true:=by rw[<-h.made.jZ.aB c hle];exact hc.1
 rw[h.made.jZ.holds c hle]at z;by_cases y:c=A.len;subst y;have full:=t.Mx hcell;have:=(aF (A:=B) hk).2;have ok:=h.made.ok;have r:=h.made.jZ.room;unfold Ar.Ok at ok;unfold Ar.len at*;omega;have tc:A.TC c:=⟨hcell,by rw[<-h.made.jZ.kind _ (by omega)];exact hc.2⟩;rcases(t.mq c).tc tc with q|q;have:=(aF (A:=A) q.ne).2;omega;have:=(aF (A:=A) (id:=A.holds c) (by rw[q];decide)).2;omega
end
section
variable {F:Fx} {s:Sy} {g g1:Gh} {A B C:Ar}
theorem Md.BD (h:Md F s g):∀x∈g.cur,fM<=x.k/\x.k<eU:=fun x hx=>h.cn.sN _ (h.iv.vF x hx)
theorem Md.Vw (h:Md F s g):g.cur.length<=1000000:=Nat.le_trans (uQ (K:=F.K) h.iv.iA h.iv.vF) h.cn.gN
theorem Md.fv (h:Md F s g) {N:Nat} {ok:Bool} {p:Int} (hp: -1000000<=p/\p<=1000000):∀{k:KO},Co s.ar F.K N F.o k->CM F.K s.ar g F.root F.o F.c k->(ok=true->gB s.ar (Nu k).id)->En F (s.fv ok p k)
 | .update f,⟨hft,ho⟩,⟨hf,hb,_⟩,hfr=>by
  have t:=h.iv.inv.bg;unfold Sy.fv;dsimp only;split;exact h.late.iI (N:=N) (u:=.update) hft.b ho ⟨hb,ho⟩
  ·rename_i hok;have fr:=hfr (by simpa using hok);obtain⟨tB,xB,_,_⟩:=h.in.made (p:=p) hft.b ho;obtain⟨mk,md⟩:=D3 (p:=p) t hft.b (by rw[h.op];exact ho);generalize s.made f.b p=z at tB xB mk md;obtain⟨id,an,e,B⟩:=z;dsimp only at tB xB mk md⊢;obtain⟨hB,R,RC⟩:=h.grow mk tB;split;exact hB.full (hb.rel t xB (RC F.c))
   ·rename_i he;obtain⟨d1,d2,d3,d4,d5⟩:=md (by simpa using he);rw[h.op]at d4 d5;have bo:=dJ t xB hft.b.is;refine hB.go (n:=.swap _ _ _ (.update id an)) ⟨rfl,⟨hf.home.In.dn,fr.rel t (R 0),?_,?_,?_,?_⟩,hf.home.In,d2,d3,?_,?_,hb.rel t xB (RC F.c),ho⟩;show B.val f.b.id 2=f.b.home;rw[xB.val _ _ hft.b.is.ne,<-hft.b.home];show(if s.ar.len<id then F.i else _)=F.i;rw[if_pos d1];have:=(aF (A:=s.ar) hft.b.is.ne).2;omega;show B.kind id≠0;rw[d2];decide;show B.bp id=(eB (B.bp f.b.id) F.o).1;rw[bo];exact d4;show an=(eB (B.bp f.b.id) F.o).2;rw[bo];exact d5
 | .aA j n,⟨hjt,hnt⟩,⟨hj,hl,hfm,hn,hs,h0,_⟩,hfr=>by
  unfold Sy.fv;dsimp only;split;rename_i hok;exact h.aL (n:={n with stat:=p}) hjt (hnt.stat p) hj hl hfm hn hp (hfr hok) h0;exact h.ret hl
 | .leaf j key f r,⟨hjt,hft,hrt⟩,⟨hf,hj,hr⟩,hfr=>by
  unfold Sy.fv;dsimp only;split;exact h.iI (N:=N) (u:=.leaf j key r) hft.b ⟨hjt,hrt⟩ ⟨hj,hr⟩;rename_i hok;exact h.marks hjt hft hrt hj hf (hfr (by simpa using hok)) hp hr
theorem CM.sb {K:eE} {root c:Int} {o:bA}:∀{k:KO},CM K A g root o c k->SB (Nu k)
 | .update f,h=>h.1.st
 | .aA j n,h=>h.2.2.2.2.1
 | .leaf j key f r,h=>h.1.st
theorem Md.free (h:Md F s g) {N:Nat} {b:Bs} {k:KO} (hb:jy s.ar b) (ht:Co s.ar F.K N F.o k) (hk:CM F.K s.ar g F.root F.o F.c k) (e:Nu k=b):En F (s.free b k):=by
 have t:=h.iv.inv.bg;have hr:=t.cg _ hb.is.ne;unfold Sy.free;rw[hb.kind];split;rename_i k4;exact h.go (n:=.load _ (.dm b k)) ⟨k4,(hr.main k4).1,e,hk⟩;split;rename_i k5;have k4:=hr.ai k5;exact h.go (n:=.load _ (.cN b k)) ⟨k5,((t.cg _ (k0 k4 (by decide))).main k4).1,e,hk⟩;split;rename_i k6;have k7:=hr.sN k6;exact h.go (n:=.load _ (.cU b k)) ⟨k6,((t.cg _ (k0 k7 (by decide))).ef k7).1,e,hk⟩;rename_i n4 n5 n6;have k3:s.ar.kind b.id=3:=by have:=hb.is;unfold dr at this;omega
 have sb:=hk.sb;rw[e]at sb;exact h.fv (p:=b.stat) sb ht hk fun _=>by rw[e];exact .Nn k3
theorem Md.gD (h:Md F s g) {f:Fo} {key:Int} {k:KG} (hbt:jy s.ar f.b) (hf:HI F.K g F.root f key) (tel:P5 s.ar g f.b.id f.cell) (hb:oQ s.ar g F.c) (hk:GI F.o key k):En F (s.gD f k):=by
 have t:=h.iv.inv.bg;have iA:=h.iv.iA;obtain⟨l,v,t1,t2,t3⟩:=tel;obtain⟨q1,lp,q2,q3⟩:=t.bs hbt;have eb:s.ar.bp f.b.id=lp:=by unfold Ar.bp;rw[<-hbt.af];exact q2.ps
 rw[eb]at t2 t3;have al:=q2.iA;have isB1:∀b∈[f.b.id],dr s.ar b:=fun b hb=>by rw[List.mem_singleton.1 hb];exact hbt.is
 have cf:=hf.at_;unfold Gh.Cf at cf;have ink:=t1 _ cf.In
 cases k with
 |qV=>
  obtain⟨k4,rfl⟩:=hk;unfold Sy.gD;dsimp only;have hu:eG F.o=false:=by simp[eG];omega
  refine h.gU hb (nS iA _ hu) ?_;rw[J7 iA k4,nI,h.op,q2.get,t3 _ ink.1 ink.2]
 |ends=>
  have hu:eG F.o=false:=by rcases hk with⟨a,_⟩| ⟨a,_⟩<;>(simp[eG];omega)
  unfold Sy.gD;dsimp only;split
  ·rename_i hc;refine h.gU hb (nS iA _ hu) ?_;rw[yj t isB1,h.op,List.map_singleton,eb];have BD:=h.BD
   have hup:f.up=0->lp=g.cur:=fun z=>by
    refine al.ext iA fun x=>?_;have rootIn:∀k,fM<=k->k<eU->l<=k/\k<v:=fun k a b=>t1 k (by rw[hf.top z];exact⟨_,_,h.iv.inv.sk.tr.rt.2,a,b⟩);constructor
    ·intro hx;obtain⟨z1,z2⟩:=t2 x hx;exact(fq iA).1 ((t3 x.k z1 z2).symm.trans ((fq al).2 hx))
    ·intro hx;obtain⟨z1,z2⟩:=rootIn x.k (BD x hx).1 (BD x hx).2;exact(fq al).1 ((t3 x.k z1 z2).trans ((fq iA).2 hx))
   have mem1:∀x∈lp,x∈g.cur:=fun x hx=>by
    obtain⟨z1,z2⟩:=t2 x hx;exact(fq iA).1 ((t3 x.k z1 z2).symm.trans ((fq al).2 hx))
   have mem2:∀x∈g.cur,l<=x.k->x.k<v->x∈lp:=fun x hx z1 z2=>(fq al).1 ((t3 x.k z1 z2).trans ((fq iA).2 hx));have okE:(s.gC [f.b.id]).ok=(qE F.o [lp]).ok:=by rw[yj t isB1,h.op,List.map_singleton,eb]
   rcases hk with⟨k7,rfl⟩| ⟨k8,rfl⟩
   ·rw[CQ iA k7];unfold qE;rw[yh k7,if_neg (by simp[An.zero])]
    have same:lp.head?=g.cur.head?:=by
     rcases hc with hc|hc
     ·rw[okE]at hc;unfold qE at hc;rw[yh k7,if_neg (by simp[An.zero])]at hc
      cases e:lp with
      |nil=>rw[e]at hc;simp[Ak,An.zero]at hc
      |cons p lp'=>
       cases e2:g.cur with
       |nil=>have:=mem1 p (by rw[e];exact List.mem_cons_self ..);rw[e2]at this;cases this
       |cons q c'=>
        have hp:p∈lp:=by rw[e];exact List.mem_cons_self ..
        have hq:q∈g.cur:=by rw[e2];exact List.mem_cons_self ..
        have h1:q.k<=p.k:=by
         have:=mem1 p hp;rw[e2]at this;rcases List.mem_cons.1 this with z|z
         ·rw[z];omega
         ·rw[e2]at iA;have:=(List.pairwise_cons.1 iA).1 p z;omega
        have hq2:q∈lp:=mem2 q hq (by have:=(BD q hq).1;have:=ink.1;unfold Ar.jP at this;unfold fM at*;omega) (by have:=(t2 p hp).2;omega);rw[e]at hq2;rcases List.mem_cons.1 hq2 with z|z
        ·rw[z];rfl
        ·rw[e]at al;have:=(List.pairwise_cons.1 al).1 q z;omega
     ·rw[hup hc]
    rw[show[lp].flatten=lp by simp,same]
    cases g.cur.head?<;>rfl
   ·rw[CR iA k8];unfold qE;rw[yi k8]
    have same:lp.getLast?=g.cur.getLast?:=by
     rcases hc with hc|hc
     ·rw[okE]at hc;unfold qE at hc;rw[yi k8,show[lp].flatten=lp by simp]at hc
      cases e:lp.getLast? with
      |none=>rw[e]at hc;simp[Ak,An.zero]at hc
      |some p=>
       cases e2:g.cur.getLast? with
       |none=>
        have e2':=List.getLast?_eq_none_iff.1 e2;have:=mem1 p (List.mem_of_getLast? e);rw[e2']at this;cases this
       |some q=>
        have hp:=List.mem_of_getLast? e;have hq:=List.mem_of_getLast? e2
        have lastmax:∀{l:List Pr} {z:Pr},jv l->l.getLast?=some z->∀x∈l,x.k<=z.k:=fun{l z} ha he x hx=>by
         obtain⟨l',rfl⟩:=List.getLast?_eq_some_iff.1 he;rcases List.mem_append.1 hx with hx|hx
         ·have:=(List.pairwise_append.1 ha).2.2 x hx z (List.mem_singleton.2 rfl);omega
         ·rw[List.mem_singleton.1 hx];omega
        have h1:=lastmax iA e2 p (mem1 p hp);have hq2:q∈lp:=mem2 q hq (by have:=(t2 p hp).1;omega) (by have:=(BD q hq).2;have:=ink.2;unfold Ar.jf at this;unfold eU at*;omega);have h2:=lastmax al e q hq2;rw[al.key hp hq2 (by omega)]
     ·rw[hup hc]
    rw[show[lp].flatten=lp by simp,same]
    cases g.cur.getLast?<;>rfl
  ·refine h.whole hb ⟨?_,rfl,rfl,rfl⟩;exact hk.imp (fun z=>z.1) fun z=>z.1
 |dL=>
  obtain⟨k5,rfl,hle⟩:=hk;have hu:eG F.o=false:=by simp[eG];omega
  unfold Sy.gD;dsimp only;split
  ·rename_i hc;rw[h.op]at hc;refine h.gU hb (nS iA _ hu) ?_
   have hi:F.o.hi<(if f.cY then f.dW else eU):=by
    split
    ·rename_i z;exact hc.resolve_left (by rw[z];simp)
    ·exact h.cn.op.2.2.2
   have hsame:dG lp F.o.key F.o.hi=dG g.cur F.o.key F.o.hi:=D9 al iA fun k a b=>by
    obtain⟨z1,l',v',e,z2,z3⟩:=cf;have:=t1 k ⟨l',v',e,by omega,by omega⟩;exact t3 k this.1 this.2
   rw[wM t isB1,h.op,List.map_singleton,eb];unfold Ah;rcases k5 with k5|k6
   ·rw[BB k5,if_neg (by simp),rI iA k5];simp[An.zero,hsame]
   ·have hl:lp.length<=1000000:=by
     have:=uQ (K:=F.K) al q3;have:=h.cn.gN;omega
    rw[BC k6 _ _ (Int.le_refl _) (by simp[An.zero];omega),rJ iA k6];simp[An.zero,hsame]
  ·refine h.whole hb ⟨k5,by rw[h.op],by rw[h.op],rfl,hle⟩
end
section
variable {F:Fx} {s:Sy} {g g1:Gh} {A B C:Ar}
theorem HO {K:eE} {root x v:Int} (I:Inv A K g root) (hp:g.dn x) (hh:A.holds x=v) (hk:A.kind v=3\/A.kind v=6):A.val v 2=x:=by
 subst hh;by_cases hl:g.live x;have lf:A.R x=none:=Ar.du.2 (by omega);rcases I.home x hl lf with q| ⟨m,b1,_,_,_,b5,_⟩;exact q;have:=(I.aa m b1).1.jd.1;rw[<-b5]at this;omega;rcases I.dead x hp hl with⟨k,_⟩|k| ⟨k,_⟩<;>omega
theorem Md.found (h:Md F s g) {f:Fo} {key:Int} (hft:Cm s.ar f) (hf:HI F.K g F.root f key) (hh:s.ar.holds f.cell=f.b.id) (hst:f.b.stat=s.ar.val f.b.id 1):D4 F.K g F.root f key:=by
 refine⟨hf,?_,by unfold SB;rw[hst];exact h.iv.stat _ hft.b.is⟩;have cv:=h.iv.inv.seen (c:=f.cell) hf.at_.In.dn (by rw[hh];exact hft.b.is);rw[hh,<-hft.b.home]at cv;exact cv.Cv hf.at_
theorem Md.iJ (h:Md F s g) {N:Nat} {f:Fo} {key:Int} (hft:Cm s.ar f) (hf:HI F.K g F.root f key) (hh:s.ar.holds f.cell=f.b.id) (hst:f.b.stat=s.ar.val f.b.id 1):∀{k:KF},Ei s.ar F.K N F.o k->Ic F.K s.ar g F.o F.c key k->En F (s.iJ f k)
 | .looks key' k,_,⟨e,hb,hk⟩=>by
  subst e;have t:=h.iv.inv.bg;have fn:=h.found hft hf hh hst;unfold Sy.iJ;dsimp only;split;exact h.iI (N:=N) (u:=.looks key' k) hft.b trivial ⟨hb,hk⟩;rename_i hc;have hc:f.cell=f.b.home:=by simpa using hc
  split;rename_i k4;rw[hft.b.kind]at k4;have e3:=((t.cg _ (k0 k4 (by decide))).main k4).1;exact h.go (n:=.load _ (.cd f key' k)) ⟨e3,k4,hc,fn,fun _=>by rw[<-hft.b.home,<-hc];exact hh,hb,hk⟩;rename_i k4;rw[hft.b.kind]at k4;exact h.gD hft.b hf (h.iv.MW hf.at_.In.dn hh hft.b.is k4 (by rw[<-hft.b.home];exact hc.symm)) hb hk
 | .update,ht,⟨hb,ho,e⟩=>by
  subst e;exact h.free (N:=N) (k:=.update f) hft.b ⟨hft,ht⟩ ⟨h.found hft hf hh hst,hb,ho⟩ rfl
 | .aA b a,⟨hbt,_⟩,⟨hl,hs,hfr,hk⟩=>by
  unfold Sy.iJ;dsimp only;split;exact h.ret hl;rename_i hne;have e1:f.b.id=b.id:=Classical.byContradiction fun z=>hne (.inl z);have e2:f.up≠0:=fun z=>hne (.inr z);obtain⟨ru,ch⟩:=hf.up e2;obtain⟨k2,v0,v1,v2⟩:=h.iv.inv.sk.rt _ ru;have rl:(s.ar.aj f.up).left=f.up-5:=v1;have rr:(s.ar.aj f.up).right=f.up-3:=v2
  have hm:b.home=f.cell:=by
   rw[hbt.home];exact HO h.iv.inv hf.at_.In.dn (by rw[hh];exact e1) hk
  have hj:Em g ⟨⟨b,0⟩,.zero,s.ar.aj f.up,decide (f.cell=(s.ar.aj f.up).right),[],0,a⟩:=by
   refine⟨hs,ru,?_,Nat.zero_le _⟩;show b.home=if decide (f.cell=(s.ar.aj f.up).right)=true then f.up-3 else f.up-5;rw[hm,rr];by_cases z:f.cell=f.up-3;rw[if_pos (by simpa using z)];exact z;rw[if_neg (by simpa using z)];exact ch.resolve_right z
  have rp:=Ar.lN.yb h.iv.inv.sk ru
  have ec:Sy.Jo.other ⟨⟨b,0⟩,.zero,s.ar.aj f.up,decide (f.cell=(s.ar.aj f.up).right),[],0,a⟩=if decide (f.cell=(s.ar.aj f.up).right)=true then f.up-5 else f.up-3:=by
   unfold Sy.Jo.other;rw[rl,rr]
  refine h.go (n:=.load _ (.mf _ _)) ⟨rfl,hj,hl,hfr,?_,?_,rfl,hk⟩;rw[ec];exact h.iv.inv.MT ru _;rw[ec];split;exact rp.1;exact rp.2
 | .leaf j key' r,⟨hjt,hrt⟩,⟨e,hj,hr⟩=>by
  subst e;have fn:=h.found hft hf hh hst;unfold Sy.iJ;dsimp only;split;rename_i hc;have k6:s.ar.kind f.b.id=6:=by rw[<-hft.b.kind];exact hc.1
  have k3:s.ar.val f.b.id 3=j.store.id:=hc.2;have hm:s.ar.val f.b.id 2=f.cell:=HO h.iv.inv hf.at_.In.dn hh (.inr k6);exact h.marked hjt hrt hj fn k6 k3 hft.b.home (fun _=>by rw[hm];exact hh) hr;exact h.go (n:=.load _ (.leaf j key' f r)) ⟨fn,hj,hr⟩
theorem Md.step (h:Md F s g) {f:Fo} {key v:Int} (hf:HI F.K g F.root f key) (hv:s.ar.holds f.cell=v) (h2:s.ar.kind v=2):
  HI F.K g F.root (if key<(s.ar.aj v).key then{f with up:=v,cell:=(s.ar.aj v).left,dW:=(s.ar.aj v).key,cY:=true}else{f with up:=v,cell:=(s.ar.aj v).right}) key:=by
 obtain⟨z,l,u,e,x,y⟩:=hf.at_;have R:s.ar.R f.cell=some v:=Ar.fV.2 ⟨by rw[hv];exact h2,hv⟩;have tr:=h.iv.inv.sk.tr;have rt:=tr.oE _ _ hf.at_.In.dn R;obtain⟨a,b,l1,h1,l2,h2',e5,e3,c1,c2,c3,c4⟩:=tr.rk _ _ _ _ e R;obtain⟨_,k0',k1,k2⟩:=h.iv.inv.sk.rt v rt;have kk:(s.ar.aj v).key=g.key v:=k0';have v0:v≠0:=by have:=aF (A:=s.ar) (id:=v) (by rw[h2];decide);omega
 rw[kk];split;refine⟨fun _=>h.iv.key v rt,?_,fun _=>⟨rt,.inl k1⟩,fun q=>absurd q v0⟩;show g.Cv (s.ar.val v 1) key (g.key v);rw[k1];exact⟨by omega,l1,h1,e5,by omega,by omega⟩;refine⟨hf.dW,?_,fun _=>⟨rt,.inr k2⟩,fun q=>absurd q v0⟩;show g.Cv (s.ar.val v 2) key (if f.cY then f.dW else eU);rw[k2];exact⟨z,l2,h2',e3,by omega,by omega⟩
theorem CL.cell {i:Nat} {j:Jo} (l:CL A g i j) (c:Int):CL A g i {j with cell:=c}:=⟨⟨l.jo.st,l.jo.u,l.jo.hm,l.jo.gN⟩,l.ma,⟨l.ne.k,l.ne.m3,l.ne.pl,l.ne.nb⟩,l.lk⟩
theorem Md.df (h:Md F s g) {N:Nat} {cell v:Int} (hv:s.ar.holds cell=v):∀{k:KV},Am s.ar F.K N F.o cell k->J2 F.K s.ar g F.root F.i F.o F.c cell k->En F (s.df v k)
 | .down f key k,⟨hc,hcu,hkt⟩,⟨hf,hk⟩=>by
  subst hc;have hT:=(h.iv.inv.bg.mq f.cell).tc hcu.cell;rw[hv]at hT;unfold Sy.df;dsimp only;split;rename_i hne;exact h.iJ (f:={f with b:=s.ar.base v}) ⟨jy.of (hT.resolve_right hne),⟨hcu.cell,hcu.up⟩⟩ ⟨hf.dW,hf.at_,hf.up,hf.top⟩ hv rfl hkt hk;rename_i he;exact h.down (h.step hf hv (by simpa using he)) hk
 | .cd f key k,⟨_,hft⟩,⟨a,k4,hc,fn,hpl,hb,hk⟩=>by
  have hs:s.ar.st f.b.id=v:=by unfold Ar.st;rw[<-a];exact hv
  unfold Sy.df;dsimp only;split;exact h.looks hb hk;rename_i n3;split;rename_i e2;exact h.go (n:=.load f.cell (.cB f key k)) ⟨k4,hs.trans e2,hc,fn,hb,hk⟩;rename_i n2;have hm:f.cell=s.ar.val f.b.id 2:=hc.trans hft.b.home;refine h.gD hft.b fn.fo ?_ hb hk;rw[hm];exact h.iv.J5 k4 (by rw[<-hm];exact fn.fo.at_.In.dn) hpl (by rw[hs];exact n2) (by rw[hs];exact n3)
 | .cB f key k,⟨e,hft⟩,⟨k4,hs,hc,fn,hb,hk⟩=>by
  subst e;unfold Sy.df;dsimp only;split;rename_i e;exact h.gD hft.b fn.fo (h.iv.J6 k4 fn.fo.at_.In.dn hs (hv.trans e) (by rw[<-hft.b.home];exact hc.symm)) hb hk;exact h.looks hb hk
 | .dm b k,⟨_,hbt,hkt⟩,⟨k4,a,e,hk⟩=>by
  have sb:=hk.sb;rw[e]at sb;refine h.fv (p:=b.stat) sb hkt hk fun q=>?_;rw[e];have q:v= -2:=by simpa using q
  exact⟨⟨hbt.is,fun _=>by unfold Ar.st;rw[<-a,hv];exact q,fun z=>by rw[k4]at z;cases z⟩,fun z=>by rw[k4]at z;cases z⟩
 | .cN b k,⟨_,hbt,hkt⟩,⟨k5,a,e,hk⟩=>by
  have sb:=hk.sb;rw[e]at sb;refine h.fv (p:=b.stat) sb hkt hk fun q=>?_;rw[e];have q:v= -2\/v= -3:=by simpa using q
  exact⟨⟨hbt.is,fun z=>by(rw[k5]at z;cases z),fun _=>by unfold Ar.st;rw[<-a,hv];exact q⟩,fun z=>by rw[k5]at z;cases z⟩
 | .cU b k,⟨_,hbt,hkt⟩,⟨k6,a,e,hk⟩=>by
  have sb:=hk.sb;rw[e]at sb;refine h.fv (p:=s.fp b v) (su sb _) hkt hk fun q=>?_;rw[e];have q:v≠0:=by simpa using q
  exact gB.O1 k6 (by rw[<-a,hv];exact q)
 | .cE m u,⟨hc,hm,hu⟩,hk=>by
  have hs:s.ar.st m.b.id=v:=by
   have e3:=((h.iv.inv.bg.cg _ (k0 hm.1 (by decide))).main hm.1).1;have:m.state=m.b.id-1:=by rw[hm.2];exact e3
   unfold Ar.st;rw[<-this,<-hc];exact hv
  unfold Sy.df;dsimp only;split;exact h.cK (t:=.u u) hm hk;split;rename_i n1 k8;refine h.eD (p:=s.ar.aa v) (t:=.u u) ?_ hk;have hp:=aF (A:=s.ar) (id:=v) (by rw[k8];decide);rcases h.iv.inv.main _ hm.1 with⟨_,y⟩| ⟨_,y⟩;omega;rcases y with y|y;rw[<-y];exact hs;omega;exact h.mJ hu hk
 | .mf right j,⟨htc,hjt⟩,⟨e,hj,hl,hfr,hbes,hp,h0,hk⟩=>by
  subst e;have t:=h.iv.inv.bg;have hT:=(t.mq cell).tc htc;rw[hv]at hT;unfold Sy.df;dsimp only;split;rename_i hne;have hb:=hT.resolve_right hne;have cv:=h.iv.inv.seen hp (by rw[hv];exact hb);rw[hv]at cv;refine h.free (N:=N) (k:=.aA j (s.ar.base v)) (jy.of hb) ⟨hjt,jy.of hb⟩ ⟨hj,hl,hfr,⟨?_,fun lu=>?_⟩,h.iv.stat v hb,h0,hk⟩ rfl;obtain⟨_,_,l',v',_,e',_⟩:=cv;exact⟨l',v',e'⟩;obtain⟨_,l,w,e,q⟩:=hbes lu;have il:=h.iv.inv.sk.tr.pt _ _ _ e;refine cv.In ?_
  cases hr:j.right
  rw[hr]at q;simp only[Bool.false_eq_true,if_false]at q⊢;exact⟨l,w,e,by omega,by omega⟩;rw[hr]at q;simp only[if_true]at q⊢;exact⟨l,w,e,by omega,by omega⟩;rename_i he;have k2:s.ar.kind v=2:=by simpa using he
  have R:s.ar.R cell=some v:=Ar.fV.2 ⟨by rw[hv];exact k2,hv⟩;have rt:=h.iv.inv.sk.tr.oE _ _ hp R;obtain⟨_,_,v1,v2⟩:=h.iv.inv.sk.rt v rt;have rp:=Ar.lN.yb h.iv.inv.sk rt;have st:=h.iv.inv.HE hj.u hbes R;have rl:(s.ar.aj v).left=v-5:=v1;have rr:(s.ar.aj v).right=v-3:=v2;rw[rl,rr];refine h.go (n:=.load _ (.mf _ j)) ⟨rfl,hj,hl,hfr,st,?_,h0,hk⟩;split;exact rp.2;exact rp.1
 | .bh j up cell',⟨e,htc,hut,hjt,hmt,hnt⟩,⟨hl,hj,hf,hp,hu⟩=>by
  subst e;have tr:=h.iv.inv.sk.tr;unfold Sy.df;dsimp only;split;rename_i h1;refine h.bH (j:={j with cell:=cell}) hl (hj.cell _) ⟨⟨hp,hv.trans h1.1⟩,.inl ⟨rfl,?_⟩⟩;rcases hu with q|q;exact q.2;exact absurd h1.2 q.1
  ·rename_i h1;split
   ·rename_i h2;rcases hu with⟨q,_⟩| ⟨q1,q2,q3⟩;exact absurd ⟨h2,q⟩ h1
    ·have ej:(s.ar.aj up).join=up-1:=by
      have k2:=(h.iv.inv.sk.rt up q2).1;exact((h.iv.inv.bg.cg _ (k0 k2 (by decide))).ro k2).2.2.1
     exact h.go (n:=.swap _ _ _ (.bO {j with cell:=cell} _ _)) ⟨rfl,rfl,rfl,rfl,hj.cell _,hf,hl,⟨hp,hv.trans h2⟩,up,q2,ej,q3⟩
   split;exact h.bW hmt hj.ma hl (by omega);rename_i he;have k2:s.ar.kind v=2:=by simpa using he
   have R:s.ar.R cell=some v:=Ar.fV.2 ⟨by rw[hv];exact k2,hv⟩;have rt:=tr.oE _ _ hp R;obtain⟨_,_,v1,v2⟩:=h.iv.inv.sk.rt v rt;have rp:=Ar.lN.yb h.iv.inv.sk rt;have v0:v≠0:=by have:=aF (A:=s.ar) (id:=v) (by rw[k2];decide);omega
   have rl:(s.ar.aj v).left=v-5:=v1;have rr:(s.ar.aj v).right=v-3:=v2;split;rw[rl];exact h.bh hl hj hf rp.1 (.inr ⟨v0,rt,.inl rfl⟩);rw[rr];exact h.bh hl hj hf rp.2 (.inr ⟨v0,rt,.inr rfl⟩)
 | .bH j lock,⟨htc,hlt,hjt,hmt,hnt,hct⟩,⟨hl,hj,hce,e⟩=>by
  have t:=h.iv.inv.bg;have hT:=(t.mq cell).tc htc;rw[hv]at hT;unfold Sy.df;dsimp only;obtain⟨tB,xB,_⟩:=h.in.bI (lock:=lock) hjt hmt hnt hct hlt hT;obtain⟨mr,pd⟩:=yl (other:=v) (lock:=lock) t hmt hnt hct hjt;generalize s.bI j v lock=z at tB xB mr pd;obtain⟨id,e2,B⟩:=z;dsimp only at tB xB mr pd⊢;obtain⟨hB,R,RC⟩:=h.grow mr.made tB;have hjB:=hj.rel h.iv.inv (R F.i);have hlB:=(RC F.c).cT _ hl;split;exact hB.bW (hmt.ext xB) hjB.ma hlB hjB.jo.gN
  ·rename_i he;have d:=pd (by simpa using he);have hceB:=hce.rel hj (R F.i);have kj:=k0 d.k5 (by decide)
   have e3:j.main.state=j.main.b.id-1:=by
    have:=((t.cg _ (k0 hmt.1 (by decide))).main hmt.1).1;rw[hmt.2];exact this
   have km:=k0 hmt.1 (by decide);have kn:=k0 hnt.1 (by decide);have hnh:j.ai.home=s.ar.val j.ai.id 2:=hnt.bs.home;refine hB.go (n:=.swap _ _ _ (.bH j id)) ⟨rfl,e3,rfl,⟨d.k8,d.k5,d.j3⟩,fun hs=>?_,?_,mr.fresh t d.lt kj,hjB.ma,hlB,hjB.jo.gN⟩;obtain⟨k2,_,r1,r2⟩:=h.iv.inv.sk.rt _ hj.jo.u
   have eo:Sy.Jo.other j=if j.right then j.up.id-5 else j.up.id-3:=by
    have a1:j.up.left=j.up.id-5:=(congrArg Ro.left hjt.up.2).trans r1;have a2:j.up.right=j.up.id-3:=(congrArg Ro.right hjt.up.2).trans r2;unfold Sy.Jo.other;rw[a1,a2]
   have hle:cell<=s.ar.len:=(dc htc.1).2;refine MZ (other:=v) hB.iv.inv hjB hceB ?_ ?_ d.k8 d.k5 d.j3 d.v1 d.v2 d.v3 d.v4 d.v5 ?_ ?_ ?_ ?_ hs;show j.main.b.home=B.val j.main.b.id 2;rw[xB.val _ _ km];exact hmt.bs.home;show B.holds _=v;rw[<-eo,<-e,mr.made.jZ.holds _ hle];exact hv;show B.val (B.val id 0) 2=if v=j.ai.id then j.cell else B.val j.ai.id 2;rw[xB.val _ _ kn,<-hnh];exact d.j2;show B.bp (B.val id 0)=if j.right then B.bp j.ai.id++B.bp j.main.b.id else B.bp j.main.b.id++B.bp j.ai.id;rw[dJ t xB hnt.bs.is,dJ t xB hmt.bs.is];exact d.bp;have:=(aF (A:=s.ar) kn).2;have:=d.lt;show j.ai.id<B.val id 0;omega;have:=(aF (A:=s.ar) (k0 k2 (by decide))).2;have:=d.lt;show j.up.id<B.val id 0;omega;show(if s.ar.len<B.val id 0 then F.i else _)=F.i;rw[if_pos d.lt]
 | .leaf j key f r,⟨hc,hjt,hft,hrt⟩,⟨fn,hj,hr⟩=>by
  have rc:=hjt.rc h.iv.inv.bg
  have es:j.store.result=j.store.id-1:=by
   rw[hjt.eq];exact((h.iv.inv.bg.cg _ (k0 hjt.ef (by decide))).ef hjt.ef).1
  have hR:=(h.iv.inv.bg.mq _).rc rc;rw[<-hc,hv]at hR;unfold Sy.df;dsimp only;split;rename_i hne;exact h.iV hjt.ef (by rw[<-es,<-hc];exact hv) (hR.resolve_left hne) hrt hr;exact h.free (N:=N) (k:=.leaf j key f r) hft.b ⟨hjt,hft,hrt⟩ ⟨fn,hj,hr⟩ rfl
 | .res j r,⟨hc,hjt,hrt,hz⟩,⟨hr,_⟩=>by
  have rc:=hjt.rc h.iv.inv.bg
  have es:j.store.result=j.store.id-1:=by
   rw[hjt.eq];exact((h.iv.inv.bg.cg _ (k0 hjt.ef (by decide))).ef hjt.ef).1
  have hR:=(h.iv.inv.bg.mq _).rc rc;rw[<-hc,hv]at hR;rw[hv]at hz;exact h.iV hjt.ef (by rw[<-es,<-hc];exact hv) (hR.resolve_left hz) hrt hr
end
section
variable {F:Fx} {s:Sy} {g g1:Gh} {A B C:Ar} {K:eE} {root:Int}
theorem Mk.step (h:A.Ok):Mk A A.step:=by
 refine⟨h,Bv rfl rfl,fun m h0 h4=>?_,fun c h t=>?_,fun b h q=>?_,fun S h q=>?_⟩;have e:A.step.kind m=A.kind m:=rfl;rw[e,h0]at h4;cases h4;have:=(dc (A:=A) (id:=c) t.1).2;omega;have:=(aF (A:=A) (id:=b) q.ne).2;omega;have:=(aF (A:=A) (id:=S) (by show A.step.kind S≠0;rw[q];decide)).2;omega
theorem Md.mH (h:Md F s g) (iv:Iv F.T F.K F.bY F.n F.root B s.ord g1) (e:Ext s.ar B) (r:∀j,j≠F.i->Rel j s.ar g B g1) (rc:∀c,c≠F.c->gS c s.ar g B g1) (e1:g1.eK=g.eK) (mN:ji B g1 s.splits s.aA):Md F (s.bq B) g1:=
 ⟨h.cn,iv,Md.iY h.vG h.iv.inv h.iv.pp iv.inv r rc e1 e,by rw[e1];exact h.eK,h.cl,h.op,h.rt,h.bz,h.nx,h.pre,mN,h.sp⟩
theorem HP {x:Int} (hx:¬A.SC x) (t:c9 A K root) {v m:Int} (u:ka A B x v) (hm:A.kind m=4):B.st m=A.st m:=by
 unfold Ar.st;rw[u.holds,if_neg];intro z;exact hx (z▸gw t hm)
theorem ji.gF {x v sp jn:Int} (hI:Inv A K g root) (h:ji A g sp jn) (u:ka A B x v) (e:Ext A B) (hx:¬A.SC x):ji B g sp jn:=
 h.bE hI e rfl (fun m z=>⟨rfl,HP hx hI.bg u (hI.aa m z).1.k.1,Iff.rfl⟩) fun m z q=>absurd z q
theorem ji.split {x v k lo hi sp jn:Int} (hI:Inv A K g root) (h:ji A g sp jn) (u:ka A B x v) (e:Ext A B) (hx:¬A.SC x) (h5:g.iv (v-5)=none) (h3:g.iv (v-3)=none):ji B (g.split v k lo hi) (sp+1) jn:=by
 obtain⟨h0,sw,nd,hm,hc⟩:=h;refine⟨h0,sw,nd,fun m=>?_,?_⟩;rw[hm m];show _<->g.aa m≠0/\B.st m=g.aa m/\¬g.lH v (B.val (g.aa m) 2-5);by_cases z:g.aa m=0;exact⟨fun q=>absurd z q.1,fun q=>absurd z q.1⟩;obtain⟨p,ph⟩:=hI.aa m z;rw[HP hx hI.bg u p.k.1,e.val _ _ (k0 p.k.2 (by decide))]
 have hr:g.rt (A.val (g.aa m) 2):=by
  rcases ph with⟨_,w⟩|w;exact w.live.1;exact w.dead.1
 obtain⟨l,w,e5⟩:=(Ar.lN.yb hI.sk hr).1;have n5:A.val (g.aa m) 2-5≠v-5:=fun y=>by rw[y,h5]at e5;cases e5
 have n3:A.val (g.aa m) 2-5≠v-3:=fun y=>by rw[y,h3]at e5;cases e5
 have:g.lH v (A.val (g.aa m) 2-5)<->g.live (A.val (g.aa m) 2-5):=by
  unfold Gh.lH;exact⟨fun q=>(q.resolve_left n5).resolve_left n3,fun q=>.inr (.inr q)⟩
 rw[this];show(((v::g.j7).length:Nat):Int)+sw.length+jn=sp+1;rw[List.length_cons];omega
theorem ji.join {m lo hi sp jn:Int} (hI:Inv A K g root) (h:ji A g sp jn) (hp:g.aa m≠0) (u:ka A B (A.val (g.aa m) 3) (A.val (g.aa m) 5)) (e:Ext A B) (hu:A.holds (A.val (g.aa m) 3)=A.val (g.aa m) 2):ji B (g.join (A.val (g.aa m) 2) (g.key (A.val (g.aa m) 2)) lo hi) sp jn:=by
 obtain⟨h0,sw,nd,hm,hc⟩:=h;obtain⟨q,ph⟩:=hI.aa m hp;rcases ph with⟨sm,w⟩|d
 rotate_left
 have:=d.pc;omega
 have hx:¬A.SC (A.val (g.aa m) 3):=fun y=>by
  have:=(hI.sk.cell _ (hI.sk.tr.gH _ w.pc.1)).2.symm.trans y.2;cases this
 have RP:A.R (A.val (g.aa m) 3)=some (A.val (g.aa m) 2):=Ar.fV.2 ⟨by rw[w.pc.2];exact q.u,w.pc.2⟩;have mem:=hI.sk.tr.j7 _ _ w.pc.1 RP;have nin:m∉sw:=fun y=>((hm m).1 y).2.2 w.live.2;refine⟨h0,m::sw,List.nodup_cons.2 ⟨nin,nd⟩,fun m'=>?_,?_⟩;rw[List.mem_cons,hm m'];show _<->g.aa m'≠0/\B.st m'=g.aa m'/\¬g.cG (A.val (g.aa m) 2) (B.val (g.aa m') 2-5);by_cases z:g.aa m'=0;refine⟨fun y=>?_,fun y=>absurd z y.1⟩;rcases y with y|y;rw[y]at z;exact absurd z hp;exact absurd z y.1;obtain⟨p',ph'⟩:=hI.aa m' z;rw[HP hx hI.bg u p'.k.1,e.val _ _ (k0 p'.k.2 (by decide))];by_cases y:m'=m;subst y;exact⟨fun _=>⟨z,sm,fun y=>y.2.1 rfl⟩,fun _=>.inl rfl⟩
 have hr:g.rt (A.val (g.aa m') 2):=by
  rcases ph' with⟨_,w⟩|w;exact w.live.1;exact w.dead.1
 have ne:A.val (g.aa m') 2≠A.val (g.aa m) 2:=fun x=>by
  rcases ph' with⟨_,w'⟩|d';exact y (by rw[<-w'.lu,x,w.lu]);exact d'.dead.2 (by rw[x];exact w.live.2)
 have sep:=(hI.sk.tr.sep _ hr).2 _ w.live.1;have:g.cG (A.val (g.aa m) 2) (A.val (g.aa m') 2-5)<->g.live (A.val (g.aa m') 2-5):=⟨fun x=>x.1,fun x=>⟨x,by omega,sep⟩⟩;rw[this];exact⟨fun x=>x.resolve_left y,.inr⟩;show(((g.j7.erase (A.val (g.aa m) 2)).length:Nat):Int)+(m::sw).length+jn=sp;have h1:=List.length_erase_of_mem mem;have h2:0<g.j7.length:=List.length_pos_of_mem mem;rw[List.length_cons];omega
theorem ji.done {m sp jn:Int} (hI:Inv A K g root) (h:ji A g sp jn) (hp:g.aa m≠0) (hs:A.st m=g.aa m) (d:Dp A g m (g.aa m)) (u:ka A B (m-1) (-3)) (e:Ext A B):ji B g sp (jn+1):=by
 obtain⟨h0,sw,nd,hm,hc⟩:=h;have mem:m∈sw:=(hm m).2 ⟨hp,hs,d.dead.2⟩;have hpk:=hI.py hp;refine⟨by omega,sw.erase m,nd.erase m,fun m'=>?_,?_⟩;rw[nd.mem_erase_iff,hm m'];by_cases z:g.aa m'=0;exact⟨fun y=>absurd z y.2.1,fun y=>absurd z y.1⟩;obtain⟨p',_⟩:=hI.aa m' z;rw[e.val _ _ (k0 p'.k.2 (by decide))];by_cases y:m'=m;subst y;have:B.st m'= -3:=by unfold Ar.st;rw[u.holds,if_pos rfl]
 rw[this];exact⟨fun x=>absurd rfl x.1,fun x=>by have:=x.2.1;omega⟩;have:B.st m'=A.st m':=by unfold Ar.st;rw[u.holds,if_neg (by omega)]
 rw[this];exact⟨fun x=>x.2,fun x=>⟨y,x⟩⟩;have h1:=List.length_erase_of_mem mem;have h2:0<sw.length:=List.length_pos_of_mem mem;rw[h1];omega
theorem ji.le {sp jn:Int} (h:ji A g sp jn):0<=jn/\jn<=sp/\(g.j7.length:Int)<=sp:=by
 obtain⟨h0,sw,_,_,hc⟩:=h;omega
theorem rK {n:Int} (h0:0<=n) (h:n<1000000):inc n=n+1:=by unfold inc;exact sZ (by omega) (by omega)
theorem Md.M6 (h:Md F s g):∃g1,Md F (s.bq s.ar.step) g1/\(∀j,Rel j s.ar g s.ar.step g1)/\∀c,gS c s.ar g s.ar.step g1:=by
 obtain⟨a,b,c⟩:=h.grow (Mk.step h.iv.inv.bg.ok) h.iv.inv.bg.iQ.1;exact⟨_,a,b,c⟩
theorem Md.M7 (h:Md F s g) {N:Nat} {cell bZ now:Int} (hne:s.ar.holds cell≠bZ):∀{k:KB},GG s.ar F.K N F.o k->Ih F.K s.ar g F.root F.i F.o F.c cell bZ now k->En F (s.cj false k)
 | .marks j key f id r,ht,⟨_,_,_,_,_,_,_,_,_,hj,hr⟩=>by
  unfold Sy.cj;dsimp only;rw[if_pos rfl];exact h.dx ht.1.ef hj hr
 | .update id a,_,⟨_,_,_,_,_,_,_,hb,ho⟩=>by
  unfold Sy.cj;dsimp only;rw[if_pos rfl];exact h.late.update hb ho
 | .split a,_,⟨_,_,hl⟩=>by
  unfold Sy.cj;dsimp only;exact h.ret hl
 | .aL j n id,_,⟨_,_,_,_,_,_,_,_,hl,_⟩=>by
  unfold Sy.cj;dsimp only;rw[if_pos rfl];exact h.ret hl
 | .aG j id,ht,⟨_,_,_,_,_,_,_,_,hl,_⟩=>by
  unfold Sy.cj;dsimp only;rw[if_pos rfl];exact h.cK (t:=.ret j.cR) ht.2.1 hl
 | .bS j c,ht,⟨_,_,_,_,_,hm,_,hl,h0⟩=>by
  unfold Sy.cj;dsimp only;rw[if_pos rfl];exact h.bW ht.2.2.1 hm hl (by rw[h0];decide)
 | .bO j c l,ht,⟨_,_,_,_,hj,hf,hl,_⟩=>by
  unfold Sy.cj;dsimp only;rw[if_pos rfl];exact h.bW ht.2.2.2.1 hj.ma hl (by omega)
 | .bW j last,ht,⟨_,_,hm,hl,hf⟩=>by
  unfold Sy.cj;dsimp only;exact h.bW (j:={j with aU:=j.aU.take last.toNat}) ht.2.1 hm hl (by rw[List.length_take];omega)
 | .cK t,ht,⟨_,_,_,hk⟩=>by
  unfold Sy.cj;dsimp only;exact h.runT ht hk
 | .bH j id,ht,⟨_,_,_,_,_,_,_,hm,hl,hf⟩=>by
  unfold Sy.cj;dsimp only;rw[if_pos rfl];exact h.bW ht.2.1 hm hl hf
 | .fQ m p t,⟨hm,hp,_⟩,⟨a,b,c,d,hk⟩=>by
  unfold Sy.cj;dsimp only;have kp:=k0 hp.1 (by decide);have hp0:g.aa m.b.id≠0:=by rw[a];have:=aF (A:=s.ar) kp;omega
  obtain⟨q,ph⟩:=h.iv.inv.aa _ hp0;have e2:p.ai=s.ar.val p.id 1:=congrArg Pl.ai hp.2;rw[a]at q ph;rw[b,c,e2]at hne;refine h.go (n:=.swap p.cell p.parent p.fu (.e8 m p t)) ⟨a,rfl,rfl,rfl,?_,hk⟩;rw[e2];rcases ph with⟨_,w⟩|w;rcases w.nc.2 with y|y;exact absurd y hne;rw[y];exact q.lt.1;exact w.nc
 | .e8 m p t,⟨hm,hp,_⟩,⟨a,b,c,d,_,hk⟩=>by
  unfold Sy.cj;dsimp only;have kp:=k0 hp.1 (by decide);have hp0:g.aa m.b.id≠0:=by rw[a];have:=aF (A:=s.ar) kp;omega
  obtain⟨q,ph⟩:=h.iv.inv.aa _ hp0;have e2:p.cell=s.ar.val p.id 3:=congrArg Pl.cell hp.2;have e3:p.parent=s.ar.val p.id 2:=congrArg Pl.parent hp.2
  have em:m.state=m.b.id-1:=by
   have:=((h.iv.inv.bg.cg _ (k0 hm.1 (by decide))).main hm.1).1;rw[hm.2];exact this
  rw[a]at q ph
  have lt:p.parent<s.ar.holds p.cell:=by
   rcases ph with⟨_,w⟩|w;rw[b,c,e2,e3]at hne;exact absurd w.pc.2 hne;rw[e2,e3];exact w.pc
  split
  ·exact h.go (n:=.swap m.state p.id (-3) (.cL t)) ⟨⟨m.b.id,hm.1,em,a,by rw[<-a];exact hp0,rfl,by rw[<-e2,<-e3];exact lt⟩,hk⟩
  ·exact h.go (n:=.swap p.lock m.b.id 0 (.cZ m p t)) ⟨a,rfl,rfl,rfl,lt,hk⟩
 | .cZ m p t,⟨hm,hp,_⟩,⟨a,b,c,d,lt,hk⟩=>by
  unfold Sy.cj;dsimp only;have kp:=k0 hp.1 (by decide);have hp0:p.id≠0:=by have:=aF (A:=s.ar) kp;omega
  have e2:p.cell=s.ar.val p.id 3:=congrArg Pl.cell hp.2;have e3:p.parent=s.ar.val p.id 2:=congrArg Pl.parent hp.2
  have em:m.state=m.b.id-1:=by
   have:=((h.iv.inv.bg.cg _ (k0 hm.1 (by decide))).main hm.1).1;rw[hm.2];exact this
  exact h.go (n:=.swap m.state p.id (-3) (.cL t)) ⟨⟨m.b.id,hm.1,em,a,hp0,rfl,by rw[<-e2,<-e3];exact lt⟩,hk⟩
 | .cL t,ht,⟨_,hk⟩=>by
  unfold Sy.cj;dsimp only;exact h.runT ht hk
end
section
variable {F:Fx} {s:Sy} {g g1:Gh} {A B C:Ar} {K:eE} {root:Int}
theorem wN {x:Int} (h:A.TC x):¬A.SC x:=fun q=>by have:=h.2.symm.trans q.2;cases this
theorem CT {x:Int} (h:A.LC x):¬A.SC x:=fun q=>by have:=h.2.symm.trans q.2;cases this
theorem Md.HQ (h:Md F s g) {i:Nat} {cell bZ now:Int} (w:Ao s.ar g i cell bZ now):s.ar.TC cell:=h.iv.inv.sk.cell _ w.dn
theorem Md.P9 (h:Md F s g):F.T≠F.i:=by have:=h.cn.iT;omega
theorem Qa {cell now:Int} (h:zL A cell now) (h0:now=0):A.LC cell:=by
 subst h0
 have kz:∀{k},A.kind 0=k->k=0:=fun{k} q=>by
  by_cases z:k=0;exact z;have:=aF (A:=A) (id:=0) (by rw[q];exact z);omega
 rcases h with⟨_,q|q⟩| ⟨_,q⟩|q;exact absurd (kz rfl) q.ne;have:=kz q;omega;rcases q with q|q|q|q;omega;omega;omega;have:=kz q;omega;exact q
theorem Md.J9 (h:Md F s g) {N:Nat} {cell bZ now:Int} (hh:s.ar.holds cell=bZ) (u:ka s.ar B cell now) (t:c9 B F.K F.root) (e:Ext s.ar B) (wr:zL s.ar cell now):
  ∀{k:KB},GG s.ar F.K N F.o k->Ih F.K s.ar g F.root F.i F.o F.c cell bZ now k->En F ((s.bq B).cj true k)
 | .marks j key f id r,⟨hjt,hft,k6,hrt⟩,⟨z1,z2,z3,sw,_,v2,v3,hbp,fn,hj,hr⟩=>by
  subst z1;have tA:=h.iv.inv.bg;have hn:=k0 k6 (by decide);obtain⟨iv,r0,rc⟩:=h.iv.copy h.cn.iT sw hh u t e (bL k6 (by decide) (by decide)) v2 (by rw[sO (by rw[k6];decide)];exact hbp);have hB:=h.mH iv e r0 (fun c _=>rc c) rfl (h.mN.gF h.iv.inv u e (wN (h.HQ sw)));have R:=r0 F.T h.P9;unfold Sy.cj;dsimp only;rw[if_neg (by simp)];have b2:B.val now 2=cell:=(e.val _ _ hn).trans v2
  have fn':D4 F.K g F.root {f with b:=B.base now} key:=by
   have q:=fn.rel R;refine⟨⟨q.fo.dW,q.fo.at_,q.fo.up,q.fo.top⟩,?_,iv.stat now (e.dr (bL k6 (by decide) (by decide)))⟩;have hc:=q.home;show g.Cv (B.val now 2) key _;rw[b2,z2];exact hc
  exact hB.marked (f:={f with b:=B.base now}) (hjt.ext e (Nat.le_refl _)) (hrt.ext e (Nat.le_refl _)) (hj.rel tA hjt.ef R) fn' (e.k k6 (by decide)) ((e.val _ _ hn).trans v3) rfl
   (fun _=>by
    show B.holds (B.val now 2)=now;rw[b2,u.holds,if_pos rfl]) (oz.rel tA R (rc F.c) hrt hr)
 | .results ..,hk,_=>hk.elim
 | .update id a,⟨hi,ha,_⟩,⟨z1,sw,hin,k3,v2,hbp,hans,hb,ho⟩=>by
  subst z1;have hn:=k0 k3 (by decide);rw[<-h.eK]at hin hbp hans ho;obtain⟨iv,r0,rc,hl⟩:=h.iv.ed h.cn.iT sw hh u t e hin k3 v2 ho hbp hb h.cn.c0 (by rw[h.eK];exact h.cn.key (by rw[<-h.eK];exact ho));rw[<-hans]at hl
  have hB:Md F ((s.bq B).cV s.th.call) (g.tell F.c):=by
   refine⟨h.cn,?_,Md.iY h.vG h.iv.inv h.iv.pp iv.inv r0 rc rfl e,h.eK,h.cl,h.op,h.rt,h.bz,h.nx,?_,?_,h.sp⟩;show Iv F.T F.K F.bY F.n F.root B (s.ord++[s.th.call]) (g.tell F.c);rw[h.cl];exact iv;obtain⟨l,q⟩:=h.pre;exact⟨l++[s.th.call],by show _=s.ord++[s.th.call];rw[<-q,List.append_assoc]⟩;exact ji.gF (g:=g) h.iv.inv h.mN u e (wN (h.HQ sw))
  unfold Sy.cj;dsimp only;rw[if_neg (by simp)];have kB:B.kind now=3:=e.k k3 (by decide)
  exact hB.kQ (b:=B.base now) (jy.of (bL kB (by decide) (by decide))) (iv.stat now (bL kB (by decide) (by decide))) (gB.Nn kB) (.inl kB) (by
   show(g.tell F.c).dn (B.val now 2);rw[e.val _ _ hn,v2];exact sw.dn) (by
   show fM<=s.th.op.key/\s.th.op.key<eU;rw[h.op];exact⟨h.cn.op.1,h.cn.op.2.1⟩) hl ha
 | .split a,ha,⟨sw,⟨k,sp⟩,hl⟩=>by
  obtain⟨lo,hi,iv,r0,rc⟩:=h.iv.split h.cn.iT sw hh sp u t e;have cl:=h.mN.le;have hs:=h.sp;unfold Sy.cj;dsimp only;rw[if_pos rfl];have hinc:inc s.splits=s.splits+1:=rK (by omega) (by omega);refine⟨_,iv,Md.iY h.vG h.iv.inv h.iv.pp iv.inv r0 (fun c _=>rc c) rfl e,h.cl,h.op,h.rt,h.pre,?_,⟨.inr ⟨?_,rfl⟩,hs.2.2⟩,.inr ⟨rfl,h.nx,rfl,.inl ((rc F.c).cT _ hl)⟩⟩;show ji B _ (inc s.splits) s.aA;rw[hinc];exact h.mN.split h.iv.inv u e (wN (h.HQ sw)) sp.A8 sp.A9;show inc s.splits=F.P7+1;rw[hinc,h.sp.1]
 | .aL j n id,⟨hjt,hnt,k4⟩,⟨z1,z2,sw,_,v2,hbp,hp0,hj,hl,hnb,hsn,hfr,h0⟩=>by
  subst z1;have tA:=h.iv.inv.bg;have hn:=k0 k4 (by decide);obtain⟨iv,r0,rc⟩:=h.iv.copy h.cn.iT sw hh u t e (bL k4 (by decide) (by decide)) v2 (by rw[sO (by rw[k4];decide)];exact hbp);have hB:=h.mH iv e r0 (fun c _=>rc c) rfl (h.mN.gF h.iv.inv u e (wN (h.HQ sw)));have R:=r0 F.T h.P9;unfold Sy.cj;dsimp only;rw[if_neg (by simp)];have kB:B.kind now=4:=e.k k4 (by decide);have b2:B.val now 2=cell:=(e.val _ _ hn).trans v2;have hB4:dr B now:=bL kB (by decide) (by decide);refine hB.aG (N:=N) (j:={j with main:=B.main now}) ⟨(mK.of kB).bs,(hjt.ext e (Nat.le_refl _)).up,hjt.gN,(hjt.ext e (Nat.le_refl _)).lc,hjt.an⟩ (mK.of kB) (hnt.ext e) ⟨iv.stat now hB4,(hj.rel R).u,?_,hj.gN⟩ ⟨kB,?_,hp0,fun _=>?_⟩ ((rc F.c).cT _ hl) (hnb.rel h.iv.inv hj.u R) hsn (hfr.rel tA R) h0;show B.val now 2=_;rw[b2,z2];exact hj.hm;exact sw.own;show B.holds (B.val now 2)=now;rw[b2,u.holds,if_pos rfl]
 | .aG j id,⟨hjt,hmt,k5⟩,⟨z1,sw,_,v2,v3,hbp,hj,hm,hl,hnb,h0⟩=>by
  subst z1;have tA:=h.iv.inv.bg;have hn:=k0 k5 (by decide)
  have vs:s.ar.gI now=now:=by
   unfold Ar.gI;rw[v3,if_neg];intro q;rcases h.iv.inv.main _ hm.k with⟨_,y⟩| ⟨y,_⟩;exact absurd q.2.1 (by rcases y with y|y<;>exact fa (by omega) (by decide));exact y hm.un
  obtain⟨iv,r0,rc⟩:=h.iv.copy h.cn.iT sw hh u t e (bL k5 (by decide) (by decide)) v2 (by rw[vs];exact hbp);have hB:=h.mH iv e r0 (fun c _=>rc c) rfl (h.mN.gF h.iv.inv u e (wN (h.HQ sw)));have R:=r0 F.T h.P9;unfold Sy.cj;dsimp only;rw[if_neg (by simp)];have kB:B.kind now=5:=e.k k5 (by decide);have b2:B.val now 2=cell:=(e.val _ _ hn).trans v2;have km:=k0 hm.k (by decide)
  have ej:j.up.join=j.up.id-1:=by
   have k2:=hjt.up.1;rw[hjt.up.2];exact((tA.cg _ (k0 k2 (by decide))).ro k2).2.2.1
  refine hB.go (n:=.swap _ _ _ (.bS {j with ai:=B.base now} _)) ⟨rfl,ej,rfl,rfl,⟨hj.st,(hj.rel R).u,hj.hm,hj.gN⟩,⟨e.k hm.k (by decide),hm.own,hm.un,fun q=>?_⟩,⟨kB,(e.val _ _ hn).trans v3,fun _=>?_,?_⟩,(rc F.c).cT _ hl,h0⟩;show B.holds (B.val j.main.b.id 2)=j.main.b.id;rw[e.val _ _ km];exact R.main _ hm.k q (hm.pl ((R.st _ hm.k).2.2 q));show B.holds (B.val now 2)=now;rw[b2,u.holds,if_pos rfl];show Ig g j (B.val now 2);rw[b2];exact hnb.rel h.iv.inv hj.u R
 | .bS j c,⟨hlc,hjt,hmt,hnt⟩,⟨z0,z1,z2,z3,hj,hm,hn,hl,h0⟩=>by
  subst z0;subst z1;subst z3;rw[z2]at hh;obtain⟨iv,r0,rc,lk⟩:=h.iv.take hj.u hh hm.k hm.un u t e;have hB:=h.mH iv e (fun j _=>r0 j) (fun c _=>rc c) rfl (h.mN.gF h.iv.inv u e (CT hlc));have R:=r0 F.i;unfold Sy.cj;dsimp only;rw[if_neg (by simp)];have rt:(s.bq B).root=F.root:=h.rt;rw[rt];refine hB.bh (j:={j with aU:=j.aU++[j.up.id-1]}) ((rc F.c).cT _ hl) ⟨⟨hj.st,(hj.rel R).u,hj.hm,by rw[h0];simp⟩,hm.rel R,?_,lk⟩ (by rw[h0];simp) ⟨_,_,iv.inv.sk.tr.rt.2⟩ (.inl ⟨rfl,rfl⟩);have q:=hn.rel h.iv.inv hj.u hm.k R;exact⟨q.k,q.m3,q.pl,q.nb⟩
 | .bO j c l,⟨hlc,hlt,hjt,hmt,hnt,hct⟩,⟨z0,z4,z2,z3,hj,hf,hl,hce,w,hw,zw,hcw⟩=>by
  subst z0;subst z3;subst z4;rw[z2]at hh;subst zw;obtain⟨iv,r0,rc,lk⟩:=h.iv.take hw hh hj.ma.k hj.ma.un u t e;have hB:=h.mH iv e (fun j _=>r0 j) (fun c _=>rc c) rfl (h.mN.gF h.iv.inv u e (CT hlc));have R:=r0 F.i;unfold Sy.cj;dsimp only;rw[if_neg (by simp)];have q:=hj.rel h.iv.inv R;have qc:=hce.rel hj R;refine hB.bH (j:={j with aU:=j.aU++[w-1]}) ((rc F.c).cT _ hl) ⟨⟨q.jo.st,q.jo.u,q.jo.hm,?_⟩,q.ma,⟨q.ne.k,q.ne.m3,q.ne.pl,q.ne.nb⟩,q.lk⟩ ⟨⟨qc.dn,qc.at_⟩,.inr ⟨w,rfl,hcw,lk⟩⟩;show(j.aU++[w-1]).length<=2;rw[List.length_append];simp;omega
 | .bW j last,⟨hjt,hmt,_⟩,⟨z2,z3,hm,hl,hf⟩=>by
  have lc:=Qa wr z3;rw[z2]at hh;rw[z3]at u;obtain⟨iv,r0,rc⟩:=h.iv.P3 (i:=F.i) lc hh hm.k (.inl ⟨hm.un,hm.own⟩) u t e;have hB:=h.mH iv e r0 (fun c _=>rc c) rfl (h.mN.gF h.iv.inv u e (CT lc));have R:=r0 F.T h.P9;have km:=k0 hm.k (by decide);unfold Sy.cj;dsimp only;refine hB.bW (j:={j with aU:=j.aU.take last.toNat}) (hmt.ext e) ⟨e.k hm.k (by decide),hm.own,hm.un,fun q=>?_⟩ ((rc F.c).cT _ hl) (by rw[List.length_take];omega);show B.holds (B.val j.main.b.id 2)=j.main.b.id;rw[e.val _ _ km];exact R.main _ hm.k q (hm.pl ((R.st _ hm.k).2.2 q))
 | .cK t',ht,⟨z2,z3,sc,hk⟩=>by
  have tA:=h.iv.inv.bg;rw[z2]at hh;rw[z3]at u;have k4:=sc.2;have u':ka s.ar B (cell+1-1) (-2):=by rw[show cell+1-1=cell by omega];exact u
  have hst:s.ar.st (cell+1)= -1:=by unfold Ar.st;rw[show cell+1-1=cell by omega];exact hh
  obtain⟨iv,r0,rc⟩:=h.iv.state k4 (.inl ⟨hst,rfl⟩) u' t e
  have hp:g.aa (cell+1)=0:=by
   rcases h.iv.inv.main _ k4 with⟨q,_⟩| ⟨q,z⟩;exact q;have:=h.iv.inv.py q;omega
  have hB:=h.mH iv e (fun j _=>r0 j) (fun c _=>rc c) rfl (h.mN.bE h.iv.inv e rfl (fun m z=>⟨rfl,by
   unfold Ar.st;rw[u.holds,if_neg];intro y;exact z (by rw[show m=cell+1 by omega];exact hp),Iff.rfl⟩) fun m z q=>absurd z q)
  unfold Sy.cj;dsimp only;exact hB.runT (vk.ext e (Nat.le_refl N) ht) (vl.rel tA (r0 F.T) (rc F.c) ht hk)
 | .bH j id,⟨hjt,hmt,k8⟩,⟨z0,z1,z2,_,hpo,_,hfr,hm,hl,hf⟩=>by
  subst z0;subst z1;rw[z2]at hh;obtain⟨po,ow⟩:=hpo hh;obtain⟨iv,r0,rc⟩:=h.iv.show h.cn.iT hm hh po ow hfr u t e;have sc:=gw h.iv.inv.bg hm.k;have w:=ow.wp h.iv.inv hm.un;have hB:=h.mH iv e r0 (fun c _=>rc c) rfl (h.mN.bE h.iv.inv e rfl (fun m z=>⟨?_,?_,Iff.rfl⟩) fun m z q=>?_);unfold Sy.cj;dsimp only;rw[if_neg (by simp)];exact hB.eD (p:=B.aa now) (t:=.ret j.cR) (if_pos rfl) ((rc F.c).cT _ hl);exact if_neg fun y:m=j.main.b.id=>z (by rw[y];exact hm.un);unfold Ar.st;rw[u.holds,if_neg];intro y;exact z (by rw[show m=j.main.b.id by omega];exact hm.un);have q':(if m=j.main.b.id then now else g.aa m)≠0:=q;show g.live (B.val (if m=j.main.b.id then now else g.aa m) 2-5);by_cases y:m=j.main.b.id;rw[if_pos y,u.val];exact w.live.2;rw[if_neg y]at q';exact absurd z q'
 | .fQ m p t',⟨hmt,hpt,ht⟩,⟨a,b,c,d,hk⟩=>by
  have tA:=h.iv.inv.bg;have kp:=k0 hpt.1 (by decide);have hp0:p.id≠0:=by have:=aF (A:=s.ar) kp;omega
  obtain⟨q,_⟩:=h.iv.inv.aa m.b.id (by rw[a];exact hp0);rw[a]at q;have e1:p.dZ=s.ar.val p.id 0:=congrArg Pl.dZ hpt.2;have e2:p.ai=s.ar.val p.id 1:=congrArg Pl.ai hpt.2;subst b;subst d;rw[e1,e2]at u;rw[c,e2]at hh;obtain⟨iv,r0,rc⟩:=h.iv.fQ a hp0 hh u t e;have tc:s.ar.TC (s.ar.val (s.ar.val p.id 1) 2):=((tA.cg _ (k0 q.n.1 (by decide))).base (bL q.n.1 (by decide) (by decide))).1;have hB:=h.mH iv e (fun j _=>r0 j) (fun c _=>rc c) rfl (h.mN.gF h.iv.inv u e (wN tc));unfold Sy.cj;dsimp only;refine hB.go (n:=.swap p.cell p.parent p.fu (.e8 m p t')) ⟨a,rfl,rfl,rfl,?_,vl.rel tA (r0 F.T) (rc F.c) ht hk⟩;show p.ai<B.holds (B.val p.ai 2);rw[e2,e.val _ _ (k0 q.n.1 (by decide)),u.holds,if_pos rfl];exact q.lt.1
 | .e8 m p t',⟨hmt,hpt,ht⟩,⟨a,b,c,d,lt,hk⟩=>by
  have tA:=h.iv.inv.bg;have kp:=k0 hpt.1 (by decide);have hp0:p.id≠0:=by have:=aF (A:=s.ar) kp;omega
  have hpm:g.aa m.b.id≠0:=by rw[a];exact hp0
  obtain⟨q,ph⟩:=h.iv.inv.aa m.b.id hpm;have e2:p.ai=s.ar.val p.id 1:=congrArg Pl.ai hpt.2;have e3:p.cell=s.ar.val p.id 3:=congrArg Pl.cell hpt.2;have e4:p.parent=s.ar.val p.id 2:=congrArg Pl.parent hpt.2;have e5:p.fu=s.ar.val p.id 5:=congrArg Pl.fu hpt.2
  have em:m.state=m.b.id-1:=by
   have:=((tA.cg _ (k0 hmt.1 (by decide))).main hmt.1).1;rw[hmt.2];exact this
  subst b;subst d;rw[e3,e5]at u;rw[c,e3,e4]at hh;rw[e2]at lt;obtain⟨lo,hi,iv,r0,rc⟩:=h.iv.e8 a hp0 u t e hh (by omega)
  have hB:=h.mH iv e (fun j _=>r0 j) (fun c _=>rc c) rfl (by
   have u':ka s.ar B (s.ar.val (g.aa m.b.id) 3) (s.ar.val (g.aa m.b.id) 5):=by rw[a];exact u
   have:=h.mN.join (lo:=lo) (hi:=hi) h.iv.inv hpm u' e (by rw[a];exact hh);rw[a]at this;exact this)
  have lt2:p.parent<B.holds p.cell:=by
   rw[e3,e4,u.holds,if_pos rfl];rw[a]at q;rcases q.rp with⟨x,_⟩| ⟨_,x,_⟩;rw[x];exact q.lt.2;exact x
  have hk':=vl.rel tA (r0 F.T) (rc F.c) ht hk;unfold Sy.cj;dsimp only;split
  ·refine hB.go (n:=.swap m.state p.id (-3) (.cL t')) ⟨⟨m.b.id,e.k hmt.1 (by decide),em,a,hp0,rfl,?_⟩,hk'⟩;show B.val p.id 2<B.holds (B.val p.id 3);rw[e.val _ _ kp,e.val _ _ kp,<-e3,<-e4];exact lt2
  ·exact hB.go (n:=.swap p.lock m.b.id 0 (.cZ m p t')) ⟨a,rfl,rfl,rfl,lt2,hk'⟩
 | .cZ m p t',⟨hmt,hpt,ht⟩,⟨a,b,c,d,lt,hk⟩=>by
  have tA:=h.iv.inv.bg;have kp:=k0 hpt.1 (by decide);have hp0:p.id≠0:=by have:=aF (A:=s.ar) kp;omega
  obtain⟨q,ph⟩:=h.iv.inv.aa m.b.id (by rw[a];exact hp0);have e3:p.cell=s.ar.val p.id 3:=congrArg Pl.cell hpt.2;have e4:p.parent=s.ar.val p.id 2:=congrArg Pl.parent hpt.2;have e6:p.lock=s.ar.val p.id 4:=congrArg Pl.lock hpt.2
  have em:m.state=m.b.id-1:=by
   have:=((tA.cg _ (k0 hmt.1 (by decide))).main hmt.1).1;rw[hmt.2];exact this
  have lc:=Qa wr d;rw[d]at u;rw[c]at hh
  have dp:Dp s.ar g m.b.id (g.aa m.b.id):=by
   rcases ph with⟨_,w⟩|w;have:=w.pc.2;rw[a,<-e3,<-e4]at this;omega;exact w
  obtain⟨iv,r0,rc⟩:=h.iv.P3 (i:=F.i) lc hh hmt.1 (.inr ⟨by rw[a];exact hp0,dp,by rw[a,<-e6];exact b⟩) u t e;have hB:=h.mH iv e r0 (fun c _=>rc c) rfl (h.mN.gF h.iv.inv u e (CT lc));have R:=r0 F.T h.P9;unfold Sy.cj;dsimp only;refine hB.go (n:=.swap m.state p.id (-3) (.cL t')) ⟨⟨m.b.id,e.k hmt.1 (by decide),em,a,hp0,rfl,?_⟩,vl.rel tA R (rc F.c) ht hk⟩;show B.val p.id 2<B.holds (B.val p.id 3);rw[e.val _ _ kp,e.val _ _ kp,<-e3,<-e4];have:=R.pz p.cell (by rw[e3,<-a];exact(h.iv.pp _ (by rw[a];exact hp0)).1);omega
 | .cL t',ht,⟨⟨m,k4,z1,a,hp0,z3,lt⟩,hk⟩=>by
  have tA:=h.iv.inv.bg;have hpm:g.aa m≠0:=by rw[a];exact hp0
  obtain⟨q,ph⟩:=h.iv.inv.aa m hpm;subst z1;subst z3;have hs:s.ar.st m=g.aa m:=by unfold Ar.st;rw[hh,a]
  have dp:Dp s.ar g m (g.aa m):=by
   rcases ph with⟨_,w⟩|w;have:=w.pc.2;rw[a]at this;omega;exact w
  obtain⟨iv,r0,rc⟩:=h.iv.state k4 (.inr ⟨hpm,hs,rfl,dp⟩) u t e;have cl:=h.mN.le;have hsp:=h.sp;have hinc:inc s.aA=s.aA+1:=rK (by omega) (by omega)
  have hB:Md F ({(s.bq B)with aA:=inc s.aA}:Sy) g:=by
   refine⟨h.cn,iv,Md.iY h.vG h.iv.inv h.iv.pp iv.inv (fun j _=>r0 j) (fun c _=>rc c) rfl e,h.eK,h.cl,h.op,h.rt,h.bz,h.nx,h.pre,?_,h.sp.1,h.sp.2.1,by show F.Vv<=inc s.aA;omega⟩;show ji B g s.splits (inc s.aA);rw[hinc];exact h.mN.done h.iv.inv hpm hs dp u e
  unfold Sy.cj;dsimp only;rw[if_pos rfl];exact hB.runT (vk.ext e (Nat.le_refl N) ht) (vl.rel tA (r0 F.T) (rc F.c) ht hk)
end
section
variable {F:Fx} {s:Sy} {g g1:Gh} {A B C:Ar} {K:eE} {root:Int}
theorem Md.Ka (h:Md F s g) {N:Nat} {j:Jb} {v:Int} {r:KR} (hjt:om s.ar N j) (hrt:qL s.ar F.K N F.o r) (hv9:v= -1\/s.ar.kind v=9) (hr:oz F.K s.ar g F.o F.c j.store.id r) (hf:j.au.length<=F.K.keys.length+1)
  (hv:v≠-1->∃key,yp s.ar g j.store.id (s.ar.val j.store.id 0) j.au key/\s.ar.val j.store.id 1<key/\Rs s.ar v j.au/\(s.ar.holds (j.store.id-1)=0->∀b∈j.au,s.ar.holds (s.ar.val b 2)=b)):En F (s.runN (.once j.store.result v (.results j v r))):=by
 have tA:=h.iv.inv.bg;have k7:=hjt.ef;have rc0:=hjt.rc tA
 have es:j.store.result=j.store.id-1:=by
  rw[hjt.eq];exact((tA.cg _ (k0 k7 (by decide))).ef k7).1
 have ec:j.store.call=s.ar.val j.store.id 4:=by rw[hjt.eq];rfl
 have hz:v≠0:=by
  rcases hv9 with rfl|q
  decide
  have:=aF (A:=s.ar) (id:=v) (by rw[q];decide);omega
 unfold Sy.runN;dsimp only;unfold Ar.once;rw[if_pos rc0.1];by_cases h0:s.ar.holds j.store.result=0
 rotate_left
 rw[if_neg (fun q=>h0 q.1)];dsimp only;obtain⟨g1,hB,R,RC⟩:=h.M6;unfold Sy.cj;dsimp only;rw[if_pos rfl];exact hB.go (n:=.load j.store.result (.res j r)) ⟨oz.rel tA (R 0) (RC F.c) hrt hr,hf⟩;rw[if_pos ⟨h0,hz⟩];dsimp only;have u:=qw v rc0.1;obtain⟨t,e⟩:=tA.ed u ⟨fun q=>absurd (rc0.2.symm.trans q.2) (by decide),fun q=>absurd (rc0.2.symm.trans q.2) (by decide),fun _=>⟨h0,hv9⟩⟩;rw[es]at u t e h0⊢;generalize s.ar.step.put (j.store.id-1) v=B at u t e;have nsc:¬s.ar.SC (j.store.id-1):=(BA tA k7).2.1;have hB0:B.holds (j.store.id-1)=v:=by rw[u.holds,if_pos rfl]
 have k7B:=e.k k7 (by decide);unfold Sy.cj;dsimp only;rw[if_neg (by simp)];by_cases h1:v= -1;rw[if_neg (by simpa using h1)];subst h1;obtain⟨iv,r0,rc⟩:=h.iv.P4 k7 h0 u t e;have hB:=h.mH iv e (fun j _=>r0 j) (fun c _=>rc c) rfl (h.mN.gF h.iv.inv u e nsc);exact hB.iV k7B hB0 (.inl rfl) (hrt.ext e (Nat.le_refl _)) (oz.rel tA (r0 F.T) (rc F.c) hrt hr);rw[if_pos h1];obtain⟨key,cv,hk,rs,inp⟩:=hv h1;have k9:=hv9.resolve_left h1;have pl:=inp h0;obtain⟨c1,c2,c3,_,_⟩:=J8 h.iv.inv cv pl h.iv.iA;have so:=h.iv.ef.op _ k7;obtain⟨w1,w2⟩:=HM h.iv.iA h.Vw so h.BD c1 c2 fun x hx a b=>c3 x hx a (by omega)
 have hbs:∀b∈j.au,s.ar.kind b=6/\s.ar.val b 3=j.store.id/\g.dn (s.ar.val b 2):=fun b hb=>by
  obtain⟨x1,x2⟩:=cv.ef b hb;refine⟨x1,x2,?_⟩
  have:∀{l:List Int} {k:Int},yp s.ar g j.store.id (s.ar.val j.store.id 0) l k->∀b∈l,g.dn (s.ar.val b 2):=fun{l k} hc=>by
   induction hc with
   |nil=>intro b hb;cases hb
   | @snoc l b k k' y1 y2 y3 y4 y5 ih=>
    intro x hx;rcases List.mem_append.1 hx with hx|hx;exact ih x hx;rw[List.mem_singleton.1 hx];exact y4.In.dn
   | @more l b k k' y1 y2 y3 ih=>exact ih
  exact this cv b hb
 obtain⟨iv,r0,rc⟩:=h.iv.res k7 h0 k9 rs hbs w1 w2 u t e
 have hB:Md F ((s.bq B).cV j.store.call) (g.tell (s.ar.val j.store.id 4)):=by
  refine⟨h.cn,?_,Md.iY h.vG h.iv.inv h.iv.pp iv.inv (fun j _=>r0 j) (fun c _=>rc c) rfl e,h.eK,h.cl,h.op,h.rt,h.bz,h.nx,?_,ji.gF (g:=g) h.iv.inv h.mN u e nsc,h.sp⟩;show Iv F.T F.K F.bY F.n F.root B (s.ord++[j.store.call]) _;rw[ec];exact iv;obtain⟨l,q⟩:=h.pre;exact⟨l++[j.store.call],by show _=s.ord++[j.store.call];rw[<-q,List.append_assoc]⟩
 exact hB.iV k7B hB0 (.inr (e.k k9 (by decide))) (hrt.ext e (Nat.le_refl _)) (oz.rel tA (r0 F.T) (rc F.c) hrt hr)
theorem Md.runN (h:Md F s g) {N:Nat}:∀{n:Nx},xW s.ar F.K N F.o n->CN F.K s.ar g F.root F.i F.o F.c n->En F (s.runN n)
 | .load cell k,hk,hx=>by
  have tA:=h.iv.inv.bg;have hc:=Am.aB tA hk;have e:s.ar.load cell=(s.ar.holds cell,s.ar.step):=by unfold Ar.load;rw[if_pos hc]
  unfold Sy.runN;dsimp only;rw[e];obtain⟨g1,hB,R,RC⟩:=h.M6;exact hB.df (N:=N) rfl (Am.ext tA tA.iQ.2 (Nat.le_refl _) hk) (J2.rel h.iv.inv hB.iv.inv (R F.i) (RC F.c) hk hx)
 | .swap cell bZ now k,⟨wr,hk⟩,hx=>by
  have tA:=h.iv.inv.bg;have hc:=wr.aB;unfold Sy.runN;dsimp only;unfold Ar.swap;rw[if_pos hc];by_cases hh:s.ar.holds cell=bZ
  ·rw[if_pos hh];dsimp only;have u:=qw now hc;obtain⟨t,e⟩:=tA.ed u wr.cases;exact h.J9 hh u t e wr hk hx
  ·rw[if_neg hh];dsimp only;obtain⟨g1,hB,R,RC⟩:=h.M6;exact hB.M7 (N:=N) (bZ:=bZ) (now:=now) (cell:=cell) hh (hk.ext tA.iQ.2 (Nat.le_refl _)) (Ih.rel h.iv.inv hB.iv.inv h.iv.pp (R F.i) (RC F.c) hk hx)
 | .once cell v k,hk,hx=>by
  obtain⟨j,r,e1,e2,hjt,hrt,hv⟩:=hk;obtain⟨j',r',e3,hr,hf,hv'⟩:=hx;subst e1
  cases e3
  subst e2;exact h.Ka hjt hrt hv hr hf hv'
 | .zero,_,⟨hb,hk,hlt⟩=>by
  have hu:eG F.o=false:=by simp[eG];omega
  have bn:dG g.cur F.o.key F.o.hi=[]:=qv fun x hx q=>by omega
  refine h.gU hb (nS h.iv.iA _ hu) ?_;rcases hk with hk|hk
  ·rw[rI h.iv.iA hk,bn];rfl
  ·rw[rJ h.iv.iA hk,bn];rfl
end
section
variable {A B:Ar} {K:eE} {g g1:Gh} {root c:Int} {i N:Nat} {o:bA}
def eE.ym (K:eE):Nat:=K.keys.length+2
theorem om.cut {j:Jb} (h:om A N j) (hl:j.au.length<=K.keys.length+1):om A K.ym j:=⟨h.ef,h.eq,Nat.le_succ_of_le hl,h.is⟩
theorem om.Ea {j:Jb} {key:Int} (h:om A N j) (q:wJ K A g j key):om A K.ym j:=h.cut (Nat.le_succ_of_le q.len)
theorem oF.cut {j:Jo} (h:oF A K N j) (q:j.aU.length<=2):oF A K K.ym j:=⟨h.b,h.up,Nat.le_trans q (by unfold eE.ym;omega),h.lc,h.an⟩
theorem qL.cut:∀{r:KR} {S:Int},qL A K N o r->oz K A g o c S r->qL A K K.ym o r
 | .leaf j _ r,_,h,q=>⟨h.1.Ea q.1,qL.cut h.2 q.2⟩
 | .update,_,h,_=>h
 | .whole ..,_,_,_=>trivial
 | .looks ..,_,_,_=>trivial
theorem zK.cut:∀{r:KU},zK A K N o r->El K A g o c r->zK A K K.ym o r
 | .leaf j _ r,h,q=>⟨h.1.Ea q.1,h.2.cut q.2⟩
 | .update,h,_=>h
 | .looks ..,_,_=>trivial
theorem vk.cut:∀{r:KT},vk A K N o r->vl K A g o c r->vk A K K.ym o r
 | .ret a,h,_=>h
 | .u u,h,q=>zK.cut (r:=u) h q
theorem Ei.cut {key:Int}:∀{r:KF},Ei A K N o r->Ic K A g o c key r->Ei A K K.ym o r
 | .leaf j _ r,h,q=>⟨h.1.Ea q.2.1,h.2.cut q.2.2⟩
 | .update,h,_=>h
 | .looks ..,_,_=>trivial
 | .aA ..,h,_=>h
theorem Co.cut:∀{r:KO},Co A K N o r->CM K A g root o c r->Co A K K.ym o r
 | .update f,h,_=>h
 | .aA j n,h,q=>⟨h.1.cut q.1.gN,h.2⟩
 | .leaf j _ f r,h,q=>⟨h.1.Ea q.2.1,h.2.1,h.2.2.cut q.2.2⟩
theorem Am.cut:∀{cell:Int} {k:KV},Am A K N o cell k->J2 K A g root i o c cell k->Am A K K.ym o cell k
 |_,.down ..,h,q=>⟨h.1,h.2.1,h.2.2.cut q.2⟩
 |_,.cd ..,h,_=>h
 |_,.cB ..,h,_=>h
 |_,.dm ..,h,q=>⟨h.1,h.2.1,h.2.2.cut q.2.2.2⟩
 |_,.cN ..,h,q=>⟨h.1,h.2.1,h.2.2.cut q.2.2.2⟩
 |_,.cU ..,h,q=>⟨h.1,h.2.1,h.2.2.cut q.2.2.2⟩
 |_,.cE ..,h,q=>⟨h.1,h.2.1,h.2.2.cut q⟩
 |_,.mf ..,h,q=>⟨h.1,h.2.cut q.2.1.gN⟩
 |_,.bh ..,h,q=>⟨h.1,h.2.1,h.2.2.1,h.2.2.2.1.cut q.2.1.jo.gN,h.2.2.2.2⟩
 |_,.bH ..,h,q=>⟨h.1,h.2.1,h.2.2.1.cut q.2.1.jo.gN,h.2.2.2⟩
 |_,.leaf ..,h,q=>⟨h.1,h.2.1.Ea q.2.1,h.2.2.1,h.2.2.2.cut q.2.2⟩
 |_,.res ..,h,q=>⟨h.1,h.2.1.cut q.2,h.2.2.1.cut q.1,h.2.2.2⟩
theorem GG.cut {cell bZ now:Int}:∀{k:KB},GG A K N o k->Ih K A g root i o c cell bZ now k->GG A K K.ym o k
 | .marks ..,h,⟨_,_,_,_,_,_,_,_,_,q,r⟩=>⟨h.1.Ea q,h.2.1,h.2.2.1,h.2.2.2.cut r⟩
 | .results ..,h,_=>h
 | .update ..,h,_=>h
 | .split _,h,_=>h
 | .aL ..,h,⟨_,_,_,_,_,_,_,q,_⟩=>⟨h.1.cut q.gN,h.2⟩
 | .aG ..,h,⟨_,_,_,_,_,_,q,_⟩=>⟨h.1.cut q.gN,h.2⟩
 | .bS ..,h,⟨_,_,_,_,q,_⟩=>⟨h.1,h.2.1.cut q.gN,h.2.2⟩
 | .bO ..,h,⟨_,_,_,_,q,_⟩=>⟨h.1,h.2.1,h.2.2.1.cut q.jo.gN,h.2.2.2⟩
 | .bW ..,h,⟨_,_,_,_,q⟩=>⟨h.1.cut q,h.2⟩
 | .cK _,h,q=>vk.cut h q.2.2.2
 | .bH ..,h,⟨_,_,_,_,_,_,_,_,_,q⟩=>⟨h.1.cut q,h.2⟩
 | .fQ ..,h,q=>⟨h.1,h.2.1,h.2.2.cut q.2.2.2.2⟩
 | .e8 ..,h,q=>⟨h.1,h.2.1,h.2.2.cut q.2.2.2.2.2⟩
 | .cZ ..,h,q=>⟨h.1,h.2.1,h.2.2.cut q.2.2.2.2.2⟩
 | .cL _,h,q=>vk.cut h q.2
theorem xW.cut:∀{n:Nx},xW A K N o n->CN K A g root i o c n->xW A K K.ym o n
 | .load ..,h,q=>Am.cut h q
 | .swap ..,h,q=>⟨h.1,h.2.cut q⟩
 | .once ..,⟨j,r,h1,h2,h3,h4,h5⟩,⟨j',r',q1,q2,q3,_⟩=>by
  subst h1
  cases q1
  exact⟨_,_,rfl,h2,h3.cut q3,h4.cut q2,h5⟩
 | .zero,_,_=>trivial
def Gh.bY (g:Gh) (c:Int) (o:bA):Gh:={g with eK:=fun x=>if x=c then o else g.eK x}
theorem Ar.Inv.M8 (h:Inv A K g root) (f:Int->bA):Inv A K {g with eK:=f} root:=
 ⟨h.bg,⟨⟨h.sk.tr.rt,h.sk.tr.pt,h.sk.tr.gH,h.sk.tr.oE,h.sk.tr.rk,h.sk.tr.kq,h.sk.tr.j8,h.sk.tr.ord,h.sk.tr.rm,h.sk.tr.sep,h.sk.tr.par,h.sk.tr.up,h.sk.tr.rq,h.sk.tr.str,h.sk.tr.Ck,h.sk.tr.qx,h.sk.tr.both,h.sk.tr.j7,h.sk.tr.nd,h.sk.tr.Gy,h.sk.tr.Cl,h.sk.tr.Eg,h.sk.tr.Eh⟩,h.sk.cell,h.sk.rt,h.sk.has⟩,h.home,h.cont,h.dead,h.lock,h.main,
  fun m q=>⟨(h.aa m q).1,(h.aa m q).2.imp (fun⟨a,b⟩=>⟨a,⟨b.live,b.pc,b.hm,b.lu,b.lw,b.nc,b.oc,b.bl,b.st⟩⟩) fun b=>⟨b.dead,b.pc,b.nc,b.jd⟩⟩⟩
theorem Rel.M8 (h:Rel i A g B g1) (f:Int->bA):Rel i A g B {g1 with eK:=f}:=⟨h.ext,h.iv,h.rt,h.own,h.dead,h.pz,h.st,h.aa,h.HC,h.lock,h.bl,h.new,h.main,h.ai,h.sN,h.Vu,h.Qs,h.mq,h.div⟩
theorem sx {p q:Int->bA} {bY:List Pr}:∀{l:List Int},(∀x∈l,p x=q x)->∀{m:List Pr},l.foldl (fun m c=>(eB m (p c)).1) m=l.foldl (fun m c=>(eB m (q c)).1) m
 | [],_,_=>rfl
 |a::l,h,m=>by
  rw[List.foldl_cons,List.foldl_cons,h a (List.mem_cons_self ..)];exact sx (bY:=bY) (fun x hx=>h x (List.mem_cons_of_mem _ hx))
theorem Iv.bY {T:Nat} {bY:List Pr} {n:Int} {ord:List Int} (h:Iv T K bY n root A ord g) (hn:0<=n) (o:bA):Iv T K bY (n+1) root A ord (g.bY n o)/\(∀j,Rel j A g A (g.bY n o))/\(∀c,c≠n->gS c A g A (g.bY n o))/\oQ A (g.bY n o) n:=by
 have bZ:∀c,c<n->(g.bY n o).eK c=g.eK c:=fun c hc=>if_neg (by omega);have emap:∀l:List Int,(∀x∈l,x<n)->mapOf (g.bY n o).eK bY l=mapOf g.eK bY l:=fun l hl=>sx (bY:=bY) fun x hx=>bZ x (hl x hx);refine⟨⟨h.inv.M8 _,h.own,h.iA,⟨?_,fun k c hk=>?_,h.cT.out,h.cT.nd,fun c hc=>?_⟩,⟨fun S hS=>?_,h.ef.rg,fun S hS=>?_,h.ef.cT,h.ef.one,h.ef.bs⟩,h.stat,h.pp,fun m q d=>h.mc m q ⟨d.dead,d.pc,d.nc,d.jd⟩,h.key,h.vF⟩,fun j=>(Rel.refl j A g).M8 _,fun c hc=>⟨if_neg hc,fun _ q=>q,fun S q q0=>(by rw[q0]at q;cases q),.inl rfl,fun S l _ _ q0 k9=>absurd k9 (by rw[q0];exact fa (by omega) (by decide))⟩,?_,fun S hS hc=>?_⟩;rw[emap ord fun x hx=>(h.cT.low x hx).2];exact h.cT.cur;have hc:=(h.cT.low c (List.mem_of_getElem? hk)).2;rw[emap _ fun x hx=>(h.cT.low x (List.mem_of_mem_take hx)).2,bZ c hc];exact h.cT.cT k c hk;have:=h.cT.low c hc;omega;rw[bZ _ (h.ef.low S hS).2];exact h.ef.op S hS;have:=h.ef.low S hS;omega
 cases e:g.cT n with
 |none=>exact e
 |some a=>have:=(h.cT.low n (h.cT.out n (by rw[e];simp))).2;omega
 have:=(h.ef.low S hS).2;omega
theorem CN.rel {j:Nat} {nx:Nx} (hI:Inv A K g root) (hB:Inv B K g1 root) (hpp:Qt A g) (R:Rel j A g B g1) (C:gS c A g B g1) (a:xW A K N o nx) (b:CN K A g root j o c nx):xW B K N o nx/\CN K B g1 root j o c nx:=by
 have e:=R.ext;refine⟨a.ext hI.bg e (Nat.le_refl _),?_⟩
 cases nx with
 |load cell k=>exact J2.rel hI hB R C a b
 |swap cell bZ now k=>exact Ih.rel hI hB hpp R C a.2 b
 |once cell v k=>
  obtain⟨j',r',rfl,hk,hf,hv⟩:=b;obtain⟨j2,r2,e2,h2,h3,h4,h5⟩:=a
  cases e2
  refine⟨_,_,rfl,oz.rel hI.bg R C h4 hk,hf,fun q=>?_⟩;obtain⟨key,c1,c2,c3,c4⟩:=hv q;have hn:=k0 h3.ef (by decide);exact⟨key,by rw[R.ext.val _ _ hn];exact(c1.rel R).1,by rw[R.ext.val _ _ hn];exact c2,c3.ext e,qG hI.bg c1 h3.ef c4 R⟩
 |zero=>exact⟨b.1.rel hI.bg e C,b.2⟩
end
def Qv (K:eE) (o:bA):Prop:=fj o=true/\HJ o/\(eG o=true->o.key∈K.keys)
structure kJ (K:eE):Prop where
 gN:K.keys.length<=1000000
 sN:∀k∈K.keys,fM<=k/\k<eU
 km:K.keys.length+3<=K.m
 an:K.m*K.keys.length<=1000000
structure XA (K:eE) (w:Wd) (g:Gh) (i:Nat) (t:Th):Prop where
 c0:0<=t.call/\t.call<w.calls
 op:Qv K t.op
 eK:g.eK t.call=t.op
 nx:∃nx,t.next=some nx/\xW w.ar K K.ym t.op nx/\CN K w.ar g w.root i t.op t.call nx
structure CU (T:Nat) (K:eE) (bY:List Pr) (w:Wd) (g:Gh):Prop where
 len:w.zY.length=T
 c0:0<=w.calls
 iv:Iv T K bY w.calls w.root w.ar w.ord g
 mN:ji w.ar g w.splits w.aA
 th:∀i,i<T->(w.th i).busy=true->XA K w g i (w.th i)
 idle:∀i,i<T->(w.th i).busy=false->(w.th i).next=none
 HR:∀i j,i<T->j<T->(w.th i).busy=true->(w.th j).busy=true->i≠j->(w.th i).call≠(w.th j).call
structure Fin (K:eE) (w:Wd) (g:Gh) (t:Th):Prop where
 iR:t.iR=true
 an:xV K t.cR
 cT:g.cT t.call=some t.cR\/(t.cR= .full/\oQ w.ar g t.call)
section
variable {T:Nat} {K:eE} {bY:List Pr} {w:Wd} {g:Gh} {i:Nat}
theorem HS {s:Sy} {j:Nat} (hi:i<w.zY.length):(w.put i s).th j=if j=i then s.th else w.th j:=by
 unfold Wd.th Wd.put;simp only[List.getD_eq_getElem?_getD];by_cases e:j=i;subst e;rw[if_pos rfl,List.getElem?_set_self hi];rfl;rw[if_neg e,List.getElem?_set_ne (fun q=>e q.symm)]
theorem CU.Kc (h:CU T K bY w g):(w.ord.length:Int)<=w.calls:=by
 have:=eu w.ord ((List.range w.calls.toNat).map fun(i:Nat)=>(i:Int)) h.iv.cT.nd fun x hx=>by
  have:=h.iv.cT.low x hx;exact List.mem_map.2 ⟨x.toNat,List.mem_range.2 (by omega),by omega⟩
 have h0:=h.c0;simp at this;omega
theorem CU.cn (hK:kJ K) (h:CU T K bY w g) (hi:i<T) (hb:(w.th i).busy=true):Cn T K i w.calls (w.th i).call (w.th i).op:=by
 have t:=h.th i hi hb;exact⟨hi,t.c0,t.op.2.1,t.op.1,hK.gN,hK.sN,t.op.2.2,by have:=hK.km;omega⟩
structure W9 (T:Nat) (K:eE) (bY:List Pr) (w:Wd) (g:Gh) (i:Nat) (w':Wd) (g':Gh):Prop where
 wi:CU T K bY w' g'
 vG:∀j,j≠i->w'.th j=w.th j
 call:(w'.th i).call=(w.th i).call
 op:(w'.th i).op=(w.th i).op
 calls:w'.calls=w.calls
 root:w'.root=w.root
 room:w'.ar.room=w.ar.room
 len:w.ar.len<=w'.ar.len
 ord:w.ord<+:w'.ord
 eK:g'.eK=g.eK
 cT:∀c,c≠(w.th i).call->∀a,g.cT c=some a->g'.cT c=some a
 MY:∀c,c≠(w.th i).call->oQ w.ar g c->oQ w'.ar g' c
 steps:w'.steps=inc w.steps
 sp:w'.splits=w.splits\/(w'.splits=w.splits+1/\(w'.th i).busy=false)
 jn:w.aA<=w'.aA
 fin:(w'.th i).busy=false->Fin K w' g' (w'.th i)
theorem CU.step (hK:kJ K) (h:CU T K bY w g) (hi:i<T) (hb:(w.th i).busy=true) (hsp:w.splits<1000000):∃g',W9 T K bY w g i (w.step i (w.th i)) g':=by
 obtain⟨⟨c0,hop,hopc,nx,e1,ht,hx⟩,hcn⟩:=And.intro (h.th i hi hb) (h.cn hK hi hb);have hl:i<w.zY.length:=by rw[h.len];exact hi
 generalize hs:({(w.sy (w.th i))with th:={(w.th i)with next:=none}}:Sy)=s;have s1:s.ar=w.ar:=by rw[<-hs];rfl
 have s2:s.ord=w.ord:=by rw[<-hs];rfl
 have s3:s.root=w.root:=by rw[<-hs];rfl
 have s4:s.splits=w.splits:=by rw[<-hs];rfl
 have s5:s.aA=w.aA:=by rw[<-hs];rfl
 have s7:s.th={(w.th i)with next:=none}:=by rw[<-hs]
 have est:(w.sy (w.th i)).iQ=s.runN nx:=by
  unfold Sy.iQ;rw[show(w.sy (w.th i)).th.next=some nx from e1];exact congrArg (fun z=>Sy.runN z nx) hs
 let F:Fx:=⟨T,K,bY,w.calls,w.root,i,(w.th i).call,(w.th i).op,w.ar,g,w.ord,w.splits,w.aA⟩
 have md:Md F s g:=by
  refine⟨hcn,by rw[s1,s2];exact h.iv,?_,hopc,by rw[s7],by rw[s7],s3,by rw[s7];exact hb,by rw[s7],by rw[s2];exact List.prefix_rfl,by rw[s1,s4,s5];exact h.mN,s4,hsp,by show w.aA<=s.aA;omega⟩;rw[s1];exact⟨fun j c' o' N nx _ _ a b=>⟨a,b⟩,fun _ _ _ q=>q,fun _ _ q=>q,rfl⟩
 have htS:xW s.ar K K.ym (w.th i).op nx:=by rw[s1];exact ht
 have G:Gd w.ar K (K.ym+1) (w.th i).op w.root (s.runN nx):=In.runN (A0:=w.ar) ⟨by rw[s1];exact h.iv.inv.bg,by rw[s1];exact .refl _,by rw[s7],s3,by rw[s7];exact hb,by rw[s7],hop.2.2⟩ (by unfold eE.ym;exact hK.km) htS;obtain⟨g',E⟩:=md.runN htS (by rw[s1];exact hx);generalize hs':s.runN nx=s' at G E est
 have thj:∀j,(w.step i (w.th i)).th j=if j=i then s'.th else w.th j:=fun j=>by
  show(w.put i (w.sy (w.th i)).iQ).th j=_;rw[HS hl,est]
 have wr:(w.step i (w.th i)).ar=s'.ar:=by show(w.sy (w.th i)).iQ.ar=_;rw[est]
 have wo:(w.step i (w.th i)).ord=s'.ord:=by show(w.sy (w.th i)).iQ.ord=_;rw[est]
 have wt:(w.step i (w.th i)).root=w.root:=by show(w.sy (w.th i)).iQ.root=_;rw[est];exact E.rt
 have ws:(w.step i (w.th i)).splits=s'.splits:=by show(w.sy (w.th i)).iQ.splits=_;rw[est]
 have wj:(w.step i (w.th i)).aA=s'.aA:=by show(w.sy (w.th i)).iQ.aA=_;rw[est]
 have wc:(w.step i (w.th i)).calls=w.calls:=rfl;have thi:(w.step i (w.th i)).th i=s'.th:=by rw[thj,if_pos rfl]
 have tho:∀j,j≠i->(w.step i (w.th i)).th j=w.th j:=fun j hj=>by rw[thj,if_neg hj]
 have ecl:s'.th.call=(w.th i).call:=E.cl;have eop:s'.th.op=(w.th i).op:=E.op;have eopc:g'.eK=g.eK:=E.vG.eK;refine⟨g',⟨⟨by rw[Wd.uY];exact h.len,h.c0,by rw[wc,wt,wr,wo];exact E.iv,by rw[wr,ws,wj];exact E.mN,fun j hj hbj=>?_,fun j hj hbj=>?_,fun j k hj hk hbj hbk hjk=>?_⟩,tho,by rw[thi];exact ecl,by rw[thi];exact eop,wc,wt,by rw[wr];exact G.ext.room,by rw[wr];exact G.ext.len,by rw[wo];exact E.pre,eopc,E.vG.cT,fun c hc q=>by rw[wr];exact E.vG.MY c hc q,rfl,?_,by rw[wj];exact E.sp.2,fun hf=>?_⟩⟩
 ·by_cases e:j=i
  ·subst e;rw[thi]at hbj⊢;rcases E.fin with⟨_,n',en,hn⟩| ⟨z,_⟩
   rotate_left
   rw[hbj]at z;cases z;rcases G.fin with⟨_,n2,en2,tn⟩| ⟨z,_⟩
   rotate_left
   rw[hbj]at z;cases z;rw[en]at en2;cases en2;refine⟨by rw[ecl];exact c0,by rw[eop];exact hop,by rw[eopc,ecl,eop];exact hopc,n',en,?_,?_⟩;rw[wr,eop];exact tn.cut hn;rw[wr,wt,eop,ecl];exact hn
  rw[tho j e]at hbj⊢;obtain⟨a1,a2,a3,n',a4,a5,a6⟩:=h.th j hj hbj;have hd:=h.HR j i hj hi hbj hb e;obtain⟨b1,b2⟩:=E.vG.nx j _ _ _ _ e hd a5 a6;exact⟨a1,a2,by rw[eopc];exact a3,n',a4,by rw[wr];exact b1,by rw[wr,wt];exact b2⟩
 by_cases e:j=i;subst e;rw[thi]at hbj⊢;rcases E.fin with⟨z,_⟩| ⟨_,z,_⟩;rw[hbj]at z;cases z;exact z;rw[tho j e]at hbj⊢;exact h.idle j hj hbj;by_cases e:j=i;subst e;rw[tho k fun z=>hjk z.symm]at hbk⊢;rw[thi,ecl];exact h.HR j k hi hk hb hbk hjk;rw[tho j e]at hbj⊢;by_cases e2:k=i;subst e2;rw[thi,ecl];exact h.HR j k hj hi hbj hb hjk;rw[tho k e2]at hbk⊢;exact h.HR j k hj hk hbj hbk hjk;rw[ws,thi];exact E.sp.1;rw[thi]at hf⊢;rcases E.fin with⟨z,_⟩| ⟨_,_,z3,z4⟩;rw[hf]at z;cases z;rcases G.fin with⟨z,_⟩| ⟨_,_,_,z5⟩;rw[hf]at z;cases z;exact⟨z3,z5,by rw[wr,ecl];exact z4⟩
end
section
variable {F:Fx} {s:Sy} {A0:Ar} {K:eE} {N:Nat} {o:bA} {root:Int} {g:Gh}
theorem In.dB (h:In A0 K o root s):Gd A0 K N o root s.dB:=by
 unfold Sy.dB;rw[h.op];split;rename_i hk;exact h.update (by simp[eG];omega);split;exact h.looks;split;exact h.looks;split;exact h.looks;split;exact h.go (n:=.zero) trivial;exact h.looks
theorem Md.ve (h:Md F s g) {key:Int} {k:KF} (hr:fM<=key/\key<eU) (hk:Ic F.K s.ar g F.o F.c key k):CN F.K s.ar g F.root F.i F.o F.c (.load s.root (.down ⟨.zero,s.root,0,0,false⟩ key k)):=by
 refine⟨⟨fun q=>(by cases q),?_,fun q=>absurd rfl q,fun _=>h.rt⟩,hk⟩;show g.Cv s.root key eU;rw[h.rt];exact⟨hr.2,_,_,h.iv.inv.sk.tr.rt.2,hr.1,Int.le_refl _⟩
theorem rL {n m:Nx} (h:s.go n=s.go m):n=m:=by
 have:=congrArg (fun z:Sy=>z.th.next) h;exact Option.some.inj this
theorem Md.dB (h:Md F s g) (hb:oQ s.ar g F.c) {n:Nx} (e:s.dB=s.go n):CN F.K s.ar g F.root F.i F.o F.c n:=by
 have hm:1<=F.o.kind/\F.o.kind<=8:=by have:=h.cn.may;simpa[fj]using this
 unfold Sy.dB at e;rw[h.op]at e;split at e;rename_i hk;have:=rL (s:=s) e;rw[<-this,h.op];exact h.ve (k:=.update) ⟨h.cn.op.1,h.cn.op.2.1⟩ ⟨hb,by simp[eG];omega,rfl⟩;split at e;rename_i k4;rw[<-rL (s:=s) e];exact h.ve (k:=.looks _ .qV) ⟨h.cn.op.1,h.cn.op.2.1⟩ ⟨rfl,hb,k4,rfl⟩;split at e;rename_i k7;rw[<-rL (s:=s) e];exact h.ve (k:=.looks _ .ends) (GI.sN (k:=.ends) h.cn.op (.inl ⟨k7,rfl⟩)) ⟨rfl,hb,.inl ⟨k7,rfl⟩⟩;split at e;rename_i k8;rw[<-rL (s:=s) e];exact h.ve (k:=.looks _ .ends) (GI.sN (k:=.ends) h.cn.op (.inr ⟨k8,rfl⟩)) ⟨rfl,hb,.inr ⟨k8,rfl⟩⟩;rename_i n1 n4 n7 n8;have k56:F.o.kind=5\/F.o.kind=6:=by omega
 split at e;rename_i hlt;rw[<-rL (s:=s) e];exact⟨hb,k56,hlt⟩;rename_i hlt;rw[<-rL (s:=s) e];exact h.ve (k:=.looks _ .dL) ⟨h.cn.op.1,h.cn.op.2.1⟩ ⟨rfl,hb,k56,rfl,by omega⟩
end
section
variable {T:Nat} {K:eE} {bY:List Pr} {w:Wd} {g:Gh} {i:Nat}
structure Xa (T:Nat) (K:eE) (bY:List Pr) (w:Wd) (g:Gh) (i:Nat) (o:bA) (w':Wd) (g':Gh):Prop where
 wi:CU T K bY w' g'
 vG:∀j,j≠i->w'.th j=w.th j
 bz:(w'.th i).busy=true
 call:(w'.th i).call=w.calls
 op:(w'.th i).op=o
 calls:w'.calls=w.calls+1
 root:w'.root=w.root
 ar:w'.ar=w.ar
 ord:w'.ord=w.ord
 gh:g'=g.bY w.calls o
 steps:w'.steps=w.steps
 sp:w'.splits=w.splits
 jn:w'.aA=w.aA
theorem CU.call (hK:kJ K) (h:CU T K bY w g) (hi:i<T) (hb:(w.th i).busy=false) {o:bA} (ho:Qv K o) (hsp:w.splits<1000000) (hc:w.calls<1000000):∃g',Xa T K bY w g i o (w.call i (w.th i) o) g':=by
 have hl:i<w.zY.length:=by rw[h.len];exact hi
 obtain⟨iv,R,RC,MY⟩:=h.iv.bY h.c0 o;generalize hs:w.sy ((w.th i).calls o w.calls)=s;have s1:s.ar=w.ar:=by rw[<-hs];rfl
 have s2:s.ord=w.ord:=by rw[<-hs];rfl
 have s3:s.root=w.root:=by rw[<-hs];rfl
 have s4:s.splits=w.splits:=by rw[<-hs];rfl
 have s5:s.aA=w.aA:=by rw[<-hs];rfl
 have s7:s.th=(w.th i).calls o w.calls:=by rw[<-hs];rfl
 have g0:(g.bY w.calls o).eK w.calls=o:=if_pos rfl
 let F:Fx:=⟨T,K,bY,w.calls+1,w.root,i,w.calls,o,w.ar,g.bY w.calls o,w.ord,w.splits,w.aA⟩
 have h0:=h.c0
 have md:Md F s (g.bY w.calls o):=by
  refine⟨⟨hi,⟨h0,by show w.calls<w.calls+1;omega⟩,ho.2.1,ho.1,hK.gN,hK.sN,ho.2.2,by have:=hK.km;show K.keys.length+1<=K.m;omega⟩,by rw[s1,s2];exact iv,?_,g0,by rw[s7];rfl,by rw[s7];rfl,s3,by rw[s7];rfl,by rw[s7];rfl,by rw[s2];exact List.prefix_rfl,?_,s4,hsp,by show w.aA<=s.aA;omega⟩;rw[s1];exact⟨fun j c' o' N nx _ _ a b=>⟨a,b⟩,fun _ _ _ q=>q,fun _ _ q=>q,rfl⟩;rw[s1,s4,s5];exact h.mN
 have G:Gd w.ar K K.ym o w.root s.dB:=In.dB (A0:=w.ar) ⟨by rw[s1];exact h.iv.inv.bg,by rw[s1];exact .refl _,by rw[s7];rfl,s3,by rw[s7];rfl,by rw[s7];rfl,ho.2.2⟩;obtain⟨n',en,_⟩:=DY s;have E:=md.dB (by rw[s1];exact MY) en;rw[en]at G;have est:(w.sy ((w.th i).calls o w.calls)).dB=s.go n':=by rw[hs];exact en
 have a1:(s.go n').ar=w.ar:=s1
 have thj:∀j,(w.call i (w.th i) o).th j=if j=i then(s.go n').th else w.th j:=fun j=>by
  show(w.put i (w.sy ((w.th i).calls o w.calls)).dB).th j=_;rw[HS hl,est]
 have wr:(w.call i (w.th i) o).ar=w.ar:=by show(w.sy _).dB.ar=_;rw[est];exact s1
 have wo:(w.call i (w.th i) o).ord=w.ord:=by show(w.sy _).dB.ord=_;rw[est];exact s2
 have wt:(w.call i (w.th i) o).root=w.root:=by show(w.sy _).dB.root=_;rw[est];exact s3
 have ws:(w.call i (w.th i) o).splits=w.splits:=by show(w.sy _).dB.splits=_;rw[est];exact s4
 have wj:(w.call i (w.th i) o).aA=w.aA:=by show(w.sy _).dB.aA=_;rw[est];exact s5
 have wc:(w.call i (w.th i) o).calls=w.calls+1:=rK h0 hc;have thi:(w.call i (w.th i) o).th i={(w.th i).calls o w.calls with next:=some n'}:=by rw[thj,if_pos rfl];show{s.th with next:=some n'}=_;rw[s7]
 have tho:∀j,j≠i->(w.call i (w.th i) o).th j=w.th j:=fun j hj=>by rw[thj,if_neg hj]
 have nxI:xW w.ar K K.ym o n'/\CN K w.ar (g.bY w.calls o) w.root i o w.calls n':=by
  constructor;rcases G.fin with⟨_,n2,e2,t2⟩| ⟨z,_⟩
  cases e2;rw[a1]at t2;exact t2
  have:(s.go n').th.busy=true:=by show s.th.busy=true;rw[s7];rfl
  rw[this]at z;cases z;rw[s1]at E;exact E
 refine⟨g.bY w.calls o,⟨⟨by rw[Wd.z8];exact h.len,by rw[wc];omega,by rw[wc,wt,wr,wo];exact iv,by rw[wr,ws,wj];exact h.mN,fun j hj hbj=>?_,fun j hj hbj=>?_,fun j k hj hk hbj hbk hjk=>?_⟩,tho,by rw[thi];rfl,by rw[thi];rfl,by rw[thi];rfl,wc,wt,wr,wo,rfl,rfl,ws,wj⟩⟩;by_cases e:j=i;subst e;rw[thi];exact⟨by rw[wc];exact⟨h0,by show w.calls<w.calls+1;omega⟩,ho,g0,n',rfl,by rw[wr];exact nxI.1,by rw[wr,wt];exact nxI.2⟩;rw[tho j e]at hbj⊢;obtain⟨b1,b2,b3,nx,b4,b5,b6⟩:=h.th j hj hbj;have ne:(w.th j).call≠w.calls:=by omega
 obtain⟨c1,c2⟩:=CN.rel h.iv.inv iv.inv h.iv.pp (R j) (RC _ ne) b5 b6;exact⟨by rw[wc];omega,b2,(if_neg ne).trans b3,nx,b4,by rw[wr];exact c1,by rw[wr,wt];exact c2⟩;by_cases e:j=i;subst e;rw[thi]at hbj;cases hbj;rw[tho j e]at hbj⊢;exact h.idle j hj hbj;by_cases e:j=i;subst e;rw[thi];rw[tho k fun z=>hjk z.symm]at hbk⊢;have:=(h.th k hk hbk).c0;show w.calls≠_;omega;rw[tho j e]at hbj⊢;by_cases e2:k=i;subst e2;rw[thi];have:=(h.th j hj hbj).c0;show _≠w.calls;omega;rw[tho k e2]at hbk⊢;exact h.HR j k hj hk hbj hbk hjk
end
def bn (b:Bool):Nat:=if b then 1 else 0
theorem rM {w w':Wd} {i:Nat} (h:∀j,j≠i->w'.th j=w.th j):∀k,(k<=i->dS w' k=dS w k)/\(i<k->dS w' k+bn (w.th i).busy=dS w k+bn (w'.th i).busy)
 |0=>⟨fun _=>rfl,fun q=>absurd q (Nat.not_lt_zero _)⟩
 |k+1=>by
  obtain⟨a,b⟩:=rM h k
  have ev:∀(v:Wd),dS v (k+1)=dS v k+bn (v.th k).busy:=fun v=>by
   cases e:(v.th k).busy
   rw[u4 e];rfl;rw[wD e];rfl
  constructor;intro q;rw[ev,ev,a (by omega),h k (by omega)];intro q;rw[ev,ev];by_cases e:k=i;subst e;rw[a (Nat.le_refl _)];omega;rw[h k e];have:=b (by omega);omega
def qJ (l:List (List bA)):Nat:=(l.map List.length).sum
theorem Al:∀{l:List (List bA)} {i:Nat} {o:bA} {rest:List bA},l[i]? =some (o::rest)->qJ (l.set i rest)+1=qJ l
 | [],_,_,_,h=>by simp at h
 |a::l,0,o,rest,h=>by simp at h;subst h;simp[qJ];omega
 |a::l,i+1,o,rest,h=>by
  have:=Al (l:=l) (i:=i) (by simpa using h);simp[qJ]at this⊢;omega
structure kT (T:Nat) (K:eE) (bY:List Pr) (M:Nat) (W:Pw) (g:Gh):Prop where
 wi:CU T K bY W.w g
 ll:W.left.length=T
 ol:W.ops.length=T
 left:∀i,∀o∈W.left.getD i [],Qv K o
 mN:W.w.calls+(qJ W.left:Int)=(M:Int)
 hl:(W.h.length:Int)+(dS W.w T:Int)=2*W.w.calls
 sp:W.w.splits+(dS W.w T:Int)<=W.w.calls
section
variable {T M:Nat} {K:eE} {bY:List Pr} {W:Pw} {g:Gh} {i:Nat}
theorem CU.HT {w:Wd} (hK:kJ K) (h:CU T K bY w g) (hi:i<T) (hb:(w.th i).busy=true) (hsp:w.splits<1000000) (hc:w.calls<999999):Bn w i:=by
 obtain⟨g',s⟩:=h.step hK hi hb hsp;obtain⟨_,_,_,nx,e,ht,_⟩:=h.th i hi hb;have:=h.Kc;refine⟨hb,⟨nx,e,ht.pre h.iv.inv.bg ?_⟩,by omega,fun z=>?_⟩;have:=hK.gN;have:=hK.km;have:=hK.an;unfold eE.ym;by_cases z:K.keys.length=0;omega;have:(K.keys.length+3)*K.keys.length<=K.m*K.keys.length:=Nat.mul_le_mul_right _ hK.km;have:(K.keys.length+3)*1<=(K.keys.length+3)*K.keys.length:=Nat.mul_le_mul_left _ (by omega);omega;obtain⟨a,b,_⟩:=s.fin z;exact⟨a,Nat.le_trans b hK.an⟩
structure M9 (T:Nat) (K:eE) (bY:List Pr) (M:Nat) (W:Pw) (g:Gh) (W':Pw) (g':Gh):Prop where
 wi:kT T K bY M W' g'
 h:W.h<+:W'.h
 ord:W.w.ord<+:W'.w.ord
 steps:W'.w.steps=W.w.steps\/W'.w.steps=inc W.w.steps
 sp:W.w.splits<=W'.w.splits
 jn:W.w.aA<=W'.w.aA
 len:W.w.ar.len<=W'.w.ar.len
theorem kT.Qb (h:kT T K bY M W g) (hM:M<=400000):0<=W.w.calls/\W.w.calls<=400000/\W.w.splits<=400000/\W.h.length<=800000:=by
 have a:=h.mN;have b:=h.hl;have d:=h.sp;have e:=h.wi.c0;omega
theorem kT.iQ (hK:kJ K) (hM:M<=400000) (h:kT T K bY M W g) (hi:i<T) (hb:(W.w.th i).busy=true):∃g',M9 T K bY M W g ((W.iQ i).fin i) g'/\W9 T K bY W.w g i (W.iQ i).w g':=by
 obtain⟨b0,b1,b2,b3⟩:=h.Qb hM;obtain⟨g',s⟩:=h.wi.step hK hi hb (by omega);have wi:CU T K bY (W.iQ i).w g':=s.wi;have hp:=(rM (i:=i) s.vG T).2 hi;rw[hb]at hp;have e0:(W.iQ i).w=W.w.step i (W.w.th i):=rfl;have ec:(W.iQ i).w.calls=W.w.calls:=s.calls;have hcnt:=h.mN;have hhl:=h.hl;have hsp:=h.sp;refine⟨g',?_,s⟩
 cases hf:((W.iQ i).w.th i).busy
 rw[Pw.CB hf];rw[show((W.w.step i (W.w.th i)).th i).busy=false from hf]at hp;have hp':dS (W.iQ i).w T+1=dS W.w T:=by simp[bn]at hp;exact hp
 refine⟨⟨wi,h.ll,h.ol,h.left,by show(W.iQ i).w.calls+_=_;rw[ec];exact hcnt,?_,?_⟩,⟨[_],rfl⟩,s.ord,.inr s.steps,?_,s.jn,s.len⟩;show(((W.iQ i).h++[_]).length:Int)+(dS (W.iQ i).w T:Int)=2*(W.iQ i).w.calls;rw[ec,List.length_append];show((W.h.length+1:Nat):Int)+_=_;omega;show(W.iQ i).w.splits+(dS (W.iQ i).w T:Int)<=(W.iQ i).w.calls;rw[ec];rcases s.sp with q| ⟨q,_⟩<;>(rw[e0]at hp'⊢;omega);show W.w.splits<=(W.iQ i).w.splits;rcases s.sp with q| ⟨q,_⟩<;>(rw[e0];omega);rw[Pw.Aa hf];rw[show((W.w.step i (W.w.th i)).th i).busy=true from hf]at hp;have hp':dS (W.iQ i).w T=dS W.w T:=by simp[bn]at hp;exact hp
 refine⟨⟨wi,h.ll,h.ol,h.left,by rw[ec];exact hcnt,by rw[ec,hp'];exact hhl,?_⟩,List.prefix_rfl,s.ord,.inr s.steps,?_,s.jn,s.len⟩;rw[ec];rcases s.sp with q| ⟨_,q⟩;rw[e0]at hp'⊢;omega;rw[show((W.w.step i (W.w.th i)).th i).busy=true from hf]at q;cases q;rcases s.sp with q| ⟨_,q⟩;rw[e0];omega;rw[show((W.w.step i (W.w.th i)).th i).busy=true from hf]at q;cases q
theorem HU (h:W.left.length=T) (hi:i<T) {o:bA} {rest:List bA} (e:W.left.getD i []=o::rest):W.left[i]? =some (o::rest):=by
 obtain⟨x,hx⟩:=aD (l:=W.left) (i:=i) (by rw[h];exact hi);rw[List.getD_eq_getElem?_getD,hx]at e;rw[hx];exact congrArg some e
theorem kT.Qc (hK:kJ K) (hM:M<=400000) (h:kT T K bY M W g) (hi:i<T) (hb:(W.w.th i).busy=false) {o:bA} {rest:List bA} (e:W.left.getD i []=o::rest):∃g',M9 T K bY M W g (W.bY i o rest) g'/\Xa T K bY W.w g i o (W.bY i o rest).w g':=by
 obtain⟨b0,b1,b2,b3⟩:=h.Qb hM;have ho:Qv K o:=h.left i o (by rw[e];exact List.mem_cons_self ..);obtain⟨g',s⟩:=h.wi.call hK hi hb ho (by omega) (by omega);have hp:=(rM (i:=i) s.vG T).2 hi;rw[hb,s.bz]at hp;have hp':dS (W.bY i o rest).w T=dS W.w T+1:=by simp[bn]at hp;exact hp
 have ec:(W.bY i o rest).w.calls=W.w.calls+1:=s.calls;have es:(W.bY i o rest).w.splits=W.w.splits:=s.sp;have hs:=Al (HU h.ll hi e);have hcnt:=h.mN;have hhl:=h.hl;have hsp:=h.sp;refine⟨g',⟨⟨s.wi,by show(W.left.set i rest).length=T;rw[List.length_set];exact h.ll,by show(W.ops.set i o).length=T;rw[List.length_set];exact h.ol,fun j o' ho'=>?_,?_,?_,?_⟩,⟨[_],rfl⟩,by show W.w.ord<+:(W.bY i o rest).w.ord;rw[show(W.bY i o rest).w.ord=W.w.ord from s.ord];exact List.prefix_rfl,.inl s.steps,by rw[es];exact Int.le_refl _,by rw[show(W.bY i o rest).w.aA=W.w.aA from s.jn];exact Int.le_refl _,by rw[show(W.bY i o rest).w.ar=W.w.ar from s.ar];exact Int.le_refl _⟩,s⟩;have ho2:o'∈(W.left.set i rest).getD j []:=ho';rw[List.getD_eq_getElem?_getD]at ho2;by_cases z:j=i;subst z;rw[List.getElem?_set_self (by rw[h.ll];exact hi)]at ho2;exact h.left j o' (by rw[e];exact List.mem_cons_of_mem _ ho2);rw[List.getElem?_set_ne (fun q=>z q.symm),<-List.getD_eq_getElem?_getD]at ho2;exact h.left j o' ho2;show(W.bY i o rest).w.calls+(qJ (W.left.set i rest):Int)=_;rw[ec];omega;show((W.h++[_]).length:Int)+_=_;rw[hp',ec,List.length_append];simp;omega;rw[hp',ec,es];omega
theorem M9.trans {W1 W2:Pw} {g1 g2:Gh} (a:M9 T K bY M W g W1 g1) (b:M9 T K bY M W1 g1 W2 g2) (hs:W1.w.steps=W.w.steps):M9 T K bY M W g W2 g2:=
 ⟨b.wi,a.h.trans b.h,a.ord.trans b.ord,by rw[<-hs];exact b.steps,Int.le_trans a.sp b.sp,Int.le_trans a.jn b.jn,Int.le_trans a.len b.len⟩
theorem kT.pick (hK:kJ K) (hM:M<=400000) (h:kT T K bY M W g) (hi:i<T):nO W i/\∃g',M9 T K bY M W g (W.pick i).2 g':=by
 obtain⟨b0,b1,b2,b3⟩:=h.Qb hM;have Kc:=h.wi.Kc;constructor;refine⟨by rw[h.wi.len];exact hi,by rw[h.ll];exact hi,by rw[h.ol];exact hi,by omega,by omega,fun hb=>h.wi.HT hK hi hb (by omega) (by omega),fun hb=>⟨h.wi.idle i hi hb,fun o rest e=>?_⟩⟩;obtain⟨g',p,s⟩:=h.Qc hK hM hi hb e;obtain⟨c0,c1,c2,c3⟩:=p.wi.Qb hM;exact⟨(h.left i o (by rw[e];exact List.mem_cons_self ..)).1,p.wi.wi.HT hK hi s.bz (by omega) (by omega)⟩
 cases hb:(W.w.th i).busy
 cases e:W.left.getD i []with
 |nil=>
  rw[Pw.CA hb e];exact⟨g,h,List.prefix_rfl,List.prefix_rfl,.inl rfl,Int.le_refl _,Int.le_refl _,Int.le_refl _⟩
 |cons o rest=>
  rw[Pw.uZ hb e];obtain⟨g1,p1,s1⟩:=h.Qc hK hM hi hb e;obtain⟨g2,p2,_⟩:=p1.wi.iQ hK hM hi s1.bz;exact⟨g2,p1.trans p2 s1.steps⟩
 rw[Pw.rF hb];obtain⟨g',p,_⟩:=h.iQ hK hM hi hb;exact⟨g',p⟩
theorem kT.aV (hK:kJ K) (hM:M<=400000) (h:kT T K bY M W g):∀(l:List Int),(∀x∈l,0<=x/\x<(T:Int))->∀k,k<=l.length->∃g',kT T K bY M (W.aV (l.take k)) g'
 |l,hl,0,_=>⟨g,h⟩
 |l,hl,k+1,hk=>by
  obtain⟨g1,p⟩:=kT.aV hK hM h l hl k (by omega);obtain⟨x,hx⟩:=aD (l:=l) (i:=k) (by omega);have:=hl x (List.mem_of_getElem? hx);rw[Pw.u0 hx];obtain⟨g2,q⟩:=(p.pick hK hM (i:=x.toNat) (by omega)).2;exact⟨g2,q.wi⟩
theorem kT.CV (hK:kJ K) (hM:M<=400000) (h:kT T K bY M W g) {l:List Int} (hl:∀x∈l,0<=x/\x<(T:Int)):ya W l:=fun k x hx=>by
 obtain⟨g1,p⟩:=h.aV hK hM l hl k (by have:=ae hx;omega);have:=hl x (List.mem_of_getElem? hx);exact⟨this.1,(p.pick hK hM (i:=x.toNat) (by omega)).1⟩
theorem kT.Lk (hM:M<=400000) (h:kT T K bY M W g) (hT:T<=6):∃n,wE W n/\(W.w.ar.iN W.w.cF n W.w.root 0).length<=2*g.j7.length+1:=by
 obtain⟨n,a,b,c⟩:=h.wi.iv.inv.sk.rep h.wi.iv.inv.bg.ok W.w.cF;have:=h.wi.Kc;obtain⟨b0,b1,b2,b3⟩:=h.Qb hM;exact⟨n,⟨a,b,by omega,by rw[h.ol,h.wi.len],by rw[h.ol];omega⟩,c⟩
end
theorem wO {l:List Pr}:∀n,n<=l.length->∀i,i<n->i≠cq l n->(l.getD i default).k≠(l.getD (cq l n) default).k->bh (l.getD (cq l n) default).k (l.getD i default).k=true
 |0,_,i,h,_,_=>absurd h (Nat.not_lt_zero _)
 |n+1,hn,i,hi,hne,hk=>by
  have ih:=wO (l:=l) n (by omega)
  cases e:bh (l.getD n default).k (l.getD (cq l n) default).k
  rw[uW e]at hne hk⊢;by_cases z:i=n;subst z;exact nF e hk;exact ih i (by omega) hne hk;rw[rA e]at hne hk⊢;by_cases z:i=cq l n;rw[z];exact e;by_cases y:(l.getD i default).k=(l.getD (cq l n) default).k;rw[y];exact e;exact fU e (ih i (by omega) z y)
theorem vf {l:List Pr} {i:Nat} {x:Pr} (h:l[i]? =some x):l.getD i default=x:=by rw[List.getD_eq_getElem?_getD,h];rfl
theorem pA:∀(n:Nat) {A:Ar} (hA:A.Ok) (l:List Pr) (hl:jv l) (hn:l.length<n),qK A l.length (dC n A l).2.1 (dC n A l).2.2/\((dC n A l).2.1=0->Tp (dC n A l).2.2 (dC n A l).1 l)
 |0,A,hA,l,hl,hn=>absurd hn (Nat.not_lt_zero _)
 |n+1,A,hA,l,hl,hn=>by
  by_cases h0:l.length=0;rw[Cs h0];have:l=[]:=List.eq_nil_of_length_eq_zero h0;subst this;exact⟨.refl hA,fun _=>.nil⟩;have hT:=qy (l:=l) (by omega) l.length (Nat.le_refl _);obtain⟨p,hp⟩:=aD (l:=l) (i:=cq l l.length) hT;have hpd:=vf hp;have mx:=wO (l:=l) l.length (Nat.le_refl _);rw[hpd]at mx
  have split:l=l.take (cq l l.length)++p::l.drop (cq l l.length+1):=by
   have h1:=List.take_append_drop (cq l l.length) l;rw[List.drop_eq_getElem_cons hT,(List.getElem?_eq_some_iff.1 hp).2]at h1;exact h1.symm
  have above1:∀x∈l,x.k≠p.k->bh p.k x.k=true:=fun x hx hk=>by
   obtain⟨i,hi,e⟩:=List.mem_iff_getElem.1 hx;have hi':l[i]? =some x:=by rw[List.getElem?_eq_getElem hi,e]
   have:=mx i hi (fun z=>hk (by rw[z,hp]at hi';cases hi';rfl)) (by rw[vf hi'];exact hk);rw[vf hi']at this;exact this
  have pw:=hl;rw[split]at pw;obtain⟨pa,pb,pc⟩:=List.pairwise_append.1 pw;have lts:∀x∈l.take (cq l l.length),x.k<p.k:=fun x hx=>pc x hx p (List.mem_cons_self ..);have gts:∀x∈l.drop (cq l l.length+1),p.k<x.k:=fun x hx=>(List.pairwise_cons.1 pb).1 x hx;obtain⟨r1,t1⟩:=pA n hA (l.take (cq l l.length)) pa (by rw[List.length_take];omega);have len1:(l.take (cq l l.length)).length=cq l l.length:=by rw[List.length_take];omega
  by_cases e1:(zU n A l).2.1≠0;rw[Cu h0 e1];exact⟨r1.le (by omega),fun q=>absurd q e1⟩;have e1':(zU n A l).2.1=0:=by simpa using e1
  obtain⟨r2,t2⟩:=pA n (A:=(zU n A l).2.2) r1.ok (l.drop (cq l l.length+1)) (List.pairwise_cons.1 pb).2 (by rw[List.length_drop];omega);have r12:=r1.trans r2;have len2:(l.drop (cq l l.length+1)).length=l.length-(cq l l.length+1):=by rw[List.length_drop]
  by_cases e2:(Ct n A l).2.1≠0;rw[Cw h0 e1 e2];exact⟨r12.le (by omega),fun q=>absurd q e2⟩;have e2':(Ct n A l).2.1=0:=by simpa using e2
  rw[Cy h0 e1 e2,hpd];obtain⟨r3,t3⟩:=dz r2.ok (p:=p) ((t1 e1').bE r2.bE) (t2 e2') (fun x hx=>⟨lts x hx,above1 x (List.mem_of_mem_take hx) (by have:=lts x hx;omega)⟩) (fun x hx=>⟨gts x hx,above1 x (List.mem_of_mem_drop hx) (by have:=gts x hx;omega)⟩);exact⟨(r12.trans r3).le (by omega),fun q=>Eq.mpr (congrArg (Tp _ _) split) (t3 q)⟩
def g0 (root:Int) (bY:List Pr):Gh:={iv:=fun c=>if c=root then some (fM,eU)else none,live:=fun c=>c=root,rt:=fun _=>False,key:=fun _=>0,own:=fun _=>0,bl:=fun _ _=>False,j7:=[],sw:=[],cur:=bY,eK:=fun _=>H9,cT:=fun _=>none,aa:=fun _=>0}
structure HV (K:eE) (bY:List Pr):Prop where
 iA:jv bY
 key:∀x∈bY,x.k∈K.keys
structure Qd (D:Ar) (root:Int) (bY:List Pr):Prop where
 ok:D.Ok
 cell:∀c,D.aB c=true<->c=root
 kind:∀n,D.kind n=0\/D.kind n=1\/(n=root+1/\D.kind n=3)
 k3:D.kind (root+1)=3
 holds:D.holds root=root+1
 v2:D.val (root+1) 2=root
 v1:D.val (root+1) 1=0
 tp:Tp D (D.val (root+1) 0) bY
section
variable {D:Ar} {root:Int} {bY:List Pr} {K:eE}
include D root bY K
theorem Qd.inv (h:Qd D root bY) (hb:HV K bY) (hr:∀k∈K.keys,fM<=k/\k<eU):Inv D K (g0 root bY) root:=by
 have tc:D.TC root:=⟨(h.cell root).2 rfl,h.k3⟩
 have no:∀{n k},D.kind n=k->k≠0->k≠1->k≠3->False:=fun{n k} e a b c=>by
  rcases h.kind n with q|q| ⟨_,q⟩<;>omega
 have isB3:∀{n},dr D n->n=root+1:=fun{n} q=>by
  unfold dr at q;rcases h.kind n with z|z| ⟨z,_⟩;omega;omega;exact z
 have j8:∀{c},(g0 root bY).dn c->c=root:=fun{c} ⟨a,b,e⟩=>by
  have e':(if c=root then some (fM,eU)else none)=some (a,b):=e;by_cases z:c=root;exact z;rw[if_neg z]at e';cases e'
 have ivr:(g0 root bY).iv root=some (fM,eU):=if_pos rfl;have Rn:D.R root=none:=Ar.du.2 (by rw[h.holds,h.k3];decide);have vb:D.gI (root+1)=root+1:=sO (by rw[h.k3];decide);have bp:D.bp (root+1)=bY:=by unfold Ar.bp;exact h.tp.ps
 refine⟨⟨h.ok,tc,fun n hn=>?_,fun c=>?_,fun hl=>?_⟩,⟨?_,fun c hc=>by rw[j8 hc];exact tc,fun r hr=>hr.elim,fun r hr=>by cases hr⟩,fun c hc hR=>?_,fun c lo hi hc hR e=>?_,fun c hc hn=>?_,fun r hr=>hr.elim,fun m hm=>(no hm (by decide) (by decide) (by decide)).elim,fun m q=>absurd rfl q⟩;by_cases z:n=root+1;subst z;exact .Nn h.k3 (by rw[h.v2];exact tc) ⟨bY,h.tp,hb.key⟩
 have k1:D.kind n=1:=by
  rcases h.kind n with q|q| ⟨q,_⟩;exact absurd q hn;exact q;exact absurd q z
 refine⟨fun q=>absurd (isB3 q) z,?_,?_,?_,?_,?_,?_,?_⟩<;>(intro q;omega);refine⟨fun q=>?_,fun q=>?_,fun q=>?_⟩;have:=(h.cell c).1 q.1;subst this;rw[h.holds];exact .inl (bL h.k3 (by decide) (by decide));exact(no q.2 (by decide) (by decide) (by decide)).elim;exact(no q.2 (by decide) (by decide) (by decide)).elim;have e:=(h.cell _).1 hl;have:=(aF (A:=D) (id:=root+1) (by rw[h.k3];decide)).2;omega
 refine⟨⟨rfl,ivr⟩,fun c lo hi e=>?_,fun c hc=>⟨fM,eU,(by rw[show c=root from hc];exact ivr)⟩,fun c r hc hr=>?_,fun c r lo hi e hr=>?_,fun c r lo hi hc e hr=>?_,fun r hr=>hr.elim,fun r r' hr=>hr.elim,fun c hc=>.inl (j8 hc),fun r hr=>hr.elim,fun c c' r hc hc' _ _=>(show c=root from hc).trans (show c'=root from hc').symm,fun c hc hn=>absurd hc hn,
  fun c c' lo hi lo' hi' k hc hc' _ _ _ _ _ _ _ _=>(show c=root from hc).trans (show c'=root from hc').symm,fun c p r lo hi hc hR e hp hr=>?_,fun c lo hi hc e=>?_,fun p p' r r' hp hp' _ _ _=>(show p=root from hp).trans (show p'=root from hp').symm,fun r hr=>hr.elim,fun p r hp hr=>?_,.nil,fun r hr=>hr.elim,fun u c lo hi hu=>hu.elim,fun u c hu=>hu.elim,fun u c lo hi r hu=>hu.elim⟩
 have:=j8 ⟨_,_,e⟩;subst this;rw[ivr]at e;cases e;exact⟨by decide,Int.le_refl _,Int.le_refl _⟩;rw[j8 hc,Rn]at hr;cases hr;rw[j8 ⟨_,_,e⟩,Rn]at hr;cases hr;rw[show c=root from hc,Rn]at hr;cases hr;rw[show p=root from hp,Rn]at hr;cases hr;rw[show c=root from hc,ivr]at e;cases e;exact⟨.inl rfl,.inl rfl⟩;rw[show p=root from hp,Rn]at hr;cases hr;rw[show c=root from hc,h.holds];exact .inl h.v2;rw[show c=root from hc]at e⊢;rw[ivr]at e;cases e;rw[h.holds,vb,bp];exact⟨fun x hx=>hr _ (hb.key x hx),fun _ _ _=>rfl⟩;exact absurd (j8 hc) hn
theorem Qd.iv {T:Nat} (h:Qd D root bY) (hT:0<T) (hb:HV K bY) (hr:∀k∈K.keys,fM<=k/\k<eU):Iv T K bY 0 root D [] (g0 root bY):=by
 have no:∀{n k},D.kind n=k->k≠0->k≠1->k≠3->False:=fun{n k} e a b c=>by
  rcases h.kind n with q|q| ⟨_,q⟩<;>omega
 have n7:∀{S},D.kind S=7->False:=fun q=>no q (by decide) (by decide) (by decide);refine⟨h.inv hb hr,fun _=>hT,hb.iA,⟨rfl,fun k c hk=>by simp at hk,fun c hc=>absurd rfl hc,.nil,fun c hc=>by cases hc⟩,⟨fun S q=>(n7 q).elim,fun S q=>(n7 q).elim,fun S q=>(n7 q).elim,fun S q=>(n7 q).elim,fun S S' q=>(n7 q).elim,fun S l q=>(n7 q).elim⟩,fun b q=>?_,fun m q=>absurd rfl q,fun m q=>absurd rfl q,fun r q=>q.elim,hb.key⟩
 have:b=root+1:=by
  unfold dr at q;rcases h.kind b with z|z| ⟨z,_⟩;omega;omega;exact z
 rw[this,h.v1];decide
end
theorem Kd {cells:Int} {bY:List Pr} (h0:0<=cells) (h1:cells<=60000) (hb:jv bY):(cells<300+20*(bY.length:Int)/\(fG cells bY).2.1=2)\/(300+20*(bY.length:Int)<=cells/\(fG cells bY).2.1=0/\(fG cells bY).2.2.room=cells/\Qd (fG cells bY).2.2 (fG cells bY).1 bY/\(fG cells bY).2.2.len<=bY.length+2):=by
 by_cases hc:cells<300+20*(bY.length:Int);exact .inl ⟨hc,by rw[zX hc]⟩;refine .inr ⟨by omega,?_⟩;have ok0:(Ar.new cells).Ok:=by unfold Ar.Ok Ar.new;simp;omega
 obtain⟨r,t⟩:=pA (bY.length+1) ok0 bY hb (Nat.lt_succ_self _);have r':=r;obtain⟨re,rok,xs,gr,gl,gx⟩:=r;have room0:(Ar.new cells).room=cells:=by unfold Ar.new;simp;omega
 have len0:(Ar.new cells).sl=[]:=rfl;have rr:=gr.room;have rl:=gr.len;rw[len0]at rl
 have e0:(nb cells bY).2.1=0:=by
  rcases re with q| ⟨_,q⟩;exact q;rw[rr,room0,rl]at q;simp at q;omega
 have tp:=t e0;rw[nL hc (by rw[e0];simp)];generalize hB:nb cells bY=z at*;have hB':Ar.dC (bY.length+1) (Ar.new cells) bY=z:=hB;rw[hB']at tp rok gr rr rl r';obtain⟨tt,e,B⟩:=z;dsimp only at tp rok gr rr rl⊢;have slB:B.sl=xs:=by rw[gr];simp[len0]
 have roomB:B.room=cells:=rr.trans room0;have lB:B.len=(xs.length:Int):=by unfold Ar.len;rw[slB]
 rcases lF rok (v:=0)with⟨_,q⟩| ⟨e1,ok1⟩;rw[roomB,slB]at q;omega;rcases fy ok1 (k:=3) (vs:=[tt,0,(B.sl.length:Int)+1]) (by decide) (by simp)with⟨_,q⟩| ⟨e2,ok2⟩;have q':B.room=((B.sl++[Slot.cell 0]).length:Int):=q;rw[roomB,slB]at q';simp at q';omega
 have ec:cellOf B tt=(B.len+1,B.len+2,0,((({({B with sl:=B.sl++[.cell 0]}:Ar)with sl:=(B.sl++[.cell 0])++[.cg 3 [tt,0,(B.sl.length:Int)+1]]}:Ar)).once (B.len+1) (B.len+2)).2):=by
  show Sy.split.cellOf B tt=_;unfold Sy.split.cellOf;rw[e1];dsimp only;rw[if_neg (by simp),e2];dsimp only;rw[if_neg (by simp)];have l1:(((({B with sl:=B.sl++[.cell 0]}:Ar).sl.length:Nat):Int)+1)=B.len+2:=by simp[Ar.len];omega
  rw[l1]
  try rfl
 rw[ec];dsimp only;have eq:({({B with sl:=B.sl++[.cell 0]}:Ar)with sl:=(B.sl++[.cell 0])++[.cg 3 [tt,0,(B.sl.length:Int)+1]]}:Ar)={B with sl:=B.sl++[.cell 0,.cg 3 [tt,0,B.len+1]]}:=by simp[Ar.len]
 rw[eq]at ok2⊢;obtain⟨g2,k2,v2,l2,c2,h2⟩:=jx (A:=B) (w:=0) (k:=3) (vs:=[tt,0,B.len+1]) _ rfl;generalize hC:({B with sl:=B.sl++[.cell 0,.cg 3 [tt,0,B.len+1]]}:Ar)=C at*
 have on:(C.once (B.len+1) (B.len+2)).2=C.step.put (B.len+1) (B.len+2):=by
  unfold Ar.once;rw[if_pos c2,if_pos ⟨h2,by rw[lB];omega⟩]
 rw[on];have u:=qw (B.len+2) c2;have v0:=v2 0 _ rfl;have v1:=v2 1 _ rfl;have v3:=v2 2 _ rfl;simp only[Int.natCast_zero,Int.natCast_one,Int.cast_ofNat_Int]at v0 v1 v3;have g:vB B C:=Gr.jZ g2;have roomC:C.room=cells:=g2.room.trans roomB
 have knd:∀n,n<=B.len->C.kind n=0\/C.kind n=1:=fun n hn=>by
  rw[g.kind n hn];by_cases z:B.kind n=0;exact .inl z;obtain⟨vs,es⟩:=nE z;rcases gr.from es with q| ⟨i,_,q⟩;have:=eT q;rw[len0]at this;simp at this;omega;obtain⟨ws,ew⟩:=gx _ (List.mem_of_getElem? q);injection ew with ew;exact .inr ew
 have ncl:∀n,n<=B.len->C.aB n=false:=fun n hn=>by
  rw[g.aB n hn]
  cases z:B.aB n with
  |false=>rfl
  |true=>
   rcases gr.from (iL z)with q| ⟨i,_,q⟩;have:=eT q;rw[len0]at this;simp at this;omega;obtain⟨ws,ew⟩:=gx _ (List.mem_of_getElem? q)
   cases ew
 have e2':B.len+1+1=B.len+2:=by omega
 refine⟨rfl,u.room.trans roomC,⟨?_,fun c=>?_,fun n=>?_,by rw[u.kind,e2'];exact k2,by rw[u.holds,if_pos rfl,e2'],by rw[u.val,e2'];exact v3,by rw[u.val,e2'];exact v1,?_⟩,by rw[u.len,l2,lB];omega⟩;have ul:((C.step.put (B.len+1) (B.len+2)).sl.length:Int)=(C.sl.length:Int):=u.len;have ok2':(C.sl.length:Int)<=C.room/\C.room<=60000:=ok2;show _<=_/\_;rw[ul,u.room];exact ok2';rw[u.aB];constructor;intro q;have hc:=dc q;by_cases z:c<=B.len;rw[ncl c z]at q;cases q;by_cases z2:c=B.len+1;exact z2;have:=gX q;rw[show c=B.len+2 by omega,k2]at this;cases this;rintro rfl;exact c2;rw[u.kind];by_cases z:n<=B.len;exact(knd n z).imp id .inl;by_cases z2:n=B.len+1;rw[z2];exact .inl (gX c2);by_cases z3:n=B.len+2;rw[z3];exact .inr (.inr ⟨by omega,k2⟩);refine .inl ?_
 cases z4:decide (C.kind n=0)
 have:=aF (A:=C) (id:=n) (by simpa using z4);omega;simpa using z4;rw[u.val,e2',v0,u.tp];exact tp.bE g.bE
structure Sc.Ke (s:Sc):Prop where
 bY:∀x∈s.aS,fM<=x.k/\x.k<eU
 op:∀l∈s.ops,∀o∈l,HJ o
structure Sc.Ok (c:Sc) (T:Nat):Prop where
 th:c.threads=(T:Int)
 t1:1<=T
 t6:T<=6
 c0:0<=c.cells
 c1:c.cells<=60000
 iA:jv c.aS
 bl:c.aS.length<=200
 br:∀x∈c.aS,fM<=x.k/\x.k<eU
 ol:c.ops.length=T
 os:∀l∈c.ops,l.length<=60/\∀o∈l,fj o=true/\HJ o
 pk:∀x∈c.aV,0<=x/\x<(T:Int)
 pl:c.aV.length<=100000
theorem vg:∀{l m:List Pr} {x:Pr},x∈fh m l->x∈m\/∃y∈l,x.k=y.k
 | [],m,x,h=>.inl h
 |a::l,m,x,h=>by
  rcases vg (l:=l) (m:=(eB m ⟨1,a.k,0,a.v⟩).1) h with q| ⟨y,hy,e⟩;rcases IM q with e|e;exact .inr ⟨a,List.mem_cons_self ..,e⟩;exact .inl e;exact .inr ⟨y,List.mem_cons_of_mem _ hy,e⟩
theorem Sc.Ke.clean {s:Sc} (h:s.Ke):s.clean.Ok s.nt:=by
 have hb:=s.JV;refine⟨s.sn.symm,hb.1,hb.2,?_,?_,?_,?_,fun x hx=>?_,?_,fun l hl=>?_,fun x hx=>?_,?_⟩;show 0<=min (max s.cells 0) 60000;omega;show min (max s.cells 0) 60000<=60000;omega;exact(dF.1 (vZ s.aS)).sublist (List.take_sublist _ _);show((fh [] s.aS).take 200).length<=200;rw[List.length_take];omega;rcases vg (List.mem_of_mem_take (show x∈(fh [] s.aS).take 200 from hx))with q| ⟨y,hy,e⟩
 cases q
 rw[e];exact h.bY y hy;show((List.range s.nt).map _).length=_;simp;obtain⟨i,_,rfl⟩:=List.mem_map.1 (show l∈(List.range s.nt).map fun i=>Sc.row (s.ops.getD i [])from hl);refine⟨by unfold Sc.row;rw[List.length_take];omega,fun o ho=>?_⟩;obtain⟨h1,h2⟩:=List.mem_filter.1 (List.mem_of_mem_take ho);refine⟨h2,?_⟩;rw[List.getD_eq_getElem?_getD]at h1
 cases e:s.ops[i]? with
 |none=>rw[e]at h1;cases h1
 |some q=>rw[e]at h1;exact h.op q (List.mem_of_getElem? e) o h1
 obtain⟨n,_,rfl⟩:=List.mem_map.1 (show x∈(s.aV.take 100000).map fun n=>Sc.oH n (s.nt:Int)from hx);exact Hy n hb.1 hb.2;show((s.aV.take 100000).map _).length<=_;rw[List.length_map,List.length_take];omega
def Sc.keys (c:Sc):List Int:=c.aS.map (·.k)++c.ops.flatMap fun l=>l.map (·.key)
def Sc.cap (c:Sc):eE:=⟨c.keys,c.keys.length+3⟩
theorem gJ:∀(l:List (List bA)),(∀x∈l,x.length<=60)->(l.flatMap fun l=>l.map (·.key)).length<=60*l.length/\qJ l<=60*l.length
 | [],_=>⟨Nat.le_refl _,Nat.le_refl _⟩
 |a::l,h=>by
  have h1:=gJ l fun x hx=>h x (List.mem_cons_of_mem _ hx);have h2:=h a (List.mem_cons_self ..);have e:qJ (a::l)=a.length+qJ l:=by simp[qJ]
  rw[List.flatMap_cons,List.length_append,List.length_map,List.length_cons,e];omega
theorem vh {w:Wd} (h:∀i,(w.th i).busy=false):∀k,dS w k=0
 |0=>rfl
 |k+1=>by rw[u4 (h k)];exact vh h k
section
variable {c:Sc} {T:Nat}
section
variable (h:c.Ok T)
include h
theorem Sc.Ok.Vx:c.keys.length<=560:=by
 have h1:=(gJ c.ops fun l hl=>(h.os l hl).1).1;have:=h.bl;have:=h.ol;have:=h.t6;unfold Sc.keys;rw[List.length_append,List.length_map];omega
theorem Sc.Ok.Kf:qJ c.ops<=360:=by
 have h1:=(gJ c.ops fun l hl=>(h.os l hl).1).2;have:=h.ol;have:=h.t6;omega
theorem Sc.Ok.vi:kJ c.cap:=by
 have hk:=h.Vx;refine⟨?_,fun k hk=>?_,Nat.le_refl _,?_⟩;show c.keys.length<=_;omega;rcases List.mem_append.1 (show k∈c.keys from hk)with q|q;obtain⟨x,hx,rfl⟩:=List.mem_map.1 q;exact h.br x hx;obtain⟨l,hl,q⟩:=List.mem_flatMap.1 q;obtain⟨o,ho,rfl⟩:=List.mem_map.1 q;have:=(h.os l hl).2 o ho;exact⟨this.2.1,this.2.2.1⟩;show(c.keys.length+3)*c.keys.length<=1000000;have:=Nat.mul_le_mul (show c.keys.length+3<=563 by omega) hk;omega
theorem Sc.Ok.start:(c.cells<300+20*(c.aS.length:Int)/\c.err=2)\/(300+20*(c.aS.length:Int)<=c.cells/\c.err=0/\∃g,kT T c.cap c.aS (qJ c.ops) c.pw g):=by
 rcases Kd h.c0 h.c1 h.iA with⟨a,b⟩| ⟨a,b,_,d,_⟩;exact .inl ⟨a,b⟩;refine .inr ⟨a,b,g0 (fG c.cells c.aS).1 c.aS,?_⟩;have bk:HV c.cap c.aS:=⟨h.iA,fun x hx=>List.mem_append_left _ (List.mem_map.2 ⟨x,hx,rfl⟩)⟩;have eW:c.pw=Pw.new T c.cF (fG c.cells c.aS) c.ops:=by unfold Sc.pw;rw[h.th];rfl
 have th:∀i,(Wd.new T c.cF (fG c.cells c.aS)).th i=H8:=fun i=>by
  unfold Wd.th Wd.new;dsimp only;rw[List.getD_eq_getElem?_getD,List.getElem?_replicate];split<;>rfl
 have iv:=d.iv (T:=T) (by have:=h.t1;omega) bk h.vi.sN;have p0:=vh (w:=Wd.new T c.cF (fG c.cells c.aS)) (fun i=>by rw[th];rfl) T;rw[eW];refine⟨⟨by simp[Pw.new,Wd.new],Int.le_refl _,iv,⟨Int.le_refl _,[],.nil,fun m=>⟨fun q=>(by cases q),fun q=>absurd rfl q.1⟩,rfl⟩,fun i hi hb=>?_,fun i hi _=>?_,fun i j hi hj hb=>?_⟩,h.ol,by simp[Pw.new],fun i o ho=>?_,by show(0:Int)+_=_;simp[Pw.new],?_,?_⟩;rw[show(Pw.new T c.cF (fG c.cells c.aS) c.ops).w.th i=H8 from th i]at hb;cases hb;rw[show(Pw.new T c.cF (fG c.cells c.aS) c.ops).w.th i=H8 from th i];rfl;rw[show(Pw.new T c.cF (fG c.cells c.aS) c.ops).w.th i=H8 from th i]at hb;cases hb;have ho':o∈c.ops.getD i []:=ho;rw[List.getD_eq_getElem?_getD]at ho'
 cases e:c.ops[i]? with
 |none=>rw[e]at ho';cases ho'
 |some l=>
  rw[e]at ho';have hl:=List.mem_of_getElem? e;have:=(h.os l hl).2 o ho';exact⟨this.1,this.2,fun _=>List.mem_append_right _ (List.mem_flatMap.2 ⟨l,hl,List.mem_map.2 ⟨o,ho',rfl⟩⟩)⟩
 show(0:Int)+(dS (Wd.new T c.cF (fG c.cells c.aS)) T:Int)=2*0;rw[p0];rfl;show(0:Int)+(dS (Wd.new T c.cF (fG c.cells c.aS)) T:Int)<=0;rw[p0];exact Int.le_refl _
end
end
structure XB (T:Nat) (K:eE) (bY:List Pr) (M:Nat) (n:Nat) (W W':Pw) (g':Gh):Prop where
 wi:kT T K bY M W' g'
 h:W.h<+:W'.h
 ord:W.w.ord<+:W'.w.ord
 steps:W.w.steps<=W'.w.steps/\W'.w.steps<=W.w.steps+(n:Int)
 sp:W.w.splits<=W'.w.splits
 jn:W.w.aA<=W'.w.aA
 len:W.w.ar.len<=W'.w.ar.len
theorem Pw.Eb (W:Pw) (l m:List Int):W.aV (l++m)=(W.aV l).aV m:=List.foldl_append
theorem kT.Nq {T M:Nat} {K:eE} {bY:List Pr} (hK:kJ K) (hM:M<=400000):∀(l:List Int) {W:Pw} {g:Gh},kT T K bY M W g->(∀x∈l,0<=x/\x<(T:Int))->0<=W.w.steps->W.w.steps+(l.length:Int)<=1000000->∃g',XB T K bY M l.length W (W.aV l) g'
 | [],W,g,h,_,_,_=>⟨g,h,List.prefix_rfl,List.prefix_rfl,⟨Int.le_refl _,by simp[Pw.aV]⟩,Int.le_refl _,Int.le_refl _,Int.le_refl _⟩
 |x::l,W,g,h,hl,h0,h1=>by
  have hx:=hl x (List.mem_cons_self ..);obtain⟨g1,p⟩:=(h.pick hK hM (i:=x.toNat) (by omega)).2;simp only[List.length_cons]at h1
  have hs:W.w.steps<=(W.pick x.toNat).2.w.steps/\(W.pick x.toNat).2.w.steps<=W.w.steps+1:=by
   rcases p.steps with e|e;omega;rw[e];unfold inc;rw[oI (by omega) (by omega)];omega
  obtain⟨g2,q⟩:=kT.Nq hK hM l p.wi (fun y hy=>hl y (List.mem_cons_of_mem _ hy)) (by omega) (by omega);have e:W.aV (x::l)=(W.pick x.toNat).2.aV l:=rfl;rw[e];exact⟨g2,q.wi,p.h.trans q.h,p.ord.trans q.ord,by have:=q.steps;simp only[List.length_cons];omega,Int.le_trans p.sp q.sp,Int.le_trans p.jn q.jn,Int.le_trans p.len q.len⟩
def Pw.whole (W:Pw) (nn:Nat->Nat):Nat->Pw
 |0=>W
 |t+1=>(W.whole nn t).runs t (nn t)
section
variable {T M:Nat} {K:eE} {bY:List Pr} {W:Pw}
theorem kT.runs (hK:kJ K) (hM:M<=400000) {i:Nat} (hi:i<T) (h:∃g,kT T K bY M W g):∀n,∃g,kT T K bY M (W.runs i n) g
 |0=>h
 |n+1=>by
  obtain⟨g,q⟩:=kT.runs hK hM hi h n;obtain⟨g',p⟩:=(q.pick hK hM hi).2;exact⟨g',p.wi⟩
theorem kT.whole (hK:kJ K) (hM:M<=400000) (nn:Nat->Nat) (h:∃g,kT T K bY M W g):∀t,t<=T->∃g,kT T K bY M (W.whole nn t) g
 |0,_=>h
 |t+1,ht=>kT.runs hK hM (by omega) (kT.whole hK hM nn h t (by omega)) (nn t)
theorem kT.Kg (hK:kJ K) (hM:M<=400000) (hT:T<=6) (nn:Nat->Nat) (h:∃g,kT T K bY M W g)
  (on:∀t,t<T->∀k,k<nn t->(((W.whole nn t).runs t k).pick t).1=true) (off:∀t,t<T->(((W.whole nn t).runs t (nn t)).pick t).1=false):CF (W.whole nn) nn T:=by
 have ok:∀t,t<T->∀k,nO ((W.whole nn t).runs t k) t:=fun t ht k=>by
  obtain⟨g,q⟩:=kT.runs hK hM ht (kT.whole hK hM nn h t (by omega)) k;exact(q.pick hK hM ht).1
 refine⟨fun t ht k hk=>⟨ok t ht k,on t ht k hk⟩,fun t ht=>⟨ok t ht _,off t ht⟩,fun t ht=>rfl,fun t ht=>?_,by omega⟩;obtain⟨g,q⟩:=kT.whole hK hM nn h t ht;exact q.ol
end
def sA:Sc:=⟨2,5000,⟨1,0,0,-1,0⟩,[],[[⟨1,1,0,5⟩],[⟨4,1,0,0⟩]],[0,1]⟩
end Go.Proofs.YtcnohdmimheoaaaGreat
