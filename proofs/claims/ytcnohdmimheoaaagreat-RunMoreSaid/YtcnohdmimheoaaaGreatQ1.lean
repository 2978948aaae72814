/- Texts of this seat, joined: part 1. -/
import Derived.WalkKit
import Derived.OrdersHeld
import Derived.Lib.MinMax
import Derived.Laws.AppendOwn
import Derived.ProofKit
import Derived.OpenShut
import Derived.ChangeOld
import Derived.Carry
import Derived.Deep.Slices
import Derived.Laws.MakeOwn
import Derived.Lib.SliceRun
import Derived.MapKept
import Derived.Lib.AppendZeros
import Derived.Laws.Entries
import Derived.Test.YtcnohdmimheoaaaGreatProg
import Derived.Test.YtcnohdmimheoaaaGreatRows
import Derived.SizedLaws
set_option linter.all false
set_option maxRecDepth 4000
namespace Go.Proofs.YtcnohdmimheoaaaGreat

namespace E
open Go
section
variable {α:Type} {l l':List α} {a:α} (h:l.Sublist l')
include α l l' a h
theorem d_:l.Sublist (a::l'):=.cons _ h
theorem k_:(a::l).Sublist (a::l'):=.cons_cons _ h
end
theorem r_ {α:Type} {l:List α}:l.Sublist l:=.refl _
theorem ix {α:Type} {l:List α} {a:α} (n:Nat) (h:l[n]? =some a):a∈l:=List.mem_of_getElem? h
abbrev Hp:=Nat->Option Obj
def Hp.le (H H':Hp):Prop:=∀b o,H b=some o->H' b=some o
theorem Hp.le_refl (H:Hp):H.le H:=fun _ _ h=>h
theorem Hp.le_trans {A B C:Hp} (h:A.le B) (k:B.le C):A.le C:=fun b o e=>k b o (h b o e)
structure ag where
 holds:Hp->Prop
 mono:∀H H':Hp,H.le H'->holds H->holds H'
def ax:List ag->Hp->Prop
 | [],_=>True
 |φ::Γ,H=>φ.holds H/\ax Γ H
theorem ax.mono {H H':Hp} (h:H.le H'):∀{Γ:List ag},ax Γ H->ax Γ H'
 | [],_=>trivial
 |φ::_,hh=>⟨φ.mono _ _ h hh.1,ax.mono h hh.2⟩
theorem ax.mem {H:Hp}:∀{Γ:List ag} {φ:ag},φ∈Γ->ax Γ H->φ.holds H
 |_::_,_,.head _,hh=>hh.1
 |_::_,_,.tail _ h,hh=>ax.mem h hh.2
theorem ax.app {H:Hp}:∀{Γ Δ:List ag},ax Γ H->ax Δ H->ax (Γ++Δ) H
 | [],_,_,k=>k
 |_::_,_,h,k=>⟨h.1,ax.app h.2 k⟩
theorem ax.left {H:Hp}:∀{Γ Δ:List ag},ax (Γ++Δ) H->ax Γ H
 | [],_,_=>trivial
 |_::_,_,h=>⟨h.1,ax.left h.2⟩
theorem ax.right {H:Hp}:∀{Γ Δ:List ag},ax (Γ++Δ) H->ax Δ H
 | [],_,h=>h
 |_::_,_,h=>ax.right (Γ:=_) h.2
abbrev aO:=List (Nat×Obj)
abbrev Loc:=List aO
structure Cx where
 os:Os
 tape:Nat->Question->Nat
 output:Array (Nat×ByteArray)
structure pB (X:Cx) (w:World) (H:Hp) (L:aO):Prop where
 os:w.os=X.os
 tape:w.tape=X.tape
 output:w.output=X.output
 sub:∀b o,H b=some o->w.heap[b]? =some o
 loc:∀p∈L,w.heap[p.1]? =some p.2
 apart:∀p∈L,H p.1=none
 nodup:(L.map Prod.fst).Nodup
def St (X:Cx) (w:World) (H:Hp) (L:Loc):Prop:=pB X w H L.flatten
section
variable {X:Cx} {w:World} {H:Hp} {L L':aO} (h:pB X w H L)
include X w H L L' h
theorem pB.drop (hs:L'.Sublist L):pB X w H L':=
 ⟨h.os,h.tape,h.output,h.sub,fun p hp=>h.loc p (hs.subset hp),fun p hp=>h.apart p (hs.subset hp),h.nodup.sublist (hs.map _)⟩
theorem pB.perm (hs:L'.Perm L):pB X w H L':=
 ⟨h.os,h.tape,h.output,h.sub,fun p hp=>h.loc p (hs.subset hp),fun p hp=>h.apart p (hs.subset hp),((hs.map Prod.fst).nodup_iff).2 h.nodup⟩
end
theorem pB.drawn {X:Cx} {w:World} {H:Hp} {L:aO} (h:pB X w H L) (n:Nat):pB X {w with drawn:=n} H L:=
 ⟨h.os,h.tape,h.output,h.sub,h.loc,h.apart,h.nodup⟩
theorem pB.push {X:Cx} {w:World} {H:Hp} {L:aO} (h:pB X w H L) (o:Obj):
  pB X {w with heap:=w.heap.push o} H ((w.heap.size,o)::L):=by
 have hlt:∀{b o'},w.heap[b]? =some o'->b<w.heap.size:=fun e=>(Array.getElem?_eq_some_iff.1 e).1
 have bE:∀{b o'},w.heap[b]? =some o'->(w.heap.push o)[b]? =some o':=fun{b o'} e=>by
  rw[Array.getElem?_push,if_neg (by have:=hlt e;omega)];exact e
 refine⟨h.os,h.tape,h.output,fun b o' e=>bE (h.sub b o' e),fun p hp=>?_,fun p hp=>?_,?_⟩;rcases List.mem_cons.1 hp with rfl|hp;simp;exact bE (h.loc p hp);rcases List.mem_cons.1 hp with rfl|hp
 cases e:H w.heap.size with
 |none=>rfl
 |some o'=>exact absurd (hlt (h.sub _ _ e)) (Nat.lt_irrefl _)
 exact h.apart p hp;simp only[List.map_cons,List.nodup_cons];refine⟨fun hm=>?_,h.nodup⟩;obtain⟨p,hp,e⟩:=List.mem_map.1 hm;have:=hlt (h.loc p hp);omega
theorem pB.set {X:Cx} {w w':World} {H:Hp} {L:aO} {b:Nat} {o o':Obj} (h:pB X w H ((b,o)::L))
  (e1:w'.os=w.os) (e2:w'.tape=w.tape) (e3:w'.output=w.output) (e4:w'.heap[b]? =some o') (e5:∀c,c≠b->w'.heap[c]? =w.heap[c]?):
  pB X w' H ((b,o')::L):=by
 have hn:=h.nodup;simp only[List.map_cons,List.nodup_cons]at hn;refine⟨e1.trans h.os,e2.trans h.tape,e3.trans h.output,fun c o1 e=>?_,fun p hp=>?_,fun p hp=>?_,by simpa using hn⟩;have:c≠b:=fun e'=>by subst e';rw[h.apart (c,o) (List.mem_cons_self ..)]at e;cases e
 rw[e5 c this];exact h.sub c o1 e;rcases List.mem_cons.1 hp with rfl|hp;exact e4;have:p.1≠b:=fun e'=>hn.1 (List.mem_map.2 ⟨p,hp,e'⟩);rw[e5 _ this];exact h.loc p (List.mem_cons_of_mem _ hp);rcases List.mem_cons.1 hp with rfl|hp;exact h.apart (b,o) (List.mem_cons_self ..);exact h.apart p (List.mem_cons_of_mem _ hp)
def Hp.with (H:Hp) (b:Nat) (o:Obj):Hp:=fun c=>if c=b then some o else H c
theorem Hp.Ij {H:Hp} {b:Nat} {o:Obj} (h:H b=none):H.le (H.with b o):=fun c o' e=>by
 unfold Hp.with;split;rename_i hc;subst hc;rw[h]at e;cases e;exact e
theorem Hp.jA (H:Hp) (b:Nat) (o:Obj):H.with b o b=some o:=by simp[Hp.with]
theorem pB.freeze {X:Cx} {w:World} {H:Hp} {L:aO} {b:Nat} {o:Obj} (h:pB X w H ((b,o)::L)):
  pB X w (H.with b o) L/\H.le (H.with b o):=by
 have hn:=h.nodup;simp only[List.map_cons,List.nodup_cons]at hn;refine⟨⟨h.os,h.tape,h.output,fun c o1 e=>?_,fun p hp=>h.loc p (List.mem_cons_of_mem _ hp),fun p hp=>?_,hn.2⟩,Hp.Ij (h.apart (b,o) (List.mem_cons_self ..))⟩;unfold Hp.with at e;split at e;rename_i hc;subst hc;cases e;exact h.loc (c,o) (List.mem_cons_self ..);exact h.sub c o1 e;have:p.1≠b:=fun e'=>hn.1 (List.mem_map.2 ⟨p,hp,e'⟩);unfold Hp.with;rw[if_neg this];exact h.apart p (List.mem_cons_of_mem _ hp)
theorem yq {L L':Loc} (h:L'.Sublist L):L'.flatten.Sublist L.flatten:=by
 induction h with
 |slnil=>exact List.Sublist.slnil
 |cons a _ ih=>exact ih.trans (by simp)
 |cons_cons a _ ih=>simpa using List.Sublist.append_left ih a
theorem St.drop {X:Cx} {w:World} {H:Hp} {L L':Loc} (h:St X w H L) (hs:L'.Sublist L):St X w H L':=pB.drop h (yq hs)
theorem St.perm {X:Cx} {w:World} {H:Hp} {L L':Loc} (h:St X w H L) (hs:L'.Perm L):St X w H L':=pB.perm h hs.flatten
theorem St.drawn {X:Cx} {w:World} {H:Hp} {L:Loc} (h:St X w H L) (n:Nat):St X {w with drawn:=n} H L:=pB.drawn h n
theorem St.push {X:Cx} {w:World} {H:Hp} {L:Loc} (h:St X w H L) (o:Obj):St X {w with heap:=w.heap.push o} H ([(w.heap.size,o)]::L):=pB.push h o
theorem pE {α:Type}:∀{L:List α} {i:Nat} {s:α},L[i]? =some s->L.Perm (s::L.eraseIdx i)
 | [],i,s,h=>by simp at h
 |x::L,0,s,h=>by simp at h;subst h;exact List.Perm.refl _
 |x::L,i+1,s,h=>((pE (by simpa using h)).cons x).trans (List.Perm.swap s x _)
theorem yr {α:Type}:∀{L:List α} {i:Nat} {s:α} (s':α),L[i]? =some s->(L.set i s').Perm (s'::L.eraseIdx i)
 | [],i,s,_,h=>by simp at h
 |x::L,0,s,s',h=>by simp
 |x::L,i+1,s,s',h=>((yr s' (by simpa using h)).cons x).trans (List.Perm.swap s' x _)
section
variable {X:Cx} {w:World} {H:Hp} {L:Loc} {i:Nat} {s:aO}
include X w H L i s
theorem St.front (h:St X w H L) (hi:L[i]? =some s):pB X w H (s++(L.eraseIdx i).flatten):=by
 have:=pB.perm h (pE hi).symm.flatten;simpa using this
theorem St.back (s':aO) (hi:L[i]? =some s) (h:pB X w H (s'++(L.eraseIdx i).flatten)):St X w H (L.set i s'):=
 pB.perm (L:=s'++(L.eraseIdx i).flatten) h (by have:=(yr s' hi).flatten;simpa using this)
end
theorem St.freeze {X:Cx} {w:World} {H:Hp} {L:Loc} {i b:Nat} {o:Obj} (h:St X w H L) (hi:L[i]? =some [(b,o)]):St X w (H.with b o) (L.eraseIdx i)/\H.le (H.with b o):=
 pB.freeze (h.front hi)
theorem St.mem {X:Cx} {w:World} {H:Hp} {L:Loc} {s:aO} {p:Nat×Obj} (h:St X w H L) (hs:s∈L) (hp:p∈s):w.heap[p.1]? =some p.2:=
 h.loc p (List.mem_flatten.2 ⟨s,hs,hp⟩)
abbrev Env:=List (Nat×Value)
def lk:Env->Nat->Option Value
 | [],_=>none
 | (d,v)::e,t=>bif Nat.beq d t then some v else lk e t
structure sP (n:Nat) (env:Env) (a:Act):Prop where
 size:a.tmps.size=n
 defers:a.defers=[]
 get:∀t v,lk env t=some v->a.tmps[t]? =some v
theorem sP.put {n d:Nat} {env:Env} {a:Act} {v:Value} (h:sP n env a) (hd:Nat.blt d n=true):sP n ((d,v)::env) (a.put (some d) v):=by
 have hd':d<n:=by simpa[Nat.blt_eq]using hd
 refine⟨by simp[Act.put,h.size],h.defers,fun t u e=>?_⟩;simp only[Act.put];simp only[lk]at e;by_cases ht:d=t;subst ht;simp at e;subst e;simp[h.size,hd']
 have:Nat.beq d t=false:=by
  cases hb:Nat.beq d t
  rfl;exact absurd (Nat.eq_of_beq_eq_true hb) ht
 rw[this]at e;rw[Array.getElem?_setIfInBounds_ne ht];exact h.get t u e
theorem sP.weaken {n:Nat} {env env':Env} {a:Act} (h:sP n env a) (hs:∀t v,lk env' t=some v->lk env t=some v):sP n env' a:=
 ⟨h.size,h.defers,fun t v e=>h.get t v (hs t v e)⟩
def mw (env:Env):Env->Prop
 | []=>True
 | (t,v)::e=>lk env t=some v/\mw env e
theorem mw.get {env:Env}:∀{env':Env},mw env env'->∀t v,lk env' t=some v->lk env t=some v
 | [],_,t,v,e=>by simp[lk]at e
 | (d,u)::e',h,t,v,e=>by
  simp only[lk]at e
  cases hb:Nat.beq d t
  rw[hb]at e;exact mw.get h.2 t v e;rw[hb]at e;simp at e;subst e;rw[<-Nat.eq_of_beq_eq_true hb];exact h.1
def ev (env:Env):Operand->Option Value
 | .tmp t=>lk env t
 | .const v=>some v
 | .func f=>some (.func (.func f) #[] #[])
 | .global g=>some (.pointer (some ⟨g,0,none⟩))
def pF (env:Env):List Operand->Option (List Value)
 | []=>some []
 |x::xs=>match ev env x,pF env xs with
  |some v,some vs=>some (v::vs)
  |_,_=>none
theorem sP.ev {n:Nat} {env:Env} {a:Act} (h:sP n env a) {x:Operand} {v:Value} (e:E.ev env x=some v):a.eval x=v:=by
 cases x with
 |tmp t=>have:=h.get t v e;simp[Act.eval,this]
 |const u=>exact Option.some.inj e
 |func f=>exact Option.some.inj e
 |global g=>exact Option.some.inj e
theorem sP.pF {n:Nat} {env:Env} {a:Act} (h:sP n env a):∀{xs:List Operand} {vs:List Value},E.pF env xs=some vs->xs.map a.eval=vs
 | [],vs,e=>by simp[E.pF]at e;subst e;rfl
 |x::xs,vs,e=>by
  simp only[E.pF]at e;split at e;rename_i v vs' h1 h2;simp at e;subst e;simp[h.ev h1,h.pF h2]
  cases e
def At (X:Cx) (n:Nat) (K:Act->World->Prop) (env:Env) (Γ:List ag) (L:Loc):Prop:=
 ∀a w H,sP n env a->ax Γ H->St X w H L->K a w
theorem At.imp {X:Cx} {n:Nat} {K K':Act->World->Prop} {env:Env} {Γ:List ag} {L:Loc} (h:At X n K env Γ L) (hk:∀a w,K a w->K' a w):At X n K' env Γ L:=
 fun a w H h1 h2 h3=>hk a w (h a w H h1 h2 h3)
theorem At.env {X:Cx} {n:Nat} {K:Act->World->Prop} {env:Env} (env':Env) {Γ:List ag} {L:Loc}
  (he:mw env env') (h:At X n K env' Γ L):At X n K env Γ L:=
 fun a w H h1 h2 h3=>h a w H (h1.weaken he.get) h2 h3
theorem At.facts {X:Cx} {n:Nat} {K:Act->World->Prop} {env:Env} {Γ:List ag} (Γ':List ag) {L:Loc}
  (hΓ:∀H,ax Γ H->ax Γ' H) (h:At X n K env Γ' L):At X n K env Γ L:=
 fun a w H h1 h2 h3=>h a w H h1 (hΓ H h2) h3
theorem At.perm {X:Cx} {n:Nat} {K:Act->World->Prop} {env:Env} {Γ:List ag} {L:Loc} (L':Loc)
  (hL:L'.Perm L) (h:At X n K env Γ L'):At X n K env Γ L:=
 fun a w H h1 h2 h3=>h a w H h1 h2 (h3.perm hL)
theorem At.freeze {X:Cx} {n:Nat} {K:Act->World->Prop} {env:Env} {Γ:List ag} {L:Loc} {b:Nat} {o:Obj} (i:Nat) {φ:ag}
  (hi:L[i]? =some [(b,o)]) (hφ:∀H,H b=some o->φ.holds H) (h:At X n K env (φ::Γ) (L.eraseIdx i)):At X n K env Γ L:=
 fun a w H h1 h2 h3=>by
  obtain⟨h4,h5⟩:=h3.freeze hi;exact h a w _ h1 ⟨hφ _ (Hp.jA H b o),h2.mono h5⟩ h4
theorem At.have {X:Cx} {n:Nat} {K:Act->World->Prop} {env:Env} {Γ:List ag} {L:Loc} (p:Prop)
  (hp:∀H,ax Γ H->p) (h:p->At X n K env Γ L):At X n K env Γ L:=
 fun a w H h1 h2 h3=>h (hp H h2) a w H h1 h2 h3
section code
variable {X:Cx} {n:Nat} {P:Program} {Q:Exit->Act->World->Prop} {env:Env} {Γ:List ag} {L:Loc}
theorem At.seq {x y:Code} (h:At X n (x.wp P (Exit.then (y.wp P Q) Q)) env Γ L):At X n ((Code.seq x y).wp P Q) env Γ L:=h.imp fun _ _=>wp_seq
theorem At.skip (h:At X n (Q .normal) env Γ L):At X n (Code.skip.wp P Q) env Γ L:=h.imp fun _ _=>wp_skip
theorem At.ret (h:At X n (Q .ret) env Γ L):At X n (Code.ret.wp P Q) env Γ L:=h.imp fun _ _=>wp_ret
theorem At.exit {i:Nat} (h:At X n (Q (.exit i)) env Γ L):At X n ((Code.exit i).wp P Q) env Γ L:=h.imp fun _ _=>wp_exit
theorem At.block {i:Nat} {c:Code} (h:At X n (c.wp P (Exit.inBlock i Q)) env Γ L):At X n ((Code.block i c).wp P Q) env Γ L:=h.imp fun _ _=>wp_block
theorem At.then {K:Act->World->Prop} (h:At X n K env Γ L):At X n (Exit.then K Q .normal) env Γ L:=h
theorem At.dq {K:Act->World->Prop} (h:At X n (Q .ret) env Γ L):At X n (Exit.then K Q .ret) env Γ L:=h
theorem At.jI {K:Act->World->Prop} {i:Nat} (h:At X n (Q (.exit i)) env Γ L):At X n (Exit.then K Q (.exit i)) env Γ L:=h
theorem At.kV {i:Nat} (h:At X n (Q .normal) env Γ L):At X n (Exit.inBlock i Q .normal) env Γ L:=h
theorem At.yt {i:Nat} (h:At X n (Q .ret) env Γ L):At X n (Exit.inBlock i Q .ret) env Γ L:=h
theorem At.tq {i j:Nat} (hij:Nat.beq j i=true) (h:At X n (Q .normal) env Γ L):At X n (Exit.inBlock i Q (.exit j)) env Γ L:=by
 have:=Nat.eq_of_beq_eq_true hij;subst this;exact h.imp fun a w q=>by simpa[Exit.inBlock]using q
theorem At.wP {i j:Nat} (hij:Nat.beq j i=false) (h:At X n (Q (.exit j)) env Γ L):At X n (Exit.inBlock i Q (.exit j)) env Γ L:=by
 have:j≠i:=fun e=>by subst e;simp at hij
 exact h.imp fun a w q=>by simpa[Exit.inBlock,this]using q
theorem At.pG {c:Operand} {x y:Code} (hc:ev env c=some (.bool true)) (h:At X n (x.wp P Q) env Γ L):At X n ((Code.cond c x y).wp P Q) env Γ L:=
 fun a w H h1 h2 h3=>wp_cond_true (h1.ev hc) (h a w H h1 h2 h3)
theorem At.vH {c:Operand} {x y:Code} (hc:ev env c=some (.bool false)) (h:At X n (y.wp P Q) env Γ L):At X n ((Code.cond c x y).wp P Q) env Γ L:=
 fun a w H h1 h2 h3=>wp_cond_false (h1.ev hc) (h a w H h1 h2 h3)
theorem At.cond {c:Operand} {x y:Code} {t:Bool} (hc:ev env c=some (.bool t)) (hT:t=true->At X n (x.wp P Q) env Γ L) (hF:t=false->At X n (y.wp P Q) env Γ L):
  At X n ((Code.cond c x y).wp P Q) env Γ L:=
 fun a w H h1 h2 h3=>wp_cond_split (h1.ev hc) (fun e=>hT e a w H h1 h2 h3) (fun e=>hF e a w H h1 h2 h3)
theorem At.if {c:Operand} {x y:Code} {p:Prop} [Decidable p] (hc:ev env c=some (.bool (decide p))) (hT:p->At X n (x.wp P Q) env Γ L) (hF:¬p->At X n (y.wp P Q) env Γ L):
  At X n ((Code.cond c x y).wp P Q) env Γ L:=
 At.cond hc (fun e=>hT (of_decide_eq_true e)) (fun e=>hF (of_decide_eq_false e))
theorem least {p:Nat->Prop} (h:∃m,p m):∃m,p m/\∀k,p k->m<=k:=by
 obtain⟨m,hm⟩:=h
 induction m using Nat.strongRecOn with
 |_ m ih=>
  by_cases hk:∃k,p k/\k<m;obtain⟨k,hp,hl⟩:=hk;exact ih k hl hp;exact⟨m,hm,fun k hp=>Nat.le_of_not_lt fun hl=>hk ⟨k,hp,hl⟩⟩
def Round (X:Cx) (n:Nat) {ι:Type} (e:ι->Env) (G:ι->List ag) (M:ι->Loc) (I:ι->Prop) (μ:ι->Nat) (i:ι) (a:Act) (w:World):Prop:=
 ∃j H,I j/\μ j<μ i/\sP n (e j) a/\ax (G j) H/\St X w H (M j)
theorem At.again {ι:Type} {e:ι->Env} {G:ι->List ag} {M:ι->Loc} {I:ι->Prop} {μ:ι->Nat} {i:ι} (j:ι)
  (hI:I j) (hμ:μ j<μ i) (he:mw env (e j)) (hG:∀H,ax Γ H->ax (G j) H) (hM:(M j).Sublist L):At X n (Round X n e G M I μ i) env Γ L:=
 fun _ _ H h1 h2 h3=>⟨j,H,hI,hμ,h1.weaken he.get,hG H h2,h3.drop hM⟩
theorem At.Ku {c:Code} {ι:Type} (e:ι->Env) (G:ι->List ag) (M:ι->Loc) (I:ι->Prop) (μ:ι->Nat) (i₀:ι)
  (h₀:I i₀) (round:∀i,I i->At X n (c.wp P (Exit.then (Round X n e G M I μ i) Q)) (e i) (G i) (M i)):
  At X n ((Code.loop c).wp P Q) (e i₀) (G i₀) (M i₀):=fun a w H h1 h2 h3=>by
 classical
 let J:Act->World->Nat->Prop:=fun a w m=>∃i H,I i/\μ i=m/\sP n (e i) a/\ax (G i) H/\St X w H (M i)
 let ν:Act->World->Nat:=fun a w=>if h:∃m,J a w m then Classical.choose (least h)else 0
 have hν:∀a w m,J a w m->J a w (ν a w)/\ν a w<=m:=fun a w m hm=>by
  have h:∃m,J a w m:=⟨m,hm⟩;have hs:=Classical.choose_spec (least h);have e:ν a w=Classical.choose (least h):=dif_pos h;rw[e];exact⟨hs.1,hs.2 m hm⟩
 refine wp_loop (fun a w=>∃m,J a w m) ν ⟨_,i₀,H,h₀,rfl,h1,h2,h3⟩ ?_;intro a w ⟨m,hm⟩;obtain⟨⟨i,H,hi,hμ,g1,g2,g3⟩,_⟩:=hν a w m hm;refine wp_mono (round i hi a w H g1 g2 g3) ?_;intro ex a' w' hq
 cases ex<;>first|exact hq|skip
 obtain⟨j,H',hj,hlt,k1,k2,k3⟩:=hq;have hJ:J a' w' (μ j):=⟨j,H',hj,rfl,k1,k2,k3⟩;refine⟨⟨_,hJ⟩,?_⟩;have:=(hν a' w' _ hJ).2;omega
theorem At.loop {c:Code} {ι:Type} (e:ι->Env) (G:ι->List ag) (M:ι->Loc) (I:ι->Prop) (μ:ι->Nat) (i₀:ι)
  (h₀:I i₀) (he:mw env (e i₀)) (hG:∀H,ax Γ H->ax (G i₀) H) (hM:(M i₀).Sublist L)
  (round:∀i,I i->At X n (c.wp P (Exit.then (Round X n e G M I μ i) Q)) (e i) (G i) (M i)):
  At X n ((Code.loop c).wp P Q) env Γ L:=fun a w H h1 h2 h3=>At.Ku e G M I μ i₀ h₀ round a w H (h1.weaken he.get) (hG H h2) (h3.drop hM)
end code
end E
end Go.Proofs.YtcnohdmimheoaaaGreat
namespace Go.Proofs.YtcnohdmimheoaaaGreat

namespace E
open Go
def bF (P:Program) (op:Op) (ty:TypeId) (n:Nat) (env:Env) (Γ:List ag) (L:Loc) (v:Value):Prop:=
 ∀X d pos aft g a w H,sP n env a->ax Γ H->St X w H L->(execOp a.eval ⟨d,op,ty,pos,aft,g⟩).run P w= .ok (.value v) w
def dN (P:Program) (op:Op) (ty:TypeId) (n:Nat) (env:Env) (Γ:List ag) (L:Loc) (R:Value->List ag->Loc->Prop):Prop:=
 ∀X d pos aft g a w H,sP n env a->ax Γ H->St X w H L->∀(K:Act->World->Prop) (Q:Exit->Act->World->Prop),
  (∀v Γ' L' w' H',R v Γ' L'->H.le H'->ax Γ' H'->St X w' H' L'->K (a.put d v) w')->(⟨d,op,ty,pos,aft,g⟩:Oper).wp P a w K Q
section list
variable {X:Cx} {n:Nat} {P:Program} {ops:Array Oper} {Q:Exit->Act->World->Prop} {rest:List Oper} {env:Env} {Γ:List ag} {L:Loc}
variable {d:Nat} {op:Op} {ty:TypeId} {pos:String} {aft:Array Edge} {g:Option (Nat×Bool)}
theorem At.region {id:Nat} {l:List Oper} (h:At X n (wpList P l.toArray Q l) env Γ L):At X n ((Code.region id l.toArray false).wp P Q) env Γ L:=
 h.imp fun _ _=>wp_region_lit
theorem At.nil (h:At X n (Q .normal) env Γ L):At X n (wpList P ops Q []) env Γ L:=h
def gd (ops:List Oper) (env:Env) (j:Nat):Option Bool:=
 match(ops[j]?).bind (·.dst)with
 |some t=>match lk env t with|some (.bool b)=>some b|_=>none
 |none=>none
theorem lV {ops:List Oper} {env:Env} {j:Nat} {b:Bool} {a:Act} (h:gd ops env j=some b) (ha:sP n env a):yielded ops.toArray a.tmps j=some b:=by
 unfold gd at h;unfold yielded;split at h;rename_i t ht;split at h;rename_i b' hb;simp at h;subst h;have:=ha.get _ _ hb;simp at ht⊢;simp[ht,this]
 cases h
 cases h
def Kv (ops:List Oper) (env:Env) (j:Nat):Bool:=
 match(ops[j]?).bind (·.dst)with
 |some t=>match lk env t with|some (.tuple _)=>true|_=>false
 |none=>false
theorem yu {ops:List Oper} {env:Env} {j:Nat} {a:Act} (h:Kv ops env j=true) (ha:sP n env a):yielded ops.toArray a.tmps j=none:=by
 unfold Kv at h;unfold yielded;split at h;rename_i t ht;split at h;rename_i b' hb;have:=ha.get _ _ hb;simp at ht⊢;simp[ht,this]
 cases h
 cases h
theorem iO {o:Oper} {a:Act} {w:World} (hw:Region.wanted o (yielded ops a.tmps)=true) (h:o.wp P a w (wpList P ops Q rest) Q):wpList P ops Q (o::rest) a w:=by
 unfold wpList;rw[if_pos hw];exact .inl h
section
variable {v:Value} (hq:bF P op ty n env Γ L v)
include v hq
theorem At.quiet (hd:Nat.blt d n=true) (h:At X n (wpList P ops Q rest) ((d,v)::env) Γ L):
  At X n (wpList P ops Q (⟨some d,op,ty,pos,aft,none⟩::rest)) env Γ L:=fun a w H h1 h2 h3=>by
 refine iO rfl ?_;unfold Oper.wp;rw[hq X _ _ _ _ a w H h1 h2 h3];exact h _ w H (h1.put hd) h2 h3
theorem At.Ep (h:At X n (wpList P ops Q rest) env Γ L):
  At X n (wpList P ops Q (⟨none,op,ty,pos,aft,none⟩::rest)) env Γ L:=fun a w H h1 h2 h3=>by
 refine iO rfl ?_;unfold Oper.wp;rw[hq X _ _ _ _ a w H h1 h2 h3];exact h _ w H h1 h2 h3
end
section
variable {R:Value->List ag->Loc->Prop} (hq:dN P op ty n env Γ L R)
include R hq
theorem At.eJ (hd:Nat.blt d n=true) (h:∀v Γ' L',R v Γ' L'->At X n (wpList P ops Q rest) ((d,v)::env) Γ' L'):
  At X n (wpList P ops Q (⟨some d,op,ty,pos,aft,none⟩::rest)) env Γ L:=fun a w H h1 h2 h3=>
 iO rfl (hq X _ _ _ _ a w H h1 h2 h3 _ _ fun v Γ' L' w' H' hr _ h4 h5=>h v Γ' L' hr _ w' H' (h1.put hd) h4 h5)
theorem At.bC (h:∀v Γ' L',R v Γ' L'->At X n (wpList P ops Q rest) env Γ' L'):
  At X n (wpList P ops Q (⟨none,op,ty,pos,aft,none⟩::rest)) env Γ L:=fun a w H h1 h2 h3=>
 iO rfl (hq X _ _ _ _ a w H h1 h2 h3 _ _ fun v Γ' L' w' H' hr _ h4 h5=>h v Γ' L' hr _ w' H' h1 h4 h5)
end
section
variable {l:List Oper} {j:Nat}
include l j
theorem At.shut {b c:Bool} (hg:gd l env j=some b) (hb:b= !c) (hd:Nat.blt d n=true) (h:At X n (wpList P l.toArray Q rest) ((d,undef)::env) Γ L):
  At X n (wpList P l.toArray Q (⟨some d,op,ty,pos,aft,some (j,c)⟩::rest)) env Γ L:=fun a w H h1 h2 h3=>by
 unfold wpList;rw[if_neg (by subst hb;simp only[Region.wanted,lV hg h1];cases c<;>simp)];exact h _ w H (h1.put hd) h2 h3
theorem At.Nv {b c:Bool} (hg:gd l env j=some b) (hb:b= !c) (h:At X n (wpList P l.toArray Q rest) env Γ L):
  At X n (wpList P l.toArray Q (⟨none,op,ty,pos,aft,some (j,c)⟩::rest)) env Γ L:=fun a w H h1 h2 h3=>by
 unfold wpList;rw[if_neg (by subst hb;simp only[Region.wanted,lV hg h1];cases c<;>simp)];exact h _ w H h1 h2 h3
theorem At.Nw {c:Bool} (hg:Kv l env j=true) (hd:Nat.blt d n=true) (h:At X n (wpList P l.toArray Q rest) ((d,undef)::env) Γ L):
  At X n (wpList P l.toArray Q (⟨some d,op,ty,pos,aft,some (j,c)⟩::rest)) env Γ L:=fun a w H h1 h2 h3=>by
 unfold wpList;rw[if_neg (by simp only[Region.wanted,yu hg h1];cases c<;>simp)];exact h _ w H (h1.put hd) h2 h3
theorem At.Ll {c:Bool} (hg:Kv l env j=true) (h:At X n (wpList P l.toArray Q rest) env Γ L):
  At X n (wpList P l.toArray Q (⟨none,op,ty,pos,aft,some (j,c)⟩::rest)) env Γ L:=fun a w H h1 h2 h3=>by
 unfold wpList;rw[if_neg (by simp only[Region.wanted,yu hg h1];cases c<;>simp)];exact h _ w H h1 h2 h3
theorem At.open {b c:Bool} {dst:Option Nat} (hg:gd l env j=some b) (hb:b=c) (h:At X n (wpList P l.toArray Q (⟨dst,op,ty,pos,aft,none⟩::rest)) env Γ L):
  At X n (wpList P l.toArray Q (⟨dst,op,ty,pos,aft,some (j,c)⟩::rest)) env Γ L:=fun a w H h1 h2 h3=>by
 have:=h a w H h1 h2 h3;unfold wpList at*;have hw0:Region.wanted (⟨dst,op,ty,pos,aft,none⟩:Oper) (yielded l.toArray a.tmps)=true:=rfl;rw[if_pos hw0]at this;rw[if_pos (by subst hb;simp[Region.wanted,lV hg h1])];exact this
end
end list
def yv (X:Cx) (Γ:List ag) (L:Loc) (w:World):Prop:=∃H,ax Γ H/\St X w H L
section draw
variable {P:Program} {ops:Array Oper} {Q:Exit->Act->World->Prop}
def wpAnyS (P:Program) (ops:Array Oper) (Q:Exit->Act->World->Prop) (m:Nat):Nat->(World->Prop)->Array Bool->Act->World->Prop
 |0,_,listed,a,w=>Region.ready .any ops listed=[]/\Q .normal a w
 |fuel+1,S,listed,a,w=>
  (Region.ready .any ops listed=[]->Q .normal a w)/\
  ∀i∈Region.ready .any ops listed,wpOp P ops Q i (fun a' w'=>∃S':World->Prop,(i<m->S' w'/\∀u,S' u->S u)/\wpAnyS P ops Q m fuel S' (listed.setIfInBounds i true) a' w') a w
theorem tu {m:Nat}:∀(fuel:Nat) (S:World->Prop) (listed:Array Bool) (a:Act) (w:World),wpAnyS P ops Q m fuel S listed a w->wpAny P .any ops Q fuel listed a w
 |0,_,_,_,_,h=>h
 |fuel+1,_,_,_,_,h=>⟨h.1,fun i hi=>wpOp_mono (fun a' w' ⟨S',_,h'⟩=>tu fuel S' _ a' w' h') (h.2 i hi)⟩
theorem YieldsIf.Lm {S S':World->Prop} {o:Oper} {v:Value} {a:Act} (h:YieldsIf P ops S o v a) (hs:∀u,S' u->S u):YieldsIf P ops S' o v a:=
 h.imp (fun⟨h1,h2⟩=>⟨h1,fun w hw=>h2 w (hs w hw)⟩) id
def Down (ops:Array Oper) (listed:Array Bool):Prop:=∀j oj,ops[j]? =some oj->listed.getD j false=true->∀e∈oj.after,Region.binds .any e=true->listed.getD e.on false=true
theorem Down.set {listed:Array Bool} {i:Nat} (h:Down ops listed) (hi:i∈Region.ready .any ops listed):Down ops (listed.setIfInBounds i true):=by
 intro j oj hj hl e he hb;by_cases hij:i=j;subst hij;obtain⟨_,o,ho,hall⟩:=mem_ready.1 hi;rw[hj]at ho
 cases ho
 exact getD_set_true (hall e he hb);rw[getD_set_ne false hij]at hl;exact getD_set_true (h j oj hj hl e he hb)
theorem Down.none (n:Nat):Down ops (Array.replicate n false):=by
 intro j oj _ hl;rcases Nat.lt_or_ge j n with h|h;simp[h]at hl;simp[Array.getElem?_eq_none,h]at hl
def wQ (ops:Array Oper) (i:Nat):Nat->List Nat
 |0=>[i]
 |k+1=>bif (match ops[k]? with|some o=>o.after.any fun e=>Region.binds .any e&&(wQ ops i k).contains e.on|none=>false)then k::wQ ops i k else wQ ops i k
theorem vo {i:Nat} {listed:Array Bool} (hd:Down ops listed) (hi:listed.getD i false=false):∀(k:Nat),∀x∈wQ ops i k,listed.getD x false=false:=by
 intro k
 induction k with
 |zero=>intro x hx;simp[wQ]at hx;subst hx;exact hi
 |succ k ih=>
  intro x hx;simp only[wQ]at hx
  cases hb:(match ops[k]? with|some o=>o.after.any fun e=>Region.binds .any e&&(wQ ops i k).contains e.on|none=>false)
  rw[hb]at hx;exact ih x hx;rw[hb]at hx;simp only[cond_true,List.mem_cons]at hx;rcases hx with rfl|hx;split at hb;rename_i o ho;obtain⟨e,he,hc⟩:=Array.any_eq_true'.1 hb;simp only[Bool.and_eq_true,List.contains_eq_mem,decide_eq_true_eq]at hc
  cases hl:listed.getD x false
  rfl;have:=hd x o ho hl e he hc.1;rw[ih _ hc.2]at this
  cases this
  cases hb
  exact ih x hx
def Kw (ops:Array Oper) (m i:Nat):Prop:=∀listed,Down ops listed->listed.getD i false=false->∀j,m<=j->j∉Region.ready .any ops listed
theorem Er {m i:Nat} (him:i<m) (h:((List.range ops.size).all fun j=>Nat.blt j m||(match ops[j]? with|some oj=>(oj.after.any fun e=>Region.binds .any e&&Nat.beq e.on i)||(oj.after.any fun e=>Region.binds .any e&&(wQ ops i ops.size).contains e.on)|none=>true))=true):Kw ops m i:=by
 intro listed hd hi j hj hr;obtain⟨_,oj,hoj,hall⟩:=mem_ready.1 hr;have:=List.all_eq_true.1 h j (List.mem_range.2 (Array.getElem?_eq_some_iff.1 hoj).1);simp only[hoj,Bool.or_eq_true]at this;rcases this with h'|h'|h';have:j<m:=by simpa[Nat.blt_eq]using h'
 omega;obtain⟨e,he,hb⟩:=Array.any_eq_true'.1 h';simp only[Bool.and_eq_true]at hb;have h1:=hall e he hb.1;rw[Nat.eq_of_beq_eq_true hb.2,hi]at h1
 cases h1
 obtain⟨e,he,hb⟩:=Array.any_eq_true'.1 h';simp only[Bool.and_eq_true,List.contains_eq_mem,decide_eq_true_eq]at hb;have h1:=hall e he hb.1;rw[vo hd hi _ _ hb.2]at h1
 cases h1
theorem wpAnyS_first {m i:Nat} {oi:Oper} {v:Value} (hi:ops[i]? =some oi) (him:i<m) (hsel:∀(j:Nat) (o:Oper) cs b,ops[j]? =some o->o.op≠ .select cs b)
  (hQ:∀c a w,Q (.panic c) (a.put oi.dst v) w->Q (.panic c) a w)
  (htail:Kw ops m i):
  ∀(fuel:Nat) (S:World->Prop) (listed:Array Bool) (a:Act) (w:World),Down ops listed->
   (∀j oj,ops[j]? =some oj->j≠i->listed.getD j true=false->(∀e∈oj.after,Region.binds .any e=true->e.on≠i)->oi.apart ops oj=true)->
   i∈Region.ready .any ops listed->YieldsIf P ops S oi v a->S w->
   wpAnyS P ops Q m fuel S (listed.setIfInBounds i true) (a.put oi.dst v) w->wpAnyS P ops Q m (fuel+1) S listed a w:=by
 intro fuel
 induction fuel with
 |zero=>
  intro S listed a w _ _ hr hy hS H;refine⟨fun h=>(by rw[h]at hr;cases hr),fun j hj=>?_⟩;by_cases hji:j=i;subst hji;exact hy.wpOp hi hS ⟨S,fun _=>⟨hS,fun _ h=>h⟩,H⟩;have:=ready_mono hj hji;rw[H.1]at this
  cases this
 |succ fuel ih=>
  intro S listed a w hdown hfree hr hy hS H;refine⟨fun h=>(by rw[h]at hr;cases hr),fun j hj=>?_⟩;by_cases hji:j=i;subst hji;exact hy.wpOp hi hS ⟨S,fun _=>⟨hS,fun _ h=>h⟩,H⟩;have h1:=H.2 j (ready_mono hj hji);obtain⟨hjun,oj,hoj,hall⟩:=mem_ready.1 hj
  have hilist:listed.getD i false=false:=by
   have h0:=(mem_ready.1 hr).1;rcases Nat.lt_or_ge i listed.size with h'|h';simp[h']at h0⊢;exact h0;simp[Array.getElem?_eq_none h']
  have hnot:∀e∈oj.after,Region.binds .any e=true->e.on≠i:=fun e he hb heq=>by
   have h1:=hall e he hb;rw[heq,hilist]at h1
   cases h1
  have hjm:j<m:=by
   refine Nat.lt_of_not_le fun hle=>?_;exact htail listed hdown hilist j hle hj
  have h2:=wpOp_putIf hoj (hfree j oj hoj hji hjun hnot) (fun cs b=>hsel i oi cs b hi) (fun cs b=>hsel j oj cs b hoj) hQ hy h1
  have hfree':∀k ok,ops[k]? =some ok->k≠i->(listed.setIfInBounds j true).getD k true=false->
    (∀e∈ok.after,Region.binds .any e=true->e.on≠i)->oi.apart ops ok=true:=fun k ok hk hki hun hno=>by
   refine hfree k ok hk hki ?_ hno;by_cases hjk:j=k;subst hjk;exact hjun;rw[getD_set_ne true hjk]at hun;exact hun
  refine wpOp_mono (fun a' w' ⟨h3,S',h4,h5⟩=>⟨S',h4,ih S' (listed.setIfInBounds j true) a' w' (hdown.set hj) hfree' (ready_mono hr (Ne.symm hji)) (YieldsIf.Lm h3 (h4 hjm).2) (h4 hjm).1 ?_⟩) h2;rw[Array.setIfInBounds_comm _ _ hji];exact h5
inductive Ord where
 |e
 |q (i:Nat) (r:Ord)
 |o (i:Nat) (r:Ord)
 |t (i:Nat) (r:Ord) (j:Nat) (s:Ord)
 |u (i:Nat) (r:Ord) (j:Nat) (s:Ord) (k:Nat) (p:Ord)
def gy (ops:Array Oper) (m:Nat):Nat->Array Bool->Ord->Bool
 |0,listed,.e=>tailGo (ops.size-m) m listed
 |f+1,listed,.q i r=>Nat.blt i m&&(Region.free .any ops listed i&&((Region.ready .any ops listed).contains i&&gy ops m f (listed.setIfInBounds i true) r))
 |f+1,listed,.o i r=>Nat.blt i m&&(decide (Region.ready .any ops listed=[i])&&gy ops m f (listed.setIfInBounds i true) r)
 |f+1,listed,.t i r j s=>Nat.blt i m&&(Nat.blt j m&&(decide (Region.ready .any ops listed=[i,j])&&(gy ops m f (listed.setIfInBounds i true) r&&gy ops m f (listed.setIfInBounds j true) s)))
 |f+1,listed,.u i r j s k p=>Nat.blt i m&&(Nat.blt j m&&(Nat.blt k m&&(decide (Region.ready .any ops listed=[i,j,k])&&
   (gy ops m f (listed.setIfInBounds i true) r&&(gy ops m f (listed.setIfInBounds j true) s&&gy ops m f (listed.setIfInBounds k true) p)))))
 |_,_,_=>false
where
 tailGo:Nat->Nat->Array Bool->Bool
  |0,_,listed=>decide (Region.ready .any ops listed=[])
  |f+1,k,listed=>decide (Region.ready .any ops listed=[k])&&tailGo f (k+1) (listed.setIfInBounds k true)
def vI (ops:Array Oper) (m:Nat):Bool:=
 (List.range m).all fun i=>(List.range ops.size).all fun j=>Nat.blt j m||match ops[j]? with
  |some oj=>(oj.after.any fun e=>Region.binds .any e&&Nat.beq e.on i)||(oj.after.any fun e=>Region.binds .any e&&(wQ ops i ops.size).contains e.on)
  |none=>true
def yw (ops:Array Oper) (m:Nat) (order:Ord):Bool:=
 Region.noSelect ops&&(vI ops m&&(Nat.ble m ops.size&&gy ops m m (Array.replicate ops.size false) order))
def my (P:Program) (ops:Array Oper) (Q:Exit->Act->World->Prop) (tail:List Oper):(World->Prop)->Ord->Act->World->Prop
 |_,.e,a,w=>wpList P ops Q tail a w
 |S,.q i r,a,w=>∃o v,ops[i]? =some o/\YieldsIf P ops S o v a/\(∀c a w,Q (.panic c) (a.put o.dst v) w->Q (.panic c) a w)/\my P ops Q tail S r (a.put o.dst v) w
 |S,.o i r,a,w=>wpOp P ops Q i (fun a' w'=>∃S':World->Prop,S' w'/\(∀u,S' u->S u)/\my P ops Q tail S' r a' w') a w
 |S,.t i r j s,a,w=>wpOp P ops Q i (fun a' w'=>∃S':World->Prop,S' w'/\(∀u,S' u->S u)/\my P ops Q tail S' r a' w') a w/\
   wpOp P ops Q j (fun a' w'=>∃S':World->Prop,S' w'/\(∀u,S' u->S u)/\my P ops Q tail S' s a' w') a w
 |S,.u i r j s k p,a,w=>wpOp P ops Q i (fun a' w'=>∃S':World->Prop,S' w'/\(∀u,S' u->S u)/\my P ops Q tail S' r a' w') a w/\
   wpOp P ops Q j (fun a' w'=>∃S':World->Prop,S' w'/\(∀u,S' u->S u)/\my P ops Q tail S' s a' w') a w/\
   wpOp P ops Q k (fun a' w'=>∃S':World->Prop,S' w'/\(∀u,S' u->S u)/\my P ops Q tail S' p a' w') a w
theorem yx {m:Nat}:∀(f k:Nat) (S:World->Prop) (listed:Array Bool) (a:Act) (w:World),k+f=ops.size->m<=k->gy.tailGo ops f k listed=true->
  wpList P ops Q (ops.toList.drop k) a w->wpAnyS P ops Q m f S listed a w:=by
 intro f
 induction f with
 |zero=>
  intro k S listed a w hk _ ht h;rw[List.drop_eq_nil_of_le (by simp;omega)]at h;exact⟨by simpa[gy.tailGo]using ht,h⟩
 |succ f ih=>
  intro k S listed a w hk hm ht h;simp only[gy.tailGo,Bool.and_eq_true,decide_eq_true_eq]at ht;have hlt:k<ops.toList.length:=by simp;omega
  rw[List.drop_eq_getElem_cons hlt]at h;refine⟨fun h0=>(by rw[ht.1]at h0;cases h0),fun i hi=>?_⟩;rw[ht.1]at hi;simp at hi;subst hi;have hget:ops[i]? =some ops.toList[i]:=by rw[Array.getElem?_eq_getElem (by simpa using hlt)];simp
  unfold wpOp;simp only[hget];unfold wpList at h;split at h;rename_i hw;rw[if_pos hw];rcases h with h|h;exact .inl (Oper.wp_mono (fun a' w' h'=>⟨S,fun hlt'=>absurd hlt' (by omega),ih (i+1) S _ a' w' (by omega) (by omega) ht.2 h'⟩) h);exact .inr h;rename_i hw;rw[if_neg hw];exact⟨S,fun hlt'=>absurd hlt' (by omega),ih (i+1) S _ _ w (by omega) (by omega) ht.2 h⟩
theorem Ap {m:Nat} (hsel:Region.noSelect ops=true) (htail:vI ops m=true) (hm:m<=ops.size):
  ∀(order:Ord) (f:Nat) (S:World->Prop) (listed:Array Bool) (a:Act) (w:World),gy ops m f listed order=true->Down ops listed->S w->
   my P ops Q (ops.toList.drop m) S order a w->wpAnyS P ops Q m (f+(ops.size-m)) S listed a w:=by
 have step:∀{i:Nat} {r:Ord} {f:Nat} {S:World->Prop} {listed:Array Bool} {a:Act} {w:World},
   (∀(S:World->Prop) (a:Act) (w:World),S w->my P ops Q (ops.toList.drop m) S r a w->wpAnyS P ops Q m (f+(ops.size-m)) S (listed.setIfInBounds i true) a w)->
   wpOp P ops Q i (fun a' w'=>∃S':World->Prop,S' w'/\(∀u,S' u->S u)/\my P ops Q (ops.toList.drop m) S' r a' w') a w->
   wpOp P ops Q i (fun a' w'=>∃S':World->Prop,(i<m->S' w'/\∀u,S' u->S u)/\wpAnyS P ops Q m (f+(ops.size-m)) S' (listed.setIfInBounds i true) a' w') a w:=
  fun ih h=>wpOp_mono (fun a' w' ⟨S',hS',hw,h'⟩=>⟨S',fun _=>⟨hS',hw⟩,ih S' a' w' hS' h'⟩) h
 intro order
 induction order with
 |e=>
  intro f S listed a w ho hd _ h
  cases f with
  |zero=>
   rw[Nat.zero_add];exact yx (ops.size-m) m S listed a w (by omega) (Nat.le_refl _) (by simpa[gy]using ho) h
  |succ f=>simp[gy]at ho
 |q i r ih=>
  intro f S listed a w ho hd hS h
  cases f with
  |zero=>simp[gy]at ho
  |succ f=>
   rw[show f+1+(ops.size-m)=(f+(ops.size-m))+1 by omega];obtain⟨o,v,hi,hy,hQ,h⟩:=h;simp only[gy,Bool.and_eq_true]at ho;obtain⟨h1,h2,h3,h4⟩:=ho;have him:i<m:=by simpa[Nat.blt_eq]using h1
   refine wpAnyS_first hi him (Region.noSelect_spec hsel) hQ (Er him (List.all_eq_true.1 htail i (List.mem_range.2 him))) _ S listed a w hd (Region.free_spec hi h2) (by simpa using h3) hy hS (ih f S _ _ w h4 (hd.set (by simpa using h3)) hS h)
 |o i r ih=>
  intro f S listed a w ho hd hS h
  cases f with
  |zero=>simp[gy]at ho
  |succ f=>
   rw[show f+1+(ops.size-m)=(f+(ops.size-m))+1 by omega];simp only[gy,Bool.and_eq_true,decide_eq_true_eq]at ho;obtain⟨h1,h2,h3⟩:=ho;refine⟨fun h0=>(by rw[h2]at h0;cases h0),fun j hj=>?_⟩;rw[h2]at hj;simp at hj;subst hj;exact step (fun S' a' w' hS' h'=>ih f S' _ a' w' h3 (hd.set (by rw[h2];simp)) hS' h') h
 |t i r j s ihr ihs=>
  intro f S listed a w ho hd hS h
  cases f with
  |zero=>simp[gy]at ho
  |succ f=>
   rw[show f+1+(ops.size-m)=(f+(ops.size-m))+1 by omega];simp only[gy,Bool.and_eq_true,decide_eq_true_eq]at ho;obtain⟨_,_,h2,h3,h4⟩:=ho;refine⟨fun h0=>(by rw[h2]at h0;cases h0),fun x hx=>?_⟩;rw[h2]at hx;simp only[List.mem_cons,List.not_mem_nil,or_false]at hx;rcases hx with rfl|rfl;exact step (fun S' a' w' hS' h'=>ihr f S' _ a' w' h3 (hd.set (by rw[h2];simp)) hS' h') h.1;exact step (fun S' a' w' hS' h'=>ihs f S' _ a' w' h4 (hd.set (by rw[h2];simp)) hS' h') h.2
 |u i r j s k p ihr ihs ihp=>
  intro f S listed a w ho hd hS h
  cases f with
  |zero=>simp[gy]at ho
  |succ f=>
   rw[show f+1+(ops.size-m)=(f+(ops.size-m))+1 by omega];simp only[gy,Bool.and_eq_true,decide_eq_true_eq]at ho;obtain⟨_,_,_,h2,h3,h4,h5⟩:=ho;refine⟨fun h0=>(by rw[h2]at h0;cases h0),fun x hx=>?_⟩;rw[h2]at hx;simp only[List.mem_cons,List.not_mem_nil,or_false]at hx;rcases hx with rfl|rfl|rfl;exact step (fun S' a' w' hS' h'=>ihr f S' _ a' w' h3 (hd.set (by rw[h2];simp)) hS' h') h.1;exact step (fun S' a' w' hS' h'=>ihs f S' _ a' w' h4 (hd.set (by rw[h2];simp)) hS' h') h.2.1;exact step (fun S' a' w' hS' h'=>ihp f S' _ a' w' h5 (hd.set (by rw[h2];simp)) hS' h') h.2.2
theorem vq {id m:Nat} {order:Ord} {S:World->Prop} {a:Act} {w:World} (hmix:P.follows .mixedOrders=true) (hok:yw ops m order=true)
  (hS:S {w with drawn:=w.drawn+1}) (h:my P ops Q (ops.toList.drop m) S order a {w with drawn:=w.drawn+1}):(Code.region id ops true).wp P Q a w:=by
 simp only[yw,Bool.and_eq_true]at hok;obtain⟨h1,h2,h3,h5⟩:=hok;have hm:m<=ops.size:=Nat.le_of_ble_eq_true h3;refine wp_region_any hmix (tu (m:=m) _ S _ _ _ ?_);have:=Ap h1 h2 hm order m S (Array.replicate ops.size false) a {w with drawn:=w.drawn+1} h5 (Down.none _) hS h;have e:m+(ops.size-m)=ops.size:=by omega
 rwa [e]at this
end draw
section order
variable {X:Cx} {n:Nat} {P:Program} {Q:Exit->Act->World->Prop} {env:Env} {Γ:List ag} {L L0:Loc} {l tail:List Oper} {r:Ord} {i d:Nat}
variable {op:Op} {ty:TypeId} {pos:String} {aft:Array Edge} {g:Option (Nat×Bool)}
def Calm (Q:Exit->Act->World->Prop):Prop:=∀c a d v w,Q (.panic c) (Act.put a d v) w->Q (.panic c) a w
def aQ (X:Cx) (n:Nat) (P:Program) (l:List Oper) (Q:Exit->Act->World->Prop) (tail:List Oper) (r:Ord) (L0:Loc) (env:Env) (Γ:List ag) (L:Loc):Prop:=
 At X n (my P l.toArray Q tail (yv X Γ L0) r) env Γ L
def behind:Nat->List Oper->Option (List Oper)
 |0,l=>some l
 |m+1,_::l=>behind m l
 |_+1,[]=>some []
theorem rP:∀{m:Nat} {l t:List Oper},behind m l=some t->l.drop m=t
 |0,l,t,h=>by simpa[behind]using h
 |m+1,[],t,h=>by simp[behind]at h;subst h;simp
 |m+1,_::l,t,h=>by simpa using rP (m:=m) (by simpa[behind]using h)
theorem At.draw {id:Nat} (m:Nat) (order:Ord) (L0:Loc) (hL0:L0.Sublist L) (hmix:P.follows .mixedOrders=true) (hok:yw l.toArray m order=true) (ht:behind m l=some tail)
  (h:aQ X n P l Q tail order L0 env Γ L):At X n ((Code.region id l.toArray true).wp P Q) env Γ L:=fun a _ H h1 h2 h3=>by
 have e:=rP ht;subst e;exact vq (S:=yv X Γ L0) hmix hok ⟨H,h2,(h3.drawn _).drop hL0⟩ (h a _ H h1 h2 (h3.drawn _))
theorem aQ.done (h:At X n (wpList P l.toArray Q tail) env Γ L):aQ X n P l Q tail .e L0 env Γ L:=h
theorem aQ.quiet {v:Value} (ho:l[i]? =some ⟨some d,op,ty,pos,aft,none⟩) (hq:bF P op ty n env Γ L0 v) (hd:Nat.blt d n=true) (hQ:Calm Q)
  (h:aQ X n P l Q tail r L0 ((d,v)::env) Γ L):aQ X n P l Q tail (.q i r) L0 env Γ L:=fun a w H h1 h2 h3=>
 ⟨_,v,by simpa using ho,.inl ⟨rfl,fun w' ⟨H',k2,k3⟩=>hq X _ _ _ _ a w' H' h1 k2 k3⟩,fun c a w=>hQ c a _ v w,h _ w H (h1.put hd) h2 h3⟩
theorem aQ.dt {v:Value} {j:Nat} {b c:Bool} (ho:l[i]? =some ⟨some d,op,ty,pos,aft,some (j,c)⟩) (hg:gd l env j=some b) (hb:b=c) (hq:bF P op ty n env Γ L0 v) (hd:Nat.blt d n=true) (hQ:Calm Q)
  (h:aQ X n P l Q tail r L0 ((d,v)::env) Γ L):aQ X n P l Q tail (.q i r) L0 env Γ L:=fun a w H h1 h2 h3=>
 ⟨_,v,by simpa using ho,.inl ⟨by subst hb;simp[Region.wanted,lV hg h1],fun w' ⟨H',k2,k3⟩=>hq X _ _ _ _ a w' H' h1 k2 k3⟩,fun c a w=>hQ c a _ v w,h _ w H (h1.put hd) h2 h3⟩
theorem aQ.shut {j:Nat} {b c:Bool} (ho:l[i]? =some ⟨some d,op,ty,pos,aft,some (j,c)⟩) (hg:gd l env j=some b) (hb:b= !c) (hd:Nat.blt d n=true) (hQ:Calm Q)
  (h:aQ X n P l Q tail r L0 ((d,undef)::env) Γ L):aQ X n P l Q tail (.q i r) L0 env Γ L:=fun a w H h1 h2 h3=>
 ⟨_,undef,by simpa using ho,.inr ⟨by subst hb;simp only[Region.wanted,lV hg h1];cases c<;>simp,rfl⟩,fun c a w=>hQ c a _ undef w,h _ w H (h1.put hd) h2 h3⟩
section
variable {R:Value->List ag->Loc->Prop}
include R
theorem aQ.eJ (ho:l[i]? =some ⟨some d,op,ty,pos,aft,none⟩) (hq:dN P op ty n env Γ L R) (hd:Nat.blt d n=true) (hk:∀v Γ' L',R v Γ' L'->(∀H,ax Γ' H->ax Γ H)/\L0.Sublist L') (h:∀v Γ' L',R v Γ' L'->aQ X n P l Q tail r L0 ((d,v)::env) Γ' L'):aQ X n P l Q tail (.o i r) L0 env Γ L:=fun a w H h1 h2 h3=>by
 show wpOp P l.toArray Q i _ a w;unfold wpOp;have ho':l.toArray[i]? =some ⟨some d,op,ty,pos,aft,none⟩:=by simpa using ho
 simp only[ho'];have hw0:Region.wanted (⟨some d,op,ty,pos,aft,none⟩:Oper) (yielded l.toArray a.tmps)=true:=rfl;rw[if_pos hw0];refine .inl (hq X _ _ _ _ a w H h1 h2 h3 _ _ fun v Γ' L' w' H' hr _ h4 h5=>?_);obtain⟨k1,k2⟩:=hk v Γ' L' hr;exact⟨yv X Γ' L0,⟨H',h4,h5.drop k2⟩,fun u ⟨H1,q1,q2⟩=>⟨H1,k1 H1 q1,q2⟩,h v Γ' L' hr _ w' H' (h1.put hd) h4 h5⟩
theorem aQ.bC (ho:l[i]? =some ⟨none,op,ty,pos,aft,none⟩) (hq:dN P op ty n env Γ L R) (hk:∀v Γ' L',R v Γ' L'->(∀H,ax Γ' H->ax Γ H)/\L0.Sublist L') (h:∀v Γ' L',R v Γ' L'->aQ X n P l Q tail r L0 env Γ' L'):aQ X n P l Q tail (.o i r) L0 env Γ L:=fun a w H h1 h2 h3=>by
 show wpOp P l.toArray Q i _ a w;unfold wpOp;have ho':l.toArray[i]? =some ⟨none,op,ty,pos,aft,none⟩:=by simpa using ho
 simp only[ho'];have hw0:Region.wanted (⟨none,op,ty,pos,aft,none⟩:Oper) (yielded l.toArray a.tmps)=true:=rfl;rw[if_pos hw0];refine .inl (hq X _ _ _ _ a w H h1 h2 h3 _ _ fun v Γ' L' w' H' hr _ h4 h5=>?_);obtain⟨k1,k2⟩:=hk v Γ' L' hr;exact⟨yv X Γ' L0,⟨H',h4,h5.drop k2⟩,fun u ⟨H1,q1,q2⟩=>⟨H1,k1 H1 q1,q2⟩,h v Γ' L' hr _ w' H' h1 h4 h5⟩
end
theorem aQ.two {j:Nat} {s:Ord} (h:aQ X n P l Q tail (.o i r) L0 env Γ L) (h':aQ X n P l Q tail (.o j s) L0 env Γ L):aQ X n P l Q tail (.t i r j s) L0 env Γ L:=
 fun a w H h1 h2 h3=>⟨h a w H h1 h2 h3,h' a w H h1 h2 h3⟩
theorem aQ.three {j k:Nat} {s p:Ord} (h:aQ X n P l Q tail (.o i r) L0 env Γ L) (h':aQ X n P l Q tail (.o j s) L0 env Γ L) (h'':aQ X n P l Q tail (.o k p) L0 env Γ L):aQ X n P l Q tail (.u i r j s k p) L0 env Γ L:=
 fun a w H h1 h2 h3=>⟨h a w H h1 h2 h3,h' a w H h1 h2 h3,h'' a w H h1 h2 h3⟩
end order
def aN (P:Program) (f:FuncId) (args:List Value) (pre:List ag) (M:Loc) (R:Value->List ag->Loc->Prop):Prop:=
 ∀X w H L,ax pre H->St X w H (M++L)->Calls P f args.toArray w fun e w'=>∃v Γ' M' H',e= .returned v/\R v Γ' M'/\H.le H'/\ax Γ' H'/\St X w' H' (M'++L)
theorem aN.mono {P:Program} {f:FuncId} {args:List Value} {pre pre':List ag} {M:Loc} {R R':Value->List ag->Loc->Prop} (h:aN P f args pre M R)
  (hp:∀H,ax pre' H->ax pre H) (hr:∀v Γ M,R v Γ M->R' v Γ M):aN P f args pre' M R':=fun X w H L h1 h2=>
 (h X w H L (hp H h1) h2).mono fun _ _ ⟨v,Γ',M',H',h3,h4,h5⟩=>⟨v,Γ',M',H',h3,hr _ _ _ h4,h5⟩
def bG (P:Program) (fn:Func) (X:Cx) (H₀:Hp) (L₀:Loc) (R:Value->List ag->Loc->Prop):Exit->Act->World->Prop:=
 bodyPost P fn fun e w'=>∃v Γ' M' H',e= .returned v/\R v Γ' M'/\H₀.le H'/\ax Γ' H'/\St X w' H' (M'++L₀)
theorem bG.calm {P:Program} {fn:Func} {X:Cx} {H₀:Hp} {L₀:Loc} {R:Value->List ag->Loc->Prop}:Calm (bG P fn X H₀ L₀ R):=fun c a d v w h=>by
 obtain⟨_,_,_,_,h,_⟩:=h.2
 cases h
theorem Calm.then {K:Act->World->Prop} {Q:Exit->Act->World->Prop} (h:Calm Q):Calm (Exit.then K Q):=fun c a d v w hq=>h c a d v w hq
theorem Calm.inBlock {i:Nat} {Q:Exit->Act->World->Prop} (h:Calm Q):Calm (Exit.inBlock i Q):=fun c a d v w hq=>h c a d v w hq
def bZ (H₀:Hp):ag:=⟨fun H=>H₀.le H,fun _ _ h k=>Hp.le_trans k h⟩
def qN:List Value->Nat->Env
 | [],_=>[]
 |v::vs,k=>(k,v)::qN vs (k+1)
theorem tw:∀(args:List Value) (k t:Nat) (v:Value),lk (qN args k) t=some v->k<=t/\args[t-k]? =some v
 | [],_,_,_,e=>by simp[qN,lk]at e
 |u::us,k,t,v,e=>by
  simp only[qN,lk]at e
  cases hb:Nat.beq k t
  rw[hb]at e;obtain⟨h1,h2⟩:=tw us (k+1) t v e;have:t-k=(t-(k+1))+1:=by omega
  exact⟨by omega,by rw[this];simpa using h2⟩;rw[hb]at e;simp at e;subst e;have:=Nat.eq_of_beq_eq_true hb;subst this;exact⟨Nat.le_refl _,by simp⟩
theorem aN.body {P:Program} {f:FuncId} {fn:Func} {c:Code} {args:List Value} {pre:List ag} {M:Loc} {R:Value->List ag->Loc->Prop} (nt:Nat)
  (hf:P.funcs[f]? =some fn) (hb:fn.body=some c) (hn:fn.ntmps=nt) (hle:Nat.ble args.length nt=true)
  (h:∀X H₀ L₀,At X nt (c.wp P (bG P fn X H₀ L₀ R)) (qN args 0) (bZ H₀::pre) (M++L₀)):aN P f args pre M R:=fun X w H L h1 h2=>by
 have hle':args.length<=nt:=Nat.le_of_ble_eq_true hle;refine calls_of_wp hf hb ?_;refine h X H L _ w H ⟨by simp[hn];omega,rfl,fun t v e=>?_⟩ ⟨Hp.le_refl H,h1⟩ h2;obtain⟨_,h3⟩:=tw args 0 t v e
 have ht:t<args.length:=by
  rcases Nat.lt_or_ge t args.length with h'|h';exact h';simp[List.getElem?_eq_none h']at h3
 simp only[Nat.sub_zero]at h3;rw[Array.getElem?_append_left (by simpa using ht)];simpa using h3
end E
end Go.Proofs.YtcnohdmimheoaaaGreat
namespace Go.Proofs.YtcnohdmimheoaaaGreat

namespace E
open Go
def BH:TypeDesc->Bool
 | .struct _| .array _ _=>false
 |_=>true
def dg (P:Program) (t:TypeId):Option (Bool×Nat×Nat×Value):=
 match P.underlying t,P.info? t with
 |some d,some i=>i.zero.map fun z=>(BH d,i.size,i.bytes,z)
 |_,_=>none
def kW (P:Program) (t:TypeId):Option (List (Nat×Nat×Bool)):=
 match P.underlying t with
 |some (.struct fs)=>fs.toList.mapM fun f=>(dg P f.type).map fun r=>(f.offset,r.2.1,r.1)
 |_=>none
section runs
variable {P:Program} {t:TypeId} {sc:Bool} {size bytes:Nat} {zero:Value} {w:World}
section
variable (h:dg P t=some (sc,size,bytes,zero))
include h
theorem fk:∃d i,P.underlying t=some d/\P.info? t=some i/\BH d=sc/\i.size=size/\i.bytes=bytes/\i.zero=some zero:=by
 unfold dg at h;split at h;rename_i d i h1 h2
 cases hz:i.zero with
 |none=>rw[hz]at h;cases h
 |some z=>
  rw[hz]at h;simp only[Option.map_some,Option.some.injEq,Prod.mk.injEq]at h;obtain⟨e1,e2,e3,e4⟩:=h;exact⟨d,i,h1,h2,e1,e2,e3,by rw[hz,e4]⟩
 cases h
theorem eA:(sizeOf t).run P w= .ok size w:=by
 obtain⟨d,i,_,h2,_,h4,_⟩:=fk h;simp[sizeOf,typeInfo,h2,h4]
theorem nT:(zeroValue t).run P w= .ok zero w:=by
 obtain⟨d,i,_,h2,_,_,_,h4⟩:=fk h;simp[zeroValue,typeInfo,h2,h4]
theorem kX:(isAgg t).run P w= .ok (!sc) w:=by
 obtain⟨d,i,h1,_,h3,_⟩:=fk h;subst h3;simp only[isAgg,underlying,Sem.run_bind,run_program,Result.andThen_ok,h1,Sem.run_pure]
 cases d<;>rfl
end
theorem tz {pl:List (Nat×Nat×Bool)} (h:kW P t=some pl):∃fs:Array Field,P.underlying t=some (.struct fs)/\fs.toList.mapM (fun f=>(dg P f.type).map fun r=>(f.offset,r.2.1,r.1))=some pl:=by
 unfold kW at h;split at h;rename_i fs hf;exact⟨fs,hf,h⟩
 cases h
theorem yy {α β:Type} {f:α->Option β}:∀{l:List α} {r:List β},l.mapM f=some r->∀(i:Nat) (b:β),r[i]? =some b->∃a,l[i]? =some a/\f a=some b
 | [],r,h,i,b,hb=>by simp at h;subst h;simp at hb
 |a::l,r,h,i,b,hb=>by
  simp only[List.mapM_cons]at h
  cases ha:f a with
  |none=>rw[ha]at h;cases h
  |some c=>
   rw[ha]at h
   cases hl:l.mapM f with
   |none=>rw[hl]at h;cases h
   |some r'=>
    rw[hl]at h;have h':some (c::r')=some r:=h;simp at h';subst h'
    cases i with
    |zero=>simp at hb;subst hb;exact⟨a,by simp,ha⟩
    |succ i=>simpa using yy hl i b (by simpa using hb)
theorem oR {pl:List (Nat×Nat×Bool)} {i off sz:Nat} {s:Bool} (h:kW P t=some pl) (hi:pl[i]? =some (off,sz,s)):
  ∃(fs:Array Field) (f:Field),P.underlying t=some (.struct fs)/\fs[i]? =some f/\f.offset=off/\∃by_ z,dg P f.type=some (s,sz,by_,z):=by
 obtain⟨fs,h1,h2⟩:=tz h;obtain⟨f,h3,h4⟩:=yy h2 i _ hi;refine⟨fs,f,h1,by simpa using h3,?_⟩
 cases hr:dg P f.type with
 |none=>rw[hr]at h4;cases h4
 |some r=>
  rw[hr]at h4;obtain⟨r1,r2,r3,r4⟩:=r;simp at h4;obtain⟨e1,e2,e3⟩:=h4;exact⟨e1,r3,r4,by rw[e2,e3]⟩
theorem run_places:∀{l:List Field} {pl:List (Nat×Nat×Bool)},l.mapM (fun f=>(dg P f.type).map fun r=>(f.offset,r.2.1,r.1))=some pl->
  (l.mapM fun f=>do pure (f.offset,<-sizeOf f.type):Sem (List (Nat×Nat))).run P w= .ok (pl.map fun p=>(p.1,p.2.1)) w
 | [],pl,h=>by simp at h;subst h;simp
 |f::l,pl,h=>by
  simp only[List.mapM_cons]at h
  cases hr:dg P f.type with
  |none=>rw[hr]at h;cases h
  |some r=>
   obtain⟨r1,r2,r3,r4⟩:=r
   cases hl:l.mapM (fun f=>(dg P f.type).map fun r=>(f.offset,r.2.1,r.1))with
   |none=>rw[hr,hl]at h;cases h
   |some pl'=>
    rw[hr,hl]at h;have h':some ((f.offset,r2,r1)::pl')=some pl:=h;simp only[Option.some.injEq]at h';subst h';have ih:=run_places hl;simp only[List.mapM_cons,Sem.run_bind,eA hr,Result.andThen_ok,Sem.run_pure,ih,List.map_cons]
end runs
@[irreducible] def aW (b:Nat) (cs:Array Value):ag:=
 ⟨fun H=>∃T z,H b=some (.cells cs T z),fun _ _ h ⟨T,z,e⟩=>⟨T,z,h _ _ e⟩⟩
theorem cO {b:Nat} {cs:Array Value} {H:Hp}:(aW b cs).holds H<->∃T z,H b=some (.cells cs T z):=by unfold aW;rfl
@[irreducible] def nU (a:Addr) (vs:List Value):ag:=
  ⟨fun H=>a.spot=none/\∃cs T z,H a.block=some (.cells cs T z)/\∀j v,vs[j]? =some v->cs[a.off+j]? =some v,
   fun _ _ h ⟨s,cs,T,z,e,k⟩=>⟨s,cs,T,z,h _ _ e,k⟩⟩
theorem rQ {a:Addr} {vs:List Value} {H:Hp}:(nU a vs).holds H<->a.spot=none/\∃cs T z,H a.block=some (.cells cs T z)/\∀j v,vs[j]? =some v->cs[a.off+j]? =some v:=by
 unfold nU;rfl
def Rd (Γ:List ag) (L:Loc) (a:Addr) (v:Value):Prop:=∀X w H,ax Γ H->St X w H L->w.cell? a=some v
def fc (Γ:List ag) (L:Loc) (a:Addr) (vs:List Value):Prop:=∀X w H,ax Γ H->St X w H L->∀j v,vs[j]? =some v->w.cell? (a.add j)=some v
theorem cell_of {w:World} {a:Addr} {cs:Array Value} {T:TypeId} {z:Nat×Nat} (h:w.heap[a.block]? =some (.cells cs T z)) (hs:a.spot=none):w.cell? a=cs[a.off]? :=by
 simp[World.cell?,h,hs]
theorem fe (a:Addr) (j:Nat):(a.add j).block=a.block:=by unfold Addr.add;split<;>rfl
theorem g8 (a:Addr) (j:Nat):(a.add j).off=a.off+j:=by unfold Addr.add;split<;>simp_all
theorem ft {a:Addr} (j:Nat) (h:a.spot=none):(a.add j).spot=none:=by unfold Addr.add;split<;>simp_all
section reads
variable {Γ:List ag} {L:Loc} {b k:Nat} {cs:Array Value} {T:TypeId} {z:Nat×Nat} {v:Value} {a:Addr} {vs:List Value}
theorem Rd.loc {i:Nat} (h:L[i]? =some [(b,Obj.cells cs T z)]) (hv:cs[k]? =some v):Rd Γ L ⟨b,k,none⟩ v:=fun _ _ _ _ h3=>by
 rw[cell_of (h3.mem (List.mem_of_getElem? h) (List.mem_singleton.2 rfl)) rfl];exact hv
theorem Rd.aW (h:E.aW b cs∈Γ) (hv:cs[k]? =some v):Rd Γ L ⟨b,k,none⟩ v:=fun X w H h2 h3=>by
 obtain⟨T,z,e⟩:=cO.1 (ax.mem h h2);rw[cell_of (h3.sub _ _ e) rfl];exact hv
theorem Rd.at {j:Nat} (h:nU a vs∈Γ) (hv:vs[j]? =some v):Rd Γ L (a.add j) v:=fun X w H h2 h3=>by
 obtain⟨hs,cs,T,z,e,hk⟩:=rQ.1 (ax.mem h h2);rw[cell_of (cs:=cs) (T:=T) (z:=z) (by rw[fe];exact h3.sub _ _ e) (ft j hs),g8];exact hk j v hv
theorem Rd.Ee (h:nU a vs∈Γ) (hv:vs[0]? =some v):Rd Γ L a v:=fun X w H h2 h3=>by
 have:=Rd.at (L:=L) h hv X w H h2 h3;simpa[Addr.add]using this
def H7 (cs:Array Value) (k:Nat):Nat->Option (List Value)
 |0=>some []
 |m+1=>match cs[k]?,H7 cs (k+1) m with
  |some v,some vs=>some (v::vs)
  |_,_=>none
theorem sQ {cs:Array Value}:∀{m k:Nat} {vs:List Value},H7 cs k m=some vs->vs.length=m/\∀j v,vs[j]? =some v->cs[k+j]? =some v
 |0,k,vs,h=>by simp[H7]at h;subst h;simp
 |m+1,k,vs,h=>by
  simp only[H7]at h;split at h;rename_i u us h1 h2;simp at h;subst h;obtain⟨h3,h4⟩:=sQ h2;refine⟨by simp[h3],fun j v hj=>?_⟩
  cases j with
  |zero=>simp at hj;subst hj;simpa using h1
  |succ j=>have:=h4 j v (by simpa using hj);rwa [show k+(j+1)=k+1+j by omega]
  cases h
theorem fc.loc {m i:Nat} (h:L[i]? =some [(b,Obj.cells cs T z)]) (hv:H7 cs k m=some vs):fc Γ L ⟨b,k,none⟩ vs:=fun _ _ _ _ h3 j v hj=>by
 rw[cell_of (cs:=cs) (T:=T) (z:=z) (by rw[fe];exact h3.mem (List.mem_of_getElem? h) (List.mem_singleton.2 rfl)) (ft j rfl),g8];exact(sQ hv).2 j v hj
theorem fc.aW {m:Nat} (h:E.aW b cs∈Γ) (hv:H7 cs k m=some vs):fc Γ L ⟨b,k,none⟩ vs:=fun X w H h2 h3 j v hj=>by
 obtain⟨T,z,e⟩:=cO.1 (ax.mem h h2);rw[cell_of (cs:=cs) (T:=T) (z:=z) (by rw[fe];exact h3.sub _ _ e) (ft j rfl),g8];exact(sQ hv).2 j v hj
def Es (cs:List Value) (k m:Nat):List Value:=(cs.drop k).take m
theorem fc.at {ws:List Value} {k m:Nat} (h:nU a ws∈Γ) (hv:Es ws k m=vs):fc Γ L (a.add k) vs:=fun X w H h2 h3 j v hj=>by
 have:ws[k+j]? =some v:=by
  subst hv;unfold Es at hj;rw[List.getElem?_take]at hj;split at hj;simpa using hj
  cases hj
 have h4:=Rd.at (L:=L) h this X w H h2 h3;obtain⟨hs,_⟩:=rQ.1 (ax.mem h h2)
 have e:(a.add k).add j=a.add (k+j):=by
  cases a
  simp at hs;subst hs;unfold Addr.add;split<;>split<;>split<;>simp_all<;>omega
 rw[e];exact h4
theorem fc.Ee {ws:List Value} {m:Nat} (h:nU a ws∈Γ) (hv:Es ws 0 m=vs):fc Γ L a vs:=fun X w H h2 h3 j v hj=>by
 have:=fc.at (L:=L) h hv X w H h2 h3 j v hj;simpa[Addr.add]using this
end reads
section quiet
variable {P:Program} {n:Nat} {env:Env} {Γ:List ag} {L:Loc} {ty t:TypeId} {x y:Operand} {u v:Value} {zero:Value} {size bytes:Nat} {a:Addr}
theorem oS (hx:ev env x=some v):bF P (.move x) ty n env Γ L v:=fun _ _ _ _ _ a w _ h1 _ _=>by simp[execOp,h1.ev hx]
theorem yz (hx:ev env x=some v):bF P (.assign x) ty n env Γ L v:=fun _ _ _ _ _ a w _ h1 _ _=>by simp[execOp,h1.ev hx]
theorem Ik {c:Operand} (hc:ev env c=some (.bool true)) (hx:ev env x=some v):bF P (.pick c x y) ty n env Γ L v:=
 fun _ _ _ _ _ a w _ h1 _ _=>by simp[execOp,h1.ev hx,h1.ev hc,asBool]
theorem Il {c:Operand} (hc:ev env c=some (.bool false)) (hy:ev env y=some v):bF P (.pick c x y) ty n env Γ L v:=
 fun _ _ _ _ _ a w _ h1 _ _=>by simp[execOp,h1.ev hy,h1.ev hc,asBool]
theorem aY (ht:dg P t=some (true,size,bytes,zero)) (hx:ev env x=some (.pointer (some a))) (hr:Rd Γ L a v):bF P (.load t x) ty n env Γ L v:=
 fun X _ _ _ _ ac w H h1 h2 h3=>by
  simp[execOp,h1.ev hx,Instr.loadAt,Instr.sureAddr,loadVar,kX ht,hr X w H h2 h3]
theorem bU {vs:List Value} (ht:dg P t=some (false,size,bytes,zero)) (hx:ev env x=some (.pointer (some a))) (hr:fc Γ L a vs) (hs:vs.length=size):
  bF P (.load t x) ty n env Γ L (.agg vs.toArray):=
 fun X _ _ _ _ ac w H h1 h2 h3=>by
  have:=run_loadCells_list (P:=P) w a vs (hr X w H h2 h3);rw[hs]at this;simp[execOp,h1.ev hx,Instr.loadAt,Instr.sureAddr,loadVar,kX ht,eA ht,this]
section
variable {pl:List (Nat×Nat×Bool)} {i k sz:Nat}
include pl i k sz
theorem aq {s:Bool} (ht:kW P t=some pl) (hi:pl[i]? =some (k,sz,s)) (hfs:Nat.beq sz 0=false) (hx:ev env x=some (.pointer (some a))):bF P (.fieldAddr t x i) ty n env Γ L (.pointer (some (a.add k))):=
 fun X _ _ _ _ ac w H h1 h2 h3=>by
  have h0:sz≠0:=fun e=>by subst e;simp at hfs
  obtain⟨fs,f,e1,e2,e3,by_,z,e4⟩:=oR ht hi;simp[execOp,h1.ev hx,Instr.fieldAt,Instr.sureAddr,underlying,e1,e2,fieldPlace,eA e4,h0,e3]
theorem Im {cs:Array Value} (ht:kW P t=some pl) (hi:pl[i]? =some (k,sz,true)) (hx:ev env x=some (.agg cs)) (hv:cs[k]? =some v):bF P (.field t x i) ty n env Γ L v:=
 fun X _ _ _ _ ac w H h1 h2 h3=>by
  obtain⟨fs,f,e1,e2,e3,by_,z,e4⟩:=oR ht hi;simp[execOp,h1.ev hx,Instr.field,underlying,e1,e2,asAgg,part,kX e4,e3,hv]
theorem Et {cs:Array Value} {vs:List Value} (ht:kW P t=some pl) (hi:pl[i]? =some (k,sz,false)) (hx:ev env x=some (.agg cs)) (hv:H7 cs k sz=some vs):bF P (.field t x i) ty n env Γ L (.agg vs.toArray):=
 fun X _ _ _ _ ac w H h1 h2 h3=>by
  obtain⟨fs,f,e1,e2,e3,by_,z,e4⟩:=oR ht hi
  have e:cs.extract k (k+sz)=vs.toArray:=by
   obtain⟨h4,h5⟩:=sQ hv;apply Array.ext';apply List.ext_getElem?;intro j;simp only[Array.toList_extract];rw[List.getElem?_take];split;rename_i hj;have hj':j<vs.length:=by omega
   have:=h5 j _ (List.getElem?_eq_getElem hj');simp[hj',<-this];rename_i hj;simp[List.getElem?_eq_none (l:=vs) (i:=j) (by omega)]
  simp[execOp,h1.ev hx,Instr.field,underlying,e1,e2,asAgg,part,kX e4,eA e4,e3,e]
end
theorem oT (hx:ev env x=some (.pointer (some a))):bF P (.nilCheck x) ty n env Γ L (.pointer (some a)):=
 fun _ _ _ _ _ ac w _ h1 _ _=>by simp[execOp,h1.ev hx]
theorem vK {vs:Array Value} {i:Nat} (hx:ev env x=some (.tuple vs)) (hv:vs[i]? =some v):bF P (.extract x i) ty n env Γ L v:=
 fun _ _ _ _ _ ac w _ h1 _ _=>by simp[execOp,h1.ev hx,Instr.extract,hv]
def Aq (env:Env):List (Nat×Operand)->Option (List (Nat×Value))
 | []=>some []
 | (i,x)::xs=>match ev env x,Aq env xs with
  |some v,some vs=>some ((i,v)::vs)
  |_,_=>none
theorem qO {ac:Act} (h:sP n env ac):∀{ps:List (Nat×Operand)} {vs:List (Nat×Value)},Aq env ps=some vs->ps.map (fun(i,x)=>(i,ac.eval x))=vs
 | [],vs,e=>by simp[Aq]at e;subst e;rfl
 | (i,x)::xs,vs,e=>by
  simp only[Aq]at e;split at e;rename_i v vs' h1 h2;simp at e;subst e;simp[h.ev h1,qO h h2]
  cases e
def lay (pl:List (Nat×Nat×Bool)) (cells:List Value):List (Nat×Value)->Option (List Value)
 | []=>some cells
 | (i,v)::rest=>match pl[i]? with
  |none=>none
  |some (off,size,_)=>bif Nat.beq v.cells.size size&&Nat.ble (off+v.cells.size) cells.length then lay pl (iR cells off v.cells.toList) rest else none
where
 iR:List Value->Nat->List Value->List Value
  |cs,_,[]=>cs
  |cs,k,v::vs=>iR (cs.set k v) (k+1) vs
theorem qP:∀(vs:List Value) (cs:List Value) (off k:Nat),
  (vs.zipIdx k).foldl (fun(cs:Array Value) (c,j)=>cs.setIfInBounds (off+j) c) cs.toArray=(lay.iR cs (off+k) vs).toArray
 | [],cs,off,k=>rfl
 |v::vs,cs,off,k=>by
  simp only[List.zipIdx_cons,List.foldl_cons,lay.iR,List.setIfInBounds_toArray];rw[qP vs];rfl
theorem yA {pl:List (Nat×Nat×Bool)}:∀{vs:List (Nat×Value)} {cells cs:List Value},lay pl cells vs=some cs->
  Instr.fill ((pl.map fun p=>(p.1,p.2.1)).toArray[·]?) cells.toArray vs=some cs.toArray
 | [],cells,cs,h=>by simp[lay]at h;subst h;rfl
 | (i,v)::rest,cells,cs,h=>by
  simp only[lay]at h
  cases hp:pl[i]? with
  |none=>rw[hp]at h;cases h
  |some p=>
   obtain⟨off,size,s⟩:=p;rw[hp]at h;simp only[cond_eq_ite,Bool.and_eq_true]at h;split at h;rename_i hc;have h1:=Nat.eq_of_beq_eq_true hc.1;have h2:=Nat.le_of_ble_eq_true hc.2;have h3:=qP v.cells.toList cells off 0;have h5:(pl.map fun p=>(p.1,p.2.1)).toArray[i]? =some (off,size):=by simp[hp]
   simp only[Instr.fill,h5];rw[if_neg (by simp;omega)]
   have h4:(v.cells.zipIdx.foldl (fun(cs:Array Value) (c,j)=>cs.setIfInBounds (off+j) c) cells.toArray)=(lay.iR cells off v.cells.toList).toArray:=by
    rw[<-Array.foldl_toList];simpa using h3
   rw[h4];exact yA h
   cases h
theorem lW {parts:List (Nat×Operand)} {vs:List (Nat×Value)} {pl:List (Nat×Nat×Bool)} {zc cs:List Value} (ht:dg P t=some (false,size,bytes,.agg zc.toArray)) (hs:kW P t=some pl)
  (hv:Aq env parts=some vs) (hc:lay pl zc vs=some cs):bF P (.build t parts.toArray) ty n env Γ L (.agg cs.toArray):=
 fun X _ _ _ _ ac w H h1 h2 h3=>by
  obtain⟨fs,e1,e2⟩:=tz hs;have e3:=run_places (P:=P) (w:=w) e2
  have e4:(fs.mapM fun f=>do pure (f.offset,<-sizeOf f.type):Sem (Array (Nat×Nat))).run P w= .ok (pl.map fun p=>(p.1,p.2.1)).toArray w:=by
   rw[Array.mapM_eq_mapM_toList];show Sem.run P (List.toArray <$> _) w=_;rw[map_eq_pure_bind,Sem.run_bind,e3];rfl
  have e5:(parts.toArray.map fun(i,x)=>(i,ac.eval x)).toList=vs:=by rw[Array.toList_map];exact qO h1 hv
  simp only[execOp,Instr.build,Sem.run_bind,nT ht,Result.andThen_ok,underlying,run_program,e1,Sem.run_pure,Value.cells];rw[e4];simp only[Result.andThen_ok,e5,yA hc,Sem.run_pure]
end quiet
end E
end Go.Proofs.YtcnohdmimheoaaaGreat
namespace Go.Proofs.YtcnohdmimheoaaaGreat

namespace E
open Go
section nums
variable {P:Program} {n:Nat} {env:Env} {Γ:List ag} {L:Loc} {ty t t':TypeId} {x y:Operand} {a b:Int} {k:IntKind}
theorem oI {z:Int} (h1: -9223372036854775808<=z) (h2:z<=9223372036854775807):IntKind.i64.wrap z=z:=IntWalk.i64_in z ⟨h1,h2⟩
section
variable (hx:ev env x=some (.int k a)) (hy:ev env y=some (.int k b))
include hx hy
theorem dY:bF P (.binOp .add t x y t') ty n env Γ L (.int k (k.wrap (a+b))):=
 fun _ _ _ _ _ ac w _ h1 _ _=>by simp[execOp,h1.ev hx,h1.ev hy,eqGuard,binOp,Op.intArith]
theorem As:bF P (.binOp .sub t x y t') ty n env Γ L (.int k (k.wrap (a-b))):=
 fun _ _ _ _ _ ac w _ h1 _ _=>by simp[execOp,h1.ev hx,h1.ev hy,eqGuard,binOp,Op.intArith]
theorem Au:bF P (.binOp .mul t x y t') ty n env Γ L (.int k (k.wrap (a*b))):=
 fun _ _ _ _ _ ac w _ h1 _ _=>by simp[execOp,h1.ev hx,h1.ev hy,eqGuard,binOp,Op.intArith]
end
section
variable (hx:ev env x=some (.int .i64 a)) (hy:ev env y=some (.int .i64 b))
include hx hy
theorem BI (h1: -9223372036854775808<=a+b) (h2:a+b<=9223372036854775807):bF P (.binOp .add t x y t') ty n env Γ L (.int .i64 (a+b)):=by
 have:=dY (P:=P) (n:=n) (ty:=ty) (t:=t) (t':=t') (Γ:=Γ) (L:=L) hx hy
 rwa [oI h1 h2]at this
theorem Kx (h1: -9223372036854775808<=a-b) (h2:a-b<=9223372036854775807):bF P (.binOp .sub t x y t') ty n env Γ L (.int .i64 (a-b)):=by
 have:=As (P:=P) (n:=n) (ty:=ty) (t:=t) (t':=t') (Γ:=Γ) (L:=L) hx hy
 rwa [oI h1 h2]at this
theorem Ny (h1: -9223372036854775808<=a*b) (h2:a*b<=9223372036854775807):bF P (.binOp .mul t x y t') ty n env Γ L (.int .i64 (a*b)):=by
 have:=Au (P:=P) (n:=n) (ty:=ty) (t:=t) (t':=t') (Γ:=Γ) (L:=L) hx hy
 rwa [oI h1 h2]at this
end
section
variable (hx:ev env x=some (.int k a)) (hy:ev env y=some (.int k b))
include hx hy
theorem Eu (hb:b≠0):bF P (.binOp .rem t x y t') ty n env Γ L (.int k (a.tmod b)):=
 fun _ _ _ _ _ ac w _ h1 _ _=>by simp[execOp,h1.ev hx,h1.ev hy,eqGuard,binOp,Op.intDiv,hb]
theorem Nz (hb:b≠0):bF P (.binOp .quo t x y t') ty n env Γ L (.int k (k.wrap (a.tdiv b))):=
 fun _ _ _ _ _ ac w _ h1 _ _=>by simp[execOp,h1.ev hx,h1.ev hy,eqGuard,binOp,Op.intDiv,hb]
theorem NA:bF P (.binOp .eql t x y t') ty n env Γ L (.bool (decide (a=b))):=
 fun _ _ _ _ _ ac w _ h1 _ _=>by
  simp only[execOp,h1.ev hx,h1.ev hy,eqGuard,binOp,Op.intCmp];simp;rfl
theorem NB:bF P (.binOp .neq t x y t') ty n env Γ L (.bool (decide (a≠b))):=
 fun _ _ _ _ _ ac w _ h1 _ _=>by
  simp only[execOp,h1.ev hx,h1.ev hy,eqGuard,binOp,Op.intCmp];simp[bne];rfl
theorem NC:bF P (.binOp .lss t x y t') ty n env Γ L (.bool (decide (a<b))):=
 fun _ _ _ _ _ ac w _ h1 _ _=>by simp[execOp,h1.ev hx,h1.ev hy,eqGuard,binOp,Op.intCmp]
theorem ND:bF P (.binOp .leq t x y t') ty n env Γ L (.bool (decide (a<=b))):=
 fun _ _ _ _ _ ac w _ h1 _ _=>by simp[execOp,h1.ev hx,h1.ev hy,eqGuard,binOp,Op.intCmp]
theorem NF:bF P (.binOp .gtr t x y t') ty n env Γ L (.bool (decide (b<a))):=
 fun _ _ _ _ _ ac w _ h1 _ _=>by simp[execOp,h1.ev hx,h1.ev hy,eqGuard,binOp,Op.intCmp]
theorem NG:bF P (.binOp .geq t x y t') ty n env Γ L (.bool (decide (b<=a))):=
 fun _ _ _ _ _ ac w _ h1 _ _=>by simp[execOp,h1.ev hx,h1.ev hy,eqGuard,binOp,Op.intCmp]
end
theorem NH {p:Bool} (hx:ev env x=some (.bool p)):bF P (.unOp .not t x) ty n env Γ L (.bool (!p)):=
 fun _ _ _ _ _ ac w _ h1 _ _=>by simp[execOp,h1.ev hx,Op.unary]
theorem nV {d d':TypeId} {sd:TypeDesc} (hs:P.underlying d=some sd) (hd:P.underlying d'=some (.int k)) {k':IntKind} (hx:ev env x=some (.int k' a)):bF P (.convert d d' x) ty n env Γ L (.int k (k.wrap a)):=
 fun _ _ _ _ _ ac w _ h1 _ _=>by simp[execOp,h1.ev hx,convert,underlying,hs,hd,Conv.intToInt]
section
variable {p q:Bool} (ht:P.underlying t=some .bool) (hx:ev env x=some (.bool p)) (hy:ev env y=some (.bool q))
include p q ht hx hy
theorem yB:bF P (.binOp .eql t x y t') ty n env Γ L (.bool (p==q)):=
 fun _ _ _ _ _ ac w _ h1 _ _=>by
  have:=run_equalIn_bool' (P:=P) w 9999 t p q ht;simp[execOp,h1.ev hx,h1.ev hy,eqGuard,binOp,Op.equal,Op.maxDepth,this]
theorem CZ:bF P (.binOp .neq t x y t') ty n env Γ L (.bool (!(p==q))):=
 fun _ _ _ _ _ ac w _ h1 _ _=>by
  have:=run_equalIn_bool' (P:=P) w 9999 t p q ht;simp[execOp,h1.ev hx,h1.ev hy,eqGuard,binOp,Op.equal,Op.maxDepth,this]
end
section
variable {k':IntKind} {ats:Array TypeId} (hx:ev env x=some (.int k a)) (hy:ev env y=some (.int k' b))
include k' ats hx hy
theorem pH:bF P (.call ⟨.builtin .max,#[x,y],ats⟩) ty n env Γ L (.int k (max a b)):=
 fun _ _ _ _ _ ac w _ h1 _ _=>by
  have:=Lib.run_max_ints (P:=P) w ats ty k k' a b;simp[execOp,resolve,invoke,builtin,h1.ev hx,h1.ev hy,this]
theorem rR:bF P (.call ⟨.builtin .min,#[x,y],ats⟩) ty n env Γ L (.int k (min a b)):=
 fun _ _ _ _ _ ac w _ h1 _ _=>by
  have:=Lib.run_min_ints (P:=P) w ats ty k k' a b;simp[execOp,resolve,invoke,builtin,h1.ev hx,h1.ev hy,this]
end
end nums
@[irreducible] def sl (a:Option Addr) (c k:Nat) (rows:List (List Value)):ag:=
  ⟨fun H=>rows.length<=c/\c<=maxLen/\(∀r∈rows,r.length=k)/\(rows=[]\/∃a',a=some a'/\a'.spot=none/\∃cs T z,H a'.block=some (.cells cs T z)/\∀i j v,(rows[i]?).bind (·[j]?)=some v->cs[a'.off+i*k+j]? =some v),
   fun _ _ h ⟨h1,h0,h2,h3⟩=>⟨h1,h0,h2,h3.imp id fun⟨a',e,s,cs,T,z,e',r⟩=>⟨a',e,s,cs,T,z,h _ _ e',r⟩⟩⟩
theorem fN {a:Option Addr} {c k:Nat} {rows:List (List Value)} {H:Hp}:(sl a c k rows).holds H<->
  rows.length<=c/\c<=maxLen/\(∀r∈rows,r.length=k)/\(rows=[]\/∃a',a=some a'/\a'.spot=none/\∃cs T z,H a'.block=some (.cells cs T z)/\∀i j v,(rows[i]?).bind (·[j]?)=some v->cs[a'.off+i*k+j]? =some v):=by
 unfold sl;rfl
def yC (a:Option Addr):Addr:=a.getD default
theorem dh {H:Hp} (c k:Nat) (a:Option Addr) (hc:c<=maxLen):(sl a c k []).holds H:=fN.2 ⟨Nat.zero_le _,hc,by simp,.inl rfl⟩
section slices
variable {P:Program} {n:Nat} {env:Env} {Γ:List ag} {L:Loc} {ty t e:TypeId} {x y:Operand} {a:Option Addr} {c k len:Nat} {rows:List (List Value)} {v:Value}
theorem nW {X:Cx} {w:World} {H:Hp} (h:(sl a c k rows).holds H) (h3:St X w H L) {i j:Nat} {r:List Value} (hr:rows[i]? =some r) (hv:r[j]? =some v):
  w.cell? (((yC a).add (i*k)).add j)=some v:=by
 obtain⟨_,_,_,h4⟩:=fN.1 h;rcases h4 with rfl| ⟨a',rfl,hs,cs,T,z,e,hk⟩;simp at hr;have:=hk i j v (by rw[hr];exact hv);show w.cell? ((a'.add (i*k)).add j)=some v;rw[cell_of (cs:=cs) (T:=T) (z:=z) (by rw[fe,fe];exact h3.sub _ _ e) (ft j (ft _ hs)),g8,g8];exact this
theorem Rd.sl {i j:Nat} {r:List Value} (h:E.sl a c k rows∈Γ) (hr:rows[i]? =some r) (hv:r[j]? =some v):Rd Γ L (((yC a).add (i*k)).add j) v:=
 fun _ _ _ h2 h3=>nW (ax.mem h h2) h3 hr hv
section
variable {i:Nat} {r:List Value} (h:E.sl a c k rows∈Γ) (hr:rows[i]? =some r)
include i r h hr
theorem Rd.kK (hv:r[0]? =some v):Rd Γ L ((yC a).add (i*k)) v:=
 fun _ _ _ h2 h3=>by simpa[Addr.add]using nW (ax.mem h h2) h3 hr hv
theorem fc.kK:fc Γ L ((yC a).add (i*k)) r:=
 fun _ _ _ h2 h3 _ _ hj=>nW (ax.mem h h2) h3 hr hj
end
theorem add_add {a:Addr} (hs:a.spot=none) (m j:Nat):(a.add m).add j=a.add (m+j):=by
 cases a
 simp at hs;subst hs;unfold Addr.add;split<;>split<;>split<;>simp_all<;>omega
theorem fc.sl {i m sz:Nat} {r vs:List Value} (h:E.sl a c k rows∈Γ) (hr:rows[i]? =some r) (hv:Es r m sz=vs):fc Γ L (((yC a).add (i*k)).add m) vs:=
 fun _ _ H h2 h3 j v hj=>by
  have hv':r[m+j]? =some v:=by
   subst hv;unfold Es at hj;rw[List.getElem?_take]at hj;split at hj;simpa using hj
   cases hj
  have h4:=nW (ax.mem h h2) h3 hr hv';obtain⟨_,_,_,h5⟩:=fN.1 (ax.mem h h2);rcases h5 with rfl| ⟨a',rfl,hs,_⟩;simp at hr;show World.cell? _ (((a'.add (i*k)).add m).add j)=some v;rw[add_add (ft _ hs)];exact h4
theorem kY {cap:Nat} (ht:P.underlying t=some (.slice e)) (hx:ev env x=some (.slice a len cap)):bF P (.call ⟨.builtin .len,#[x],#[t]⟩) ty n env Γ L (.int .i64 len):=
 fun _ _ _ _ _ ac w _ h1 _ _=>by simp[execOp,resolve,invoke,builtin,Builtin.len_,h1.ev hx,underlying,ht,goInt]
theorem oU {a:Addr} {ki:IntKind} {z:Int} {i len cap sz by_:Nat} {sc:Bool} {zero:Value} (ht:P.underlying t=some (.slice e)) (he:dg P e=some (sc,sz,by_,zero))
  (hx:ev env x=some (.slice (some a) len cap)) (hy:ev env y=some (.int ki z)) (hz:z=(i:Int)) (hi:i<len):
  bF P (.indexAddr t x y) ty n env Γ L (.pointer (some (a.add (i*sz)))):=
 fun X _ _ _ _ ac w H h1 h2 h3=>by
  subst hz;have h0:(0:Int)<=(i:Int)/\(i:Int)<(len:Int):=⟨by omega,by omega⟩;simp[execOp,h1.ev hx,h1.ev hy,Instr.indexAt,asIntOf,underlying,ht,hi,eA he]
theorem bD {ki:IntKind} {z:Int} {i cap sz by_:Nat} {sc:Bool} {zero:Value} (ht:P.underlying t=some (.slice e)) (he:dg P e=some (sc,sz,by_,zero))
  (hx:ev env x=some (.slice a len cap)) (hs:E.sl a c sz rows∈Γ) (hl:len=rows.length) (hy:ev env y=some (.int ki z)) (hz:z=(i:Int)) (hi:i<len):
  bF P (.indexAddr t x y) ty n env Γ L (.pointer (some ((yC a).add (i*sz)))):=
 fun X d pos aft g ac w H h1 h2 h3=>by
  obtain⟨_,_,_,h4⟩:=fN.1 (ax.mem hs h2);rcases h4 with h5| ⟨a',ha,_⟩;subst hl;simp[h5]at hi;subst ha;exact oU (L:=L) ht he hx hy hz hi X d pos aft g ac w H h1 h2 h3
def bQ (a:Option Addr) (c k l:Nat):Option Addr:=if c=l then a else a.map (·.add (l*k))
theorem oV {H:Hp} {l h:Nat} (hs:(sl a c k rows).holds H) (hl:l<=h) (hh:h<=rows.length):(sl (bQ a c k l) (c-l) k ((rows.drop l).take (h-l))).holds H:=by
 obtain⟨h1,h0,h2,h3⟩:=fN.1 hs;refine fN.2 ⟨by simp;omega,by omega,fun r hr=>h2 r (List.mem_of_mem_drop (List.mem_of_mem_take hr)),?_⟩;by_cases he:c=l;left;have:h-l=0:=by omega
 simp[this];rcases h3 with rfl| ⟨a',rfl,hsp,cs,T,z,e,hk⟩;left;simp;right;refine⟨a'.add (l*k),by simp[bQ,he],ft _ hsp,cs,T,z,by rw[fe];exact e,fun i j v hv=>?_⟩;rw[g8]
 have:(rows[l+i]?).bind (·[j]?)=some v:=by
  rw[List.getElem?_take]at hv;split at hv;simpa using hv
  cases hv
 have:=hk (l+i) j v this;rw[Nat.add_mul]at this;rw[show a'.off+l*k+i*k+j=a'.off+(l*k+i*k)+j by omega];exact this
theorem vL {P:Program} {ki:IntKind} {z:Int} {y i:Nat} {code:BoundsCode} (w:World) (hz:z=(i:Int)) (hi:i<=y):(Instr.sliceBound (.int ki z) y code).run P w= .ok i w:=by
 subst hz;simp[Instr.sliceBound,asIntOf,hi]
theorem ga {ko:IntKind} {zl:Int} {l sz by_:Nat} {sc:Bool} {zero:Value} {lo:Operand} (ht:P.underlying t=some (.slice e)) (he:dg P e=some (sc,sz,by_,zero))
  (hx:ev env x=some (.slice a len c)) (hlo:ev env lo=some (.int ko zl)) (hzl:zl=(l:Int)) (hl:l<=len):
  bF P (.slice t x (some lo) none none) ty n env Γ L (.slice (bQ a c sz l) (len-l) (c-l)):=
 fun X _ _ _ _ ac w H h1 h2 h3=>by
  simp[execOp,h1.ev hx,h1.ev hlo,Instr.sliceAt,Instr.slice,underlying,ht,Instr.sliceBounds,vL w hzl hl,eA he,bQ]
theorem dj {kh:IntKind} {zh:Int} {h sz by_:Nat} {sc:Bool} {zero:Value} {hi:Operand} (ht:P.underlying t=some (.slice e)) (he:dg P e=some (sc,sz,by_,zero))
  (hx:ev env x=some (.slice a len c)) (hhi:ev env hi=some (.int kh zh)) (hzh:zh=(h:Int)) (hh:h<=c):
  bF P (.slice t x none (some hi) none) ty n env Γ L (.slice (bQ a c sz 0) h c):=
 fun X _ _ _ _ ac w H h1 h2 h3=>by
  have h0:bQ a c sz 0=if c=0 then a else a.map (·.add 0):=by simp[bQ]
  simp[execOp,h1.ev hx,h1.ev hhi,Instr.sliceAt,Instr.slice,underlying,ht,Instr.sliceBounds,vL w hzh hh,eA he,h0]
end slices
section eJ
variable {P:Program} {n:Nat} {env:Env} {Γ:List ag} {L:Loc} {ty t e:TypeId} {x y:Operand} {v:Value}
section
variable {op:Op} {R:Value->List ag->Loc->Prop}
include op R
theorem dN.mz (h:∀X d pos aft g a w H,sP n env a->ax Γ H->St X w H L->∃v w' H' Γ' L',(execOp a.eval ⟨d,op,ty,pos,aft,g⟩).run P w= .ok (.value v) w'/\R v Γ' L'/\H.le H'/\ax Γ' H'/\St X w' H' L'):
  dN P op ty n env Γ L R:=fun X d pos aft g a w H h1 h2 h3 K Q hk=>by
 obtain⟨v,w',H',Γ',L',e,hr,h4,h5,h6⟩:=h X d pos aft g a w H h1 h2 h3;unfold Oper.wp;rw[e];exact hk v Γ' L' w' H' hr h4 h5 h6
theorem dN.Ew (h:∀X d pos aft g a w H,sP n env a->ax Γ H->St X w H L->∃w' H' Γ' L',(execOp a.eval ⟨d,op,ty,pos,aft,g⟩).run P w= .ok .skip w'/\R undef Γ' L'/\H.le H'/\ax Γ' H'/\St X w' H' L'):
  dN P op ty n env Γ L R:=fun X d pos aft g a w H h1 h2 h3 K Q hk=>by
 obtain⟨w',H',Γ',L',e,hr,h4,h5,h6⟩:=h X d pos aft g a w H h1 h2 h3;unfold Oper.wp;rw[e];exact hk undef Γ' L' w' H' hr h4 h5 h6
end
def Vy (Γ:List ag) (L:Loc) (t:TypeId) (cs:Array Value):Value->List ag->Loc->Prop:=
 fun v Γ' L'=>∃b,v= .pointer (some ⟨b,0,none⟩)/\Γ'=Γ/\L'=[(b,.cells cs t (0,0))]::L
theorem iP {sc:Bool} {size bytes:Nat} {zero:Value} (ht:dg P t=some (sc,size,bytes,zero)):dN P (.alloc t) ty n env Γ L (Vy Γ L t zero.cells):=
 dN.mz fun X d pos aft g a w H h1 h2 h3=>by
  refine⟨_,_,H,Γ,_,?_,⟨w.heap.size,rfl,rfl,rfl⟩,Hp.le_refl H,h2,h3.push _⟩;simp[execOp,Instr.alloc,nT ht,newVar,newRow,newObj,Sem.run]
theorem tE (hx:ev env x=some v):dN P (.box t x) ty n env Γ L (Vy Γ L t v.cells):=
 dN.mz fun X d pos aft g a w H h1 h2 h3=>by
  refine⟨_,_,H,Γ,_,?_,⟨w.heap.size,rfl,rfl,rfl⟩,Hp.le_refl H,h2,h3.push _⟩;simp[execOp,Instr.box,h1.ev hx,newVar,newRow,newObj,Sem.run]
def pC (cs:List Value) (k:Nat) (vs:List Value):List Value:=cs.take k++vs++cs.drop (k+vs.length)
theorem aw {sc:Bool} {size bytes b k i:Nat} {zero:Value} {cs:List Value} {T:TypeId} (ht:dg P t=some (sc,size,bytes,zero)) (hx:ev env x=some (.pointer (some ⟨b,k,none⟩))) (hy:ev env y=some v)
  (hL:L[i]? =some [(b,.cells cs.toArray T (0,0))]) (hs:Nat.beq v.cells.size size=true) (hfit:Nat.ble (k+v.cells.size) cs.length=true) (h1:v.cells.toList.all Value.oneCell'=true):
  dN P (.store t x y) ty n env Γ L (fun _ Γ' L'=>Γ'=Γ/\L'=L.set i [(b,.cells (pC cs k v.cells.toList).toArray T (0,0))]):=
 dN.Ew fun X d pos aft g a w H h1' h2 h3=>by
  have hf:=h3.front hL;have hg:w.heap[b]? =some (.cells cs.toArray T (0,0)):=hf.loc (b,_) (List.mem_cons_self ..);have hst:=run_storeCells_at P b k T v.cells.toList 0 cs.toArray w hg (by have:=Nat.le_of_ble_eq_true hfit;simpa using this) (List.all_eq_true.1 h1);refine⟨_,H,Γ,_,?_,⟨rfl,rfl⟩,Hp.le_refl H,h2,St.back [(b,.cells (pC cs k v.cells.toList).toArray T (0,0))] hL (hf.set (w':=w.setRow b (pC cs k v.cells.toList).toArray) rfl rfl rfl (setRow_heap w b cs.toArray _ T (0,0) hg) fun c hc=>setRow_other w b c _ hc)⟩;have hs':=Nat.eq_of_beq_eq_true hs;simp[execOp,h1'.ev hx,h1'.ev hy,Instr.storeAt,Instr.sureAddr,storeVar,eA ht,hs',hst,pC]
theorem tF {len size:Nat}:∀{vs:List (Nat×Value)} {cells cs:List Value},lay ((List.range len).map fun i=>(i*size,size,true)) cells vs=some cs->
  Instr.fill (fun i=>some (i*size,size)) cells.toArray vs=some cs.toArray
 | [],cells,cs,h=>by simp[lay]at h;subst h;rfl
 | (i,v)::rest,cells,cs,h=>by
  simp only[lay]at h
  cases hp:((List.range len).map fun i=>(i*size,size,true))[i]? with
  |none=>rw[hp]at h;cases h
  |some p=>
   have hp':p=(i*size,size,true):=by
    rw[List.getElem?_map]at hp;by_cases hi:i<len;rw[List.getElem?_range hi]at hp;simpa using hp.symm;simp[List.getElem?_eq_none (l:=List.range len) (i:=i) (by simp;omega)]at hp
   rw[hp,hp']at h;simp only[cond_eq_ite,Bool.and_eq_true]at h;split at h;rename_i hc;have h1:=Nat.eq_of_beq_eq_true hc.1;have h2:=Nat.le_of_ble_eq_true hc.2;have h3:=qP v.cells.toList cells (i*size) 0;simp only[Instr.fill];rw[if_neg (by simp;omega)]
   have h4:(v.cells.zipIdx.foldl (fun(cs:Array Value) (c,j)=>cs.setIfInBounds (i*size+j) c) cells.toArray)=(lay.iR cells (i*size) v.cells.toList).toArray:=by
    rw[<-Array.foldl_toList];simpa using h3
   rw[h4];exact tF h
   cases h
theorem yD {z:Array Value} {len size:Nat} (hs:z.size=size):
  (Array.range (len*size)).map (z[·%z.size]!)=((List.replicate len z.toList).flatten).toArray:=by
 subst hs;apply Array.ext';apply List.ext_getElem?;intro i
 have hfl:∀len:Nat,((List.replicate len z.toList).flatten).length=len*z.size:=by
  intro len
  induction len with
  |zero=>simp
  |succ n ih=>simp only[List.replicate_succ,List.flatten_cons,List.length_append,ih,Array.length_toList,Nat.add_mul];omega
 by_cases hi:i<len*z.size
 have hz:0<z.size:=by
  rcases Nat.eq_zero_or_pos z.size with h|h;rw[h]at hi;simp at hi;exact h
 have hm:i%z.size<z.size:=Nat.mod_lt _ hz
 have hg:∀(len i:Nat),i<len*z.size->((List.replicate len z.toList).flatten)[i]? =z.toList[i%z.size]? :=by
  intro len
  induction len with
  |zero=>intro i h;simp at h
  |succ n ih=>
   intro i h;rw[List.replicate_succ,List.flatten_cons];by_cases hlt:i<z.size;rw[List.getElem?_append_left (by simpa using hlt),Nat.mod_eq_of_lt hlt];have hge:z.size<=i:=by omega
   rw[List.getElem?_append_right (by simpa using hge)]
   have hsub:i-z.toList.length<n*z.size:=by
    rw[Nat.succ_mul]at h;simp;omega
   rw[ih _ hsub,Array.length_toList,<-Nat.mod_eq_sub_mod hge]
 rw[hg len i hi];simp[hi,hm];rw[List.getElem?_eq_none (by simp;omega),List.getElem?_eq_none (by rw[hfl];omega)]
theorem pI {sc:Bool} {len size bytes:Nat} {zero:Value} {parts:List (Nat×Operand)} {vs:List (Nat×Value)} {flat:List Value} (ht:P.underlying t=some (.slice e)) (he:dg P e=some (sc,size,bytes,zero))
  (hv:Aq env parts=some vs) (hzs:Nat.beq zero.cells.size size=true) (hsm:Nat.ble (len*size) 16777216=true) (hne:Nat.beq (len*size) 0=false)
  (hc:lay ((List.range len).map fun i=>(i*size,size,true)) ((List.replicate len zero.cells.toList).flatten) vs=some flat):
  dN P (.buildSlice t len parts.toArray) ty n env Γ L (fun v Γ' L'=>∃b,v= .slice (some ⟨b,0,none⟩) len len/\Γ'=Γ/\L'=[(b,.cells flat.toArray e (0,0))]::L):=
 dN.mz fun X d pos aft g a w H h1 h2 h3=>by
  refine⟨_,_,H,Γ,_,?_,⟨w.heap.size,rfl,rfl,rfl⟩,Hp.le_refl H,h2,h3.push _⟩;have h5:(parts.toArray.map fun(i,x)=>(i,a.eval x)).toList=vs:=by rw[Array.toList_map];exact qO h1 hv
  have h6:¬(len*size>2^24):=by have:=Nat.le_of_ble_eq_true hsm;omega
  have h7:¬(len*size=0):=fun h=>by rw[h]at hne;simp at hne
  have h8:=tF hc;have hz:=yD (z:=zero.cells) (len:=len) (Nat.eq_of_beq_eq_true hzs);simp only[execOp,Instr.buildSlice,Sem.run_bind,underlying,run_program,Result.andThen_ok,ht,Sem.run_pure,eA he,h6,h7,if_false,nT he,h5,hz];rw[h8];simp[newRow,newObj,Sem.run]
end eJ
end E
end Go.Proofs.YtcnohdmimheoaaaGreat
namespace Go.Proofs.YtcnohdmimheoaaaGreat

namespace E
open Go
def bR (T:TypeId) (k:Nat) (rows:List (List Value)) (a:Option Addr) (c:Nat) (M:aO):Prop:=
 (∀r∈rows,r.length=k)/\((a=none/\c=0/\rows=[]/\M=[])\/
  ∃g cur,a=some ⟨g,0,none⟩/\M=[(g,.cells cur T (0,0))]/\rows.length<=c/\c<=maxLen/\cur.size=c*k/\cur.toList.take (rows.length*k)=rows.flatten)
theorem bR.nil (T:TypeId) (k:Nat):bR T k [] none 0 []:=⟨by simp,.inl ⟨rfl,rfl,rfl,rfl⟩⟩
theorem gJ {k:Nat}:∀{rows:List (List Value)},(∀r∈rows,r.length=k)->rows.flatten.length=rows.length*k
 | [],_=>by simp
 |r::rows,h=>by
  have h1:=h r (by simp);have h2:=gJ (k:=k) (rows:=rows) fun r hr=>h r (List.mem_cons_of_mem _ hr);simp only[List.flatten_cons,List.length_append,h1,h2,List.length_cons,Nat.add_mul];omega
theorem iS {k:Nat}:∀{rows:List (List Value)} {i j:Nat} {r:List Value} {v:Value},(∀r∈rows,r.length=k)->rows[i]? =some r->r[j]? =some v->rows.flatten[i*k+j]? =some v
 | [],i,j,r,v,_,h,_=>by simp at h
 |r'::rows,0,j,r,v,hk,h,hv=>by
  simp at h;subst h
  have hj:j<r'.length:=by
   rcases Nat.lt_or_ge j r'.length with h'|h';exact h';simp[List.getElem?_eq_none h']at hv
  simp[List.getElem?_append_left hj,hv]
 |r'::rows,i+1,j,r,v,hk,h,hv=>by
  have h1:=hk r' (by simp);have ih:=iS (k:=k) (rows:=rows) (i:=i) (j:=j) (r:=r) (v:=v) (fun r hr=>hk r (List.mem_cons_of_mem _ hr)) (by simpa using h) hv;rw[List.flatten_cons,List.getElem?_append_right (by rw[h1,Nat.add_mul];omega),h1,Nat.add_mul];rw[show i*k+1*k+j-k=i*k+j by omega];exact ih
section own
variable {P:Program} {n:Nat} {env:Env} {Γ:List ag} {L:Loc} {ty t T:TypeId} {x y:Operand} {v:Value} {a:Option Addr} {c k i:Nat} {rows:List (List Value)} {M:aO}
theorem bR.cell {X:Cx} {w:World} {H:Hp} (h:bR T k rows a c M) (hL:L[i]? =some M) (h3:St X w H L) {p j:Nat} {r:List Value} (hr:rows[p]? =some r) (hv:r[j]? =some v):
  w.cell? (((yC a).add (p*k)).add j)=some v:=by
 obtain⟨hk,hM⟩:=h;rcases hM with⟨_,_,rfl,_⟩| ⟨g,cur,rfl,rfl,_,_,hs,ht⟩;simp at hr;show w.cell? (((⟨g,0,none⟩:Addr).add (p*k)).add j)=some v;have hg:w.heap[g]? =some (.cells cur T (0,0)):=h3.mem (List.mem_of_getElem? hL) (List.mem_singleton.2 rfl);rw[cell_of (cs:=cur) (T:=T) (z:=(0,0)) (by rw[fe,fe];exact hg) (ft j (ft _ rfl)),g8,g8];have:=iS hk hr hv;rw[<-ht,List.getElem?_take]at this;split at this;simpa using this
 cases this
theorem Rd.own {p j:Nat} {r:List Value} (h:bR T k rows a c M) (hL:L[i]? =some M) (hr:rows[p]? =some r) (hv:r[j]? =some v):Rd Γ L (((yC a).add (p*k)).add j) v:=
 fun _ _ _ _ h3=>h.cell hL h3 hr hv
section
variable {p:Nat} {r:List Value} (h:bR T k rows a c M) (hL:L[i]? =some M) (hr:rows[p]? =some r)
include p r h hL hr
theorem Rd.tG (hv:r[0]? =some v):Rd Γ L ((yC a).add (p*k)) v:=
 fun _ _ _ _ h3=>by simpa[Addr.add]using h.cell hL h3 hr hv
theorem fc.tG:fc Γ L ((yC a).add (p*k)) r:=
 fun _ _ _ _ h3 _ _ hj=>h.cell hL h3 hr hj
end
theorem cA {ki:IntKind} {z:Int} {p len sz by_:Nat} {sc:Bool} {zero:Value} {e:TypeId} (ht:P.underlying t=some (.slice e)) (he:dg P e=some (sc,sz,by_,zero))
  (hx:ev env x=some (.slice a len c)) (hs:bR T sz rows a c M) (hl:len=rows.length) (hy:ev env y=some (.int ki z)) (hz:z=(p:Int)) (hp:p<len):
  bF P (.indexAddr t x y) ty n env Γ L (.pointer (some ((yC a).add (p*sz)))):=by
 obtain⟨_,hM⟩:=hs;rcases hM with⟨_,_,rfl,_⟩| ⟨g,cur,rfl,rfl,_⟩;subst hl;simp at hp;exact oU ht he hx hy hz hp
theorem bR.frozen {X:Cx} {w:World} {H:Hp} (h:bR T k rows a c M) (hL:L[i]? =some M) (h3:St X w H L):
  ∃H',St X w H' (L.eraseIdx i)/\H.le H'/\(sl a c k rows).holds H':=by
 obtain⟨hk,hM⟩:=h;rcases hM with⟨rfl,rfl,rfl,rfl⟩| ⟨g,cur,rfl,rfl,h5,h50,hs,ht⟩;refine⟨H,h3.drop (List.eraseIdx_sublist L i),Hp.le_refl H,dh _ _ _ (Nat.zero_le _)⟩;obtain⟨h6,h7⟩:=h3.freeze hL;refine⟨_,h6,h7,fN.2 ⟨h5,h50,hk,.inr ⟨_,rfl,rfl,cur,T,(0,0),Hp.jA H g _,fun p j v hv=>?_⟩⟩⟩
 cases hr:rows[p]? with
 |none=>rw[hr]at hv;cases hv
 |some r=>
  rw[hr]at hv;have:=iS hk hr hv;rw[<-ht,List.getElem?_take]at this;split at this;simpa using this
  cases this
theorem At.da {X:Cx} {K:Act->World->Prop} (i:Nat) (h:bR T k rows a c M) (hL:L[i]? =some M) (hk:At X n K env (sl a c k rows::Γ) (L.eraseIdx i)):At X n K env Γ L:=
 fun ac w H h1 h2 h3=>by
  obtain⟨H',h4,h5,h6⟩:=h.frozen hL h3;exact hk ac w H' h1 ⟨h6,h2.mono h5⟩ h4
theorem dk {e:TypeId} {sc:Bool} {size bytes m len c':Nat} {zero:Value} {ats:Array TypeId} {a':Addr} {news:List (List Value)} (hats:ats= #[t,t]) (ht:P.underlying t=some (.slice e)) (he:dg P e=some (sc,size,bytes,zero))
  (hx:ev env x=some (.slice a len c)) (hy:ev env y=some (.slice (some a') m c')) (hs:bR e size rows a c M) (hl:len=rows.length) (hL:L[i]? =some M)
  (hm:news.length=m) (hn:∀r∈news,r.length=size) (hsrc:fc Γ L a' news.flatten) (h1:news.flatten.all Value.oneCell'=true) (hz:Nat.beq zero.cells.size size=true) (hpos:Nat.blt 0 size=true)
  (hb:(len+m)*bytes<=140737488355328) (hb':len+m<=maxLen):
  dN P (.call ⟨.builtin .append,#[x,y],ats⟩) ty n env Γ L (fun v Γ' L'=>∃a₂ c₂ M₂,v= .slice a₂ (len+m) c₂/\bR e size (rows++news) a₂ c₂ M₂/\Γ'=Γ/\L'=L.set i M₂):=
 dN.mz fun X d pos aft g ac w H k1 k2 k3=>by
  subst hats;subst hl;obtain⟨td,inf,e1,e2,_,e3,e4,e5⟩:=fk he;have hz':=Nat.eq_of_beq_eq_true hz;have hpos':0<size:=by simpa[Nat.blt_eq]using hpos
  have hfl:news.flatten.length=m*size:=by rw[gJ hn,hm]
  have hall:=List.all_eq_true.1 h1;have hsmall:rows.length+m<=9223372036854775807:=by simp only[maxLen]at hb';omega
  obtain⟨hk,hM⟩:=hs;have hk2:∀r∈rows++news,r.length=size:=fun r hr=>(List.mem_append.1 hr).elim (hk r) (hn r)
  have hexec:∀{v w'},(Builtin.append_ #[t,t] ty #[.slice a rows.length c,.slice (some a') m c']).run P w= .ok v w'->
    (execOp ac.eval ⟨d,.call ⟨.builtin .append,#[x,y],#[t,t]⟩,ty,pos,aft,g⟩).run P w= .ok (.value v) w':=fun h=>by
   simp[execOp,resolve,invoke,builtin,k1.ev hx,k1.ev hy,h]
  subst e3;subst e4
  have grown:∀(bZ:Nat) (olds:List Value),olds.length=rows.length*inf.size->olds=rows.flatten->∀(R:aO),pB X w H R->
    ∃M₂,bR e inf.size (rows++news) (some ⟨w.heap.size,0,none⟩) (grownCap w (rows.length+m) bZ e) M₂/\
     pB X (w.drew.alloc (.cells (olds.toArray++news.flatten.toArray++Builtin.zeroCells zero.cells (grownCap w (rows.length+m) bZ e-(rows.length+m))) e)) H (M₂++R):=by
   intro bZ olds ho1 ho2 R hR;have hge:=grownCap_ge w (rows.length+m) bZ e;have hcm:=grownCap_le_maxLen w (rows.length+m) bZ e hb';refine⟨[(w.heap.size,.cells (olds.toArray++news.flatten.toArray++Builtin.zeroCells zero.cells (grownCap w (rows.length+m) bZ e-(rows.length+m))) e (0,0))],⟨hk2,.inr ⟨_,_,rfl,rfl,by simpa[hm]using hge,hcm,?_,?_⟩⟩,(hR.drawn (w.drawn+1)).push _⟩;simp only[Array.size_append,List.size_toArray,size_zeroCells,hz',ho1,hfl,<-Nat.add_mul];congr 1;omega;have hlen:(rows++news).length*inf.size=(olds++news.flatten).length:=by rw[List.length_append,List.length_append,ho1,hfl,hm,Nat.add_mul]
   simp only[Array.toList_append,List.append_assoc];rw[<-List.append_assoc,hlen,List.take_left,ho2,List.flatten_append]
  rcases hM with⟨rfl,rfl,rfl,rfl⟩| ⟨b,cur,rfl,rfl,h5,h6,h7,h8⟩;by_cases hm0:m=0;subst hm0;have hnn:news=[]:=List.eq_nil_of_length_eq_zero hm;subst hnn;refine⟨.slice none 0 0,w,H,Γ,_,hexec ?_,⟨none,0,[],rfl,bR.nil _ _,rfl,rfl⟩,Hp.le_refl H,k2,?_⟩;simp[Builtin.append_,run_underlying ht,sizeOf,typeInfo,e2,Builtin.lenOf,Builtin.firstCells,loadCells,loadCellsFrom];exact St.back [] hL (k3.front hL);have hr:=run_append_nil (P:=P) w t ty e inf zero ht e2 e5 a' m c' news.flatten hfl (hsrc X w H k2 k3) (by omega) (by simp at hsmall;omega) (by simp at hb;omega);obtain⟨M₂,g1,g2⟩:=grown 0 [] (by simp) (by simp) _ (k3.front hL);simp only[List.length_nil,Nat.zero_add]at g1 g2⊢;refine⟨_,_,H,Γ,_,hexec hr,⟨_,_,M₂,rfl,g1,rfl,rfl⟩,Hp.le_refl H,k2,St.back M₂ hL ?_⟩;simpa using g2;have hg:w.heap[b]? =some (.cells cur e (0,0)):=k3.mem (List.mem_of_getElem? hL) (List.mem_singleton.2 rfl);have hol:rows.flatten.length=rows.length*inf.size:=gJ hk;by_cases hroom:rows.length+m<=c;have hfit:rows.length*inf.size+news.flatten.length<=cur.size:=by rw[hfl,h7,<-Nat.add_mul];exact Nat.mul_le_mul_right _ hroom
  have hr:=run_append_room (P:=P) w t ty e inf ht e2 b rows.length c cur hg a' m c' news.flatten hfl (hsrc X w H k2 k3) hall hroom hfit;refine⟨_,_,H,Γ,_,hexec hr,⟨_,_,[(b,.cells (cur.toList.take (rows.length*inf.size)++news.flatten++cur.toList.drop (rows.length*inf.size+news.flatten.length)).toArray e (0,0))],rfl,⟨hk2,.inr ⟨b,_,rfl,rfl,by simpa[hm]using hroom,h6,?_,?_⟩⟩,rfl,rfl⟩,Hp.le_refl H,k2,?_⟩;simp only[List.size_toArray,List.length_append,List.length_take,List.length_drop,Array.length_toList];omega;have hlen:(rows++news).length*inf.size=(rows.flatten++news.flatten).length:=by rw[List.length_append,List.length_append,hol,hfl,hm,Nat.add_mul]
  rw[h8,hlen,List.take_left,List.flatten_append];exact St.back _ hL ((k3.front hL).set rfl rfl rfl (setRow_heap w b cur _ e (0,0) hg) fun c hc=>setRow_other w b c _ hc)
  have holds:∀j u,rows.flatten[j]? =some u->w.cell? ((⟨b,0,none⟩:Addr).add j)=some u:=fun j u hu=>by
   rw[cell_of (cs:=cur) (T:=e) (z:=(0,0)) (by rw[fe];exact hg) (ft j rfl),g8];rw[<-h8,List.getElem?_take]at hu;split at hu;simpa using hu
   cases hu
  have hr:=run_append_grow (P:=P) w t ty e inf zero ht e2 e5 ⟨b,0,none⟩ rows.length c rows.flatten hol holds a' m c' news.flatten hfl (hsrc X w H k2 k3) (by omega) (by omega) (growslice_fits (by omega) hb);have hR:pB X w H (L.eraseIdx i).flatten:=(k3.front hL).drop (by simp);obtain⟨M₂,g1,g2⟩:=grown c rows.flatten hol rfl _ hR;exact⟨_,_,H,Γ,_,hexec hr,⟨_,_,M₂,rfl,g1,rfl,rfl⟩,Hp.le_refl H,k2,St.back M₂ hL g2⟩
end own
section calls
variable {P:Program} {n:Nat} {env:Env} {Γ:List ag} {L:Loc} {ty:TypeId}
def ah (P:Program) (f:FuncId):Prop:=∀args w,(callFunc f args).run P w= .ok (.enter f args) w
theorem ah.mk' {f:FuncId} {fn:Func} {c:Code} (hf:P.funcs[f]? =some fn) (hb:fn.body=some c) (hn:(fn.name== "runtime.NumGoroutine")=false):ah P f:=fun args w=>by
 simp only[callFunc,Sem.run_bind,run_program,Result.andThen_ok,hf,hn,Bool.false_eq_true,if_false,hb,Option.isNone_some];rfl
theorem vM {f:FuncId} {args:List Value} {pre:List ag} {M L0:Loc} {R:Value->List ag->Loc->Prop} {X:Cx} {w:World} {H:Hp} {a:Act} {o:Oper} {K:Act->World->Prop} {Q:Exit->Act->World->Prop}
  (he:(execOp a.eval o).run P w= .ok (.enter f args.toArray) w) (c:aN P f args pre M R) (hp:ax pre H) (hΓ:ax Γ H) (hs:St X w H (M++L0))
  (hk:∀v Γ' M' w' H',R v Γ' M'->H.le H'->ax (Γ'++Γ) H'->St X w' H' (M'++L0)->K (a.put o.dst v) w'):o.wp P a w K Q:=by
 unfold Oper.wp;rw[he];refine(c X w H L0 hp hs).mono ?_;rintro e w' ⟨v,Γ',M',H',rfl,h1,h2,h3,h4⟩;exact hk v Γ' M' w' H' h1 h2 (h3.app (hΓ.mono h2)) h4
def Left (Γ:List ag) (L0:Loc) (R:Value->List ag->Loc->Prop):Value->List ag->Loc->Prop:=
 fun v Γ' L'=>∃Γr Mr,R v Γr Mr/\Γ'=Γr++Γ/\L'=Mr++L0
theorem wR {f:FuncId} {args:List Operand} {vs:List Value} {ats:Array TypeId} {pre:List ag} {M L0:Loc} {R:Value->List ag->Loc->Prop} (hf:ah P f) (ha:pF env args=some vs)
  (c:aN P f vs pre M R) (hp:∀H,ax Γ H->ax pre H) (hL:(M++L0).Perm L):dN P (.call ⟨.value (.func f),args.toArray,ats⟩) ty n env Γ L (Left Γ L0 R):=
 fun X d pos aft g a w H h1 h2 h3 K Q hk=>by
  refine vM (Γ:=Γ) (L0:=L0) ?_ c (hp H h2) h2 (h3.perm hL) fun v Γ' M' w' H' k1 k2 k3 k4=>hk v _ _ w' H' ⟨Γ',M',k1,rfl,rfl⟩ k2 k3 k4;have:=h1.pF ha;have e:(args.toArray.map a.eval)=vs.toArray:=by simp[this]
  simp only[execOp,resolve,Sem.run_bind,e];show Result.andThen (Sem.run P (Deferred.ofValue (.func (.func f) #[] #[]) vs.toArray) w) _=_;simp[Deferred.ofValue,invoke];exact hf _ w
theorem Io {f:FuncId} {x:Operand} {first captured:Array Value} {args:List Operand} {vs:List Value} {ats:Array TypeId} {pre:List ag} {M L0:Loc} {R:Value->List ag->Loc->Prop} {all:List Value} (hf:ah P f)
  (hx:ev env x=some (.func (.func f) first captured)) (ha:pF env args=some vs) (hall:first++vs.toArray++captured=all.toArray)
  (c:aN P f all pre M R) (hp:∀H,ax Γ H->ax pre H) (hL:(M++L0).Perm L):dN P (.call ⟨.value x,args.toArray,ats⟩) ty n env Γ L (Left Γ L0 R):=
 fun X d pos aft g a w H h1 h2 h3 K Q hk=>by
  refine vM (Γ:=Γ) (L0:=L0) ?_ c (hp H h2) h2 (h3.perm hL) fun v Γ' M' w' H' k1 k2 k3 k4=>hk v _ _ w' H' ⟨Γ',M',k1,rfl,rfl⟩ k2 k3 k4;have:=h1.pF ha;have e:(args.toArray.map a.eval)=vs.toArray:=by simp[this]
  simp only[execOp,resolve,Sem.run_bind,e,h1.ev hx];simp[Deferred.ofValue,invoke,hall];exact hf _ w
end calls
section results
variable {P:Program} {X:Cx} {n:Nat} {env:Env} {Γ:List ag} {L:Loc}
def dU (P:Program) (env:Env) (Γ:List ag) (L:Loc):ResultVar->Value->Prop
 | .tmp t,v=>lk env t=some v
 | .cell p ty,v=>∃a,lk env p=some (.pointer (some a))/\∃sc size bytes zero,dg P ty=some (sc,size,bytes,zero)/\
   ((sc=true/\Rd Γ L a v)\/(sc=false/\∃vs:List Value,vs.length=size/\v= .agg vs.toArray/\fc Γ L a vs))
theorem dU.tmp {t:Tmp} {v:Value} (h:lk env t=some v):dU P env Γ L (.tmp t) v:=h
theorem dU.yE {p ty:Nat} {a:Addr} {vs:List Value} {size bytes:Nat} {zero:Value} (h:lk env p=some (.pointer (some a))) (ht:dg P ty=some (false,size,bytes,zero)) (hr:fc Γ L a vs) (hs:vs.length=size):
  dU P env Γ L (.cell p ty) (.agg vs.toArray):=
 ⟨a,h,_,_,_,_,ht,.inr ⟨rfl,vs,hs,rfl,hr⟩⟩
inductive aT (P:Program) (env:Env) (Γ:List ag) (L:Loc):List ResultVar->List Value->Prop where
 |nil:aT P env Γ L [] []
 |cons {r:ResultVar} {v:Value} {rs:List ResultVar} {vs:List Value} (h:dU P env Γ L r v) (t:aT P env Γ L rs vs):aT P env Γ L (r::rs) (v::vs)
def oW (a:Act):ResultVar->Sem Value
 | .tmp t=>pure (a.tmps.getD t undef)
 | .cell p t=>do loadVar t (<-asAddr (a.tmps.getD p undef))
theorem dU.run {r:ResultVar} {v:Value} (h:dU P env Γ L r v) {a:Act} {w:World} {H:Hp} (h1:sP n env a) (h2:ax Γ H) (h3:St X w H L):
  (oW a r).run P w= .ok v w:=by
 cases r with
 |tmp t=>
  have:=h1.get t v h;simp[oW,this]
 |cell p ty=>
  obtain⟨ad,e,sc,size,bytes,zero,ht,hv⟩:=h;have e1:=h1.get p _ e;rcases hv with⟨rfl,hr⟩| ⟨rfl,vs,hs,rfl,hr⟩;simp[oW,e1,asAddr,loadVar,kX ht,hr X w H h2 h3];have:=run_loadCells_list (P:=P) w ad vs (hr X w H h2 h3);rw[hs]at this;simp[oW,e1,asAddr,loadVar,kX ht,eA ht,this]
theorem aT.run {a:Act} {w:World} {H:Hp} (h1:sP n env a) (h2:ax Γ H) (h3:St X w H L):∀{rs:List ResultVar} {vs:List Value},aT P env Γ L rs vs->
  (rs.mapM (oW a):Sem (List Value)).run P w= .ok vs w
 | [],_,.nil=>by simp
 |r::rs,_,.cons h t=>by
  have e1:=h.run h1 h2 h3;have e2:=aT.run h1 h2 h3 t;rw[List.mapM_cons,Sem.run_bind,e1,Result.andThen_ok,Sem.run_bind,e2];rfl
def cP:List Value->Value
 | [v]=>v
 |vs=>.tuple vs.toArray
theorem At.results {fn:Func} {H₀:Hp} {L₀ M:Loc} {R:Value->List ag->Loc->Prop} {rs:List ResultVar} {vs:List Value} {Γr:List ag}
  (hr:fn.results=rs.toArray) (hv:aT P env Γ L rs vs) (hold:bZ H₀∈Γ) (hΓ:∀H,ax Γ H->ax Γr H) (hL:(M++L₀).Sublist L) (hR:R (cP vs) Γr M):
  At X n (bG P fn X H₀ L₀ R .ret) env Γ L:=fun a w H h1 h2 h3=>by
 refine⟨h1.defers,cP vs,?_,cP vs,Γr,M,H,rfl,hR,ax.mem hold h2,hΓ H h2,h3.drop hL⟩;have e:=aT.run h1 h2 h3 hv;have e0:Go.results fn a.tmps=(fn.results.mapM (oW a) >>= fun vs=>pure (if h:vs.size=1 then vs[0]else .tuple vs)):=rfl;rw[e0,hr,Array.mapM_eq_mapM_toList,Sem.run_bind,map_eq_pure_bind,Sem.run_bind,e];simp only[Result.andThen_ok,Sem.run_pure]
 match vs with
 | []=>rfl
 | [v]=>rfl
 |v::u::us=>simp[cP]
theorem At.pJ {fn:Func} {H₀:Hp} {L₀ M:Loc} {R:Value->List ag->Loc->Prop} {rs:List ResultVar} {vs:List Value} {Γr:List ag}
  (hr:fn.results=rs.toArray) (hv:aT P env Γ L rs vs) (hold:bZ H₀∈Γ) (hΓ:∀H,ax Γ H->ax Γr H) (hL:(M++L₀).Sublist L) (hR:R (cP vs) Γr M):
  At X n (bG P fn X H₀ L₀ R .normal) env Γ L:=fun a w H h1 h2 h3=>At.results hr hv hold hΓ hL hR a w H h1 h2 h3
end results
end E
end Go.Proofs.YtcnohdmimheoaaaGreat
namespace Go.Proofs.YtcnohdmimheoaaaGreat

namespace E
open Go
section calls
variable {X:Cx} {n:Nat} {P:Program} {ops:Array Oper} {Q:Exit->Act->World->Prop} {rest:List Oper} {env:Env} {Γ:List ag} {L:Loc}
variable {d:Nat} {ty:TypeId} {pos:String} {aft:Array Edge} {f:FuncId} {args:List Operand} {vs:List Value} {ats:Array TypeId} {pre:List ag} {M L0:Loc} {R:Value->List ag->Loc->Prop}
theorem At.call (hf:ah P f) (ha:pF env args=some vs) (c:aN P f vs pre M R) (hp:∀H,ax Γ H->ax pre H) (hL:(M++L0).Perm L) (hd:Nat.blt d n=true)
  (h:∀v Γr Mr,R v Γr Mr->At X n (wpList P ops Q rest) ((d,v)::env) (Γr++Γ) (Mr++L0)):
  At X n (wpList P ops Q (⟨some d,.call ⟨.value (.func f),args.toArray,ats⟩,ty,pos,aft,none⟩::rest)) env Γ L:=
 At.eJ (wR hf ha c hp hL) hd fun v _ _ ⟨Γr,Mr,hr,e1,e2⟩=>by subst e1;subst e2;exact h v Γr Mr hr
theorem At.rS {x:Operand} {first captured:Array Value} {all:List Value} (hf:ah P f) (hx:ev env x=some (.func (.func f) first captured)) (ha:pF env args=some vs) (hall:first++vs.toArray++captured=all.toArray)
  (c:aN P f all pre M R) (hp:∀H,ax Γ H->ax pre H) (hL:(M++L0).Perm L) (hd:Nat.blt d n=true)
  (h:∀v Γr Mr,R v Γr Mr->At X n (wpList P ops Q rest) ((d,v)::env) (Γr++Γ) (Mr++L0)):
  At X n (wpList P ops Q (⟨some d,.call ⟨.value x,args.toArray,ats⟩,ty,pos,aft,none⟩::rest)) env Γ L:=
 At.eJ (Io hf hx ha hall c hp hL) hd fun v _ _ ⟨Γr,Mr,hr,e1,e2⟩=>by subst e1;subst e2;exact h v Γr Mr hr
variable {l tail:List Oper} {r:Ord} {i:Nat} {Lr:Loc}
theorem aQ.call (ho:l[i]? =some ⟨some d,.call ⟨.value (.func f),args.toArray,ats⟩,ty,pos,aft,none⟩) (hf:ah P f) (ha:pF env args=some vs) (c:aN P f vs pre M R) (hp:∀H,ax Γ H->ax pre H) (hL:(M++L0).Perm L) (hd:Nat.blt d n=true)
  (hs:Lr.Sublist L0) (h:∀v Γr Mr,R v Γr Mr->aQ X n P l Q tail r Lr ((d,v)::env) (Γr++Γ) (Mr++L0)):
  aQ X n P l Q tail (.o i r) Lr env Γ L:=
 aQ.eJ ho (wR hf ha c hp hL) hd (fun v _ _ ⟨Γr,Mr,hr,e1,e2⟩=>by subst e1;subst e2;exact⟨fun _ hh=>hh.right,hs.trans (List.sublist_append_right Mr L0)⟩)
  fun v _ _ ⟨Γr,Mr,hr,e1,e2⟩=>by subst e1;subst e2;exact h v Γr Mr hr
end calls
section cut
variable {X:Cx} {n:Nat} {P:Program} {Q:Exit->Act->World->Prop} {env:Env} {Γ:List ag} {L:Loc}
def Ip (X:Cx) (n:Nat) {ι:Type} (e:ι->Env) (G:ι->List ag) (M:ι->Loc) (I:ι->Prop) (a:Act) (w:World):Prop:=
 ∃j H,I j/\sP n (e j) a/\ax (G j) H/\St X w H (M j)
theorem At.cut {x y:Code} {ι:Type} (e:ι->Env) (G:ι->List ag) (M:ι->Loc) (I:ι->Prop)
  (h:At X n (x.wp P (Exit.then (Ip X n e G M I) Q)) env Γ L) (h':∀i,I i->At X n (y.wp P Q) (e i) (G i) (M i)):At X n ((Code.seq x y).wp P Q) env Γ L:=
 At.seq (h.imp fun a w hw=>wp_mono hw fun ex a' w' hq=>by
  cases ex<;>first|exact hq|skip
  obtain⟨j,H,hI,k1,k2,k3⟩:=hq;exact h' j hI a' w' H k1 k2 k3)
def cc (ws:List Nat):Env->Env
 | []=>[]
 | (d,v)::e=>bif ws.any (Nat.beq d ·)then cc ws e else(d,v)::cc ws e
theorem iD {ws:List Nat}:∀{env:Env} {t:Nat} {v:Value},lk (cc ws env) t=some v->lk env t=some v/\ws.any (Nat.beq t ·)=false
 | [],t,v,h=>by simp[cc,lk]at h
 | (d,u)::e,t,v,h=>by
  simp only[cc]at h
  cases hw:ws.any (Nat.beq d ·)
  rw[hw]at h;simp only[cond_false,lk]at h;simp only[lk]
  cases hb:Nat.beq d t
  rw[hb]at h;exact iD h;rw[hb]at h;have:=Nat.eq_of_beq_eq_true hb;subst this;exact⟨h,hw⟩;rw[hw]at h;simp only[cond_true]at h;obtain⟨h1,h2⟩:=iD h;refine⟨?_,h2⟩;simp only[lk]
  cases hb:Nat.beq d t
  exact h1;have:=Nat.eq_of_beq_eq_true hb;subst this;rw[hw]at h2
  cases h2
theorem wS {ws:List Nat} {t:Nat} (ht:ws.any (Nat.beq t ·)=false):∀{e:Env} (m:Nat),(e.take m).all (fun p=>ws.any (Nat.beq p.1 ·))=true->lk e t=lk (e.drop m) t
 |_,0,_=>rfl
 | [],m+1,_=>rfl
 | (d,v)::e,m+1,h=>by
  simp only[List.take_succ_cons,List.all_cons,Bool.and_eq_true]at h;simp only[List.drop_succ_cons,lk]
  cases hb:Nat.beq d t
  exact wS ht m h.2;have:=Nat.eq_of_beq_eq_true hb;subst this;rw[h.1]at ht
  cases ht
def bc (env:Env) (chg:Env) (ws:List Nat) (base:Env):Prop:=mw env chg/\∀t v,lk (cc ws base) t=some v->lk env t=some v
theorem bc.start {env chg:Env} {ws:List Nat} (h:mw env chg):bc env chg ws env:=⟨h,fun _ _ k=>(iD k).1⟩
theorem bc.end {env chg base:Env} {ws:List Nat} (m:Nat) (h:mw env chg) (hd:env.drop m=cc ws base) (hm:(env.take m).all (fun p=>ws.any (Nat.beq p.1 ·))=true):bc env chg ws base:=
 ⟨h,fun t v k=>by rw[wS (iD k).2 m hm,hd];exact k⟩
theorem C0 {e e':Env} {t:Nat} {v:Value} (h:lk (e++e') t=some v):lk e t=some v\/(lk e' t=some v):=by
 induction e with
 |nil=>exact .inr h
 |cons p e ih=>
  obtain⟨d,u⟩:=p;simp only[List.cons_append,lk]at h⊢
  cases hb:Nat.beq d t
  rw[hb]at h;exact ih h;rw[hb]at h;exact .inl h
theorem bc.get {env chg base:Env} {ws:List Nat} (h:bc env chg ws base):∀t v,lk (chg++cc ws base) t=some v->lk env t=some v:=fun t v k=>by
 rcases C0 k with k|k;exact h.1.get t v k;exact h.2 t v k
theorem At.front {K:Act->World->Prop} (i:Nat) {s:aO} (hi:L[i]? =some s) (h:At X n K env Γ (s::L.eraseIdx i)):At X n K env Γ L:=At.perm _ (pE hi).symm h
theorem At.bX {ι:Type} {ws:List Nat} {base:Env} {Γ₀:List ag} {L₀:Loc} {e:ι->Env} {G:ι->List ag} {M:ι->Loc} {I:ι->Prop} {μ:ι->Nat} {i:ι} (j:ι)
  (hI:I j) (hμ:μ j<μ i) (he:bc env (e j) ws base) (hG:∀H,ax Γ H->ax (G j++Γ₀) H) (hM:(M j++L₀).Sublist L):
  At X n (Round X n (fun i=>e i++cc ws base) (fun i=>G i++Γ₀) (fun i=>M i++L₀) I μ i) env Γ L:=
 fun _ _ H h1 h2 h3=>⟨j,H,hI,hμ,h1.weaken he.get,hG H h2,h3.drop hM⟩
theorem At.NI {c:Code} {ι:Type} (e:ι->Env) (G:ι->List ag) (M:ι->Loc) (I:ι->Prop) (μ:ι->Nat) (i₀:ι)
  (h₀:I i₀) (round:∀i,I i->At X n (c.wp P (Exit.then (Round X n e G M I μ i) Q)) (e i) (G i) (M i)):
  At X n ((Code.loop c).wp P Q) (e i₀) (G i₀) (M i₀):=At.Ku e G M I μ i₀ h₀ round
theorem At.dP {c:Code} {ι:Type} (ws:List Nat) (e:ι->Env) (G:ι->List ag) (M:ι->Loc) (L₀:Loc) (I:ι->Prop) (μ:ι->Nat) (i₀:ι)
  (h₀:I i₀) (he:mw env (e i₀)) (hG:∀H,ax Γ H->ax (G i₀) H) (hM:(M i₀++L₀).Sublist L)
  (round:∀i,I i->At X n (c.wp P (Exit.then (Round X n (fun i=>e i++cc ws env) (fun i=>G i++Γ) (fun i=>M i++L₀) I μ i) Q)) (e i++cc ws env) (G i++Γ) (M i++L₀)):
  At X n ((Code.loop c).wp P Q) env Γ L:=fun a w H h1 h2 h3=>
 At.NI (fun i=>e i++cc ws env) (fun i=>G i++Γ) (fun i=>M i++L₀) I μ i₀ h₀ round a w H
  (h1.weaken (bc.start he).get) ((hG H h2).app h2) (h3.drop hM)
theorem At.eh {ι:Type} {ws:List Nat} {base:Env} {Γ₀:List ag} {L₀:Loc} {e:ι->Env} {G:ι->List ag} {M:ι->Loc} {I:ι->Prop} (j:ι)
  (hI:I j) (he:bc env (e j) ws base) (hG:∀H,ax Γ H->ax (G j++Γ₀) H) (hM:(M j++L₀).Sublist L):
  At X n (Ip X n (fun i=>e i++cc ws base) (fun i=>G i++Γ₀) (fun i=>M i++L₀) I) env Γ L:=
 fun _ _ H h1 h2 h3=>⟨j,H,hI,h1.weaken he.get,hG H h2,h3.drop hM⟩
theorem At.Qx {x y:Code} {ι:Type} (ws:List Nat) (e:ι->Env) (G:ι->List ag) (M:ι->Loc) (L₀:Loc) (I:ι->Prop)
  (h:At X n (x.wp P (Exit.then (Ip X n (fun i=>e i++cc ws env) (fun i=>G i++Γ) (fun i=>M i++L₀) I) Q)) env Γ L)
  (h':∀i,I i->At X n (y.wp P Q) (e i++cc ws env) (G i++Γ) (M i++L₀)):At X n ((Code.seq x y).wp P Q) env Γ L:=
 At.cut _ _ _ I h h'
end cut
end E
end Go.Proofs.YtcnohdmimheoaaaGreat
namespace Go.Proofs.YtcnohdmimheoaaaGreat

namespace E
open Go
def kL (env:Env):Op->Option Value
 | .move x=>ev env x
 | .assign x=>ev env x
 | .pick c a b=>match ev env c with
  |some (.bool true)=>ev env a
  |some (.bool false)=>ev env b
  |_=>none
 | .binOp .eql _ x y _=>match ev env x,ev env y with
  |some (.int k a),some (.int k' b)=>bif decide (k=k')then some (.bool (decide (a=b)))else none
  |_,_=>none
 | .binOp .neq _ x y _=>match ev env x,ev env y with
  |some (.int k a),some (.int k' b)=>bif decide (k=k')then some (.bool (decide (a≠b)))else none
  |_,_=>none
 | .binOp .lss _ x y _=>match ev env x,ev env y with
  |some (.int k a),some (.int k' b)=>bif decide (k=k')then some (.bool (decide (a<b)))else none
  |_,_=>none
 | .binOp .leq _ x y _=>match ev env x,ev env y with
  |some (.int k a),some (.int k' b)=>bif decide (k=k')then some (.bool (decide (a<=b)))else none
  |_,_=>none
 | .binOp .gtr _ x y _=>match ev env x,ev env y with
  |some (.int k a),some (.int k' b)=>bif decide (k=k')then some (.bool (decide (b<a)))else none
  |_,_=>none
 | .binOp .geq _ x y _=>match ev env x,ev env y with
  |some (.int k a),some (.int k' b)=>bif decide (k=k')then some (.bool (decide (b<=a)))else none
  |_,_=>none
 | .unOp .not _ x=>match ev env x with
  |some (.bool b)=>some (.bool (!b))
  |_=>none
 | .nilCheck x=>match ev env x with
  |some (.pointer (some a))=>some (.pointer (some a))
  |_=>none
 | .extract x i=>match ev env x with
  |some (.tuple vs)=>vs[i]?
  |_=>none
 |_=>none
theorem g9 {P:Program} {op:Op} {ty:TypeId} {n:Nat} {env:Env} {Γ:List ag} {L:Loc} {v:Value} (h:kL env op=some v):bF P op ty n env Γ L v:=by
 cases op with
 |move x=>exact oS h
 |assign x=>exact yz h
 |pick c a b=>
  simp only[kL]at h;split at h;rename_i hc;exact Ik hc h;rename_i hc;exact Il hc h
  cases h
 |unOp op t x=>
  cases op<;>simp only[kL]at h<;>try (cases h;done)
  split at h;rename_i b hx
  cases h
  exact NH hx
  cases h
 |nilCheck x=>
  simp only[kL]at h;split at h;rename_i a hx
  cases h
  exact oT hx
  cases h
 |extract x i=>
  simp only[kL]at h;split at h;rename_i vs hx;exact vK hx h
  cases h
 |binOp op t x y t'=>
  cases op<;>simp only[kL]at h<;>try (cases h;done)
  all_goals
   split at h;rename_i k a k' b hx hy
   cases hk:decide (k=k')
   rw[hk]at h;cases h;rw[hk]at h;have:=of_decide_eq_true hk;subst this
   cases h
   first|exact NA hx hy|exact NB hx hy|exact NC hx hy|exact ND hx hy|exact NF hx hy|exact NG hx hy
   cases h
 |_=>cases h
def bu (ops:List Oper):Nat->List Oper->Env->Option (List Oper×Env)
 |0,l,env=>some (l,env)
 |k+1,⟨some d,op,_,_,_,none⟩::l,env=>match kL env op with
  |some v=>bu ops k l ((d,v)::env)
  |none=>none
 |k+1,⟨none,op,_,_,_,none⟩::l,env=>match kL env op with
  |some _=>bu ops k l env
  |none=>none
 |k+1,⟨some d,op,_,_,_,some (j,c)⟩::l,env=>match gd ops env j with
  |some b=>bif b==c then(match kL env op with
   |some v=>bu ops k l ((d,v)::env)
   |none=>none)else bu ops k l ((d,undef)::env)
  |none=>bif Kv ops env j then bu ops k l ((d,undef)::env)else none
 |k+1,⟨none,op,_,_,_,some (j,c)⟩::l,env=>match gd ops env j with
  |some b=>bif b==c then(match kL env op with
   |some _=>bu ops k l env
   |none=>none)else bu ops k l env
  |none=>bif Kv ops env j then bu ops k l env else none
 |_,_,_=>none
section
variable {X:Cx} {n:Nat} {P:Program} {ops:Array Oper} {Q:Exit->Act->World->Prop} {rest l l':List Oper} {env env':Env} {Γ:List ag} {L:Loc}
def wT (n:Nat) (l:List Oper):Nat->Bool
 |0=>true
 |k+1=>match l with
  | []=>true
  |o::l=>(match o.dst with|some d=>Nat.blt d n|none=>true)&&wT n l k
theorem At.bu {full:List Oper}:∀(k:Nat) {l l':List Oper} {env env':Env},bu full k l env=some (l',env')->wT n l k=true->At X n (wpList P full.toArray Q l') env' Γ L->At X n (wpList P full.toArray Q l) env Γ L
 |0,l,l',env,env',h,_,hk=>by
  simp only[E.bu,Option.some.injEq,Prod.mk.injEq]at h;obtain⟨rfl,rfl⟩:=h;exact hk
 |k+1,[],l',env,env',h,_,hk=>by simp[E.bu]at h
 |k+1,⟨dst,op,ty,pos,aft,g⟩::l,l',env,env',h,hd,hk=>by
  simp only[wT,Bool.and_eq_true]at hd;obtain⟨hd1,hd2⟩:=hd
  cases g with
  |none=>
   cases dst with
   |some d=>
    simp only[E.bu]at h;split at h;rename_i v hv;exact At.quiet (g9 hv) hd1 (At.bu k h hd2 hk)
    cases h
   |none=>
    simp only[E.bu]at h;split at h;rename_i v hv;exact At.Ep (g9 hv) (At.bu k h hd2 hk)
    cases h
  |some g=>
   obtain⟨j,c⟩:=g
   cases dst with
   |some d=>
    simp only[E.bu]at h;split at h;rename_i b hg
    cases hb:b==c
    rw[hb]at h;exact At.shut hg (by cases b<;>cases c<;>simp_all) hd1 (At.bu k h hd2 hk);rw[hb]at h;simp only[cond_true]at h;split at h;rename_i v hv;exact At.open hg (by simpa using hb) (At.quiet (g9 hv) hd1 (At.bu k h hd2 hk))
    cases h
    cases hu:Kv full env j
    rw[hu]at h;cases h;rw[hu]at h;exact At.Nw hu hd1 (At.bu k h hd2 hk)
   |none=>
    simp only[E.bu]at h;split at h;rename_i b hg
    cases hb:b==c
    rw[hb]at h;exact At.Nv hg (by cases b<;>cases c<;>simp_all) (At.bu k h hd2 hk);rw[hb]at h;simp only[cond_true]at h;split at h;rename_i v hv;exact At.open hg (by simpa using hb) (At.Ep (g9 hv) (At.bu k h hd2 hk))
    cases h
    cases hu:Kv full env j
    rw[hu]at h;cases h;rw[hu]at h;exact At.Ll hu (At.bu k h hd2 hk)
section
variable {K:Act->World->Prop}
include K
theorem At.split {d:Nat} {t:Bool} (hd:lk env d=some (.bool t)) (hT:t=true->At X n K ((d,.bool true)::env) Γ L) (hF:t=false->At X n K ((d,.bool false)::env) Γ L):At X n K env Γ L:=
 fun a w H h1 h2 h3=>by
  have put:∀b,t=b->sP n ((d,.bool b)::env) a:=fun b hb=>⟨h1.size,h1.defers,fun s v e=>by
   subst hb;simp only[lk]at e
   cases hc:Nat.beq d s
   rw[hc]at e;exact h1.get s v e;rw[hc]at e;have:=Nat.eq_of_beq_eq_true hc;subst this;simp only[cond_true,Option.some.injEq]at e;subst e;exact h1.get d _ hd⟩
  cases ht:t
  exact hF ht a w H (put false ht) h2 h3;exact hT ht a w H (put true ht) h2 h3
theorem At.eV {d:Nat} {p:Prop} [Decidable p] (hd:lk env d=some (.bool (decide p))) (hT:p->At X n K ((d,.bool true)::env) Γ L) (hF:¬p->At X n K ((d,.bool false)::env) Γ L):At X n K env Γ L:=
 At.split hd (fun e=>hT (of_decide_eq_true e)) (fun e=>hF (of_decide_eq_false e))
theorem At.fZ {v:Value} (d:Nat) (u:Value) (hd:lk env d=some v) (hv:v=u) (h:At X n K ((d,u)::env) Γ L):At X n K env Γ L:=
 fun a w H h1 h2 h3=>h a w H ⟨h1.size,h1.defers,fun s x e=>by
  subst hv;simp only[lk]at e
  cases hc:Nat.beq d s
  rw[hc]at e;exact h1.get s x e;rw[hc]at e;have:=Nat.eq_of_beq_eq_true hc;subst this;simp only[cond_true,Option.some.injEq]at e;subst e;exact h1.get d _ hd⟩ h2 h3
end
theorem At.sF {d d':Nat} {ty ty' s t:TypeId} {pos pos':String} {aft aft':Array Edge} {x:Operand} {i k sz:Nat} {b:Bool} {pl:List (Nat×Nat×Bool)} {size bytes:Nat} {zero v:Value} {a:Addr}
  (hs:kW P s=some pl) (ht:dg P t=some (true,size,bytes,zero)) (hi:pl[i]? =some (k,sz,b)) (hz:Nat.beq sz 0=false) (hx:ev env x=some (.pointer (some a))) (hr:Rd Γ L (a.add k) v)
  (hd:Nat.blt d n=true) (hd':Nat.blt d' n=true) (h:At X n (wpList P ops Q rest) ((d',v)::(d,.pointer (some (a.add k)))::env) Γ L):
  At X n (wpList P ops Q (⟨some d,.fieldAddr s x i,ty,pos,aft,none⟩::⟨some d',.load t (.tmp d),ty',pos',aft',none⟩::rest)) env Γ L:=
 At.quiet (aq hs hi hz hx) hd (At.quiet (aY ht (by simp[ev,lk]) hr) hd' h)
theorem bc.meet {env' chg base:Env} {ws:List Nat} (m:Nat) (h:mw env' chg) (hd:env'.drop m=base) (hm:(env'.take m).all (fun p=>ws.any (Nat.beq p.1 ·))=true):bc env' chg ws base:=
 ⟨h,fun t v k=>by rw[wS (iD k).2 m hm,hd];exact(iD k).1⟩
def ahead:Nat->List Oper->List Oper
 |0,_=>[]
 |m+1,o::l=>o::ahead m l
 |_+1,[]=>[]
theorem aQ.fZ {tail:List Oper} {r:Ord} {L0:Loc} {v:Value} (d:Nat) (u:Value) (hd:lk env d=some v) (hv:v=u) (h:aQ X n P l Q tail r L0 ((d,u)::env) Γ L):aQ X n P l Q tail r L0 env Γ L:=At.fZ d u hd hv h
theorem aQ.split {tail:List Oper} {r:Ord} {L0:Loc} {d:Nat} {t:Bool} (hd:lk env d=some (.bool t)) (hT:t=true->aQ X n P l Q tail r L0 ((d,.bool true)::env) Γ L) (hF:t=false->aQ X n P l Q tail r L0 ((d,.bool false)::env) Γ L):aQ X n P l Q tail r L0 env Γ L:=At.split hd hT hF
theorem aQ.eV {tail:List Oper} {r:Ord} {L0:Loc} {d:Nat} {p:Prop} [Decidable p] (hd:lk env d=some (.bool (decide p))) (hT:p->aQ X n P l Q tail r L0 ((d,.bool true)::env) Γ L) (hF:¬p->aQ X n P l Q tail r L0 ((d,.bool false)::env) Γ L):aQ X n P l Q tail r L0 env Γ L:=At.eV hd hT hF
theorem aI {α β:Type} {f:α->β} {l:List α} {i:Nat} {x:α} (h:l[i]? =some x):(l.map f)[i]? =some (f x):=by simp[h]
theorem ae {α:Type} {l:List α} {i:Nat} {x:α} (h:l[i]? =some x):i<l.length:=(List.getElem?_eq_some_iff.1 h).1
theorem aD {α:Type} {l:List α} {i:Nat} (h:i<l.length):∃x,l[i]? =some x:=⟨_,List.getElem?_eq_getElem h⟩
theorem tH {fn:Fn} {first captured:List Operand} {vs us:List Value} {ty:TypeId} (h1:pF env first=some vs) (h2:pF env captured=some us):bF P (.makeFunc fn first.toArray captured.toArray) ty n env Γ L (.func fn vs.toArray us.toArray):=
 fun _ _ _ _ _ ac w _ h _ _=>by
  have e1:=h.pF h1;have e2:=h.pF h2;simp[execOp,Instr.makeFunc,e1,e2]
theorem Ex {cs vs:List Value} {K N:Nat} (h1:K<=cs.length) (h2:K+vs.length<=N):(pC cs K vs).take N=pC (cs.take N) K vs:=by
 have hl:(cs.take K++vs).length=K+vs.length:=by simp;omega
 unfold pC;rw[List.take_append,hl,List.take_of_length_le (by omega),List.drop_take,List.take_take,Nat.min_eq_left (by omega)]
theorem bR.stored {T:TypeId} {k c p j:Nat} {rows:List (List Value)} {a:Option Addr} {M:aO} {r vs:List Value} (h:bR T k rows a c M) (hr:rows[p]? =some r) (hj:j+vs.length<=r.length):
  ∃g cur,a=some ⟨g,0,none⟩/\M=[(g,.cells cur T (0,0))]/\p*k+j+vs.length<=cur.size/\
   bR T k (rows.set p (pC r j vs)) a c [(g,.cells (pC cur.toList (p*k+j) vs).toArray T (0,0))]:=by
 obtain⟨hk,hM⟩:=h;rcases hM with⟨_,_,rfl,_⟩| ⟨g,cur,rfl,rfl,h5,h6,h7,h8⟩;simp at hr;have hp:p<rows.length:=ae hr;have hrk:r.length=k:=hk r (List.mem_of_getElem? hr);have hmul:p*k+k<=rows.length*k:=by rw[<-Nat.succ_mul];exact Nat.mul_le_mul_right _ hp
 have hsz:rows.length*k<=cur.size:=by rw[h7];exact Nat.mul_le_mul_right _ h5
 refine⟨g,cur,rfl,rfl,by omega,?_,.inr ⟨g,_,rfl,rfl,by simpa using h5,h6,?_,?_⟩⟩;intro r' hr';rcases List.mem_or_eq_of_mem_set hr' with h'|h';exact hk r' h';subst h';simp only[pC,List.length_append,List.length_take,List.length_drop];omega;simp only[pC,List.size_toArray,List.length_append,List.length_take,List.length_drop,Array.length_toList];omega
 have hfl:(rows.set p (pC r j vs)).flatten=pC rows.flatten (p*k+j) vs:=by
  have hd:∀(rows:List (List Value)) (p:Nat),(∀r∈rows,r.length=k)->rows[p]? =some r->(rows.set p (pC r j vs)).flatten=pC rows.flatten (p*k+j) vs:=by
   intro rows
   induction rows with
   |nil=>intro p _ h;simp at h
   |cons x rows ih=>
    intro p hk hr;have hx:x.length=k:=hk x (by simp)
    cases p with
    |zero=>
     simp at hr;subst hr;simp only[List.set_cons_zero,List.flatten_cons,Nat.zero_mul,Nat.zero_add,pC];rw[List.take_append_of_le_length (by omega),List.drop_append_of_le_length (by omega)];simp[List.append_assoc]
    |succ p=>
     have:=ih p (fun r hr=>hk r (List.mem_cons_of_mem _ hr)) (by simpa using hr);simp only[List.set_cons_succ,List.flatten_cons];rw[this];simp only[pC];have e1:(p+1)*k+j=x.length+(p*k+j):=by rw[Nat.succ_mul,hx];omega
     have e2:(p+1)*k+j+vs.length=x.length+(p*k+j+vs.length):=by rw[Nat.succ_mul,hx];omega
     rw[e2,e1,List.take_length_add_append,List.drop_length_add_append];simp[List.append_assoc]
  exact hd rows p hk hr
 have hlen:(rows.set p (pC r j vs)).length=rows.length:=by simp
 rw[hlen,hfl];have hle:p*k+j+vs.length<=rows.length*k:=by omega
 rw[<-h8];exact Ex (by simp;omega) hle
theorem oX {t T:TypeId} {ty:TypeId} {sc:Bool} {size bytes p j k c i:Nat} {zero v:Value} {x y:Operand} {rows:List (List Value)} {a:Option Addr} {M:aO} {r:List Value}
  (ht:dg P t=some (sc,size,bytes,zero)) (hx:ev env x=some (.pointer (some (((yC a).add (p*k)).add j)))) (hy:ev env y=some v) (ho:bR T k rows a c M) (hL:L[i]? =some M) (hr:rows[p]? =some r)
  (hs:Nat.beq v.cells.size size=true) (hfit:Nat.ble (j+v.cells.size) r.length=true) (h1:v.cells.toList.all Value.oneCell'=true):
  dN P (.store t x y) ty n env Γ L (fun _ Γ' L'=>∃M',bR T k (rows.set p (pC r j v.cells.toList)) a c M'/\Γ'=Γ/\L'=L.set i M'):=
 dN.Ew fun X d pos aft g ac w H k1 k2 k3=>by
  obtain⟨b,cur,rfl,rfl,h4,h5⟩:=ho.stored hr (vs:=v.cells.toList) (j:=j) (by have:=Nat.le_of_ble_eq_true hfit;simpa using this);have hf:=k3.front hL;have hg:w.heap[b]? =some (.cells cur T (0,0)):=hf.loc (b,_) (List.mem_cons_self ..);have hst:=run_storeCells_at P b (p*k+j) T v.cells.toList 0 cur w hg (by simpa using h4) (List.all_eq_true.1 h1);refine⟨_,H,Γ,_,?_,⟨_,h5,rfl,rfl⟩,Hp.le_refl H,k2,St.back _ hL (hf.set (w':=w.setRow b (pC cur.toList (p*k+j) v.cells.toList).toArray) rfl rfl rfl (setRow_heap w b cur _ T (0,0) hg) fun c hc=>setRow_other w b c _ hc)⟩;have hs':=Nat.eq_of_beq_eq_true hs
  have ha:((yC (some (⟨b,0,none⟩:Addr))).add (p*k)).add j=⟨b,p*k+j,none⟩:=by
   show((⟨b,0,none⟩:Addr).add (p*k)).add j=_;unfold Addr.add;split<;>split<;>simp_all
  rw[ha]at hx;simp[execOp,k1.ev hx,k1.ev hy,Instr.storeAt,Instr.sureAddr,storeVar,eA ht,hs',hst,pC]
end
end E
end Go.Proofs.YtcnohdmimheoaaaGreat
namespace Go.Proofs.YtcnohdmimheoaaaGreat

namespace E
open Go
def mP:List Value->Option (List Int)
 | []=>some []
 | .int .i64 a::vs=>match mP vs with
  |some as9=>some (a::as9)
  |none=>none
 |_=>none
theorem mQ:∀{vs:List Value} {as9:List Int},mP vs=some as9->vs=as9.map (Value.int .i64 ·)
 | [],as9,h=>by simp[mP]at h;subst h;rfl
 |v::vs,as9,h=>by
  unfold mP at h;split at h
  cases ‹_=[]›
  rename_i a vs' heq;simp only[List.cons.injEq]at heq;obtain⟨rfl,rfl⟩:=heq;split at h;rename_i as9' h'
  cases h
  simp[<-mQ h']
  cases h
  cases h
def mR (P:Program) (f:Field) (i:Nat):Bool:=
 Nat.beq f.offset i&&(f.name != "_" &&((match P.underlying f.type with|some (.int .i64)=>true|_=>false)&&Nat.beq (P.cellsOf f.type) 1))
theorem jJ {P:Program} {f:Field} {i:Nat} (h:mR P f i=true):f.offset=i/\f.name≠ "_" /\P.underlying f.type=some (.int .i64)/\P.cellsOf f.type=1:=by
 simp only[mR,Bool.and_eq_true,bne_iff_ne]at h;obtain⟨h1,h2,h3,h4⟩:=h;refine⟨Nat.eq_of_beq_eq_true h1,h2,?_,Nat.eq_of_beq_eq_true h4⟩;split at h3;assumption
 cases h3
def iE (P:Program):List Field->Nat->Bool
 | [],_=>true
 |f::fs,i=>mR P f i&&iE P fs (i+1)
def iF (P:Program) (t:TypeId) (k:Nat):Bool:=
 match P.underlying t with
 |some (.struct fs)=>Nat.beq fs.size k&&(iE P fs.toList 0&&(!P.stoodInHeld t&& !P.eqGuardType P.depth t))
 |_=>false
section
variable {P:Program} {w:World}
theorem pK {f:Field} {i:Nat} (h:mR P f i=true) {cs:Array Value} {v:Value} (hv:cs[i]? =some v):(part f.type cs f.offset).run P w= .ok v w:=by
 obtain⟨h1,_,hk,_⟩:=jJ h;subst h1;simp[part,isAgg,underlying,hk,hv]
theorem pL {d:Nat}:∀{fs:List Field} {i:Nat} {as9 bs:List Int} {xs ys:Array Value},iE P fs i=true->fs.length=as9.length->fs.length=bs.length->
  (∀j,xs[i+j]? =as9[j]?.map (Value.int .i64 ·))->(∀j,ys[i+j]? =bs[j]?.map (Value.int .i64 ·))->
  (Op.eqFields (d+1) xs ys fs).run P w= .ok (decide (as9=bs)) w
 | [],i,as9,bs,xs,ys,_,h1,h2,_,_=>by
  have:as9=[]:=List.eq_nil_of_length_eq_zero (by simpa using h1.symm);have:bs=[]:=List.eq_nil_of_length_eq_zero (by simpa using h2.symm)
  subst_vars
  simp[Op.eqFields]
 |f::fs,i,[],bs,xs,ys,_,h1,_,_,_=>by simp at h1
 |f::fs,i,a::as9,[],xs,ys,_,_,h2,_,_=>by simp at h2
 |f::fs,i,a::as9,b::bs,xs,ys,h,h1,h2,hx,hy=>by
  simp only[iE,Bool.and_eq_true]at h;have e1:=pK (P:=P) (w:=w) h.1 (cs:=xs) (v:=.int .i64 a) (by have:=hx 0;simpa using this);have e2:=pK (P:=P) (w:=w) h.1 (cs:=ys) (v:=.int .i64 b) (by have:=hy 0;simpa using this);obtain⟨_,hn,hk,_⟩:=jJ h.1;have e3:=run_equalIn_int (P:=P) w d f.type .i64 .i64 a b hk
  have ih:=pL (d:=d) (fs:=fs) (i:=i+1) (as9:=as9) (bs:=bs) (xs:=xs) (ys:=ys) h.2 (by simpa using h1) (by simpa using h2)
   (fun j=>by have:=hx (j+1);rw[show i+1+j=i+(j+1) by omega];simpa using this) (fun j=>by have:=hy (j+1);rw[show i+1+j=i+(j+1) by omega];simpa using this)
  simp only[Op.eqFields,hn,ne_eq,not_false_eq_true,if_true,Sem.run_bind,e1,e2,Result.andThen_ok,e3];by_cases hab:a=b;subst hab;simp[ih];simp[hab]
end
section
variable {P:Program} {n:Nat} {env:Env} {Γ:List ag} {L:Loc} {ty t t':TypeId} {x y:Operand} {k:Nat} {xs ys:List Value} {as9 bs:List Int}
theorem pM {op:BinOp} {w:World} (hT:iF P t k=true) (ha:mP xs=some as9) (hb:mP ys=some bs) (hla:Nat.beq as9.length k=true) (hlb:Nat.beq bs.length k=true):
  (Op.equalIn 10000 t (.agg xs.toArray) (.agg ys.toArray)).run P w= .ok (decide (as9=bs)) w/\(eqGuard op t x y (.agg xs.toArray) (.agg ys.toArray)).run P w= .ok () w:=by
 unfold iF at hT;split at hT;rename_i fs hfs;simp only[Bool.and_eq_true]at hT;obtain⟨h1,h2,h3,h4⟩:=hT;have h1:=Nat.eq_of_beq_eq_true h1;have hla:=Nat.eq_of_beq_eq_true hla;have hlb:=Nat.eq_of_beq_eq_true hlb;have hf:P.fieldsOf t=fs:=by simp[Program.fieldsOf,hfs]
 have hx:=mQ ha;have hy:=mQ hb;have e:=run_equalIn_struct (P:=P) w 9999 t xs.toArray ys.toArray (by rw[hf];exact hfs) (by simpa using h3);rw[hf]at e;refine⟨e.trans (pL (d:=9998) h2 (by simp;omega) (by simp;omega) (fun j=>by subst hx;simp) (fun j=>by subst hy;simp)),?_⟩;exact run_eqGuard_agg w op t x y _ _ (by simpa using h4)
 cases hT
section
variable (hT:iF P t k=true) (hx:ev env x=some (.agg xs.toArray)) (hy:ev env y=some (.agg ys.toArray)) (ha:mP xs=some as9) (hb:mP ys=some bs) (hla:Nat.beq as9.length k=true) (hlb:Nat.beq bs.length k=true)
include hT hx hy ha hb hla hlb
theorem Av:
  bF P (.binOp .eql t x y t') ty n env Γ L (.bool (decide (as9=bs))):=fun _ _ _ _ _ ac w _ h1 _ _=>by
 obtain⟨e1,e2⟩:=pM (op:=.eql) (x:=x) (y:=y) (w:=w) hT ha hb hla hlb;simp[execOp,h1.ev hx,h1.ev hy,e2,run_eql_struct,e1]
theorem rV:
  bF P (.binOp .neq t x y t') ty n env Γ L (.bool (!decide (as9=bs))):=fun _ _ _ _ _ ac w _ h1 _ _=>by
 obtain⟨e1,e2⟩:=pM (op:=.neq) (x:=x) (y:=y) (w:=w) hT ha hb hla hlb;simp[execOp,h1.ev hx,h1.ev hy,e2,run_neq_struct,e1]
end
end
theorem eP {H:Hp} {b c k:Nat} {rows:List (List Value)} {cs:Array Value} {T:TypeId} {z:Nat×Nat} (h:H b=some (.cells cs T z)) (hc:Nat.ble rows.length c=true) (hk:∀r∈rows,r.length=k) (hcs:cs.toList.take (rows.length*k)=rows.flatten) (hcm:c<=maxLen:=by decide):
  (sl (some ⟨b,0,none⟩) c k rows).holds H:=
 fN.2 ⟨Nat.le_of_ble_eq_true hc,hcm,hk,.inr ⟨_,rfl,rfl,cs,T,z,h,fun i j v hv=>by
  cases hr:rows[i]? with
  |none=>rw[hr]at hv;cases hv
  |some r=>
   rw[hr]at hv;have:=iS hk hr hv;rw[<-hcs,List.getElem?_take]at this;split at this;simpa using this
   cases this⟩⟩
end E
end Go.Proofs.YtcnohdmimheoaaaGreat
namespace Go.Proofs.YtcnohdmimheoaaaGreat

namespace E
open Go Go.RowKit
def hp (w:World):Hp:=fun b=>w.heap[b]?
def cx (w:World):Cx:=⟨w.os,w.tape,w.output⟩
theorem NJ (w:World):St (cx w) w (hp w) []:=⟨rfl,rfl,rfl,fun _ _ h=>h,fun _ h=>by simp at h,fun _ h=>by simp at h,by simp⟩
theorem Ey {w w':World} {H:Hp} {L:Loc} (hle:(hp w).le H) (h:St (cx w) w' H L):Below w.heap.size w w':=by
 refine⟨h.os,h.tape,h.output,?_,fun k hk=>?_⟩;rcases Nat.eq_zero_or_pos w.heap.size with h0|h0;omega;have hk:w.heap.size-1<w.heap.size:=by omega
 have:=h.sub _ _ (hle (w.heap.size-1) _ (Array.getElem?_eq_getElem hk));have:=(Array.getElem?_eq_some_iff.1 this).1;omega;have:=h.sub _ _ (hle k _ (Array.getElem?_eq_getElem hk));rw[this,Array.getElem?_eq_getElem hk]
section
variable {H:Type} {enc:TypeId×Value->H} {P:Program} {w:World} {base:Nat} {spare:Nat->Bool} {held:Bool}
theorem qQ {b:Nat} {a:Addr} {n:Nat} {cs:List Value} (h:w.cells? b a n=some cs):cs.length=n/\∀(j:Nat) (v:Value),cs[j]? =some v->w.cell? (a.add j)=some v:=by
 unfold World.cells? at h;split at h
 have key:∀(l:List Nat) (cs:List Value),l.mapM (fun i=>w.cell? (a.add i))=some cs->cs.length=l.length/\∀(j:Nat) (v:Value),cs[j]? =some v->∃i,l[j]? =some i/\w.cell? (a.add i)=some v:=by
  intro l
  induction l with
  |nil=>intro cs h;simp at h;subst h;simp
  |cons x l ih=>
   intro cs h;simp only[List.mapM_cons]at h
   cases hx:w.cell? (a.add x)with
   |none=>rw[hx]at h;cases h
   |some u=>
    cases hl:l.mapM (fun i=>w.cell? (a.add i))with
    |none=>rw[hx,hl]at h;cases h
    |some us=>
     rw[hx,hl]at h;have h':some (u::us)=some cs:=h;simp at h';subst h';obtain⟨h1,h2⟩:=ih us hl;refine⟨by simp[h1],fun j v hj=>?_⟩
     cases j with
     |zero=>simp at hj;subst hj;exact⟨x,by simp,hx⟩
     |succ j=>simpa using h2 j v (by simpa using hj)
 obtain⟨h1,h2⟩:=key _ _ h;refine⟨by simpa using h1,fun j v hj=>?_⟩;obtain⟨i,hi,hc⟩:=h2 j v hj
 have hjn:j<n:=by
  have:=ae hj;rw[h1]at this;simpa using this
 rw[List.getElem?_range hjn]at hi;simp at hi;subst hi;exact hc
 cases h
theorem Ln {t e k fuel:Nat} {cs:List Value} {x:DataW H×List MemPlace} (ht:P.underlying t=some (.slice e)) (hk:P.cellsOf e=k) (hpos:Nat.blt 0 k=true) (h:DataW.trod enc P w base spare held fuel t cs=some x):
  ∃a c rows,cs=[.slice a rows.length c]/\(sl a c k rows).holds (hp w)/\rows.length<=c/\c<=maxLen/\
   ∃n elems sp,((x.1= .nil/\elems=[])\/x.1= .slice elems sp)/\elems.length=rows.length/\∀(i:Nat) (r:List Value),rows[i]? =some r->∃y:DataW H×List MemPlace,DataW.trod enc P w base spare held n e r=some y/\elems[i]? =some y.1:=by
 subst hk;have hpos':0<P.cellsOf e:=by simpa[Nat.blt_eq]using hpos
 rcases Deep.open_slice ht h with⟨rfl,rfl⟩| ⟨a,len,cap,m,n,D,Pl,rfl,hb,hl,hm,hmm,rfl,hx⟩;exact⟨none,0,[],rfl,dh _ _ _ (Nat.zero_le _),Nat.le_refl _,Nat.zero_le _,0,[],[],.inl ⟨rfl,rfl⟩,rfl,fun i r hr=>by simp at hr⟩;have hml:len<=m:=by rw[hmm];split<;>omega
 have hex:∀i,i<len->∃cs',w.cells? base (a.add (i*P.cellsOf e)) (P.cellsOf e)=some cs'/\DataW.trod enc P w base spare held n e cs'=some (D i,Pl i):=fun i hi=>hx i (by omega);obtain⟨R,hR⟩:=Deep.choose_lt (α:=List Value) (p:=fun i cs'=>w.cells? base (a.add (i*P.cellsOf e)) (P.cellsOf e)=some cs'/\DataW.trod enc P w base spare held n e cs'=some (D i,Pl i)) hex;refine⟨some a,cap,(List.range len).map R,by simp,fN.2 ⟨by simp;omega,hm,?_,?_⟩,by simp;omega,hm,n,(List.range len).map D,(List.range (m-len)).map fun j=>D (len+j),.inr rfl,by simp,?_⟩;intro r hr;obtain⟨i,hi,rfl⟩:=List.mem_map.1 hr;exact(qQ (hR i (List.mem_range.1 hi)).1).1;rcases Nat.eq_zero_or_pos len with h0|h0;left;simp[h0];right;obtain⟨h1,h2⟩:=qQ (hR 0 h0).1;have hc0:∃v,(R 0)[0]? =some v:=aD (by rw[h1];exact hpos');obtain⟨v0,hv0⟩:=hc0;have hc:=h2 0 v0 hv0
 have hsp:a.spot=none/\∃cs T z,w.heap[a.block]? =some (.cells cs T z):=by
  have:(a.add (0*P.cellsOf e)).add 0=a:=by simp[Addr.add]
  rw[this]at hc;unfold World.cell? at hc;split at hc;rename_i c T z hh;split at hc
  cases hc
  rename_i hs;refine⟨?_,_,_,_,hh⟩
  cases hsp:a.spot with
  |none=>rfl
  |some s=>simp[hsp]at hs
  cases hc
 obtain⟨hs,cs,T,z,hh⟩:=hsp;refine⟨a,rfl,hs,cs,T,z,hh,fun i j v hv=>?_⟩
 cases hr:((List.range len).map R)[i]? with
 |none=>rw[hr]at hv;cases hv
 |some r=>
  rw[hr]at hv;have hi:i<len:=by have:=ae hr;simpa using this
  have:r=R i:=by
   rw[List.getElem?_map,List.getElem?_range hi]at hr;simpa using hr.symm
  subst this;have h3:=(qQ (hR i hi).1).2 j v hv;rw[cell_of (cs:=cs) (T:=T) (z:=z) (by rw[fe,fe];exact hh) (ft j (ft _ hs)),g8,g8]at h3;exact h3
 intro i r hr;have hi:i<len:=by have:=ae hr;simpa using this
 rw[List.getElem?_map,List.getElem?_range hi]at hr;simp at hr;subst hr;exact⟨_,(hR i hi).2,by rw[List.getElem?_map,List.getElem?_range hi];rfl⟩
theorem tI {fs:List Field}:∀{i j:Nat} {f:Field},iE P fs i=true->fs[j]? =some f->mR P f (i+j)=true:=by
 induction fs with
 |nil=>intro i j f _ h;simp at h
 |cons g fs ih=>
  intro i j f h hj;simp only[iE,Bool.and_eq_true]at h
  cases j with
  |zero=>simp at hj;subst hj;exact h.1
  |succ j=>have:=ih h.2 (by simpa using hj);rwa [show i+1+j=i+(j+1) by omega]at this
theorem C1 {n:Int} (h:(Lit.int .i64 n).wf=true): -9223372036854775808<=n/\n<=9223372036854775807:=by
 simp only[Lit.wf,Bool.and_eq_true,decide_eq_true_eq]at h;have e1:IntKind.i64.min= -9223372036854775808:=by decide
 have e2:IntKind.i64.max=9223372036854775807:=by decide
 rw[e1,e2]at h;exact h
theorem kM {t k fuel:Nat} {cs:List Value} {x:DataW H×List MemPlace} (hT:iF P t k=true) (hC:P.cellsOf t=k) (h:DataW.trod enc P w base spare held fuel t cs=some x):
  ∃as9:List Int,cs=as9.map (Value.int .i64 ·)/\as9.length=k/\∀a∈as9,-9223372036854775808<=a/\a<=9223372036854775807:=by
 unfold iF at hT;split at hT;rename_i fs hfs;simp only[Bool.and_eq_true]at hT;obtain⟨h1,h2,_⟩:=hT;have h1:=Nat.eq_of_beq_eq_true h1;obtain⟨xs,n,_,rfl,hl,hlen,hf⟩:=DataW.trod_struct hfs h
 have each:∀j,j<k->∃a:Int,cs[j]? =some (.int .i64 a)/\ -9223372036854775808<=a/\a<=9223372036854775807:=by
  intro j hj;obtain⟨f,hfj⟩:=aD (l:=fs.toList) (i:=j) (by simp;omega);have hi:=tI h2 hfj;rw[Nat.zero_add]at hi;obtain⟨e1,_,e2,e3⟩:=jJ hi;have e4:=hf j f (by simpa using hfj);obtain⟨y,hy⟩:=aD (l:=xs) (i:=j) (by omega);rw[hy,e1,e3]at e4;obtain⟨a,e5,_,wf⟩:=DataW.trod_int e2 e4;refine⟨a,?_,C1 wf⟩;have:((cs.drop j).take 1)[0]? =some (.int .i64 a):=by rw[e5];rfl
  simpa[List.getElem?_take]using this
 obtain⟨g,hg⟩:=Deep.choose_lt (α:=Int) (p:=fun j a=>cs[j]? =some (.int .i64 a)/\ -9223372036854775808<=a/\a<=9223372036854775807) each;refine⟨(List.range k).map g,?_,by simp,fun a ha=>?_⟩;apply List.ext_getElem?;intro j;by_cases hj:j<k;rw[(hg j hj).1,List.getElem?_map,List.getElem?_map,List.getElem?_range hj];rfl;rw[List.getElem?_eq_none (by omega),List.getElem?_eq_none (by simp;omega)];obtain⟨j,hj,rfl⟩:=List.mem_map.1 ha;exact(hg j (List.mem_range.1 hj)).2
 cases hT
end
end E
end Go.Proofs.YtcnohdmimheoaaaGreat
namespace Go.Proofs.YtcnohdmimheoaaaGreat

namespace E
section
variable {X:Cx} {n:Nat} {P:Program} {ops:Array Oper} {Q:Exit->Act->World->Prop} {l l':List Oper} {env:Env} {Γ:List ag} {L L₀:Loc}
inductive Dr:Nat->Loc->Loc->Prop
 |z {L:Loc}:Dr 0 L L
 |s {k:Nat} {a:aO} {L L':Loc}:Dr k L L'->Dr (k+1) (a::L) L'
theorem At.C2 {x y:Code} {ι:Type} {k:Nat} (_hd:Dr k L L₀) (ws:List Nat) (e:ι->Env) (G:ι->List ag) (M:ι->Loc) (I:ι->Prop)
  (h:At X n (x.wp P (Exit.then (Ip X n (fun i=>e i++cc ws env) (fun i=>G i++Γ) (fun i=>M i++L₀) I) Q)) env Γ L)
  (h':∀i,I i->At X n (y.wp P Q) (e i++cc ws env) (G i++Γ) (M i++L₀)):At X n ((Code.seq x y).wp P Q) env Γ L:=
 At.Qx ws e G M L₀ I h h'
section
variable {K:Act->World->Prop}
include K
theorem At.ck (h:At X n K env Γ ([]::L)):At X n K env Γ L:=fun a w H h1 h2 h3=>h a w H h1 h2 h3
theorem At.aJ (φ:ag) (hp:∀H,ax Γ H->φ.holds H) (h:At X n K env (φ::Γ) L):At X n K env Γ L:=
 At.facts (φ::Γ) (fun H hH=>⟨hp H hH,hH⟩) h
theorem At.mS {a:Option Addr} {c k:Nat} {rows:List (List Value)} (hs:sl a c k rows∈Γ) (h:rows.length<=c->At X n K env Γ L):At X n K env Γ L:=
 At.have _ (fun _ hH=>(fN.1 (hH.mem hs)).1) h
end
end
end E
namespace E
open Go Go.RowKit Go.WideShapes
structure Sl (α:Type)where
 a:Option Addr
 c:Nat
 l:List α
def Sl.val {α:Type} (s:Sl α):Value:=.slice s.a s.l.length s.c
def aM (x:Int):List Value:=[.int .i64 x]
def cw (s:Sl Int):ag:=sl s.a s.c 1 (s.l.map aM)
section
variable {H:Type} {enc:TypeId×Value->H} {P:Program} {w:World} {base:Nat} {spare:Nat->Bool} {held:Bool}
theorem Below.trodAll (hl:laidOutB P=true) {W W':World} (hb:Below W.heap.size W W'):
  ∀{ts:List TypeId} {vs:List Value} {ds:List (DataW H)} {ps:List MemPlace},(ts.all fun t=>P.readableRec t&&Nat.blt t P.types.size)=true->
   DataW.TrodAll enc P W 0 (fun _=>true) true ts vs ds ps->(∀x∈ps,x.block<W.heap.size)->DataW.TrodAll enc P W' 0 (fun b=>decide (b<W.heap.size)) true ts vs ds ps
 | [],[],[],_,_,h,_=>h
 |t::ts,v::vs,d::ds,ps,hr,⟨p,q,h1,h2,e⟩,hlt=>by
  simp only[List.all_cons,Bool.and_eq_true]at hr;exact⟨p,q,Below.trod hl hr.1.1 (by have:=hr.1.2;simpa[Nat.blt_eq]using this) h1 hb (fun x hx=>hlt x (by rw[e];simp[hx])),Below.trodAll hl hb hr.2 h2 (fun x hx=>hlt x (by rw[e];simp[hx])),e⟩
 | [],[],_::_,_,_,h,_=>h.elim
 | [],_::_,_,_,_,h,_=>h.elim
 |_::_,[],_,_,_,h,_=>h.elim
 |_::_,_::_,[],_,_,h,_=>h.elim
end
end E
end Go.Proofs.YtcnohdmimheoaaaGreat
namespace Go.Proofs.YtcnohdmimheoaaaGreat

namespace E
open Go
section
variable {P:Program} {n:Nat} {env:Env} {Γ:List ag} {L:Loc} {ty t e:TypeId} {x y:Operand} {v:Value} {a:Option Addr} {c k i:Nat} {rows:List (List Value)} {M:aO}
section
variable {X:Cx} {K:Act->World->Prop}
include X K
theorem At.pieces {L':Loc} (hL:L=L') (h:At X n K env Γ L'):At X n K env Γ L:=hL▸h
theorem At.lenOf (hs:sl a c k rows∈Γ) (h:rows.length<=9223372036854775807->At X n K env Γ L):At X n K env Γ L:=
 At.have _ (fun _ hH=>by have h1:=fN.1 (hH.mem hs);have h2:=h1.2.1;have h3:=h1.1;simp only[maxLen]at h2;omega) h
end
theorem wU {z:Array Value} {m size:Nat} (hs:z.size=size):madeCells z (m*size)=((List.replicate m z.toList).flatten).toArray:=yD hs
theorem rW {sc:Bool} {size bytes m:Nat} {zero:Value} {kl kc:IntKind} {zl zc:Int} (ht:P.underlying t=some (.slice e)) (he:dg P e=some (sc,size,bytes,zero))
  (hx:ev env x=some (.int kl zl)) (hy:ev env y=some (.int kc zc)) (hl:zl=(m:Int)) (hc:zc=(m:Int)) (hz:Nat.beq zero.cells.size size=true) (hb:bytes*m<=281474976710656) (h63:m<=maxLen):
  dN P (.makeSlice t x y) ty n env Γ L (fun v Γ' L'=>∃b M,v= .slice (some ⟨b,0,none⟩) m m/\bR e size (List.replicate m zero.cells.toList) (some ⟨b,0,none⟩) m M/\Γ'=Γ/\L'=M::L):=
 dN.mz fun X d pos aft g ac w H h1 h2 h3=>by
  subst hl;subst hc;obtain⟨td,inf,e1,e2,_,e3,e4,e5⟩:=fk he;subst e3;subst e4;have hz':=Nat.eq_of_beq_eq_true hz
  have hb':(inf.bytes:Int)*(m:Int)<=281474976710656:=by
   have h:((inf.bytes*m:Nat):Int)<=281474976710656:=by omega
   rwa [Int.natCast_mul]at h
  have hr:=run_make (P:=P) w t e inf zero ht e2 e5 kl kc m m (by omega) (Int.le_refl _) hb' (by simp only[maxLen]at h63;omega);simp only[Int.toNat_natCast]at hr;refine⟨_,_,H,Γ,_,?_,⟨w.heap.size,[(w.heap.size,.cells (madeCells zero.cells (m*inf.size)) e (0,0))],rfl,⟨?_,.inr ⟨_,_,rfl,rfl,by simp,h63,size_madeCells _ _,?_⟩⟩,rfl,rfl⟩,Hp.le_refl H,h2,h3.push _⟩;simp[execOp,h1.ev hx,h1.ev hy,hr];intro r hr;rw[List.eq_of_mem_replicate hr];simpa using hz';rw[wU hz']
  have hfl:((List.replicate m zero.cells.toList).flatten).length=m*inf.size:=by
   rw[gJ (k:=inf.size) (fun r hr=>by rw[List.eq_of_mem_replicate hr];simpa using hz'),List.length_replicate]
  rw[List.length_replicate];exact List.take_of_length_le (Nat.le_of_eq hfl)
theorem tJ (w:World) (a:Addr):(loadCells a 0).run P w= .ok #[] w:=by
 simp[loadCells,loadCellsFrom]
theorem mA (w:World) (inf:TypeInfo) (ht:P.underlying t=some (.slice e)) (hi:P.info? e=some inf) (a a':Option Addr) (len c c':Nat) (hc:len<=c):
  (Builtin.append_ #[t,t] ty #[.slice a len c,.slice a' 0 c']).run P w= .ok (.slice a len c) w:=by
 cases a<;>cases a'<;>simp[Builtin.append_,run_underlying ht,sizeOf,typeInfo,hi,Builtin.lenOf,Builtin.firstCells,tJ,hc,storeCells]
theorem fO {sc:Bool} {size bytes len m c' cf:Nat} {zero:Value} {ats:Array TypeId} {a':Option Addr} {news:List (List Value)} (hats:ats= #[t,t]) (ht:P.underlying t=some (.slice e)) (he:dg P e=some (sc,size,bytes,zero))
  (hx:ev env x=some (.slice a len c)) (hy:ev env y=some (.slice a' m c')) (hs:bR e size rows a c M) (hl:len=rows.length) (hL:L[i]? =some M) (hsrc:sl a' cf size news∈Γ) (hm:m=news.length)
  (h1:∀r∈news,r.all Value.oneCell'=true) (hz:Nat.beq zero.cells.size size=true) (hpos:Nat.blt 0 size=true) (hb:(len+m)*bytes<=140737488355328) (hb':len+m<=maxLen):
  dN P (.call ⟨.builtin .append,#[x,y],ats⟩) ty n env Γ L (fun v Γ' L'=>∃a₂ c₂ M₂,v= .slice a₂ (len+m) c₂/\bR e size (rows++news) a₂ c₂ M₂/\Γ'=Γ/\L'=L.set i M₂):=by
 by_cases h0:news=[];subst h0;have hm0:m=0:=by simpa using hm
 subst hm0;refine dN.mz fun X d pos aft g ac w H k1 k2 k3=>?_;subst hats;subst hl;obtain⟨td,inf,e1,e2,_,_⟩:=fk he
 have hlc:rows.length<=c:=by
  rcases hs.2 with⟨_,rfl,rfl,_⟩| ⟨_,_,_,_,h,_⟩;simp;exact h
 have hr:=mA (P:=P) (ty:=ty) w inf ht e2 a a' rows.length c c' hlc;refine⟨_,w,H,Γ,L.set i M,?_,⟨a,c,M,rfl,by simpa using hs,rfl,rfl⟩,Hp.le_refl H,k2,?_⟩;simp[execOp,resolve,invoke,builtin,k1.ev hx,k1.ev hy,hr];exact St.back M hL (k3.front hL);intro X d pos aft g ac w H k1 k2 k3 K Q hk;obtain⟨q1,q2,q3,q4⟩:=fN.1 (ax.mem hsrc k2);rcases q4 with q4| ⟨b,rfl,_⟩;exact absurd q4 h0;refine dk (rows:=rows) hats ht he hx hy hs hl hL hm.symm q3 (news:=news) ?_ ?_ hz hpos hb hb' X d pos aft g ac w H k1 k2 k3 K Q hk;intro X' w' H' p1 p2 j u hj;have hs':=ax.mem hsrc p1;have hpos':0<size:=by simpa[Nat.blt_eq]using hpos
 have hjl:=ae hj;rw[gJ q3]at hjl;have hr:∃r,news[j/size]? =some r:=aD (by rw[Nat.div_lt_iff_lt_mul hpos'];exact hjl);obtain⟨r,hr⟩:=hr;have hrl:=q3 r (List.mem_of_getElem? hr);obtain⟨u',hu'⟩:∃u',r[j%size]? =some u':=aD (by rw[hrl];exact Nat.mod_lt _ hpos');have h5:=iS q3 hr hu';rw[Nat.mul_comm,Nat.div_add_mod]at h5;rw[h5]at hj
 cases hj
 have h6:=nW hs' p2 hr hu';obtain⟨_,_,_,q4⟩:=fN.1 hs';rcases q4 with q4| ⟨b',hb',hsp,_⟩;exact absurd q4 h0
 cases hb'
 rw[add_add (show(yC (some b)).spot=none from hsp)]at h6;rw[Nat.mul_comm,Nat.div_add_mod]at h6;exact h6;refine List.all_eq_true.2 fun u hu=>?_;obtain⟨r,hr,hur⟩:=List.mem_flatten.1 hu;exact List.all_eq_true.1 (h1 r hr) u hur
theorem mT {sc:Bool} {size bytes m c' cf:Nat} {zero:Value} {ats:Array TypeId} {a':Option Addr} {news:List (List Value)} (hats:ats= #[t,t]) (ht:P.underlying t=some (.slice e)) (he:dg P e=some (sc,size,bytes,zero))
  (hx:ev env x=some (.slice a 0 0)) (hy:ev env y=some (.slice a' m c')) (hsrc:sl a' cf size news∈Γ) (hm:m=news.length)
  (hz:Nat.beq zero.cells.size size=true) (hb:m*bytes<=140737488355328) (hb':m<=maxLen) (hpos:Nat.blt 0 size=true):
  dN P (.call ⟨.builtin .append,#[x,y],ats⟩) ty n env Γ L (fun v Γ' L'=>∃a₂ c₂,v= .slice a₂ m c₂/\Γ'=sl a₂ c₂ size news::Γ/\L'=L):=by
 refine dN.mz fun X d pos aft g ac w H k1 k2 k3=>?_;subst hats;subst hm;obtain⟨td,inf,e1,e2,_,e3,e4,e5⟩:=fk he;subst e3;subst e4;obtain⟨q1,q2,q3,q4⟩:=fN.1 (ax.mem hsrc k2)
 have hexec:∀{v w'},(Builtin.append_ #[t,t] ty #[.slice a 0 0,.slice a' news.length c']).run P w= .ok v w'->
    (execOp ac.eval ⟨d,.call ⟨.builtin .append,#[x,y],#[t,t]⟩,ty,pos,aft,g⟩).run P w= .ok (.value v) w':=fun h=>by
   simp[execOp,resolve,invoke,builtin,k1.ev hx,k1.ev hy,h]
 by_cases h0:news=[];subst h0;exact⟨_,w,H,_,L,hexec (mA (P:=P) (ty:=ty) w inf ht e2 a a' 0 0 c' (Nat.le_refl _)),⟨a,0,rfl,rfl,rfl⟩,Hp.le_refl H,⟨dh _ _ _ (Nat.zero_le _),k2⟩,k3⟩;rcases q4 with q4| ⟨b,rfl,hsp,cs,T,z,hcs,hkk⟩;exact absurd q4 h0;have hnl:0<news.length:=List.length_pos_iff.2 h0;have hz':=Nat.eq_of_beq_eq_true hz;have hfl:news.flatten.length=news.length*inf.size:=gJ q3;have hpos':0<inf.size:=by simpa[Nat.blt_eq]using hpos
 have hsrc':∀j u,news.flatten[j]? =some u->w.cell? (b.add j)=some u:=fun j u hj=>by
  have hjl:=ae hj;rw[hfl]at hjl;obtain⟨r,hr⟩:∃r,news[j/inf.size]? =some r:=aD (by rw[Nat.div_lt_iff_lt_mul hpos'];exact hjl);have hrl:=q3 r (List.mem_of_getElem? hr);obtain⟨u',hu'⟩:∃u',r[j%inf.size]? =some u':=aD (by rw[hrl];exact Nat.mod_lt _ hpos');have h5:=iS q3 hr hu';rw[Nat.mul_comm,Nat.div_add_mod]at h5;rw[h5]at hj
  cases hj
  have h6:=nW (ax.mem hsrc k2) k3 hr hu';rw[add_add (show(yC (some b)).spot=none from hsp),Nat.mul_comm,Nat.div_add_mod]at h6;exact h6
 have h63:((news.length:Nat):Int)<=9223372036854775807:=by simp only[maxLen]at hb';omega
 have key:∃bZ,(Builtin.append_ #[t,t] ty #[.slice a 0 0,.slice (some b) news.length c']).run P w= .ok (.slice (some ⟨w.heap.size,0,none⟩) news.length (grownCap w news.length bZ e))
   (w.drew.alloc (.cells (news.flatten.toArray++Builtin.zeroCells zero.cells (grownCap w news.length bZ e-news.length)) e)):=by
  cases a with
  |none=>exact⟨0,run_append_nil (P:=P) w t ty e inf zero ht e2 e5 b news.length c' news.flatten hfl hsrc' hnl h63 (by omega)⟩
  |some a0=>
   have hr:=run_append_grow (P:=P) w t ty e inf zero ht e2 e5 a0 0 0 [] (by simp) (by simp) b news.length c' news.flatten hfl hsrc' (by omega) (by omega) (growslice_fits (by omega) (by rw[Nat.zero_add];omega));simp only[Nat.zero_add]at hr;exact⟨0,by simpa using hr⟩
 obtain⟨bZ,hr⟩:=key;have hp:=(k3.drawn (w.drawn+1)).push (.cells (news.flatten.toArray++Builtin.zeroCells zero.cells (grownCap w news.length bZ e-news.length)) e);obtain⟨f1,f2⟩:=hp.freeze (i:=0) rfl;have hge:=grownCap_ge w news.length bZ e;have hcm:=grownCap_le_maxLen w news.length bZ e hb';refine⟨_,_,_,_,L,hexec hr,⟨_,_,rfl,rfl,rfl⟩,f2,⟨?_,k2.mono f2⟩,f1⟩;refine fN.2 ⟨hge,hcm,q3,.inr ⟨_,rfl,rfl,_,_,_,Hp.jA H _ _,fun p j u hv=>?_⟩⟩
 cases hrr:news[p]? with
 |none=>rw[hrr]at hv;cases hv
 |some r=>
  rw[hrr]at hv;have:=iS q3 hrr hv;have hlt:=ae this;rw[Array.getElem?_append_left (by simpa using hlt)];simpa using this
end
section
variable {P:Program} {n:Nat} {env:Env} {Γ:List ag} {L:Loc}
theorem iU {t T:TypeId} {ty:TypeId} {sc:Bool} {size bytes p k c i:Nat} {zero v:Value} {x y:Operand} {rows:List (List Value)} {a:Option Addr} {M:aO} {r:List Value}
  (ht:dg P t=some (sc,size,bytes,zero)) (hx:ev env x=some (.pointer (some ((yC a).add (p*k))))) (hy:ev env y=some v) (ho:bR T k rows a c M) (hL:L[i]? =some M) (hr:rows[p]? =some r)
  (hs:Nat.beq v.cells.size size=true) (hfit:Nat.ble (0+v.cells.size) r.length=true) (h1:v.cells.toList.all Value.oneCell'=true):
  dN P (.store t x y) ty n env Γ L (fun _ Γ' L'=>∃M',bR T k (rows.set p (pC r 0 v.cells.toList)) a c M'/\Γ'=Γ/\L'=L.set i M'):=by
 refine oX ht ?_ hy ho hL hr hs hfit h1;rw[hx];obtain⟨_,hM⟩:=ho;rcases hM with⟨_,_,rfl,_⟩| ⟨g,cur,rfl,_⟩;simp at hr;rw[add_add (show(yC (some (⟨g,0,none⟩:Addr))).spot=none from rfl),Nat.add_zero]
end
section
variable {P:Program} {n:Nat} {env:Env} {Γ:List ag} {L:Loc} {ty t t' e:TypeId} {x y:Operand} {a:Option Addr} {c len c' len':Nat}
theorem gb (ht:P.underlying t=some (.slice e)) (hx:ev env x=some (.slice a len c)) (hy:ev env y=some (.slice none len' c')):
  bF P (.binOp .eql t x y t') ty n env Γ L (.bool a.isNone):=
 fun _ _ _ _ _ ac w _ h1 _ _=>by
  have:=Lib.run_equalIn_slice_nil (P:=P) w 9999 t e a len c len' c' ht
  cases a<;>simp[execOp,h1.ev hx,h1.ev hy,eqGuard,binOp,Op.equal,Op.maxDepth,this]
theorem kN {sc:Bool} {size bytes:Nat} {zero:Value} (ht:P.underlying t=some (.slice e)) (he:dg P e=some (sc,size,bytes,zero)):
  dN P (.buildSlice t 0 #[]) ty n env Γ L (fun v Γ' L'=>∃b,v= .slice (some ⟨b,0,none⟩) 0 0/\Γ'=Γ/\L'=L):=
 dN.mz fun X d pos aft g a w H h1 h2 h3=>by
  refine⟨_,_,H,Γ,_,?_,⟨w.heap.size,rfl,rfl,rfl⟩,Hp.le_refl H,h2,(h3.push (.cells #[] e (0,0))).drop (List.sublist_cons_self ..)⟩;simp[execOp,Instr.buildSlice,underlying,ht,eA he,Instr.fill,newRow,newObj,Sem.run,Array.range_zero']
end
theorem Hp.Aw {H H':Hp} {g:Nat} (h:H.le H') (hg:H g=none):H.le (fun b=>if b=g then none else H' b):=fun b o e=>by
 by_cases hb:b=g;subst hb;rw[hg]at e;cases e;simp[hb,h b o e]
section borrow
variable {X:Cx} {n:Nat} {P:Program} {ops:Array Oper} {Q:Exit->Act->World->Prop} {rest:List Oper} {env:Env} {Γ:List ag} {L:Loc}
variable {d:Nat} {ty:TypeId} {pos:String} {aft:Array Edge} {f:FuncId} {args:List Operand} {vs:List Value} {ats:Array TypeId} {pre:List ag} {M L0:Loc} {R:Value->List ag->Loc->Prop}
section
variable {T:TypeId} {k c i:Nat} {rows:List (List Value)} {a:Option Addr} {Mo:aO} (hf:ah P f) (ha:pF env args=some vs) (co:aN P f vs pre M R) (ho:bR T k rows a c Mo) (hi:L[i]? =some Mo) (hp:∀H,ax (sl a c k rows::Γ) H->ax pre H) (hL:(M++L0).Perm (L.eraseIdx i))
include T k c i rows a Mo hf ha co ho hi hp hL
theorem yF:
  dN P (.call ⟨.value (.func f),args.toArray,ats⟩) ty n env Γ L (fun v Γ' L'=>∃Γr Mr,R v Γr Mr/\Γ'=Γ/\L'=Mo::(Mr++L0)):=
 fun X d pos aft g ac w H h1 h2 h3 K Q hk=>by
  have hent:(execOp ac.eval ⟨d,.call ⟨.value (.func f),args.toArray,ats⟩,ty,pos,aft,g⟩).run P w= .ok (.enter f vs.toArray) w:=by
   have:=h1.pF ha;have e:(args.toArray.map ac.eval)=vs.toArray:=by simp[this]
   simp only[execOp,resolve,Sem.run_bind,e];show Result.andThen (Sem.run P (Deferred.ofValue (.func (.func f) #[] #[]) vs.toArray) w) _=_;simp[Deferred.ofValue,invoke];exact hf _ w
  obtain⟨hkr,hM⟩:=ho;rcases hM with⟨rfl,rfl,rfl,rfl⟩| ⟨g',cur,rfl,rfl,h5,h50,hs,ht⟩;unfold Oper.wp;rw[hent];have hz:(sl none 0 k []).holds H:=dh _ _ _ (Nat.zero_le _)
  have h4:St X w H (M++L0):=by
   have h6:=(show St X w H ([]::L.eraseIdx i)from h3.front hi);have h7:St X w H (L.eraseIdx i):=h6.drop (List.sublist_cons_self ..);exact h7.perm hL
  refine(co X w H L0 (hp H ⟨hz,h2⟩) h4).mono ?_;rintro e w' ⟨v,Γ',M',H',rfl,k1,k2,k3,k4⟩;exact hk v _ _ w' H' ⟨Γ',M',k1,rfl,rfl⟩ k2 (h2.mono k2) k4;have hg:H g'=none:=(h3.front hi).apart (g',.cells cur T (0,0)) (by simp);have hfr:=bR.frozen ⟨hkr,.inr ⟨g',cur,rfl,rfl,h5,h50,hs,ht⟩⟩ hi h3;have hfz:=h3.freeze hi
  have hsl:(sl (some ⟨g',0,none⟩) c k rows).holds (H.with g' (.cells cur T (0,0))):=by
   refine fN.2 ⟨h5,h50,hkr,.inr ⟨_,rfl,rfl,cur,T,(0,0),Hp.jA H g' _,fun p j v hv=>?_⟩⟩
   cases hr:rows[p]? with
   |none=>rw[hr]at hv;cases hv
   |some r=>
    rw[hr]at hv;have:=iS hkr hr hv;rw[<-ht,List.getElem?_take]at this;split at this;simpa using this
    cases this
  unfold Oper.wp;rw[hent];refine(co X w _ L0 (hp _ ⟨hsl,h2.mono hfz.2⟩) (hfz.1.perm hL)).mono ?_;rintro e w' ⟨v,Γ',M',H',rfl,k1,k2,k3,k4⟩;have hle:H.le (fun b=>if b=g' then none else H' b):=Hp.Aw (Hp.le_trans hfz.2 k2) hg;refine hk v _ _ w' _ ⟨Γ',M',k1,rfl,rfl⟩ hle (h2.mono hle) ?_;have hH':H' g'=some (.cells cur T (0,0)):=k2 _ _ (Hp.jA H g' _);refine⟨k4.os,k4.tape,k4.output,fun b o e=>?_,fun p hp'=>?_,fun p hp'=>?_,?_⟩;split at e
  cases e
  exact k4.sub b o e;simp only[List.flatten_cons,List.singleton_append,List.mem_cons]at hp';rcases hp' with rfl|hp';exact k4.sub _ _ hH';exact k4.loc p hp';simp only[List.flatten_cons,List.singleton_append,List.mem_cons]at hp';rcases hp' with rfl|hp';simp;split;rfl;exact k4.apart p hp';simp only[List.flatten_cons,List.singleton_append,List.map_cons,List.nodup_cons];refine⟨fun hm=>?_,k4.nodup⟩;obtain⟨p,hp',hpe⟩:=List.mem_map.1 hm;have:=k4.apart p hp';rw[hpe,hH']at this
  cases this
theorem At.yG (hd:Nat.blt d n=true) (h:∀v Γr Mr,R v Γr Mr->At X n (wpList P ops Q rest) ((d,v)::env) Γ (Mo::(Mr++L0))):
  At X n (wpList P ops Q (⟨some d,.call ⟨.value (.func f),args.toArray,ats⟩,ty,pos,aft,none⟩::rest)) env Γ L:=
 At.eJ (yF hf ha co ho hi hp hL) hd fun v _ _ ⟨Γr,Mr,hr,e1,e2⟩=>by subst e1;subst e2;exact h v Γr Mr hr
end
variable {l tail:List Oper} {r:Ord} {i:Nat} {Lr:Loc} {op:Op}
theorem aQ.yH (ho:l[i]? =some ⟨some d,op,ty,pos,aft,none⟩) (hq:dN P op ty n env Γ L R) (hd:Nat.blt d n=true)
  (hk:∀v Γ' L',R v Γ' L'->(∀H,ax Γ' H->ax Γ H)/\Lr.Sublist L')
  (h:∀v Γ' L',R v Γ' L'->aQ X n P l Q tail r L' ((d,v)::env) Γ' L'):aQ X n P l Q tail (.o i r) Lr env Γ L:=fun a w H h1 h2 h3=>by
 show wpOp P l.toArray Q i _ a w;unfold wpOp;have ho':l.toArray[i]? =some ⟨some d,op,ty,pos,aft,none⟩:=by simpa using ho
 simp only[ho'];have hw0:Region.wanted (⟨some d,op,ty,pos,aft,none⟩:Oper) (yielded l.toArray a.tmps)=true:=rfl;rw[if_pos hw0];refine .inl (hq X _ _ _ _ a w H h1 h2 h3 _ _ fun v Γ' L' w' H' hr' _ h4 h5=>?_);obtain⟨k1,k2⟩:=hk v Γ' L' hr';exact⟨yv X Γ' L',⟨H',h4,h5⟩,fun u ⟨H1,q1,q2⟩=>⟨H1,k1 H1 q1,q2.drop k2⟩,h v Γ' L' hr' _ w' H' (h1.put hd) h4 h5⟩
theorem aQ.tK (ho:l[i]? =some ⟨none,op,ty,pos,aft,none⟩) (hq:dN P op ty n env Γ L R)
  (hk:∀v Γ' L',R v Γ' L'->(∀H,ax Γ' H->ax Γ H)/\Lr.Sublist L')
  (h:∀v Γ' L',R v Γ' L'->aQ X n P l Q tail r L' env Γ' L'):aQ X n P l Q tail (.o i r) Lr env Γ L:=fun a w H h1 h2 h3=>by
 show wpOp P l.toArray Q i _ a w;unfold wpOp;have ho':l.toArray[i]? =some ⟨none,op,ty,pos,aft,none⟩:=by simpa using ho
 simp only[ho'];have hw0:Region.wanted (⟨none,op,ty,pos,aft,none⟩:Oper) (yielded l.toArray a.tmps)=true:=rfl;rw[if_pos hw0];refine .inl (hq X _ _ _ _ a w H h1 h2 h3 _ _ fun v Γ' L' w' H' hr' _ h4 h5=>?_);obtain⟨k1,k2⟩:=hk v Γ' L' hr';exact⟨yv X Γ' L',⟨H',h4,h5⟩,fun u ⟨H1,q1,q2⟩=>⟨H1,k1 H1 q1,q2.drop k2⟩,h v Γ' L' hr' _ w' H' h1 h4 h5⟩
section
variable {j:Nat} {b c:Bool} (ho:l[i]? =some ⟨some d,op,ty,pos,aft,some (j,c)⟩) (hg:gd l env j=some b)
include j b c ho hg
theorem aQ.Lo (hb:b=c) (hq:dN P op ty n env Γ L R) (hd:Nat.blt d n=true) (hk:∀v Γ' L',R v Γ' L'->(∀H,ax Γ' H->ax Γ H)/\Lr.Sublist L') (h:∀v Γ' L',R v Γ' L'->aQ X n P l Q tail r L' ((d,v)::env) Γ' L'):aQ X n P l Q tail (.o i r) Lr env Γ L:=fun a w H h1 h2 h3=>by
 show wpOp P l.toArray Q i _ a w;unfold wpOp;have ho':l.toArray[i]? =some ⟨some d,op,ty,pos,aft,some (j,c)⟩:=by simpa using ho
 simp only[ho'];rw[if_pos (by subst hb;simp[Region.wanted,lV hg h1])];refine .inl (hq X _ _ _ _ a w H h1 h2 h3 _ _ fun v Γ' L' w' H' hr' _ h4 h5=>?_);obtain⟨k1,k2⟩:=hk v Γ' L' hr';exact⟨yv X Γ' L',⟨H',h4,h5⟩,fun u ⟨H1,q1,q2⟩=>⟨H1,k1 H1 q1,q2.drop k2⟩,h v Γ' L' hr' _ w' H' (h1.put hd) h4 h5⟩
theorem aQ.tL (hb:b= !c) (hd:Nat.blt d n=true) (hr:Lr.Sublist L) (h:aQ X n P l Q tail r L ((d,undef)::env) Γ L):aQ X n P l Q tail (.o i r) Lr env Γ L:=fun a w H h1 h2 h3=>by
 show wpOp P l.toArray Q i _ a w;unfold wpOp;have ho':l.toArray[i]? =some ⟨some d,op,ty,pos,aft,some (j,c)⟩:=by simpa using ho
 simp only[ho'];rw[if_neg (by subst hb;simp only[Region.wanted,lV hg h1];cases c<;>simp)];exact⟨yv X Γ L,⟨H,h2,h3⟩,fun u ⟨H1,q1,q2⟩=>⟨H1,q1,q2.drop hr⟩,h _ w H (h1.put hd) h2 h3⟩
end
theorem aQ.gA (ho:l[i]? =some ⟨some d,.call ⟨.value (.func f),args.toArray,ats⟩,ty,pos,aft,none⟩) (hf:ah P f) (ha:pF env args=some vs) (c:aN P f vs pre M R) (hp:∀H,ax Γ H->ax pre H) (hL:(M++L0).Perm L) (hd:Nat.blt d n=true)
  (hs:Lr.Sublist L0) (h:∀v Γr Mr,R v Γr Mr->aQ X n P l Q tail r (Mr++L0) ((d,v)::env) (Γr++Γ) (Mr++L0)):
  aQ X n P l Q tail (.o i r) Lr env Γ L:=
 aQ.yH ho (wR hf ha c hp hL) hd (fun v _ _ ⟨Γr,Mr,hr,e1,e2⟩=>by subst e1;subst e2;exact⟨fun _ hh=>hh.right,hs.trans (List.sublist_append_right Mr L0)⟩)
  fun v _ _ ⟨Γr,Mr,hr,e1,e2⟩=>by subst e1;subst e2;exact h v Γr Mr hr
theorem aQ.Ay {j:Nat} {b c':Bool} (ho:l[i]? =some ⟨some d,.call ⟨.value (.func f),args.toArray,ats⟩,ty,pos,aft,some (j,c')⟩) (hg:gd l env j=some b) (hb:b=c') (hf:ah P f) (ha:pF env args=some vs) (c:aN P f vs pre M R) (hp:∀H,ax Γ H->ax pre H) (hL:(M++L0).Perm L) (hd:Nat.blt d n=true)
  (hs:Lr.Sublist L0) (h:∀v Γr Mr,R v Γr Mr->aQ X n P l Q tail r (Mr++L0) ((d,v)::env) (Γr++Γ) (Mr++L0)):
  aQ X n P l Q tail (.o i r) Lr env Γ L:=
 aQ.Lo ho hg hb (wR hf ha c hp hL) hd (fun v _ _ ⟨Γr,Mr,hr,e1,e2⟩=>by subst e1;subst e2;exact⟨fun _ hh=>hh.right,hs.trans (List.sublist_append_right Mr L0)⟩)
  fun v _ _ ⟨Γr,Mr,hr,e1,e2⟩=>by subst e1;subst e2;exact h v Γr Mr hr
theorem aQ.front (i:Nat) {s:aO} {o:Ord} (hi:L[i]? =some s) (h:aQ X n P l Q tail o Lr env Γ (s::L.eraseIdx i)):aQ X n P l Q tail o Lr env Γ L:=At.perm _ (pE hi).symm h
end borrow
end E
end Go.Proofs.YtcnohdmimheoaaaGreat
namespace Go.Proofs.YtcnohdmimheoaaaGreat

namespace E
open Go Go.MapKept
section
variable {P:Program} {n:Nat} {env:Env} {Γ:List ag} {L:Loc} {ty t k e:TypeId} {m x y:Operand} {f:Int->Option Int} {b i:Nat} {M:aO} {a c:Int}
theorem Ky {a:Option Addr} {len cap:Nat} (ht:P.underlying t=some (.slice e)) (hx:ev env x=some (.slice a len cap)):bF P (.call ⟨.builtin .cap,#[x],#[t]⟩) ty n env Γ L (.int .i64 cap):=
 fun _ _ _ _ _ ac w _ h1 _ _=>by simp[execOp,resolve,invoke,builtin,Builtin.cap_,h1.ev hx,underlying,ht,goInt]
theorem NK {b c k:Nat}:bQ (some ⟨b,0,none⟩) c k 0=some ⟨b,0,none⟩:=by
 unfold bQ;split;rfl;simp[Addr.add]
theorem vr {tn:TypeId} {sc:Bool} {size bytes m:Nat} {zero:Value} {z:Int} {ats:Array TypeId} (hats:ats= #[t,tn]) (ht:P.underlying t=some (.slice e)) (htn:P.underlying tn=some (.int .i64)) (he:dg P e=some (sc,size,bytes,zero))
  (hx:ev env x=some (.slice none 0 0)) (hy:ev env y=some (.int .i64 z)) (hz:z=(m:Int)) (h0:0<m) (hzs:Nat.beq zero.cells.size size=true) (hpos:Nat.blt 0 size=true) (hb:m*bytes<=140737488355328) (hm:m<=maxLen):
  dN P (.call ⟨.builtin .append,#[x,y],ats⟩) ty n env Γ L (fun v Γ' L'=>∃b c M,v= .slice (some ⟨b,0,none⟩) m c/\bR e size [] (some ⟨b,0,none⟩) c M/\m<=c/\Γ'=Γ/\L'=M::L):=
 dN.mz fun X d pos aft g ac w H k1 k2 k3=>by
  subst hats;subst hz;obtain⟨td,inf,e1,e2,_,e3,e4,e5⟩:=fk he;have hz':=Nat.eq_of_beq_eq_true hzs;have hpos':0<size:=by simpa[Nat.blt_eq]using hpos
  subst e3;subst e4;have hr:=Lib.run_append_nil_zeros (P:=P) w t tn ty e inf zero .i64 .i64 ht htn e2 e5 m h0 hpos' (by simp only[maxLen]at hm;omega) (by omega)
  refine⟨_,_,H,Γ,_,?_,⟨w.heap.size,grownCap w m 0 e,[(w.heap.size,.cells (Builtin.zeroCells zero.cells m++Builtin.zeroCells zero.cells (grownCap w m 0 e-m)) e (0,0))],rfl,
   ⟨by simp,.inr ⟨_,_,rfl,rfl,by simp,grownCap_le_maxLen w m 0 e hm,?_,by simp⟩⟩,grownCap_ge w m 0 e,rfl,rfl⟩,Hp.le_refl H,k2,(k3.drawn (w.drawn+1)).push _⟩
  simp[execOp,resolve,invoke,builtin,k1.ev hx,k1.ev hy,hr];rfl;have hge:=grownCap_ge w m 0 e;simp only[Array.size_append,size_zeroCells,hz',<-Nat.add_mul];congr 1;omega
end
end E
end Go.Proofs.YtcnohdmimheoaaaGreat
namespace Go.Proofs.YtcnohdmimheoaaaGreat

namespace E
open Go Go.MapKept
section
variable {P:Program} {n:Nat} {env:Env} {Γ:List ag} {L:Loc} {ty t k e:TypeId} {m x y:Operand} {f:Int->Option Int} {b i:Nat} {M:aO} {a c:Int}
end
end E
end Go.Proofs.YtcnohdmimheoaaaGreat
namespace Go.Proofs.YtcnohdmimheoaaaGreat

namespace E
open Go
section
variable {P:Program} {n:Nat} {env:Env} {Γ:List ag} {L:Loc} {ty t e:TypeId} {x y:Operand} {a:Option Addr} {c k i p:Nat} {rows:List (List Value)} {M:aO}
theorem vt {z:Array Value} {m:Nat} {v:Value} (h:v∈(Builtin.zeroCells z m).toList):v∈z.toList:=by
 have h':v∈Builtin.zeroCells z m:=by simpa using h
 unfold Builtin.zeroCells at h';obtain⟨j,hj,rfl⟩:=Array.mem_map.1 h';have hj':j<m*z.size:=by simpa using hj
 have hz:0<z.size:=by
  rcases Nat.eq_zero_or_pos z.size with h0|h0;rw[h0]at hj';simp at hj';exact h0
 have hl:j%z.size<z.size:=Nat.mod_lt _ hz;rw[getElem!_pos z (j%z.size) hl];simp
theorem qR {k:Nat}:∀{rows:List (List Value)} (p:Nat),(∀r∈rows,r.length=k)->rows.flatten.take (p*k)=(rows.take p).flatten
 | [],p,_=>by simp
 |r::rows,0,_=>by simp
 |r::rows,p+1,h=>by
  have h1:=h r (by simp);have h2:=qR (rows:=rows) p fun r hr=>h r (List.mem_cons_of_mem _ hr);simp only[List.flatten_cons,List.take_succ_cons];rw[<-h2,Nat.add_mul,Nat.one_mul,List.take_append,h1,List.take_of_length_le (by omega)];congr 2;omega
theorem bR.take {T:TypeId} (h:bR T k rows a c M) (p:Nat):bR T k (rows.take p) a c M:=by
 obtain⟨hk,hM⟩:=h;refine⟨fun r hr=>hk r (List.mem_of_mem_take hr),?_⟩;rcases hM with⟨rfl,rfl,rfl,rfl⟩| ⟨g,cur,rfl,rfl,h5,h6,h7,h8⟩;exact .inl ⟨rfl,rfl,by simp,rfl⟩;refine .inr ⟨g,cur,rfl,rfl,by rw[List.length_take];omega,h6,h7,?_⟩;rw[List.length_take]
 have e:cur.toList.take (min p rows.length*k)=(cur.toList.take (rows.length*k)).take (min p rows.length*k):=by
  rw[List.take_take,Nat.min_eq_left (Nat.mul_le_mul_right _ (Nat.min_le_right ..))]
 rw[e,h8,qR _ hk];congr 1;rcases Nat.le_total p rows.length with h|h;rw[Nat.min_eq_left h];rw[Nat.min_eq_right h,List.take_of_length_le h,List.take_of_length_le (Nat.le_refl _)]
theorem BJ {sc:Bool} {size bytes len:Nat} {zero:Value} {ats:Array TypeId} (hats:ats= #[t]) (ht:P.underlying t=some (.slice e)) (he:dg P e=some (sc,size,bytes,zero))
  (hy:ev env y=some (.slice (bQ a c size p) (len-p) (c-p))) (ho:bR e size rows a c M) (hlen:len=rows.length) (hp:p<=len) (hL:L[i]? =some M) (hzs:Nat.beq zero.cells.size size=true) (h1:zero.cells.toList.all Value.oneCell'=true):
  dN P (.call ⟨.builtin .clear,#[y],ats⟩) ty n env Γ L (fun v Γ' L'=>∃M',bR e size (rows.take p) a c M'/\Γ'=Γ/\L'=L.set i M'):=
 dN.mz fun X d pos aft g ac w H k1 k2 k3=>by
  subst hats;subst hlen;have hz':=Nat.eq_of_beq_eq_true hzs;obtain⟨td,inf,e1,e2,e0,e3,e4,e5⟩:=fk he;rcases Nat.eq_zero_or_pos (rows.length-p)with h0|h0;refine⟨.tuple #[],w,H,Γ,L,?_,⟨M,ho.take p,rfl,?_⟩,Hp.le_refl H,k2,k3⟩;rw[h0]at hy;have hy':=k1.ev hy
  cases hs:bQ a c size p with
  |none=>rw[hs]at hy';simp[execOp,resolve,invoke,builtin,hy',Builtin.clear_,underlying,ht]
  |some s=>rw[hs]at hy';simp[execOp,resolve,invoke,builtin,hy',Builtin.clear_,underlying,ht]
  obtain⟨hi,rfl⟩:=List.getElem?_eq_some_iff.1 hL;simp;obtain⟨hk,hM⟩:=ho;rcases hM with⟨rfl,rfl,rfl,rfl⟩| ⟨b,cur,rfl,rfl,h5,h6,h7,h8⟩;simp at h0;have hf:=k3.front hL;have hg:w.heap[b]? =some (.cells cur e (0,0)):=hf.loc (b,_) (List.mem_cons_self ..);have hvl:(Builtin.zeroCells zero.cells (rows.length-p)).toList.length=(rows.length-p)*size:=by simp[size_zeroCells,hz']
  have hle:rows.length*size<=cur.size:=by rw[h7];exact Nat.mul_le_mul_right _ h5
  have hsum:p*size+(rows.length-p)*size=rows.length*size:=by rw[<-Nat.add_mul];congr 1;omega
  have hst:=run_storeCells_at P b (p*size) e (Builtin.zeroCells zero.cells (rows.length-p)).toList 0 cur w hg (by rw[hvl];omega) (fun v hv=>List.all_eq_true.1 h1 v (vt hv))
  have hsub:bQ (some ⟨b,0,none⟩) c size p=some ⟨b,p*size,none⟩:=by
   unfold bQ;rw[if_neg (by omega)];simp only[Option.map_some];congr 1;unfold Addr.add;split<;>simp_all
  rw[hsub]at hy;obtain⟨q,hq⟩:∃q,rows.length-p=q+1:=⟨rows.length-p-1,by omega⟩
  refine⟨.tuple #[],_,H,Γ,_,?_,⟨[(b,.cells (pC cur.toList (p*size) (Builtin.zeroCells zero.cells (rows.length-p)).toList).toArray e (0,0))],⟨fun r hr=>hk r (List.mem_of_mem_take hr),.inr ⟨b,_,rfl,rfl,by rw[List.length_take];omega,h6,?_,?_⟩⟩,rfl,rfl⟩,Hp.le_refl H,k2,
   St.back _ hL (hf.set (w':=w.setRow b (pC cur.toList (p*size) (Builtin.zeroCells zero.cells (rows.length-p)).toList).toArray) rfl rfl rfl (setRow_heap w b cur _ e (0,0) hg) fun c hc=>setRow_other w b c _ hc)⟩
  have hy':=k1.ev hy;simp only[Nat.add_zero]at hst;rw[hq]at hst hy'⊢;simp[execOp,resolve,invoke,builtin,hy',Builtin.clear_,underlying,ht,nT he,hst,pC];simp only[pC,List.size_toArray,List.length_append,List.length_take,List.length_drop,Array.length_toList];have hvs:(Builtin.zeroCells zero.cells (rows.length-p)).size=(rows.length-p)*size:=by simp[size_zeroCells,hz']
  rw[hvs];omega;have hpl:(rows.take p).length=p:=by rw[List.length_take];omega
  rw[hpl];show((pC cur.toList (p*size) _)).take (p*size)=_;simp only[pC];rw[List.append_assoc,List.take_append_of_le_length (by simp;omega),List.take_take,Nat.min_self]
  have e9:cur.toList.take (p*size)=(cur.toList.take (rows.length*size)).take (p*size):=by
   rw[List.take_take,Nat.min_eq_left (Nat.mul_le_mul_right _ (by omega))]
  rw[e9,h8,qR _ hk]
theorem Iq {t':TypeId} {ad:Addr} (ht:P.underlying t=some (.pointer e)) (hx:ev env x=some (.pointer (some ad))) (hy:ev env y=some (.pointer none)):
  bF P (.binOp .eql t x y t') ty n env Γ L (.bool false):=
 fun _ _ _ _ _ ac w _ h1 _ _=>by
  have h8:∀d:Nat,(Op.equalIn (d+1) t (.pointer (some ad)) (.pointer none)).run P w= .ok false w:=fun d=>by
   simp[Op.equalIn,underlying,ht]
  have h9:=h8 9999;simp[execOp,h1.ev hx,h1.ev hy,eqGuard,binOp,Op.equal,Op.maxDepth,h9]
theorem jK {sc:Bool} {size bytes:Nat} {zero:Value} (ht:P.underlying t=some (.slice e)) (he:dg P e=some (sc,size,bytes,zero)):
  dN P (.buildSlice t 0 #[]) ty n env Γ L (fun v Γ' L'=>∃b M,v= .slice (some ⟨b,0,none⟩) 0 0/\bR e size [] (some ⟨b,0,none⟩) 0 M/\Γ'=Γ/\L'=M::L):=
 dN.mz fun X d pos aft g a w H h1 h2 h3=>by
  refine⟨_,_,H,Γ,_,?_,⟨w.heap.size,_,rfl,⟨by simp,.inr ⟨_,_,rfl,rfl,Nat.le_refl _,Nat.zero_le _,by simp,by simp⟩⟩,rfl,rfl⟩,Hp.le_refl H,h2,h3.push (.cells #[] e (0,0))⟩;simp[execOp,Instr.buildSlice,underlying,ht,eA he,Instr.fill,newRow,newObj,Sem.run,Array.range_zero']
end
end E
end Go.Proofs.YtcnohdmimheoaaaGreat
namespace Go.Proofs.YtcnohdmimheoaaaGreat

namespace E
open Go
variable {X:Cx} {n:Nat} {P:Program} {Q:Exit->Act->World->Prop} {env:Env} {Γ:List ag} {L:Loc} {l tail:List Oper} {r:Ord} {i:Nat} {Lr:Loc}
variable {d:Nat} {ty:TypeId} {pos:String} {aft:Array Edge} {f:FuncId} {args:List Operand} {vs:List Value} {ats:Array TypeId} {pre:List ag} {M L0:Loc} {R:Value->List ag->Loc->Prop}
section
variable {α:Type} {row:α->List Value} {T2 k2:Nat} {pred:Sl α->Prop} {T:TypeId} {k c j:Nat} {rows:List (List Value)} {a:Option Addr} {Mo:aO}
include α row T2 k2 pred T k c j rows a Mo
theorem C3 (hf:ah P f) (ha:pF env args=some vs) (co:aN P f vs pre [] (fun v Γ M=>∃(u:Sl α) (M':aO),v=u.val/\Γ=[]/\M=[M']/\bR T2 k2 (u.l.map row) u.a u.c M'/\pred u)) (hw:bR T k rows a c Mo) (hi:L[j]? =some Mo) (hp:∀H,ax (sl a c k rows::Γ) H->ax pre H):
  dN P (.call ⟨.value (.func f),args.toArray,ats⟩) ty n env Γ L (fun v Γ' L'=>∃u:Sl α,v=u.val/\pred u/\Γ'=sl u.a u.c k2 (u.l.map row)::Γ/\L'=L):=
 fun X d pos aft g ac w H h1 h2 h3 K Q hk=>yF hf ha co hw hi hp (L0:=L.eraseIdx j) (List.Perm.refl _) X d pos aft g ac w H h1 h2 h3 K Q fun v Γ' L' w' H' hr hle h4 h5=>by
  obtain⟨Γr,Mr,⟨u,M',e1,e2,e3,hO,hpu⟩,e4,e5⟩:=hr;subst e1;subst e2;subst e3;subst e4;subst e5;obtain⟨H2,q1,q2,q3⟩:=hO.frozen (i:=1) rfl h5;exact hk _ _ _ w' H2 ⟨u,rfl,hpu,rfl,rfl⟩ (Hp.le_trans hle q2) ⟨q3,h4.mono q2⟩ (St.perm (L:=Mo::L.eraseIdx j) q1 (pE hi))
theorem At.Lp {ops:Array Oper} {rest:List Oper} (hf:ah P f) (ha:pF env args=some vs) (co:aN P f vs pre [] (fun v Γ M=>∃(u:Sl α) (M':aO),v=u.val/\Γ=[]/\M=[M']/\bR T2 k2 (u.l.map row) u.a u.c M'/\pred u)) (hw:bR T k rows a c Mo) (hi:L[j]? =some Mo) (hp:∀H,ax (sl a c k rows::Γ) H->ax pre H) (hd:Nat.blt d n=true) (h:∀u:Sl α,pred u->At X n (wpList P ops Q rest) ((d,u.val)::env) (sl u.a u.c k2 (u.l.map row)::Γ) L):
  At X n (wpList P ops Q (⟨some d,.call ⟨.value (.func f),args.toArray,ats⟩,ty,pos,aft,none⟩::rest)) env Γ L:=
 At.eJ (C3 hf ha co hw hi hp) hd fun v _ _ ⟨u,e0,e1,e2,e3⟩=>by subst e0;subst e2;subst e3;exact h u e1
end
end E
end Go.Proofs.YtcnohdmimheoaaaGreat
namespace Go.Proofs.YtcnohdmimheoaaaGreat

namespace E
open Go
section
variable {P:Program} {n:Nat} {env:Env} {Γ:List ag} {L:Loc} {ty t t' e:TypeId} {x y:Operand} {k:IntKind} {a b:Int}
theorem Ez (hx:ev env x=some (.int k a)) (hy:ev env y=some (.int k b)):
  bF P (.binOp .xor t x y t') ty n env Γ L (.int k (k.wrap ((BitVec.ofInt k.bits a^^^BitVec.ofInt k.bits b).toNat))):=
 fun _ _ _ _ _ ac w _ h1 _ _=>by simp[execOp,h1.ev hx,h1.ev hy,eqGuard,binOp,Op.intBits]
theorem EA {yk:IntKind} (hx:ev env x=some (.int k a)) (hy:ev env y=some (.int yk b)) (h0:0<=b) (h1:b<=k.bits):
  bF P (.binOp .shr t x y t') ty n env Γ L (.int k (a/2^b.toNat)):=
 fun _ _ _ _ _ ac w _ h _ _=>by simp[execOp,h.ev hx,h.ev hy,eqGuard,binOp,shift_shr k yk a b h0 h1]
theorem EB {ad:Addr} (ht:P.underlying t=some (.pointer e)) (hx:ev env x=some (.pointer (some ad))) (hy:ev env y=some (.pointer none)):
  bF P (.binOp .neq t x y t') ty n env Γ L (.bool true):=
 fun _ _ _ _ _ ac w _ h1 _ _=>by
  have h8:∀d:Nat,(Op.equalIn (d+1) t (.pointer (some ad)) (.pointer none)).run P w= .ok false w:=fun d=>by
   simp[Op.equalIn,underlying,ht]
  have h9:=h8 9999;simp[execOp,h1.ev hx,h1.ev hy,eqGuard,binOp,Op.equal,Op.maxDepth,h9]
theorem wV (ht:P.underlying t=some (.pointer e)) (hx:ev env x=some (.pointer none)) (hy:ev env y=some (.pointer none)):
  bF P (.binOp .eql t x y t') ty n env Γ L (.bool true):=
 fun _ _ _ _ _ ac w _ h1 _ _=>by
  have h8:∀d:Nat,(Op.equalIn (d+1) t (.pointer none) (.pointer none)).run P w= .ok true w:=fun d=>by
   simp[Op.equalIn,underlying,ht]
  have h9:=h8 9999;simp[execOp,h1.ev hx,h1.ev hy,eqGuard,binOp,Op.equal,Op.maxDepth,h9]
end
section
variable {X:Cx} {n:Nat} {K:Act->World->Prop} {env:Env} {Γ:List ag} {L:Loc} {A B C D:aO}
theorem St.flat {w:World} {H:Hp} {L L':Loc} (h:St X w H L) (e:L.flatten=L'.flatten):St X w H L':=by unfold St at h⊢;rw[<-e];exact h
theorem At.Kz (h:At X n K env Γ (A::B::L)):At X n K env Γ ((A++B)::L):=fun a w H h1 h2 h3=>h a w H h1 h2 (h3.flat (by simp))
theorem At.ky (h:At X n K env Γ (A::B::C::L)):At X n K env Γ ((A++(B++C))::L):=fun a w H h1 h2 h3=>h a w H h1 h2 (h3.flat (by simp))
theorem At.cH (h:At X n K env Γ ((A++B)::L)):At X n K env Γ (A::B::L):=fun a w H h1 h2 h3=>h a w H h1 h2 (h3.flat (by simp))
theorem At.fP (h:At X n K env Γ ((A++(B++C))::L)):At X n K env Γ (A::B::C::L):=fun a w H h1 h2 h3=>h a w H h1 h2 (h3.flat (by simp))
theorem At.piece {A B:aO} (e:A=B) (h:At X n K env Γ (B::L)):At X n K env Γ (A::L):=e▸h
end
end E
end Go.Proofs.YtcnohdmimheoaaaGreat
namespace Go.Proofs.YtcnohdmimheoaaaGreat

namespace E
open Go
section
variable {P:Program} {n:Nat} {env:Env} {Γ:List ag} {L:Loc} {ty t e:TypeId} {x y:Operand} {a:Option Addr} {c i:Nat} {M:aO} {rows:List (List Value)}
theorem rX {sc:Bool} {size bytes len m c' cf:Nat} {zero:Value} {ats:Array TypeId} {a':Option Addr} {news rows':List (List Value)} (hats:ats= #[t,t]) (ht:P.underlying t=some (.slice e)) (he:dg P e=some (sc,size,bytes,zero))
  (hx:ev env x=some (.slice a len c)) (hy:ev env y=some (.slice a' m c')) (hs:bR e size rows a c M) (hl:len=rows.length) (hL:L[i]? =some M) (hsrc:sl a' cf size news∈Γ) (hm:m=news.length)
  (h1:∀r∈news,r.all Value.oneCell'=true) (hz:Nat.beq zero.cells.size size=true) (hpos:Nat.blt 0 size=true) (hb:(len+m)*bytes<=140737488355328) (hb':len+m<=maxLen) (hr:rows++news=rows'):
  dN P (.call ⟨.builtin .append,#[x,y],ats⟩) ty n env Γ L (fun v Γ' L'=>∃a₂ c₂,v= .slice a₂ (len+m) c₂/\Γ'=sl a₂ c₂ size rows'::Γ/\L'=L.eraseIdx i):=
 fun X d pos aft g ac w H k1 k2 k3 K Q hk=>fO hats ht he hx hy hs hl hL hsrc hm h1 hz hpos hb hb' X d pos aft g ac w H k1 k2 k3 K Q fun v Γ' L' w' H' hr' hle h4 h5=>by
  obtain⟨a2,c2,M2,e1,hO,e2,e3⟩:=hr';subst e1;subst e2;subst e3;subst hr;have hi:=(List.getElem?_eq_some_iff.1 hL).1;obtain⟨H2,q1,q2,q3⟩:=hO.frozen (i:=i) (List.getElem?_set_self hi) h5;have e4:(L.set i M2).eraseIdx i=L.eraseIdx i:=by rw[List.eraseIdx_set_eq]
  rw[e4]at q1;exact hk _ _ _ w' H2 ⟨_,_,rfl,rfl,rfl⟩ (Hp.le_trans hle q2) ⟨q3,h4.mono q2⟩ q1
theorem aP {sc:Bool} {len size bytes:Nat} {zero:Value} {parts:List (Nat×Operand)} {vs:List (Nat×Value)} {flat:List Value} {rows:List (List Value)} (ht:P.underlying t=some (.slice e)) (he:dg P e=some (sc,size,bytes,zero))
  (hv:Aq env parts=some vs) (hzs:Nat.beq zero.cells.size size=true) (hsm:Nat.ble (len*size) 16777216=true) (hne:Nat.beq (len*size) 0=false)
  (hc:lay ((List.range len).map fun i=>(i*size,size,true)) ((List.replicate len zero.cells.toList).flatten) vs=some flat) (hk:∀r∈rows,r.length=size) (hcs:flat.toArray.toList.take (rows.length*size)=rows.flatten)
  (hcl:Nat.ble rows.length len=true) (hcm:len<=maxLen):
  dN P (.buildSlice t len parts.toArray) ty n env Γ L (fun v Γ' L'=>∃b,v= .slice (some ⟨b,0,none⟩) len len/\Γ'=sl (some ⟨b,0,none⟩) len size rows::Γ/\L'=L):=
 fun X d pos aft g ac w H k1 k2 k3 K Q hK=>pI ht he hv hzs hsm hne hc X d pos aft g ac w H k1 k2 k3 K Q fun v Γ' L' w' H' hr hle h4 h5=>by
  obtain⟨b,e1,e2,e3⟩:=hr;subst e1;subst e2;subst e3;obtain⟨q1,q2⟩:=h5.freeze (i:=0) rfl;exact hK _ _ _ w' _ ⟨b,rfl,rfl,rfl⟩ (Hp.le_trans hle q2) ⟨eP (Hp.jA _ _ _) hcl hk hcs hcm,h4.mono q2⟩ q1
end
end E
end Go.Proofs.YtcnohdmimheoaaaGreat
namespace Go.Proofs.YtcnohdmimheoaaaGreat

namespace E
open Go
class TR (P:Program) (t:TypeId) (r:outParam (Bool×Nat×Nat×Value)):Prop where
 h:dg P t=some r
class SR (P:Program) (t:TypeId) (r:outParam (List (Nat×Nat×Bool))):Prop where
 h:kW P t=some r
class UR (P:Program) (t:TypeId) (r:outParam TypeDesc):Prop where
 h:P.underlying t=some r
class EN (P:Program) (f:FuncId):Prop where
 h:ah P f
class FB (P:Program) (f:FuncId) (fn:outParam Func) (nt:outParam Nat):Prop where
 a:P.funcs[f]? =some fn
 b:fn.ntmps=nt
 c:fn.body.isSome=true
 d:(fn.name== "runtime.NumGoroutine")=false
instance {P:Program} {f:FuncId} {fn:Func} {nt:Nat} [h:FB P f fn nt]:EN P f:=⟨by
 obtain⟨c,hc⟩:=Option.isSome_iff_exists.1 h.c;exact ah.mk' h.a hc h.d⟩
theorem cb {P:Program} {f:FuncId} {fn:Func} {nt:Nat} [hf:FB P f fn nt] {c:Code} {args:List Value} {pre:List ag} {M:E.Loc} {R:Value->List ag->E.Loc->Prop}
  (h:∀X H₀ L₀,At X nt (c.wp P (bG P fn X H₀ L₀ R)) (qN args 0) (bZ H₀::pre) (M++L₀)) (hb:fn.body=some c:=by exact rfl) (hle:Nat.ble args.length nt=true:=by exact rfl):aN P f args pre M R:=aN.body nt hf.a hb hf.b hle h
class MX (P:Program):Prop where
 h:P.follows .mixedOrders=true
theorem de {Γ:List ag} {H:Hp} {φ:ag} (h:ax Γ H) (m:φ∈Γ:=by
 try simp only[List.cons_append,List.nil_append]
 first
  | ((repeat (first|with_reducible exact List.mem_cons_self|apply List.mem_cons_of_mem));done)
  | ((repeat (first|exact List.mem_cons_self|apply List.mem_cons_of_mem));done)):φ.holds H:=h.mem m
class El_ (R:Value->List ag->E.Loc->Prop) (T:outParam ((Value->List ag->E.Loc->Prop)->Prop)):Prop where
 h:∀K,T K->∀v Γ M,R v Γ M->K v Γ M
theorem Qy {α:Type} {l l':List α} {a:α} (h:l.Sublist l'):l.Sublist (a::l'):=.cons _ h
theorem Ql {Γ:List ag}:∀H,ax Γ H->ax [] H:=fun _ _=>trivial
theorem Qm {Γ Δ:List ag} {φ:ag} (h:φ∈Γ) (k:∀H,ax Γ H->ax Δ H):∀H,ax Γ H->ax (φ::Δ) H:=fun H q=>⟨ax.mem h q,k H q⟩
def Pk {α:Type} (a:α) (L L':List α):Prop:=(a::L').Perm L
section
variable {α:Type}
include α
theorem C4 {a:α} {L:List α}:Pk a (a::L) L:=.refl _
theorem C5 {a b:α} {L L':List α} (h:Pk a L L'):Pk a (b::L) (b::L'):=(List.Perm.swap b a L').trans (h.cons b)
theorem NL {L:List α}:L.Perm L:=.refl _
theorem NM {a:α} {X L L':List α} (p:Pk a L L') (h:X.Perm L'):(a::X).Perm L:=(h.cons a).trans p
end
def Sp {α:Type} (X L:List α):Prop:=∃Y,Y.Perm L/\X.Sublist Y
section
variable {α:Type}
include α
theorem Qz {L0 L:List α} (h:L0.Sublist L):Sp L0 L:=⟨L,.refl _,h⟩
theorem Xd {a:α} {X L L':List α} (p:Pk a L L') (h:Sp X L'):Sp (a::X) L:=by
 obtain⟨Y,h1,h2⟩:=h;exact⟨a::Y,(h1.cons a).trans p,h2.cons_cons a⟩
theorem NN {a:α} {l:List α}:(a::l)[0]? =some a:=rfl
theorem NO {a b:α} {l:List α} {i:Nat} (h:l[i]? =some a):(b::l)[i+1]? =some a:=h
end
section
variable {X:Cx} {n:Nat} {P:Program} {ops:Array Oper} {Q:Exit->Act->World->Prop} {rest:List Oper} {env:Env} {Γ:List ag} {L:E.Loc}
variable {d:Nat} {ty:TypeId} {pos:String} {aft:Array Edge} {f:FuncId} {args:List Operand} {vs:List Value} {ats:Array TypeId} {pre:List ag} {M L0:E.Loc} {R:Value->List ag->E.Loc->Prop}
theorem QA {b k:Nat} {v:Value} {a:Addr} (e:a=⟨b,k,none⟩) (h:Rd Γ L ⟨b,k,none⟩ v:=by
 first
  |exact Rd.loc (i:=0) rfl rfl|exact Rd.loc (i:=1) rfl rfl|exact Rd.loc (i:=2) rfl rfl|exact Rd.loc (i:=3) rfl rfl|exact Rd.loc (i:=4) rfl rfl|exact Rd.loc (i:=5) rfl rfl|exact Rd.loc (i:=6) rfl rfl|exact Rd.loc (i:=7) rfl rfl
  |exact Rd.aW (by repeat (first|with_reducible exact List.mem_cons_self|apply List.mem_cons_of_mem)) rfl
  |exact Rd.aW (by repeat (first|exact List.mem_cons_self|apply List.mem_cons_of_mem)) rfl):Rd Γ L a v:=e▸h
theorem QB {t:TypeId} {x:Operand} {m i b k bytes:Nat} {T:TypeId} {z:Nat×Nat} {zero:Value} {cs:Array Value} (hx:ev env x=some (.pointer (some ⟨b,k,none⟩))) (h:L[i]? =some [(b,Obj.cells cs T z)]) (ht:dg P t=some (false,m,bytes,zero)) (hv:H7 cs k m=some vs) (hs:vs.length=m):
  bF P (.load t x) ty n env Γ L (.agg vs.toArray):=bU ht hx (fc.loc h hv) hs
theorem QC {t:TypeId} {x:Operand} {m b k bytes:Nat} {zero:Value} {cs:Array Value} (ht:dg P t=some (false,m,bytes,zero)) (hx:ev env x=some (.pointer (some ⟨b,k,none⟩))) (h:E.aW b cs∈Γ) (hv:H7 cs k m=some vs) (hs:vs.length=m):
  bF P (.load t x) ty n env Γ L (.agg vs.toArray):=bU ht hx (fc.aW h hv) hs
theorem Ir {op:Op} {v:Value} (h:bF P op ty n env Γ L v:=by
 first
  | ((with_reducible apply oS);exact rfl)
  | ((with_reducible apply aY);exact TR.h;exact rfl;exact QA rfl)
  | ((with_reducible apply aq);exact SR.h;exact rfl;exact rfl;exact rfl)
  | ((with_reducible apply oT);exact rfl)
  | ((with_reducible apply vK);exact rfl;exact rfl)
  | ((with_reducible apply yz);exact rfl)
  | ((with_reducible apply Kx);exact rfl;exact rfl;omega;omega)
  | ((with_reducible apply BI);exact rfl;exact rfl;omega;omega)
  |exact g9 rfl
  | ((with_reducible apply kY);exact UR.h;exact rfl)
  | ((with_reducible apply lW);exact TR.h;exact SR.h;exact rfl;exact rfl)
  | ((with_reducible apply tH);exact rfl;exact rfl)
  | ((with_reducible apply Im);exact SR.h;exact rfl;exact rfl;exact rfl)
  | ((with_reducible apply Et);exact SR.h;exact rfl;exact rfl;exact rfl)
  | ((with_reducible apply Iq);exact UR.h;exact rfl;exact rfl)
  | ((with_reducible apply EB);exact UR.h;exact rfl;exact rfl)
  | ((with_reducible apply QB);exact rfl;(focus (repeat (first|exact NN|apply NO)));exact TR.h;exact rfl;exact rfl)
  | ((with_reducible apply QC);exact TR.h;exact rfl;(focus (repeat (first|exact List.mem_cons_self|apply List.mem_cons_of_mem)));exact rfl;exact rfl)):bF P op ty n env Γ L v:=h
theorem Is (h:Calm Q:=by repeat (first|exact bG.calm|with_reducible apply Calm.then|with_reducible apply Calm.inBlock)):Calm Q:=h
theorem QD {full l l':List Oper} {env':Env} (h1:bu full 1 l env=some (l',env')) (h2:wT n l 1=true) (k:At X n (wpList P full.toArray Q l') env' Γ L):At X n (wpList P full.toArray Q l) env Γ L:=At.bu 1 h1 h2 k
theorem QE {t:TypeId} {x y:Operand} {v:Value} {sc:Bool} {size bytes b k i:Nat} {zero:Value} {cs:List Value} {T:TypeId} (hx:ev env x=some (.pointer (some ⟨b,k,none⟩))) (hL:L[i]? =some [(b,.cells cs.toArray T (0,0))]) (ht:dg P t=some (sc,size,bytes,zero)) (hy:ev env y=some v)
  (hs:Nat.beq v.cells.size size=true) (hfit:Nat.ble (k+v.cells.size) cs.length=true) (h1:v.cells.toList.all Value.oneCell'=true)
  (h:At X n (wpList P ops Q rest) env Γ (L.set i [(b,.cells (pC cs k v.cells.toList).toArray T (0,0))])):
  At X n (wpList P ops Q (⟨none,.store t x y,ty,pos,aft,none⟩::rest)) env Γ L:=At.bC (aw ht hx hy hL hs hfit h1) fun _ _ _ ⟨e1,e2⟩=>by subst e1;subst e2;exact h
structure vu (q:Prop):Prop where
 u:q
theorem mc {p q:Prop} (k:q) (h:vu q->p:=by
 intro k
 repeat (first
  |with_reducible refine At.nil ?_
  |with_reducible refine At.seq ?_
  |with_reducible refine At.region ?_
  |with_reducible refine At.then ?_
  | ((with_reducible apply At.quiet);exact Ir;exact rfl)
  | ((with_reducible apply aQ.quiet);exact rfl;exact Ir;exact rfl;exact Is)
  | ((with_reducible apply aQ.dt);exact rfl;exact rfl;exact rfl;exact Ir;exact rfl;exact Is)
  | ((with_reducible apply aQ.shut);exact rfl;exact rfl;exact rfl;exact rfl;exact Is)
  |with_reducible refine aQ.done ?_
  | ((with_reducible apply QD);exact rfl;exact rfl)
  | ((with_reducible apply QE);exact rfl;(focus (repeat (first|exact NN|apply NO)));exact TR.h;exact rfl;exact rfl;exact rfl;exact rfl)
  |with_reducible refine At.skip ?_
  |with_reducible refine At.ret ?_
  |with_reducible refine At.dq ?_
  |with_reducible refine At.block ?_
  |with_reducible refine At.exit ?_
  |with_reducible refine At.jI ?_
  |with_reducible refine At.kV ?_
  | ((with_reducible refine At.tq ?_ ?_);exact rfl)
  | ((with_reducible refine At.wP ?_ ?_);exact rfl)
  |with_reducible refine At.yt ?_
  | ((with_reducible apply At.pG);exact rfl)
  | ((with_reducible apply At.vH);exact rfl)
  | ((with_reducible apply At.open);exact rfl;exact rfl)
  | ((with_reducible intro _ _ _ h);first|obtain⟨rfl,rfl,rfl⟩:=h|obtain⟨rfl,rfl⟩:=h))
 exact k.u):p:=h ⟨k⟩
theorem fi {p q1 q2:Prop} (k1:q1) (k2:q2) (h:vu q1->vu q2->p:=by
 intro k1 k2;refine mc ?_;exact At.if rfl k1.u k2.u):p:=h ⟨k1⟩ ⟨k2⟩
theorem QF [hf:EN P f] (c:aN P f vs pre M R) (k:∀v Γr Mr,R v Γr Mr->At X n (wpList P ops Q rest) ((d,v)::env) (Γr++Γ) (Mr++L0))
  (ha:pF env args=some vs:=by exact rfl)
  (hp:∀H,ax Γ H->ax pre H:=by
   try simp only[List.cons_append,List.nil_append]
   repeat (first|exact Ql| (refine Qm ?_ ?_;focus (repeat (first|exact List.mem_cons_self|apply List.mem_cons_of_mem)))))
  (hL:(M++L0).Perm L:=by
   try simp only[List.set_cons_zero,List.set_cons_succ,List.eraseIdx_cons_zero,List.eraseIdx_cons_succ,List.cons_append,List.nil_append,List.append_eq]
   repeat (first|with_reducible exact NL| (apply NM;focus (repeat (first|exact C4|apply C5)))))
  (hd:Nat.blt d n=true:=by exact rfl):
  At X n (wpList P ops Q (⟨some d,.call ⟨.value (.func f),args.toArray,ats⟩,ty,pos,aft,none⟩::rest)) env Γ L:=At.call hf.h ha c hp hL hd k
theorem ca {p q:Prop} (c:aN P f vs pre M R) (k:q) (h:aN P f vs pre M R->vu q->p:=by
 intro c k;refine mc ?_;refine QF c ?_
 first
  | (refine El_.h _ ?_;exact k.u)
  |exact k.u):p:=h c ⟨k⟩
end
inductive I_:Nat->Nat->List Nat->Ord->Prop
 |e {i:Nat} {ls:List Nat}:I_ i 0 ls .e
 |o {i m:Nat} {ls:List Nat} {r:Ord} (h:I_ (i+1) m ls r):I_ i (m+1) (i::ls) (.o i r)
 |q {i m:Nat} {ls:List Nat} {r:Ord} (h:I_ (i+1) m ls r):I_ i (m+1) ls (.q i r)
inductive V_:List Nat->Ord->Prop
 |e:V_ [] .e
 |o {i:Nat} {ls:List Nat} {r:Ord} (h:V_ ls r):V_ ((i+100)::ls) (.o i r)
 |q {i:Nat} {ls:List Nat} {r:Ord} (h:V_ ls r):V_ (i::ls) (.q i r)
structure D_ (m:Nat) (ls:List Nat):Prop where
theorem QG {α β γ:Type} {p:α->β->γ->Prop}:∀v Γ M,p v Γ M->p v Γ M:=fun _ _ _ h=>h
section
variable {X:Cx} {n:Nat} {P:Program} {env:Env} {Γ:List ag} {L L0 M:E.Loc} {Q:Exit->Act->World->Prop} {rest:List Oper} {d:Nat} {ty t:TypeId} {pos:String} {aft:Array Edge} {op:Op} {x:Operand} {v:Value} {ops:Array Oper} {R:Value->List ag->E.Loc->Prop}
variable {V:Nat->Value} {G:Nat->List ag} {N:Nat->E.Loc} {l tail:List Oper} {r:Ord} {i:Nat} {f:FuncId} {args:List Operand} {vs:List Value} {ats:Array TypeId} {pre:List ag} {Lr:E.Loc}
theorem QH (h:dN P op ty n env Γ L R:=by
 first
  | ((with_reducible apply tE);exact rfl)
  | ((with_reducible apply iP);exact TR.h)
  | ((with_reducible apply pI);exact UR.h;exact TR.h;exact rfl;exact rfl;exact rfl;exact rfl;exact rfl)):dN P op ty n env Γ L R:=h
theorem QI (hq:dN P op ty n env Γ L R) (hd:Nat.blt d n=true) (hR:∀v Γ' L',R v Γ' L'->∃b,v=V b/\Γ'=G b/\L'=N b) (k:∀b,At X n (wpList P ops Q rest) ((d,V b)::env) (G b) (N b)):
  At X n (wpList P ops Q (⟨some d,op,ty,pos,aft,none⟩::rest)) env Γ L:=At.eJ hq hd fun v Γ' L' h=>by
 obtain⟨b,rfl,rfl,rfl⟩:=hR v Γ' L' h;exact k b
theorem al {p q:Prop} (k:q) (h:vu q->p:=by
 intro k;refine mc ?_;exact QI (by exact QH) rfl (by exact QG) k.u):p:=h ⟨k⟩
theorem QJ {ops:Array Oper} {Q:Exit->Act->World->Prop} {rest:List Oper} {d:Nat} {ty t:TypeId} {pos:String} {aft:Array Edge} {x:Operand} {v:Value}
  (k:∀b,At X n (wpList P ops Q rest) ((d,.pointer (some ⟨b,0,none⟩))::env) (aW b v.cells::Γ) L) (hx:ev env x=some v:=by exact rfl) (hd:Nat.blt d n=true:=by exact rfl):
  At X n (wpList P ops Q (⟨some d,.box t x,ty,pos,aft,none⟩::rest)) env Γ L:=
 At.eJ (tE hx) hd fun v' Γ' L' h=>by
  obtain⟨b,rfl,rfl,rfl⟩:=h;exact At.freeze 0 (φ:=aW b _) rfl (fun _ h=>cO.2 ⟨_,_,h⟩) (k b)
theorem bx {p q:Prop} (k:q) (h:vu q->p:=by
 intro k;refine mc ?_;exact QJ k.u):p:=h ⟨k⟩
theorem Nh {α:Type} {l l':List α} (h:l.Sublist l':=by
 try simp only[List.set_cons_zero,List.set_cons_succ,List.eraseIdx_cons_zero,List.eraseIdx_cons_succ,List.cons_append,List.nil_append,List.append_eq]
 repeat (first|with_reducible exact r_|with_reducible apply k_|apply d_)):l.Sublist l':=h
section
variable (ho:l[i]? =some ⟨some d,op,ty,pos,aft,none⟩) (hq:dN P op ty n env Γ L R) (hd:Nat.blt d n=true) (hR:∀v Γ' L',R v Γ' L'->∃b,v=V b/\Γ'=G b/\L'=N b) (hG:∀b H,ax (G b) H->ax Γ H) (hs:∀b,L0.Sublist (N b))
include ho hq hd hR hG hs
theorem QK (k:∀b,aQ X n P l Q tail r L0 ((d,V b)::env) (G b) (N b)):aQ X n P l Q tail (.o i r) L0 env Γ L:=aQ.eJ ho hq hd (fun v Γ' L' h=>by
 obtain⟨b,rfl,rfl,rfl⟩:=hR v Γ' L' h;exact⟨hG b,hs b⟩) fun v Γ' L' h=>by
 obtain⟨b,rfl,rfl,rfl⟩:=hR v Γ' L' h;exact k b
theorem QL (k:∀b,aQ X n P l Q tail r (N b) ((d,V b)::env) (G b) (N b)):aQ X n P l Q tail (.o i r) L0 env Γ L:=aQ.yH ho hq hd (fun v Γ' L' h=>by
 obtain⟨b,rfl,rfl,rfl⟩:=hR v Γ' L' h;exact⟨hG b,hs b⟩) fun v Γ' L' h=>by
 obtain⟨b,rfl,rfl,rfl⟩:=hR v Γ' L' h;exact k b
end
theorem mO {p q:Prop} (k:q) (h:vu q->p:=by
 intro k;refine mc ?_;exact QK rfl (by exact QH) rfl (by exact QG) (by exact fun _ _ h=>h) (by exact fun _=>Nh) k.u):p:=h ⟨k⟩
theorem nX {p q:Prop} (k:q) (h:vu q->p:=by
 intro k;refine mc ?_;exact QL rfl (by exact QH) rfl (by exact QG) (by exact fun _ _ h=>h) (by exact fun _=>Nh) k.u):p:=h ⟨k⟩
theorem Qn {Γ:List ag} {L0:E.Loc} (h:∀v Γ' L',R v Γ' L'->(∀H,ax Γ' H->ax Γ H)/\L0.Sublist L':=by
 intro _ _ _ h
 first
  |obtain⟨rfl,rfl,rfl⟩:=h
  |obtain⟨rfl,rfl⟩:=h
  |obtain⟨_,rfl,rfl,rfl⟩:=h
  |obtain⟨_,_,rfl,rfl,rfl⟩:=h
  |obtain⟨_,_,_,rfl,_,rfl,rfl⟩:=h
 first
  |exact⟨fun _ h=>h,Nh⟩
  |exact⟨fun _ h=>h.2,Nh⟩):∀v Γ' L',R v Γ' L'->(∀H,ax Γ' H->ax Γ H)/\L0.Sublist L':=h
theorem QM [hf:EN P f] (ho:l[i]? =some ⟨some d,.call ⟨.value (.func f),args.toArray,ats⟩,ty,pos,aft,none⟩) (c:aN P f vs pre M R) (k:∀v Γr Mr,R v Γr Mr->aQ X n P l Q tail r Lr ((d,v)::env) (Γr++Γ) (Mr++L0))
  (ha:pF env args=some vs:=by exact rfl)
  (hp:∀H,ax Γ H->ax pre H:=by
   try simp only[List.cons_append,List.nil_append]
   repeat (first|exact Ql| (refine Qm ?_ ?_;focus (repeat (first|exact List.mem_cons_self|apply List.mem_cons_of_mem)))))
  (hL:(M++L0).Perm L:=by
   try simp only[List.set_cons_zero,List.set_cons_succ,List.eraseIdx_cons_zero,List.eraseIdx_cons_succ,List.cons_append,List.nil_append,List.append_eq]
   repeat (first|with_reducible exact NL| (apply NM;focus (repeat (first|exact C4|apply C5)))))
  (hd:Nat.blt d n=true:=by exact rfl) (hs:Lr.Sublist L0:=by exact Nh):aQ X n P l Q tail (.o i r) Lr env Γ L:=aQ.call ho hf.h ha c hp hL hd hs k
theorem QN [hf:EN P f] (ho:l[i]? =some ⟨some d,.call ⟨.value (.func f),args.toArray,ats⟩,ty,pos,aft,none⟩) (c:aN P f vs pre M R) (k:∀v Γr Mr,R v Γr Mr->aQ X n P l Q tail r (Mr++L0) ((d,v)::env) (Γr++Γ) (Mr++L0))
  (ha:pF env args=some vs:=by exact rfl)
  (hp:∀H,ax Γ H->ax pre H:=by
   try simp only[List.cons_append,List.nil_append]
   repeat (first|exact Ql| (refine Qm ?_ ?_;focus (repeat (first|exact List.mem_cons_self|apply List.mem_cons_of_mem)))))
  (hL:(M++L0).Perm L:=by
   try simp only[List.set_cons_zero,List.set_cons_succ,List.eraseIdx_cons_zero,List.eraseIdx_cons_succ,List.cons_append,List.nil_append,List.append_eq]
   repeat (first|with_reducible exact NL| (apply NM;focus (repeat (first|exact C4|apply C5)))))
  (hd:Nat.blt d n=true:=by exact rfl) (hs:Lr.Sublist L0:=by exact Nh):aQ X n P l Q tail (.o i r) Lr env Γ L:=aQ.gA ho hf.h ha c hp hL hd hs k
theorem gf {p q:Prop} (c:aN P f vs pre M R) (k:q) (h:aN P f vs pre M R->vu q->p:=by
 intro c k;refine mc ?_;refine QM rfl c ?_
 first
  | (refine El_.h _ ?_;exact k.u)
  |exact k.u):p:=h c ⟨k⟩
theorem oA {p q:Prop} (c:aN P f vs pre M R) (k:q) (h:aN P f vs pre M R->vu q->p:=by
 intro c k;refine mc ?_;refine QN rfl c ?_
 first
  | (refine El_.h _ ?_;exact k.u)
  |exact k.u):p:=h c ⟨k⟩
section
variable [hx:MX P] {id m:Nat} {ls:List Nat} (dd:D_ m ls) (hL0:L0.Sublist L)
include hx id m ls dd hL0
theorem QO (ho:I_ 0 m ls r) (k:aQ X n P l Q tail r L0 env Γ L) (hok:yw l.toArray m r=true:=by kernel_rfl) (ht:behind m l=some tail:=by exact rfl):At X n ((Code.region id l.toArray true).wp P Q) env Γ L:=At.draw m r L0 hL0 hx.h hok ht k
theorem QP (ho:V_ ls r) (k:aQ X n P l Q tail r L0 env Γ L) (hok:yw l.toArray m r=true:=by kernel_rfl) (ht:behind m l=some tail:=by exact rfl):At X n ((Code.region id l.toArray true).wp P Q) env Γ L:=At.draw m r L0 hL0 hx.h hok ht k
end
theorem dw {p q:Prop} (m:Nat) (ls:List Nat) (s:L0.Sublist L) (k:q) (h:D_ m ls->L0.Sublist L->vu q->p:=by
 intro dd s k;refine mc ?_;exact QO dd s (by repeat (first|exact I_.e|apply I_.o|apply I_.q)) k.u):p:=h ⟨⟩ s ⟨k⟩
theorem dv {p q:Prop} (m:Nat) (ls:List Nat) (s:L0.Sublist L) (k:q) (h:D_ m ls->L0.Sublist L->vu q->p:=by
 intro dd s k;refine mc ?_;exact QP dd s (by repeat (first|exact V_.e|apply V_.o|apply V_.q)) k.u):p:=h ⟨⟩ s ⟨k⟩
theorem ld {size bytes:Nat} {zero v:Value} {a:Addr} [ht:TR P t (true,size,bytes,zero)] (hr:Rd Γ L a v) (k:At X n (wpList P ops Q rest) ((d,v)::env) Γ L) (hx:ev env x=some (.pointer (some a)):=by exact rfl) (hd:Nat.blt d n=true:=by exact rfl):
  At X n (wpList P ops Q (⟨some d,.load t x,ty,pos,aft,none⟩::rest)) env Γ L:=At.quiet (aY ht.h hx hr) hd k
theorem qt (hq:bF P op ty n env Γ L v) (k:At X n (wpList P ops Q rest) ((d,v)::env) Γ L) (hd:Nat.blt d n=true:=by exact rfl):At X n (wpList P ops Q (⟨some d,op,ty,pos,aft,none⟩::rest)) env Γ L:=At.quiet hq hd k
theorem lM (hq:dN P op ty n env Γ L R) (k:∀v Γ' L',R v Γ' L'->At X n (wpList P ops Q rest) ((d,v)::env) Γ' L') (hd:Nat.blt d n=true:=by exact rfl):At X n (wpList P ops Q (⟨some d,op,ty,pos,aft,none⟩::rest)) env Γ L:=At.eJ hq hd k
section
variable (ho:l[i]? =some ⟨some d,op,ty,pos,aft,none⟩) (hq:dN P op ty n env Γ L R)
include ho hq
theorem oM (k:∀v Γ' L',R v Γ' L'->aQ X n P l Q tail r L0 ((d,v)::env) Γ' L') (hd:Nat.blt d n=true:=by exact rfl) (hk:∀v Γ' L',R v Γ' L'->(∀H,ax Γ' H->ax Γ H)/\L0.Sublist L':=by exact Qn):aQ X n P l Q tail (.o i r) L0 env Γ L:=aQ.eJ ho hq hd hk k
theorem yI (k:∀v Γ' L',R v Γ' L'->aQ X n P l Q tail r L' ((d,v)::env) Γ' L') (hd:Nat.blt d n=true:=by exact rfl) (hk:∀v Γ' L',R v Γ' L'->(∀H,ax Γ' H->ax Γ H)/\L0.Sublist L':=by exact Qn):aQ X n P l Q tail (.o i r) L0 env Γ L:=aQ.yH ho hq hd hk k
end
section
variable (ho:l[i]? =some ⟨none,op,ty,pos,aft,none⟩) (hq:dN P op ty n env Γ L R)
include ho hq
theorem yn (k:∀v Γ' L',R v Γ' L'->aQ X n P l Q tail r L' env Γ' L') (hk:∀v Γ' L',R v Γ' L'->(∀H,ax Γ' H->ax Γ H)/\L0.Sublist L':=by exact Qn):aQ X n P l Q tail (.o i r) L0 env Γ L:=aQ.tK ho hq hk k
theorem oN (k:∀v Γ' L',R v Γ' L'->aQ X n P l Q tail r L0 env Γ' L') (hk:∀v Γ' L',R v Γ' L'->(∀H,ax Γ' H->ax Γ H)/\L0.Sublist L':=by exact Qn):aQ X n P l Q tail (.o i r) L0 env Γ L:=aQ.bC ho hq hk k
end
theorem cv {p q1 q2:Prop} (k1:q1) (k2:q2) (h:vu q1->vu q2->p:=by
 intro k1 k2;refine mc ?_;exact At.cond rfl k1.u k2.u):p:=h ⟨k1⟩ ⟨k2⟩
structure N_ (d:Nat):Prop where
theorem QQ {K:Act->World->Prop} {d:Nat} {p:Prop} [Decidable p] (dd:N_ d) (hd:lk env d=some (.bool (decide p))) (hT:p->At X n K ((d,.bool true)::env) Γ L) (hF:¬p->At X n K ((d,.bool false)::env) Γ L):At X n K env Γ L:=At.eV hd hT hF
theorem sp {p q1 q2:Prop} (d:Nat) (k1:q1) (k2:q2) (h:N_ d->vu q1->vu q2->p:=by
 intro dd k1 k2;refine mc ?_;exact QQ dd rfl k1.u k2.u):p:=h ⟨⟩ ⟨k1⟩ ⟨k2⟩
structure W_ (d:Nat) (u:Value):Prop where
theorem NP {K:Act->World->Prop} {u v:Value} (dd:W_ d u) (hv:v=u) (h:At X n K ((d,u)::(d,v)::env) Γ L):At X n K ((d,v)::env) Γ L:=At.fZ d u (by simp[lk]) hv h
theorem NQ {u v:Value} (dd:W_ d u) (hv:v=u) (h:aQ X n P l Q tail r L0 ((d,u)::(d,v)::env) Γ L):aQ X n P l Q tail r L0 ((d,v)::env) Γ L:=aQ.fZ d u (by simp[lk]) hv h
theorem sG {p q:Prop} (d:Nat) (u:Value) (k:q) (h:W_ d u->vu q->p:=by
 intro dd k
 repeat (first
  | ((with_reducible refine NP dd ?_ ?_);exact rfl;exact k.u)
  | ((with_reducible refine NQ dd ?_ ?_);exact rfl;exact k.u)
  |with_reducible refine At.nil ?_
  |with_reducible refine At.seq ?_
  |with_reducible refine At.region ?_
  |with_reducible refine At.then ?_
  | ((with_reducible apply At.quiet);exact Ir;exact rfl)
  | ((with_reducible apply aQ.quiet);exact rfl;exact Ir;exact rfl;exact Is)
  | ((with_reducible apply aQ.dt);exact rfl;exact rfl;exact rfl;exact Ir;exact rfl;exact Is)
  | ((with_reducible apply aQ.shut);exact rfl;exact rfl;exact rfl;exact rfl;exact Is)
  |with_reducible refine aQ.done ?_
  | ((with_reducible apply QD);exact rfl;exact rfl)
  | ((with_reducible apply QE);exact rfl;(focus (repeat (first|exact NN|apply NO)));exact TR.h;exact rfl;exact rfl;exact rfl;exact rfl)
  |with_reducible refine At.skip ?_
  |with_reducible refine At.ret ?_
  |with_reducible refine At.dq ?_
  |with_reducible refine At.block ?_
  |with_reducible refine At.exit ?_
  |with_reducible refine At.jI ?_
  |with_reducible refine At.kV ?_
  | ((with_reducible refine At.tq ?_ ?_);exact rfl)
  | ((with_reducible refine At.wP ?_ ?_);exact rfl)
  |with_reducible refine At.yt ?_
  | ((with_reducible apply At.pG);exact rfl)
  | ((with_reducible apply At.vH);exact rfl)
  | ((with_reducible apply At.open);exact rfl;exact rfl)
  | ((with_reducible intro _ _ _ h);first|obtain⟨rfl,rfl,rfl⟩:=h|obtain⟨rfl,rfl⟩:=h))):p:=h ⟨⟩ ⟨k⟩
theorem sv {p q q1:Prop} (d:Nat) (u:Value) (k:q) (h:W_ d u->vu q1->vu q->p:=by
 intro dd e k
 repeat (first
  | ((with_reducible refine NP dd ?_ ?_);exact e.u;exact k.u)
  | ((with_reducible refine NQ dd ?_ ?_);exact e.u;exact k.u)
  |with_reducible refine At.nil ?_
  |with_reducible refine At.seq ?_
  |with_reducible refine At.region ?_
  |with_reducible refine At.then ?_
  | ((with_reducible apply At.quiet);exact Ir;exact rfl)
  | ((with_reducible apply aQ.quiet);exact rfl;exact Ir;exact rfl;exact Is)
  | ((with_reducible apply aQ.dt);exact rfl;exact rfl;exact rfl;exact Ir;exact rfl;exact Is)
  | ((with_reducible apply aQ.shut);exact rfl;exact rfl;exact rfl;exact rfl;exact Is)
  |with_reducible refine aQ.done ?_
  | ((with_reducible apply QD);exact rfl;exact rfl)
  | ((with_reducible apply QE);exact rfl;(focus (repeat (first|exact NN|apply NO)));exact TR.h;exact rfl;exact rfl;exact rfl;exact rfl)
  |with_reducible refine At.skip ?_
  |with_reducible refine At.ret ?_
  |with_reducible refine At.dq ?_
  |with_reducible refine At.block ?_
  |with_reducible refine At.exit ?_
  |with_reducible refine At.jI ?_
  |with_reducible refine At.kV ?_
  | ((with_reducible refine At.tq ?_ ?_);exact rfl)
  | ((with_reducible refine At.wP ?_ ?_);exact rfl)
  |with_reducible refine At.yt ?_
  | ((with_reducible apply At.pG);exact rfl)
  | ((with_reducible apply At.vH);exact rfl)
  | ((with_reducible apply At.open);exact rfl;exact rfl)
  | ((with_reducible intro _ _ _ h);first|obtain⟨rfl,rfl,rfl⟩:=h|obtain⟨rfl,rfl⟩:=h))) (e:q1):p:=h ⟨⟩ ⟨e⟩ ⟨k⟩
theorem Qo {K:Act->World->Prop} {v:Value} (d:Nat) (u:Value) (hd:lk env d=some v) (hv:v=u) (h:At X n K ((d,u)::env) Γ L):At X n K env Γ L:=At.fZ d u hd hv h
end
section
variable {X:Cx} {n:Nat} {P:Program} {env:Env} {Γ:List ag} {L:E.Loc}
def Qp (R:Value->List ag->E.Loc->Prop) (v:Value) (Γ:List ag) (L L₀:E.Loc):Prop:=∃Γr M,R v Γr M/\(∀H,ax Γ H->ax Γr H)/\Sp (M++L₀) L
theorem Vz {p ty m i b k bytes:Nat} {T:TypeId} {z:Nat×Nat} {zero:Value} {cs:Array Value} {vs:List Value} (h:lk env p=some (.pointer (some ⟨b,k,none⟩)):=by exact rfl) (ht:dg P ty=some (false,m,bytes,zero):=by exact TR.h)
  (hL:L[i]? =some [(b,Obj.cells cs T z)]:=by repeat (first|exact NN|apply NO)) (hv:H7 cs k m=some vs:=by exact rfl) (hs:vs.length=m:=by exact rfl):dU P env Γ L (.cell p ty) (.agg vs.toArray):=dU.yE h ht (fc.loc hL hv) hs
theorem Lq {fn:Func} {H₀:Hp} {L₀:E.Loc} {R:Value->List ag->E.Loc->Prop} {rs:List ResultVar} {vs:List Value}
  (k:Qp R (cP vs) Γ L L₀)
  (hr:fn.results=rs.toArray:=by exact rfl)
  (hv:aT P env Γ L rs vs:=by repeat (first|exact aT.nil| (apply aT.cons;focus (first| ((with_reducible apply dU.tmp);exact rfl)| ((with_reducible apply dU.cell);exact rfl;exact TR.h;exact QA rfl)|exact Vz))))
  (hold:bZ H₀∈Γ:=by
   try simp only[List.cons_append,List.nil_append]
   repeat (first|with_reducible exact List.mem_cons_self|apply List.mem_cons_of_mem)):
  At X n (bG P fn X H₀ L₀ R .ret) env Γ L:=fun a w H h1 h2 h3=>by
 obtain⟨Γr,M,k,hΓ,Y,p,q⟩:=k;refine⟨h1.defers,cP vs,?_,cP vs,Γr,M,H,rfl,k,ax.mem hold h2,hΓ H h2,(h3.perm p).drop q⟩;have e:=aT.run h1 h2 h3 hv;have e0:Go.results fn a.tmps=(fn.results.mapM (oW a) >>= fun vs=>pure (if h:vs.size=1 then vs[0]else .tuple vs)):=rfl;rw[e0,hr,Array.mapM_eq_mapM_toList,Sem.run_bind,map_eq_pure_bind,Sem.run_bind,e];simp only[Result.andThen_ok,Sem.run_pure]
 match vs with
 | []=>rfl
 | [v]=>rfl
 |v::u::us=>simp[cP]
theorem NR {fn:Func} {H₀:Hp} {L₀:E.Loc} {R:Value->List ag->E.Loc->Prop} {rs:List ResultVar} {vs:List Value}
  (k:Qp R (cP vs) Γ L L₀)
  (hr:fn.results=rs.toArray:=by exact rfl)
  (hv:aT P env Γ L rs vs:=by repeat (first|exact aT.nil| (apply aT.cons;focus (first| ((with_reducible apply dU.tmp);exact rfl)| ((with_reducible apply dU.cell);exact rfl;exact TR.h;exact QA rfl)|exact Vz))))
  (hold:bZ H₀∈Γ:=by
   try simp only[List.cons_append,List.nil_append]
   repeat (first|with_reducible exact List.mem_cons_self|apply List.mem_cons_of_mem)):
  At X n (bG P fn X H₀ L₀ R .normal) env Γ L:=fun a w H h1 h2 h3=>Lq k hr hv hold a w H h1 h2 h3
theorem re {p q:Prop} (k:q) (h:vu q->p:=by
 intro k;refine mc ?_
 first
  |exact Lq k.u
  |exact NR k.u):p:=h ⟨k⟩
theorem rs {R:Value->List ag->E.Loc->Prop} {v:Value} {L₀ M:E.Loc} {Γr:List ag} (k:R v Γr M)
  (hΓ:∀H,ax Γ H->ax Γr H:=by
   try simp only[List.cons_append,List.nil_append]
   repeat (first|exact Ql| (refine Qm ?_ ?_;focus (repeat (first|exact List.mem_cons_self|apply List.mem_cons_of_mem)))))
  (hL:Sp (M++L₀) L:=by
   try simp only[List.set_cons_zero,List.set_cons_succ,List.eraseIdx_cons_zero,List.eraseIdx_cons_succ,List.cons_append,List.nil_append,List.append_eq]
   repeat (first| (apply Xd;focus (repeat (first|exact C4|apply C5)))| (refine Qz ?_;repeat (first|with_reducible exact List.Sublist.refl _|apply Qy)))):Qp R v Γ L L₀:=⟨Γr,M,k,hΓ,hL⟩
end
end E
end Go.Proofs.YtcnohdmimheoaaaGreat
namespace Go.Proofs.YtcnohdmimheoaaaGreat
open E Go.Proofs.Tryz
instance QR:SR prog 104 [(0,1,true),(1,1,true),(2,1,true),(3,1,true),(4,1,true),(5,1,true)]:=⟨by kernel_rfl⟩
instance QS:SR prog 143 [(0,1,true),(1,1,true),(2,1,true),(3,1,true)]:=⟨by kernel_rfl⟩
instance QT:SR prog 149 [(0,1,true),(1,1,true),(2,4,false),(6,1,true),(7,1,true),(8,1,true),(9,1,true),(10,6,false)]:=⟨by kernel_rfl⟩
instance QU:SR prog 153 [(0,1,true),(1,5,false),(6,1,true),(7,1,true),(8,1,true),(9,1,true),(10,1,true),(11,1,true),(12,1,true)]:=⟨by kernel_rfl⟩
instance QV:SR prog 179 [(0,1,true),(1,1,true),(2,1,true),(3,1,true),(4,1,true)]:=⟨by kernel_rfl⟩
instance QW:SR prog 183 [(0,1,true),(1,1,true),(2,1,true),(3,1,true),(4,1,true)]:=⟨by kernel_rfl⟩
instance QX:SR prog 187 [(0,1,true),(1,1,true),(2,1,true)]:=⟨by kernel_rfl⟩
instance QY:SR prog 200 [(0,5,false),(5,1,true),(6,1,true),(7,1,true),(8,1,true)]:=⟨by kernel_rfl⟩
instance QZ:SR prog 222 [(0,1,true),(1,1,true)]:=⟨by kernel_rfl⟩
instance Q0:SR prog 224 [(0,1,true),(1,1,true),(2,1,true),(3,1,true),(4,1,true),(5,1,true)]:=⟨by kernel_rfl⟩
instance Q1:SR prog 226 [(0,5,false),(5,6,false)]:=⟨by kernel_rfl⟩
instance Q4:SR prog 229 [(0,5,false),(5,1,true)]:=⟨by kernel_rfl⟩
instance VA:SR prog 23 [(0,1,true),(1,1,true),(2,1,true),(3,1,true),(4,1,true)]:=⟨by kernel_rfl⟩
instance Q6:SR prog 231 [(0,5,false),(5,6,false)]:=⟨by kernel_rfl⟩
instance Q7:SR prog 234 [(0,1,true),(1,1,true),(2,1,true),(3,1,true),(4,1,true),(5,1,true),(6,1,true)]:=⟨by kernel_rfl⟩
instance Q8:SR prog 244 [(0,2,false),(2,1,true),(3,1,true),(4,1,true),(5,1,true)]:=⟨by kernel_rfl⟩
instance Q9:SR prog 255 [(0,6,false),(6,1,true),(7,1,true)]:=⟨by kernel_rfl⟩
instance VB:SR prog 28 [(0,1,true),(1,1,true),(2,5,false),(7,1,true),(8,1,true),(9,1,true)]:=⟨by kernel_rfl⟩
instance Ra:SR prog 282 [(0,6,false),(6,5,false),(11,5,false),(16,1,true),(17,1,true),(18,1,true),(19,1,true)]:=⟨by kernel_rfl⟩
instance Rb:SR prog 289 [(0,1,true),(1,1,true),(2,1,true),(3,1,true),(4,1,true)]:=⟨by kernel_rfl⟩
instance VC:SR prog 36 [(0,1,true),(1,1,true)]:=⟨by kernel_rfl⟩
instance VD:SR prog 38 [(0,1,true),(1,1,true),(2,1,true),(3,2,false),(5,1,true),(6,1,true),(7,1,true),(8,1,true),(9,1,true)]:=⟨by kernel_rfl⟩
instance VE:SR prog 41 [(0,1,true),(1,1,true),(2,1,true),(3,1,true)]:=⟨by kernel_rfl⟩
instance VF:SR prog 43 [(0,1,true),(1,1,true)]:=⟨by kernel_rfl⟩
instance VG:SR prog 45 [(0,1,true),(1,1,true),(2,2,false),(4,1,true),(5,1,true)]:=⟨by kernel_rfl⟩
instance VH:SR prog 47 [(0,1,true),(1,1,true),(2,4,false),(6,6,false)]:=⟨by kernel_rfl⟩
instance VI:SR prog 87 [(0,1,true),(1,1,true),(2,1,true),(3,1,true)]:=⟨by kernel_rfl⟩
instance VJ:SR prog 95 [(0,1,true)]:=⟨by kernel_rfl⟩
instance Xe:TR prog 1 (true,1,8,.nilFunc):=⟨by kernel_rfl⟩
instance Re:TR prog 104 (false,6,64,.agg #[.bool false,.int .i64 0,.int .i64 0,.int .i64 0,.slice none 0 0,.int .i64 0]):=⟨by kernel_rfl⟩
instance Rf:TR prog 143 (false,4,24,.agg #[.int .i64 0,.int .i64 0,.bool false,.bool false]):=⟨by kernel_rfl⟩
instance Rg:TR prog 146 (true,1,8,.pointer none):=⟨by kernel_rfl⟩
instance Rh:TR prog 149 (false,16,144,.agg #[.pointer none,.bool false,.int .i64 0,.int .i64 0,.int .i64 0,.int .i64 0,.int .i64 0,.bool false,.nilFunc,.bool false,.int .i64 0,.bool false,.int .i64 0,.int .i64 0,.int .i64 0,.slice none 0 0]):=⟨by kernel_rfl⟩
instance Ri:TR prog 150 (true,1,8,.pointer none):=⟨by kernel_rfl⟩
instance Rj:TR prog 151 (true,1,24,.slice none 0 0):=⟨by kernel_rfl⟩
instance Rk:TR prog 153 (false,13,136,.agg #[.pointer none,.int .i64 0,.int .i64 0,.int .i64 0,.int .i64 0,.int .i64 0,.int .i64 0,.slice none 0 0,.int .i64 0,.slice none 0 0,.int .i64 0,.int .i64 0,.int .i64 0]):=⟨by kernel_rfl⟩
instance Rl:TR prog 176 (true,1,8,.nilFunc):=⟨by kernel_rfl⟩
instance Rm:TR prog 179 (false,5,40,.agg #[.int .i64 0,.int .i64 0,.int .i64 0,.int .i64 0,.int .i64 0]):=⟨by kernel_rfl⟩
instance Rq:TR prog 183 (false,5,40,.agg #[.int .i64 0,.int .i64 0,.int .i64 0,.int .i64 0,.int .i64 0]):=⟨by kernel_rfl⟩
instance Rr:TR prog 185 (true,1,24,.slice none 0 0):=⟨by kernel_rfl⟩
instance Rt:TR prog 187 (false,3,40,.agg #[.int .i64 0,.slice none 0 0,.int .i64 0]):=⟨by kernel_rfl⟩
instance Ru:TR prog 200 (false,9,72,.agg #[.int .i64 0,.int .i64 0,.int .i64 0,.int .i64 0,.int .i64 0,.int .i64 0,.int .i64 0,.int .i64 0,.bool false]):=⟨by kernel_rfl⟩
instance Rv:TR prog 206 (true,1,8,.nilFunc):=⟨by kernel_rfl⟩
instance Rw:TR prog 209 (true,1,8,.nilFunc):=⟨by kernel_rfl⟩
instance Rx:TR prog 210 (true,1,8,.nilFunc):=⟨by kernel_rfl⟩
instance Ry:TR prog 217 (true,1,8,.nilFunc):=⟨by kernel_rfl⟩
instance Rz:TR prog 222 (false,2,32,.agg #[.int .i64 0,.slice none 0 0]):=⟨by kernel_rfl⟩
instance RA:TR prog 224 (false,6,48,.agg #[.int .i64 0,.int .i64 0,.int .i64 0,.int .i64 0,.bool false,.int .i64 0]):=⟨by kernel_rfl⟩
instance RB:TR prog 226 (false,11,88,.agg #[.int .i64 0,.int .i64 0,.int .i64 0,.int .i64 0,.int .i64 0,.int .i64 0,.int .i64 0,.int .i64 0,.int .i64 0,.bool false,.int .i64 0]):=⟨by kernel_rfl⟩
instance RD:TR prog 229 (false,6,48,.agg #[.int .i64 0,.int .i64 0,.int .i64 0,.int .i64 0,.int .i64 0,.int .i64 0]):=⟨by kernel_rfl⟩
instance VK:TR prog 23 (false,5,40,.agg #[.int .i64 0,.int .i64 0,.int .i64 0,.int .i64 0,.int .i64 0]):=⟨by kernel_rfl⟩
instance RE:TR prog 231 (false,11,88,.agg #[.int .i64 0,.int .i64 0,.int .i64 0,.int .i64 0,.int .i64 0,.int .i64 0,.int .i64 0,.int .i64 0,.int .i64 0,.int .i64 0,.int .i64 0]):=⟨by kernel_rfl⟩
instance RF:TR prog 234 (false,7,56,.agg #[.int .i64 0,.int .i64 0,.int .i64 0,.int .i64 0,.int .i64 0,.int .i64 0,.int .i64 0]):=⟨by kernel_rfl⟩
instance VL:TR prog 24 (true,1,24,.slice none 0 0):=⟨by kernel_rfl⟩
instance RG:TR prog 244 (false,6,48,.agg #[.int .i64 0,.int .i64 0,.int .i64 0,.int .i64 0,.int .i64 0,.int .i64 0]):=⟨by kernel_rfl⟩
instance VM:TR prog 25 (true,1,24,.slice none 0 0):=⟨by kernel_rfl⟩
instance RH:TR prog 253 (true,1,8,.pointer none):=⟨by kernel_rfl⟩
instance RI:TR prog 255 (false,8,80,.agg #[.int .i64 0,.int .i64 0,.int .i64 0,.int .i64 0,.bool false,.int .i64 0,.slice none 0 0,.bool false]):=⟨by kernel_rfl⟩
instance VN:TR prog 26 (true,1,24,.slice none 0 0):=⟨by kernel_rfl⟩
instance RJ:TR prog 266 (true,1,8,.nilFunc):=⟨by kernel_rfl⟩
instance VO:TR prog 28 (false,10,128,.agg #[.int .i64 0,.int .i64 0,.int .i64 0,.int .i64 0,.int .i64 0,.int .i64 0,.int .i64 0,.slice none 0 0,.slice none 0 0,.slice none 0 0]):=⟨by kernel_rfl⟩
instance RK:TR prog 280 (true,1,8,.pointer none):=⟨by kernel_rfl⟩
instance RL:TR prog 282 (false,20,176,.agg #[.int .i64 0,.int .i64 0,.int .i64 0,.int .i64 0,.int .i64 0,.int .i64 0,.int .i64 0,.int .i64 0,.int .i64 0,.int .i64 0,.int .i64 0,.int .i64 0,.int .i64 0,.int .i64 0,.int .i64 0,.int .i64 0,.bool false,.slice none 0 0,.int .i64 0,.nilFunc]):=⟨by kernel_rfl⟩
instance RN:TR prog 285 (true,1,8,.nilFunc):=⟨by kernel_rfl⟩
instance RQ:TR prog 289 (false,5,40,.agg #[.pointer none,.int .i64 0,.int .i64 0,.int .i64 0,.nilFunc]):=⟨by kernel_rfl⟩
instance Xf:TR prog 3 (true,1,8,.int .i64 0):=⟨by kernel_rfl⟩
instance VP:TR prog 32 (true,1,8,.int .i64 0):=⟨by kernel_rfl⟩
instance VQ:TR prog 33 (true,1,24,.slice none 0 0):=⟨by kernel_rfl⟩
instance VR:TR prog 34 (true,1,24,.slice none 0 0):=⟨by kernel_rfl⟩
instance VS:TR prog 36 (false,2,32,.agg #[.int .i64 0,.slice none 0 0]):=⟨by kernel_rfl⟩
instance VT:TR prog 38 (false,10,128,.agg #[.int .i64 0,.slice none 0 0,.slice none 0 0,.int .i64 0,.slice none 0 0,.int .i64 0,.int .i64 0,.int .i64 0,.int .i64 0,.int .i64 0]):=⟨by kernel_rfl⟩
instance Xg:TR prog 4 (true,1,1,.bool false):=⟨by kernel_rfl⟩
instance VU:TR prog 41 (false,4,32,.agg #[.int .i64 0,.int .i64 0,.int .i64 0,.int .i64 0]):=⟨by kernel_rfl⟩
instance VV:TR prog 43 (false,2,16,.agg #[.int .i64 0,.int .i64 0]):=⟨by kernel_rfl⟩
instance VW:TR prog 45 (false,6,64,.agg #[.int .i64 0,.bool false,.int .i64 0,.int .i64 0,.int .i64 0,.slice none 0 0]):=⟨by kernel_rfl⟩
instance VX:TR prog 47 (false,12,112,.agg #[.int .i64 0,.bool false,.int .i64 0,.int .i64 0,.int .i64 0,.int .i64 0,.int .i64 0,.bool false,.int .i64 0,.int .i64 0,.int .i64 0,.slice none 0 0]):=⟨by kernel_rfl⟩
instance VY:TR prog 57 (true,1,24,.slice none 0 0):=⟨by kernel_rfl⟩
instance VZ:TR prog 85 (true,1,8,.pointer none):=⟨by kernel_rfl⟩
instance V0:TR prog 87 (false,4,80,.agg #[.pointer none,.slice none 0 0,.slice none 0 0,.slice none 0 0]):=⟨by kernel_rfl⟩
instance V1:TR prog 95 (false,1,24,.agg #[.slice none 0 0]):=⟨by kernel_rfl⟩
instance Xh:MX prog:=⟨by kernel_rfl⟩
instance V2:UR prog 26 (.slice 3):=⟨underlying26⟩
instance V3:UR prog 24 (.slice 43):=⟨underlying24⟩
instance V4:UR prog 34 (.slice 104):=⟨underlying34⟩
instance V5:UR prog 25 (.slice 57):=⟨underlying25⟩
instance V6:UR prog 57 (.slice 41):=⟨underlying57⟩
instance RR:UR prog 237 (.slice 24):=⟨underlying237⟩
instance RS:UR prog 185 (.slice 222):=⟨underlying185⟩
instance RT:UR prog 150 (.pointer 187):=⟨underlying150⟩
instance V7:UR prog 85 (.pointer 153):=⟨underlying85⟩
instance V8:UR prog 33 (.slice 47):=⟨underlying33⟩
instance RV:UR prog 219 (.pointer 3):=⟨underlying219⟩
instance RW:UR prog 151 (.slice 146):=⟨underlying151⟩
instance RX:UR prog 146 (.pointer 149):=⟨underlying146⟩
instance V9:UR prog 53 (.pointer 95):=⟨underlying53⟩
instance Xi:FB prog 5 f5 124:=⟨func5,ntmps5,rfl,rfl⟩
instance Wa:FB prog 11 f11 37:=⟨func11,ntmps11,rfl,rfl⟩
instance Wb:FB prog 13 f13 69:=⟨func13,ntmps13,rfl,rfl⟩
instance Wc:FB prog 15 f15 30:=⟨func15,ntmps15,rfl,rfl⟩
instance We:FB prog 18 f18 19:=⟨func18,ntmps18,rfl,rfl⟩
instance Wf:FB prog 19 f19 38:=⟨func19,ntmps19,rfl,rfl⟩
instance Wg:FB prog 20 f20 23:=⟨func20,ntmps20,rfl,rfl⟩
instance Wh:FB prog 25 f25 26:=⟨func25,ntmps25,rfl,rfl⟩
instance Wi:FB prog 26 f26 23:=⟨func26,ntmps26,rfl,rfl⟩
instance Wj:FB prog 27 f27 10:=⟨func27,ntmps27,rfl,rfl⟩
instance Wk:FB prog 28 f28 55:=⟨func28,ntmps28,rfl,rfl⟩
instance Wl:FB prog 29 f29 17:=⟨func29,ntmps29,rfl,rfl⟩
instance Wm:FB prog 30 f30 157:=⟨func30,ntmps30,rfl,rfl⟩
instance Wn:FB prog 38 f38 33:=⟨func38,ntmps38,rfl,rfl⟩
instance Wo:FB prog 40 f40 11:=⟨func40,ntmps40,rfl,rfl⟩
instance Wq:FB prog 41 f41 11:=⟨func41,ntmps41,rfl,rfl⟩
instance Wr:FB prog 42 f42 42:=⟨func42,ntmps42,rfl,rfl⟩
instance Ws:FB prog 43 f43 8:=⟨func43,ntmps43,rfl,rfl⟩
instance Wt:FB prog 44 f44 6:=⟨func44,ntmps44,rfl,rfl⟩
instance Wu:FB prog 45 f45 11:=⟨func45,ntmps45,rfl,rfl⟩
instance Wv:FB prog 46 f46 12:=⟨func46,ntmps46,rfl,rfl⟩
instance Ww:FB prog 48 f48 28:=⟨func48,ntmps48,rfl,rfl⟩
instance Wx:FB prog 49 f49 120:=⟨func49,ntmps49,rfl,rfl⟩
instance Wy:FB prog 50 f50 60:=⟨func50,ntmps50,rfl,rfl⟩
instance Wz:FB prog 53 f53 12:=⟨func53,ntmps53,rfl,rfl⟩
instance WA:FB prog 54 f54 22:=⟨func54,ntmps54,rfl,rfl⟩
instance WB:FB prog 57 f57 22:=⟨func57,ntmps57,rfl,rfl⟩
instance WC:FB prog 58 f58 8:=⟨func58,ntmps58,rfl,rfl⟩
instance WD:FB prog 61 f61 10:=⟨func61,ntmps61,rfl,rfl⟩
instance WE:FB prog 62 f62 39:=⟨func62,ntmps62,rfl,rfl⟩
instance WG:FB prog 67 f67 30:=⟨func67,ntmps67,rfl,rfl⟩
instance WH:FB prog 72 f72 19:=⟨func72,ntmps72,rfl,rfl⟩
instance WJ:FB prog 73 f73 11:=⟨func73,ntmps73,rfl,rfl⟩
instance WK:FB prog 75 f75 29:=⟨func75,ntmps75,rfl,rfl⟩
instance WL:FB prog 76 f76 17:=⟨func76,ntmps76,rfl,rfl⟩
instance WM:FB prog 77 f77 50:=⟨func77,ntmps77,rfl,rfl⟩
instance WN:FB prog 78 f78 35:=⟨func78,ntmps78,rfl,rfl⟩
instance WO:FB prog 79 f79 30:=⟨func79,ntmps79,rfl,rfl⟩
instance WQ:FB prog 80 f80 10:=⟨func80,ntmps80,rfl,rfl⟩
instance WR:FB prog 81 f81 13:=⟨func81,ntmps81,rfl,rfl⟩
instance WS:FB prog 82 f82 9:=⟨func82,ntmps82,rfl,rfl⟩
instance WT:FB prog 83 f83 10:=⟨func83,ntmps83,rfl,rfl⟩
instance WU:FB prog 84 f84 9:=⟨func84,ntmps84,rfl,rfl⟩
instance WV:FB prog 85 f85 9:=⟨func85,ntmps85,rfl,rfl⟩
instance WW:FB prog 91 f91 76:=⟨func91,ntmps91,rfl,rfl⟩
instance WX:FB prog 98 f98 29:=⟨func98,ntmps98,rfl,rfl⟩
instance WY:FB prog 99 f99 45:=⟨func99,ntmps99,rfl,rfl⟩
instance RY:FB prog 103 f103 91:=⟨func103,ntmps103,rfl,rfl⟩
instance RZ:FB prog 104 f104 27:=⟨func104,ntmps104,rfl,rfl⟩
instance R0:FB prog 105 f105 38:=⟨func105,ntmps105,rfl,rfl⟩
instance R4:FB prog 106 f106 8:=⟨func106,ntmps106,rfl,rfl⟩
instance R6:FB prog 107 f107 96:=⟨func107,ntmps107,rfl,rfl⟩
instance R7:FB prog 108 f108 10:=⟨func108,ntmps108,rfl,rfl⟩
instance R8:FB prog 109 f109 11:=⟨func109,ntmps109,rfl,rfl⟩
instance R9:FB prog 110 f110 61:=⟨func110,ntmps110,rfl,rfl⟩
instance Sa:FB prog 115 f115 32:=⟨func115,ntmps115,rfl,rfl⟩
instance Sb:FB prog 118 f118 9:=⟨func118,ntmps118,rfl,rfl⟩
instance Sd:FB prog 119 f119 9:=⟨func119,ntmps119,rfl,rfl⟩
instance Se:FB prog 120 f120 25:=⟨func120,ntmps120,rfl,rfl⟩
instance Sf:FB prog 121 f121 8:=⟨func121,ntmps121,rfl,rfl⟩
instance Sg:FB prog 122 f122 65:=⟨func122,ntmps122,rfl,rfl⟩
instance Si:FB prog 123 f123 44:=⟨func123,ntmps123,rfl,rfl⟩
instance Sj:FB prog 124 f124 10:=⟨func124,ntmps124,rfl,rfl⟩
instance Sk:FB prog 125 f125 12:=⟨func125,ntmps125,rfl,rfl⟩
instance Sm:FB prog 126 f126 35:=⟨func126,ntmps126,rfl,rfl⟩
instance Sn:FB prog 127 f127 24:=⟨func127,ntmps127,rfl,rfl⟩
instance So:FB prog 128 f128 25:=⟨func128,ntmps128,rfl,rfl⟩
instance Sq:FB prog 129 f129 14:=⟨func129,ntmps129,rfl,rfl⟩
instance Sr:FB prog 130 f130 18:=⟨func130,ntmps130,rfl,rfl⟩
instance Ss:FB prog 131 f131 78:=⟨func131,ntmps131,rfl,rfl⟩
instance Su:FB prog 132 f132 8:=⟨func132,ntmps132,rfl,rfl⟩
instance Sv:FB prog 133 f133 31:=⟨func133,ntmps133,rfl,rfl⟩
instance Sw:FB prog 134 f134 42:=⟨func134,ntmps134,rfl,rfl⟩
instance Sx:FB prog 135 f135 15:=⟨func135,ntmps135,rfl,rfl⟩
instance Sz:FB prog 136 f136 8:=⟨func136,ntmps136,rfl,rfl⟩
instance SA:FB prog 137 f137 48:=⟨func137,ntmps137,rfl,rfl⟩
instance SD:FB prog 138 f138 36:=⟨func138,ntmps138,rfl,rfl⟩
instance SE:FB prog 139 f139 6:=⟨func139,ntmps139,rfl,rfl⟩
instance SF:FB prog 141 f141 19:=⟨func141,ntmps141,rfl,rfl⟩
instance SG:FB prog 144 f144 19:=⟨func144,ntmps144,rfl,rfl⟩
instance SH:FB prog 145 f145 20:=⟨func145,ntmps145,rfl,rfl⟩
instance SI:FB prog 146 f146 67:=⟨func146,ntmps146,rfl,rfl⟩
instance SJ:FB prog 147 f147 15:=⟨func147,ntmps147,rfl,rfl⟩
instance SK:FB prog 148 f148 27:=⟨func148,ntmps148,rfl,rfl⟩
instance SL:FB prog 149 f149 26:=⟨func149,ntmps149,rfl,rfl⟩
instance SM:FB prog 150 f150 18:=⟨func150,ntmps150,rfl,rfl⟩
instance SN:FB prog 151 f151 8:=⟨func151,ntmps151,rfl,rfl⟩
instance SO:FB prog 152 f152 53:=⟨func152,ntmps152,rfl,rfl⟩
instance SP:FB prog 153 f153 43:=⟨func153,ntmps153,rfl,rfl⟩
instance SQ:FB prog 154 f154 59:=⟨func154,ntmps154,rfl,rfl⟩
instance SS:FB prog 155 f155 109:=⟨func155,ntmps155,rfl,rfl⟩
instance SU:FB prog 156 f156 5:=⟨func156,ntmps156,rfl,rfl⟩
instance SV:FB prog 157 f157 14:=⟨func157,ntmps157,rfl,rfl⟩
instance SW:FB prog 158 f158 35:=⟨func158,ntmps158,rfl,rfl⟩
instance SX:FB prog 159 f159 14:=⟨func159,ntmps159,rfl,rfl⟩
instance SY:FB prog 160 f160 33:=⟨func160,ntmps160,rfl,rfl⟩
instance SZ:FB prog 161 f161 31:=⟨func161,ntmps161,rfl,rfl⟩
instance S0:FB prog 162 f162 5:=⟨func162,ntmps162,rfl,rfl⟩
instance S1:FB prog 163 f163 14:=⟨func163,ntmps163,rfl,rfl⟩
instance S2:FB prog 164 f164 7:=⟨func164,ntmps164,rfl,rfl⟩
instance S3:FB prog 165 f165 30:=⟨func165,ntmps165,rfl,rfl⟩
instance S4:FB prog 166 f166 20:=⟨func166,ntmps166,rfl,rfl⟩
instance S5:FB prog 167 f167 36:=⟨func167,ntmps167,rfl,rfl⟩
instance S6:FB prog 168 f168 16:=⟨func168,ntmps168,rfl,rfl⟩
instance S7:FB prog 169 f169 14:=⟨func169,ntmps169,rfl,rfl⟩
instance S8:FB prog 170 f170 72:=⟨func170,ntmps170,rfl,rfl⟩
instance S9:FB prog 171 f171 67:=⟨func171,ntmps171,rfl,rfl⟩
instance Ta:FB prog 172 f172 10:=⟨func172,ntmps172,rfl,rfl⟩
instance Tb:FB prog 173 f173 4:=⟨func173,ntmps173,rfl,rfl⟩
instance Tc:FB prog 174 f174 37:=⟨func174,ntmps174,rfl,rfl⟩
instance Td:FB prog 175 f175 80:=⟨func175,ntmps175,rfl,rfl⟩
instance Te:FB prog 176 f176 48:=⟨func176,ntmps176,rfl,rfl⟩
instance Tf:FB prog 177 f177 27:=⟨func177,ntmps177,rfl,rfl⟩
instance Tg:FB prog 178 f178 41:=⟨func178,ntmps178,rfl,rfl⟩
instance Ti:FB prog 179 f179 5:=⟨func179,ntmps179,rfl,rfl⟩
instance Tj:FB prog 180 f180 32:=⟨func180,ntmps180,rfl,rfl⟩
instance Tk:FB prog 181 f181 20:=⟨func181,ntmps181,rfl,rfl⟩
instance Tl:FB prog 182 f182 17:=⟨func182,ntmps182,rfl,rfl⟩
instance Tm:FB prog 183 f183 17:=⟨func183,ntmps183,rfl,rfl⟩
instance Tn:FB prog 184 f184 43:=⟨func184,ntmps184,rfl,rfl⟩
instance To:FB prog 185 f185 17:=⟨func185,ntmps185,rfl,rfl⟩
instance Tq:FB prog 186 f186 8:=⟨func186,ntmps186,rfl,rfl⟩
instance Ts:FB prog 187 f187 27:=⟨func187,ntmps187,rfl,rfl⟩
instance Tt:FB prog 194 f194 21:=⟨func194,ntmps194,rfl,rfl⟩
instance Tu:FB prog 195 f195 31:=⟨func195,ntmps195,rfl,rfl⟩
instance Tv:FB prog 196 f196 24:=⟨func196,ntmps196,rfl,rfl⟩
instance Tw:FB prog 197 f197 13:=⟨func197,ntmps197,rfl,rfl⟩
instance Tx:FB prog 198 f198 10:=⟨func198,ntmps198,rfl,rfl⟩
instance Ty:FB prog 199 f199 15:=⟨func199,ntmps199,rfl,rfl⟩
instance Tz:FB prog 200 f200 10:=⟨func200,ntmps200,rfl,rfl⟩
instance TA:FB prog 201 f201 14:=⟨func201,ntmps201,rfl,rfl⟩
instance TB:FB prog 202 f202 16:=⟨func202,ntmps202,rfl,rfl⟩
instance TD:FB prog 203 f203 11:=⟨func203,ntmps203,rfl,rfl⟩
instance TE:FB prog 204 f204 14:=⟨func204,ntmps204,rfl,rfl⟩
instance TF:FB prog 205 f205 5:=⟨func205,ntmps205,rfl,rfl⟩
instance TG:FB prog 206 f206 39:=⟨func206,ntmps206,rfl,rfl⟩
instance TH:FB prog 207 f207 35:=⟨func207,ntmps207,rfl,rfl⟩
instance TI:FB prog 208 f208 54:=⟨func208,ntmps208,rfl,rfl⟩
instance TJ:FB prog 209 f209 18:=⟨func209,ntmps209,rfl,rfl⟩
instance TK:FB prog 210 f210 25:=⟨func210,ntmps210,rfl,rfl⟩
instance TL:FB prog 211 f211 109:=⟨func211,ntmps211,rfl,rfl⟩
instance TM:FB prog 212 f212 12:=⟨func212,ntmps212,rfl,rfl⟩
instance TN:FB prog 213 f213 21:=⟨func213,ntmps213,rfl,rfl⟩
instance TO:FB prog 214 f214 15:=⟨func214,ntmps214,rfl,rfl⟩
instance TP:FB prog 215 f215 28:=⟨func215,ntmps215,rfl,rfl⟩
instance TQ:FB prog 216 f216 10:=⟨func216,ntmps216,rfl,rfl⟩
instance TS:FB prog 217 f217 30:=⟨func217,ntmps217,rfl,rfl⟩
instance TT:FB prog 218 f218 30:=⟨func218,ntmps218,rfl,rfl⟩
instance TU:FB prog 219 f219 38:=⟨func219,ntmps219,rfl,rfl⟩
instance TV:FB prog 220 f220 33:=⟨func220,ntmps220,rfl,rfl⟩
instance TW:FB prog 221 f221 35:=⟨func221,ntmps221,rfl,rfl⟩
instance TX:FB prog 222 f222 17:=⟨func222,ntmps222,rfl,rfl⟩
instance TY:FB prog 223 f223 23:=⟨func223,ntmps223,rfl,rfl⟩
instance TZ:FB prog 224 f224 7:=⟨func224,ntmps224,rfl,rfl⟩
instance T0:FB prog 230 f230 15:=⟨func230,ntmps230,rfl,rfl⟩
instance T1:FB prog 231 f231 54:=⟨func231,ntmps231,rfl,rfl⟩
instance T3:FB prog 232 f232 14:=⟨func232,ntmps232,rfl,rfl⟩
instance T4:FB prog 233 f233 35:=⟨func233,ntmps233,rfl,rfl⟩
instance T5:FB prog 234 f234 11:=⟨func234,ntmps234,rfl,rfl⟩
instance T6:FB prog 235 f235 25:=⟨func235,ntmps235,rfl,rfl⟩
instance T7:FB prog 236 f236 9:=⟨func236,ntmps236,rfl,rfl⟩
instance T8:FB prog 237 f237 41:=⟨func237,ntmps237,rfl,rfl⟩
instance T9:FB prog 238 f238 100:=⟨func238,ntmps238,rfl,rfl⟩
instance Ua:FB prog 239 f239 17:=⟨func239,ntmps239,rfl,rfl⟩
instance Ub:FB prog 240 f240 23:=⟨func240,ntmps240,rfl,rfl⟩
instance Uc:FB prog 241 f241 57:=⟨func241,ntmps241,rfl,rfl⟩
instance Ud:FB prog 242 f242 22:=⟨func242,ntmps242,rfl,rfl⟩
instance Ue:FB prog 243 f243 106:=⟨func243,ntmps243,rfl,rfl⟩
instance Uf:FB prog 244 f244 72:=⟨func244,ntmps244,rfl,rfl⟩
instance Ug:FB prog 245 f245 39:=⟨func245,ntmps245,rfl,rfl⟩
instance Uh:FB prog 246 f246 17:=⟨func246,ntmps246,rfl,rfl⟩
instance Ui:FB prog 247 f247 51:=⟨func247,ntmps247,rfl,rfl⟩
instance Uj:FB prog 248 f248 12:=⟨func248,ntmps248,rfl,rfl⟩
instance Uk:FB prog 249 f249 17:=⟨func249,ntmps249,rfl,rfl⟩
instance Ul:FB prog 250 f250 9:=⟨func250,ntmps250,rfl,rfl⟩
instance Um:FB prog 251 f251 17:=⟨func251,ntmps251,rfl,rfl⟩
instance Un:FB prog 252 f252 65:=⟨func252,ntmps252,rfl,rfl⟩
instance Uo:FB prog 253 f253 23:=⟨func253,ntmps253,rfl,rfl⟩
instance Up:FB prog 254 f254 5:=⟨func254,ntmps254,rfl,rfl⟩
instance Uq:FB prog 255 f255 89:=⟨func255,ntmps255,rfl,rfl⟩
instance Ur:FB prog 256 f256 5:=⟨func256,ntmps256,rfl,rfl⟩
instance Us:FB prog 257 f257 13:=⟨func257,ntmps257,rfl,rfl⟩
instance Ut:FB prog 258 f258 17:=⟨func258,ntmps258,rfl,rfl⟩
instance Uu:FB prog 259 f259 15:=⟨func259,ntmps259,rfl,rfl⟩
instance Uv:FB prog 260 f260 20:=⟨func260,ntmps260,rfl,rfl⟩
instance Uw:FB prog 261 f261 38:=⟨func261,ntmps261,rfl,rfl⟩
instance Ux:FB prog 262 f262 17:=⟨func262,ntmps262,rfl,rfl⟩
instance Uy:FB prog 263 f263 24:=⟨func263,ntmps263,rfl,rfl⟩
instance Uz:FB prog 264 f264 23:=⟨func264,ntmps264,rfl,rfl⟩
instance UA:FB prog 265 f265 80:=⟨func265,ntmps265,rfl,rfl⟩
instance UB:FB prog 266 f266 23:=⟨func266,ntmps266,rfl,rfl⟩
instance UC:FB prog 267 f267 96:=⟨func267,ntmps267,rfl,rfl⟩
instance UD:FB prog 268 f268 22:=⟨func268,ntmps268,rfl,rfl⟩
instance UE:FB prog 269 f269 25:=⟨func269,ntmps269,rfl,rfl⟩
instance UF:FB prog 270 f270 29:=⟨func270,ntmps270,rfl,rfl⟩
instance UG:FB prog 271 f271 44:=⟨func271,ntmps271,rfl,rfl⟩
instance UH:FB prog 272 f272 26:=⟨func272,ntmps272,rfl,rfl⟩
instance UI:FB prog 273 f273 52:=⟨func273,ntmps273,rfl,rfl⟩
instance UJ:FB prog 274 f274 12:=⟨func274,ntmps274,rfl,rfl⟩
instance UK:FB prog 275 f275 33:=⟨func275,ntmps275,rfl,rfl⟩
instance UL:FB prog 276 f276 15:=⟨func276,ntmps276,rfl,rfl⟩
instance UM:FB prog 277 f277 53:=⟨func277,ntmps277,rfl,rfl⟩
instance UN:FB prog 278 f278 88:=⟨func278,ntmps278,rfl,rfl⟩
instance UO:FB prog 279 f279 35:=⟨func279,ntmps279,rfl,rfl⟩
instance UP:FB prog 280 f280 18:=⟨func280,ntmps280,rfl,rfl⟩
instance UQ:FB prog 281 f281 12:=⟨func281,ntmps281,rfl,rfl⟩
instance US:FB prog 282 f282 12:=⟨func282,ntmps282,rfl,rfl⟩
instance UT:FB prog 283 f283 16:=⟨func283,ntmps283,rfl,rfl⟩
instance UU:FB prog 284 f284 23:=⟨func284,ntmps284,rfl,rfl⟩
instance UW:FB prog 285 f285 23:=⟨func285,ntmps285,rfl,rfl⟩
instance UX:FB prog 286 f286 43:=⟨func286,ntmps286,rfl,rfl⟩
instance UY:FB prog 287 f287 92:=⟨func287,ntmps287,rfl,rfl⟩
instance UZ:FB prog 288 f288 11:=⟨func288,ntmps288,rfl,rfl⟩
instance U0:FB prog 289 f289 7:=⟨func289,ntmps289,rfl,rfl⟩
instance U1:FB prog 290 f290 17:=⟨func290,ntmps290,rfl,rfl⟩
instance U2:FB prog 291 f291 29:=⟨func291,ntmps291,rfl,rfl⟩
instance U3:FB prog 292 f292 124:=⟨func292,ntmps292,rfl,rfl⟩
instance U4:FB prog 293 f293 26:=⟨func293,ntmps293,rfl,rfl⟩
instance U5:FB prog 294 f294 57:=⟨func294,ntmps294,rfl,rfl⟩
instance U6:FB prog 295 f295 18:=⟨func295,ntmps295,rfl,rfl⟩
instance U7:FB prog 296 f296 96:=⟨func296,ntmps296,rfl,rfl⟩
instance U8:FB prog 297 f297 23:=⟨func297,ntmps297,rfl,rfl⟩
structure Pr where
 k:Int
 v:Int
 deriving DecidableEq,Inhabited
def js (p:Pr):List Value:=[.int .i64 p.k,.int .i64 p.v]
def Pr.val (p:Pr):Value:=.agg #[.int .i64 p.k,.int .i64 p.v]
def wW (b:Bool):List Value:=[.bool b]
def aC (s:Sl Pr):ag:=sl s.a s.c 2 (s.l.map js)
theorem jt {α:Type} {row:α->List Value} (h:∀x,(row x).all Value.oneCell'=true) (l:List α):∀r∈l.map row,r.all Value.oneCell'=true:=by
 intro r hr;obtain⟨x,_,rfl⟩:=List.mem_map.1 hr;exact h x
structure Nd where
 aj:Bool
 key:Int
 left:Int
 right:Int
 ps:Sl Pr
 stat:Int
def ke (n:Nd):List Value:=[.bool n.aj,.int .i64 n.key,.int .i64 n.left,.int .i64 n.right,n.ps.val,.int .i64 n.stat]
def Nd.val (n:Nd):Value:=.agg #[.bool n.aj,.int .i64 n.key,.int .i64 n.left,.int .i64 n.right,n.ps.val,.int .i64 n.stat]
def pN (s:Sl Nd):ag:=sl s.a s.c 6 (s.l.map ke)
def pO (l:List Nd):ag:=⟨fun H=>∀n∈l,(aC n.ps).holds H,fun _ _ h k n hn=>(aC n.ps).mono _ _ h (k n hn)⟩
structure Tr where
 root:Int
 ns:Sl Nd
def Tr.val (t:Tr):Value:=.agg #[.int .i64 t.root,t.ns.val]
theorem pQ {l:List Nd} {H:Hp} {i:Nat} {n:Nd} (h:(pO l).holds H) (hn:l[i]? =some n):(aC n.ps).holds H:=h n (List.mem_of_getElem? hn)
theorem wY {H:Hp}:(pO []).holds H:=fun _ h=>by simp at h
theorem yJ {H:Hp} {l:List Nd} {n:Nd} (hn:(aC n.ps).holds H) (h:(pO l).holds H):(pO (n::l)).holds H:=fun m hm=>by
 rcases List.mem_cons.1 hm with h'|h';rw[h'];exact hn;exact h m h'
theorem It {H:Hp} {l m:List Nd} (h:(pO l).holds H) (hm:(pO m).holds H):(pO (l++m)).holds H:=fun n hn=>by
 rcases List.mem_append.1 hn with h'|h';exact h n h';exact hm n h'
structure gG where
 aj:Bool
 key:Int
 left:Int
 right:Int
 l:List Pr
 stat:Int
 deriving DecidableEq,Inhabited
def Nd.p (n:Nd):gG:=⟨n.aj,n.key,n.left,n.right,n.ps.l,n.stat⟩
structure PT where
 root:Int
 ns:List gG
 deriving DecidableEq,Inhabited
def Tr.p (t:Tr):PT:=⟨t.root,t.ns.l.map Nd.p⟩
structure KA where
 leaf:Int
 BK:Sl Int
 ff:Sl Bool
def KA.val (p:KA):Value:=.agg #[.int .i64 p.leaf,p.BK.val,p.ff.val]
theorem EC {α:Type} {a b:List α} (h:¬((a.length:Int)=(b.length:Int))):a≠b:=fun e=>h (by rw[e])
theorem Iu {c k:Nat} {rows:List (List Value)} {H:Hp} (h:(sl none c k rows).holds H):rows=[]:=by
 obtain⟨_,_,_,h4⟩:=fN.1 h;rcases h4 with h4| ⟨_,h5,_⟩;exact h4
 cases h5
theorem At.vN {X:Cx} {n:Nat} {K:Act->World->Prop} {env:Env} {Γ:List ag} {L:E.Loc} {α:Type} {s:Sl α} {k:Nat} {row:α->List Value} (hs:sl s.a s.c k (s.l.map row)∈Γ) (ha:s.a=none) (h:s.l=[]->At X n K env Γ L):At X n K env Γ L:=
 At.have _ (fun _ hH=>by
  have h1:=hH.mem hs;rw[ha]at h1;simpa using Iu h1) h
def dV:List Pr->Bool
 |a::b::l=>decide (a.k<b.k)&&dV (b::l)
 |_=>true
theorem gT:∀{l:List Pr},dV l=true<->∀(j:Nat) (a b:Pr),l[j]? =some a->l[j+1]? =some b->a.k<b.k
 | []=>by simp[dV]
 | [a]=>by simp[dV]
 |a::b::l=>by
  simp only[dV,Bool.and_eq_true,decide_eq_true_eq];rw[gT (l:=b::l)];constructor;rintro⟨h1,h2⟩ j x y hx hy
  cases j with
  |zero=>simp at hx hy;subst hx;subst hy;exact h1
  |succ j=>exact h2 j x y (by simpa using hx) (by simpa using hy)
  intro h;exact⟨h 0 a b (by simp) (by simp),fun j x y hx hy=>h (j+1) x y (by simpa using hx) (by simpa using hy)⟩
theorem ED {l:List Pr} {j:Nat} {a b:Pr} (ha:l[j]? =some a) (hb:l[j+1]? =some b) (h:b.k<=a.k):dV l=false:=by
 cases hr:dV l
 rfl;have:=gT.1 hr j a b ha hb;omega
theorem EE {l:List Pr} (h:dV l=true):∀(i j:Nat) (a b:Pr),i<j->l[i]? =some a->l[j]? =some b->a.k<b.k:=by
 intro i j
 induction j with
 |zero=>intro a b hij;omega
 |succ j ih=>
  intro a b hij ha hb;rcases Nat.lt_or_ge i j with h1|h1;have hj:j<l.length:=by have:=ae hb;omega
  obtain⟨c,hc⟩:=aD hj;have h2:=ih a c h1 ha hc;have h3:=gT.1 h j c b hc hb;omega;obtain rfl:i=j:=by omega
  exact gT.1 h i a b ha hb
theorem EF {l:List Pr} {j:Nat} {x y:Pr} (hI:∀(i:Nat) (a b:Pr),i+1<j+1->l[i]? =some a->l[i+1]? =some b->a.k<b.k) (hx:l[j]? =some x) (hy:l[j+1]? =some y) (h:x.k<y.k):
  ∀(i:Nat) (a b:Pr),i+1<j+1+1->l[i]? =some a->l[i+1]? =some b->a.k<b.k:=fun i a b hi ha hb=>by
 rcases Nat.lt_or_ge (i+1) (j+1)with h1|h1;exact hI i a b h1 ha hb;obtain rfl:i=j:=by omega
 rw[hx]at ha;rw[hy]at hb;cases ha;cases hb;exact h
section
variable {α:Type} {a b:List α} {k:Nat}
include α a b k
theorem vO {x:α} (hx:a[k]? =some x) (hy:b[k]? =some x) (h:a.take k=b.take k):a.take (k+1)=b.take (k+1):=by
 rw[List.take_succ_eq_append_getElem (ae hx),List.take_succ_eq_append_getElem (ae hy),h,(List.getElem?_eq_some_iff.1 hx).2,(List.getElem?_eq_some_iff.1 hy).2]
theorem KC {x y:α} (hx:a[k]? =some x) (hy:b[k]? =some y) (h:x≠y):a≠b:=fun e=>by
 subst e;rw[hx]at hy;exact h (Option.some.inj hy)
theorem rY (hl:a.length=b.length) (hk:a.length<=k) (h:a.take k=b.take k):a=b:=by
 rwa [List.take_of_length_le hk,List.take_of_length_le (by omega)]at h
end
theorem Pr.eq_iff {x y:Pr}:[x.k,x.v]=[y.k,y.v]<->x=y:=by cases x;cases y;simp
def mU {α:Type} (p:α->Bool) (l:List α):Int:=if l.any p then(l.findIdx p:Int)else-1
section
variable {α:Type} {p:α->Bool} {l:List α}
include α p l
theorem EG {k:Nat} {x:α} (hx:l[k]? =some x) (hp:p x=true) (hno:∀y∈l.take k,p y=false):mU p l=(k:Int):=by
 have hm:x∈l:=List.mem_of_getElem? hx;have ha:l.any p=true:=List.any_eq_true.2 ⟨x,hm,hp⟩;have hk:=ae hx
 have:l.findIdx p=k:=by
  refine(List.findIdx_eq hk).2 ⟨?_,fun j hj=>?_⟩;rw[(List.getElem?_eq_some_iff.1 hx).2];exact hp;have:=hno l[j] (List.mem_take_iff_getElem.2 ⟨j,by omega,rfl⟩);simpa using this
 simp[mU,ha,this]
theorem yK {k:Nat} {x:α} (hx:l[k]? =some x) (hp:p x=false) (hno:∀y∈l.take k,p y=false):∀y∈l.take (k+1),p y=false:=by
 intro y hy;have hk:=ae hx;rw[List.take_succ_eq_append_getElem hk]at hy;rcases List.mem_append.1 hy with h|h;exact hno y h;rw[List.mem_singleton.1 h,(List.getElem?_eq_some_iff.1 hx).2];exact hp
theorem EH (h:∀y∈l,p y=false):mU p l= -1:=by
 have:l.any p=false:=by simpa using h
 simp[mU,this]
end
theorem Iw {α:Type} (p:α->Bool) (l:List α):decide (0<=mU p l)=l.any p:=by
 unfold mU
 cases l.any p<;>simp<;>omega
theorem lX {α:Type} (l:List α) (f:α->Bool):(l.any fun p=> !f p)= !(l.all f):=by induction l with
 |nil=>rfl
 |cons x l ih=>simp only[List.any_cons,List.all_cons,ih,Bool.not_and]
structure Kb where
 least:Int
 dW:Int
 lY:Bool
 cY:Bool
 deriving DecidableEq
def Kb.val (k:Kb):Value:=.agg #[.int .i64 k.least,.int .i64 k.dW,.bool k.lY,.bool k.cY]
def Kb.has (k:Kb) (key:Int):Bool:=(!k.lY||decide (k.least<=key))&&(!k.cY||decide (key<k.dW))
def Kb.all:Kb:=⟨0,0,false,false⟩
inductive Sh where
 |leaf (at_:Nat)
 |node (at_:Nat) (l r:Sh)
 deriving DecidableEq,Inhabited
def Sh.at_:Sh->Nat
 | .leaf i=>i
 | .node i _ _=>i
def Sh.ay:Sh->List Nat
 | .leaf i=>[i]
 | .node i l r=>i::(l.ay++r.ay)
def Sh.size:Sh->Nat
 | .leaf _=>1
 | .node _ l r=>1+l.size+r.size
theorem Sh.rZ (s:Sh):s.ay.length=s.size:=by
 induction s with
 |leaf i=>rfl
 |node i l r h1 h2=>simp[Sh.ay,Sh.size,h1,h2];omega
def iZ (n:gG) (k:Kb):Bool:=decide (n.key=0)&&(decide (n.left=0)&&(decide (n.right=0)&&(dV n.l&&(decide (-1000000<=n.stat)&&(decide (n.stat<=1000000)&&n.l.all (fun p=>k.has p.k))))))
def dQ (n:gG) (k:Kb):Bool:=n.l.isEmpty&&(decide (n.stat=0)&&(k.has n.key&& !(k.lY&&decide (n.key=k.least))))
def Kb.jL (k:Kb) (key:Int):Kb:=⟨k.least,key,k.lY,true⟩
def Kb.ff (k:Kb) (key:Int):Kb:=⟨key,k.dW,true,k.cY⟩
def shape (ns:List gG):Nat->List Nat->Int->Kb->Option Sh
 |0,_,_,_=>none
 |f+1,met,at_,k=>
  if at_<0 then none else
  match ns[at_.toNat]? with
  |none=>none
  |some n=>
   if met.contains at_.toNat then none else
   if n.aj then
    if dQ n k then
     match shape ns f (at_.toNat::met) n.left (k.jL n.key)with
     |none=>none
     |some l=>match shape ns f (l.ay++at_.toNat::met) n.right (k.ff n.key)with
      |none=>none
      |some r=>some (.node at_.toNat l r)
    else none
   else if iZ n k then some (.leaf at_.toNat)else none
def fl (t:PT):Option Sh:=
 if 2000<t.ns.length then none else
 match shape t.ns (t.ns.length+1) [] t.root Kb.all with
 |none=>none
 |some s=>if(List.range t.ns.length).all (s.ay.contains ·)then some s else none
def Sh.lay (ns:List gG):Sh->Nat->List gG
 | .leaf i,_=>[ns.getD i default]
 | .node i l r,b=>
  let n:=ns.getD i default
  {n with left:=((b+1:Nat):Int),right:=((b+1+l.size:Nat):Int)}::(l.lay ns (b+1)++r.lay ns (b+1+l.size))
def tM (t:PT):Option PT:=(fl t).map fun s=>⟨0,s.lay t.ns 0⟩
def Sh.leaves:Sh->List Nat
 | .leaf i=>[i]
 | .node _ l r=>l.leaves++r.leaves
def dK (t:PT):List Nat:=match fl t with|none=>[]|some s=>s.leaves
def sH (t:PT):List Pr:=(dK t).flatMap fun i=>(t.ns.getD i default).l
structure EI where
 leaf:Nat
 BK:List Nat
 ff:List Bool
 deriving DecidableEq
def Sh.find (ns:List gG) (key:Int):Sh->EI
 | .leaf i=>⟨i,[],[]⟩
 | .node i l r=>if key<(ns.getD i default).key then let p:=l.find ns key;⟨p.leaf,i::p.BK,false::p.ff⟩else let p:=r.find ns key;⟨p.leaf,i::p.BK,true::p.ff⟩
def NS (t:PT) (key:Int):Option EI:=(fl t).map fun s=>s.find t.ns key
def U9 (t:PT) (at_:Int) (l:List Pr) (stat:Int):Option PT:=
 if(fl t).isNone then none else if at_<0 then none else
 match t.ns[at_.toNat]? with
 |none=>none
 |some n=>if n.aj then none else
  let u:PT:=⟨t.root,t.ns.set at_.toNat {n with l:=l,stat:=stat}⟩
  if(fl u).isNone then none else some u
def bits (N:Nat) (met:List Nat):List Bool:=(List.range N).map (met.contains ·)
theorem eQ (N:Nat) (met:List Nat):(bits N met).length=N:=by simp[bits]
theorem kZ {N i:Nat} {met:List Nat} (h:i<N):(bits N met)[i]? =some (met.contains i):=by simp[bits,h]
theorem yL {N i:Nat} {met:List Nat}:(bits N met).set i true=bits N (i::met):=by
 apply List.ext_getElem?;intro j;rw[List.getElem?_set];by_cases hj:j<N;rw[kZ hj,kZ hj];by_cases hij:i=j;subst hij;simp[eQ,hj];simp only[hij,if_false,List.contains_cons];have:(j==i)=false:=by simpa using(Ne.symm hij)
 simp[this];have h1:(bits N met)[j]? =none:=List.getElem?_eq_none (by rw[eQ];omega);have h2:(bits N (i::met))[j]? =none:=List.getElem?_eq_none (by rw[eQ];omega);rw[h1,h2];split;rename_i h;subst h;rw[if_neg (by rw[eQ];exact hj)];rfl
theorem count_set {bs:List Bool} {i:Nat} (h:bs[i]? =some false):(bs.set i true).count false+1=bs.count false/\(bs.set i true).count true=bs.count true+1:=by
 induction bs generalizing i with
 |nil=>simp at h
 |cons b bs ih=>
  cases i with
  |zero=>simp at h;subst h;simp
  |succ i=>
   have:=ih (by simpa using h)
   cases b<;>simp<;>omega
theorem vw {N:Nat} {met met':List Nat} (h:∀i∈met,i∈met'):(bits N met').count false<=(bits N met).count false:=by
 unfold bits
 induction List.range N with
 |nil=>simp
 |cons i l ih=>
  simp only[List.map_cons,List.count_cons];have:(met.contains i=true->met'.contains i=true):=by simpa using h i
  cases h1:met.contains i<;>cases h2:met'.contains i<;>simp_all<;>omega
theorem Az {N:Nat} {met:List Nat}:(bits N met).count true=N<->(List.range N).all (met.contains ·)=true:=by
 have:∀l:List Nat,(l.map (met.contains ·)).count true=l.length<->l.all (met.contains ·)=true:=by
  intro l
  induction l with
  |nil=>simp
  |cons i l ih=>
   have hle:=List.count_le_length (a:=true) (l:=l.map (met.contains ·));simp only[List.length_map]at hle;simp only[List.map_cons,List.count_cons,List.length_cons,List.all_cons,Bool.and_eq_true];rw[<-ih];generalize(l.map (met.contains ·)).count true=c at hle⊢
   cases met.contains i<;>simp<;>omega
 have h:=this (List.range N);simp only[List.length_range]at h;exact h
theorem vP (bs:List Bool):bs.count false+bs.count true=bs.length:=by
 induction bs with
 |nil=>rfl
 |cons b bs ih=>cases b<;>simp<;>omega
theorem NT {a b:PT} (h1:a.root=b.root) (h2:a.ns=b.ns):a=b:=by cases a;cases b;simp_all
section
variable {ns:List gG} {f i:Nat} {met:List Nat} {at_:Int} {k:Kb} {n:gG}
theorem EJ (h:at_<0):shape ns (f+1) met at_ k=none:=by simp[shape,h]
theorem EK (h:ns.length<=i):shape ns (f+1) met (i:Int) k=none:=by
 have:ns[i]? =none:=List.getElem?_eq_none h;simp[shape,this]
theorem EL (h:met.contains i=true):shape ns (f+1) met (i:Int) k=none:=by
 simp only[shape,Int.toNat_natCast,h,if_true];split;rfl;split<;>rfl
section
variable (hn:ns[i]? =some n)
include hn
theorem fm (hm:met.contains i=false) (hr:n.aj=false):shape ns (f+1) met (i:Int) k=if iZ n k then some (.leaf i)else none:=by
 have h0:¬((i:Int)<0):=by omega
 simp only[shape,h0,if_false,Int.toNat_natCast,hn,hm,hr,Bool.false_eq_true]
theorem mV (hr:n.aj=true) (hb:dQ n k=false):shape ns (f+1) met (i:Int) k=none:=by
 have h0:¬((i:Int)<0):=by omega
 simp[shape,h0,hn,hr,hb]
theorem kA (hr:n.aj=true) (hb:dQ n k=true) (hl:shape ns f (i::met) n.left (k.jL n.key)=none):shape ns (f+1) met (i:Int) k=none:=by
 have h0:¬((i:Int)<0):=by omega
 simp[shape,h0,hn,hr,hb,hl]
end
theorem hZ {l:Sh} (hn:ns[i]? =some n) (hm:met.contains i=false) (hr:n.aj=true) (hb:dQ n k=true) (hl:shape ns f (i::met) n.left (k.jL n.key)=some l):
  shape ns (f+1) met (i:Int) k=(shape ns f (l.ay++i::met) n.right (k.ff n.key)).map (.node i l):=by
 have h0:¬((i:Int)<0):=by omega
 simp only[shape,h0,if_false,Int.toNat_natCast,hn,hm,hr,hb,hl,if_true,Bool.false_eq_true]
 cases shape ns f (l.ay++i::met) n.right (k.ff n.key)<;>rfl
end
theorem bM {b:Bool} (h:(!b)=true):b=false:=by simpa using h
theorem bV {b:Bool} (h:(!b)=false):b=true:=by simpa using h
theorem nY {α:Type} {o:Option α} (h:o.isSome=false):o=none:=by cases o<;>simp_all
theorem isSome_ite {α:Type} {b:Bool} {x:α}:(if b then some x else none:Option α).isSome=b:=by cases b<;>rfl
theorem EM (N i:Nat) (met:List Nat) (x:Bool):((bits N met).map wW).set i (pC [.bool x] 0 [.bool true])=(bits N (i::met)).map wW:=by
 rw[<-yL,List.map_set];rfl
theorem EO {N:Nat} {met met':List Nat} (h:∀i,met.contains i=met'.contains i):bits N met=bits N met':=by
 have:(fun i=>met.contains i)=(fun i=>met'.contains i):=funext h;unfold bits;rw[this]
theorem AA {N i:Nat} {met:List Nat} (hi:i<N) (hm:met.contains i=false):(bits N (i::met)).count false+1=(bits N met).count false/\(bits N (i::met)).count true=(bits N met).count true+1:=by
 rw[<-yL];exact count_set (by rw[kZ hi,hm])
theorem count_le (N:Nat) (met:List Nat):(bits N met).count true<=N:=by
 have:=vP (bits N met);rw[eQ]at this;omega
theorem iG (N:Nat) (a b:List Nat):(bits N (a++b)).count false<=(bits N b).count false:=vw fun _ h=>List.mem_append_right _ h
theorem isSome_map {α β:Type} (o:Option α) (f:α->β):(o.map f).isSome=o.isSome:=by cases o<;>rfl
def mW (t:Tr) (f:Nat) (met:List Nat) (at_:Int) (k:Kb) (n':Nat) (a:Option Addr) (c:Nat) (Mm:E.aO):Prop:=
 ∀s,shape t.p.ns f met at_ k=some s->n'=(bits t.ns.l.length (s.ay++met)).count true/\E.bR 4 1 ((bits t.ns.l.length (s.ay++met)).map wW) a c Mm
theorem mW.no {t:Tr} {f:Nat} {met:List Nat} {at_:Int} {k:Kb} {n':Nat} {a:Option Addr} {c:Nat} {Mm:E.aO} (h:shape t.p.ns f met at_ k=Option.none):mW t f met at_ k n' a c Mm:=fun s hs=>by rw[h]at hs;cases hs
theorem mW.leaf {t:Tr} {f i:Nat} {met:List Nat} {k:Kb} {a:Option Addr} {c:Nat} {Mm:E.aO} {b:Bool} (h:shape t.p.ns f met (i:Int) k=if b then some (.leaf i)else none)
  (hO:E.bR 4 1 ((bits t.ns.l.length (i::met)).map wW) a c Mm):mW t f met (i:Int) k ((bits t.ns.l.length (i::met)).count true) a c Mm:=fun s hs=>by
 rw[h]at hs
 cases b
 cases hs
 cases hs;exact⟨rfl,hO⟩
theorem mW.node {t:Tr} {f i n':Nat} {met:List Nat} {at_:Int} {k k':Kb} {a:Option Addr} {c:Nat} {Mm:E.aO} {l:Sh} (h:shape t.p.ns (f+1) met (i:Int) k=(shape t.p.ns f (l.ay++i::met) at_ k').map (.node i l))
  (he:mW t f (l.ay++i::met) at_ k' n' a c Mm):mW t (f+1) met (i:Int) k n' a c Mm:=fun s hs=>by
 rw[h]at hs
 cases hr:shape t.p.ns f (l.ay++i::met) at_ k' with
 |none=>rw[hr]at hs;cases hs
 |some r=>
  rw[hr]at hs
  cases hs
  have e:bits t.ns.l.length ((Sh.node i l r).ay++met)=bits t.ns.l.length (r.ay++(l.ay++i::met)):=EO fun j=>by
   simp only[Sh.ay,List.contains_eq_mem,List.mem_append,List.mem_cons,List.cons_append,List.append_assoc];congr 1;simp only[eq_iff_iff];constructor<;>(intro h;rcases h with h|h|h|h<;>simp[h])
  rw[e];exact he r hr
def EP (t:Tr) (f:Nat):Prop:=∀(met:List Nat) (at_:Int) (k:Kb) (b:Nat) (a:Option Addr) (c:Nat) (Mm:E.aO),(bits t.ns.l.length met).count false<f->E.bR 4 1 ((bits t.ns.l.length met).map wW) a c Mm->
 aN prog 101 [.pointer (some ⟨b,0,none⟩),.int .i64 at_,k.val] [pN t.ns,pO t.ns.l] [[(b,.cells #[.int .i64 t.root,t.ns.val,.slice a t.ns.l.length c,.int .i64 ((bits t.ns.l.length met).count true)] 140 (0,0))],Mm]
  (fun v Γ M=>∃(n':Nat) (Mm':E.aO),v= .bool (shape t.p.ns f met at_ k).isSome/\Γ=[]/\M=[[(b,.cells #[.int .i64 t.root,t.ns.val,.slice a t.ns.l.length c,.int .i64 n'] 140 (0,0))],Mm']/\mW t f met at_ k n' a c Mm')
theorem ER (N:Nat):(bits N []).map wW=List.replicate N [Value.bool false]:=by
 apply List.ext_getElem?;intro j;by_cases hj:j<N;rw[List.getElem?_map,kZ hj];simp[wW,hj];rw[List.getElem?_eq_none (by simp[eQ];omega),List.getElem?_eq_none (by simp;omega)]
theorem Iy {t:PT} (h:2000<t.ns.length):(fl t).isSome=false:=by simp[fl,h]
theorem ES {t:PT} (h:(shape t.ns (t.ns.length+1) [] t.root Kb.all).isSome=false):(fl t).isSome=false:=by
 unfold fl;rw[nY h];split<;>rfl
theorem ET {t:PT} {s:Sh} (hl:¬2000<t.ns.length) (hs:shape t.ns (t.ns.length+1) [] t.root Kb.all=some s):(fl t).isSome=decide (((bits t.ns.length (s.ay++[])).count true:Int)=(t.ns.length:Int)):=by
 have e:((bits t.ns.length (s.ay++[])).count true:Int)=(t.ns.length:Int)<->(List.range t.ns.length).all (s.ay.contains ·)=true:=by
  rw[List.append_nil,<-Az];omega
 unfold fl;rw[if_neg hl,hs];simp only[]
 cases h:(List.range t.ns.length).all (s.ay.contains ·)
 simp only[Bool.false_eq_true,if_false,Option.isSome_none];exact(decide_eq_false (fun h'=>by rw[e.1 h']at h;cases h)).symm;simp only[if_true,Option.isSome_some];exact(decide_eq_true (e.2 h)).symm
def eR (ns:List gG):Sh->Int->Prop
 | .leaf i,a=>a=(i:Int)/\∃n,ns[i]? =some n/\n.aj=false
 | .node i l r,a=>a=(i:Int)/\∃n,ns[i]? =some n/\n.aj=true/\eR ns l n.left/\eR ns r n.right
theorem oY {ns:List gG} {f:Nat} {met:List Nat} {at_:Int} {k:Kb} {s:Sh} (h:shape ns (f+1) met at_ k=some s):
  ∃(i:Nat) (n:gG),at_=(i:Int)/\ns[i]? =some n/\met.contains i=false/\((n.aj=false/\iZ n k=true/\s= .leaf i)\/
   (n.aj=true/\dQ n k=true/\∃l r,s= .node i l r/\shape ns f (i::met) n.left (k.jL n.key)=some l/\shape ns f (l.ay++i::met) n.right (k.ff n.key)=some r)):=by
 unfold shape at h;split at h
 cases h
 rename_i h0;split at h
 cases h
 rename_i n hn;split at h
 cases h
 rename_i hm;refine⟨at_.toNat,n,by omega,hn,by simpa using hm,?_⟩;split at h;rename_i hr;split at h;rename_i hb;split at h
 cases h
 rename_i l hl;split at h
 cases h
 rename_i r hr';exact .inr ⟨hr,hb,l,r,(Option.some.inj h).symm,hl,hr'⟩
 cases h
 rename_i hr;split at h;rename_i hb;exact .inl ⟨by simpa using hr,hb,(Option.some.inj h).symm⟩
 cases h
theorem tN:∀{f:Nat} {ns:List gG} {met:List Nat} {at_:Int} {k:Kb} {s:Sh},shape ns f met at_ k=some s->eR ns s at_
 |0,_,_,_,_,_,h=>by simp[shape]at h
 |f+1,ns,met,at_,k,s,h=>by
  obtain⟨i,n,rfl,hn,_,hc⟩:=oY h;rcases hc with⟨hr,_,rfl⟩| ⟨hr,_,l,r,rfl,hl,hr'⟩;exact⟨rfl,n,hn,hr⟩;exact⟨rfl,n,hn,hr,tN hl,tN hr'⟩
theorem vQ {t:PT} {s:Sh} (h:fl t=some s):t.ns.length<=2000/\shape t.ns (t.ns.length+1) [] t.root Kb.all=some s/\eR t.ns s t.root/\(List.range t.ns.length).all (s.ay.contains ·)=true:=by
 unfold fl at h;split at h
 cases h
 split at h
 cases h
 rename_i s' hs;split at h;rename_i hc
 cases h
 exact⟨by omega,hs,tN hs,hc⟩
 cases h
theorem eR.at {t:Tr} {s:Sh} {a:Int} (h:eR t.p.ns s a):∃(i:Nat) (x:Nd),a=(i:Int)/\t.ns.l[i]? =some x/\t.p.ns.getD i default=x.p/\
  ((x.aj=false/\s= .leaf i)\/(x.aj=true/\∃l r,s= .node i l r/\eR t.p.ns l x.left/\eR t.p.ns r x.right)):=by
 have key:∀{i:Nat} {n:gG},t.p.ns[i]? =some n->∃x,t.ns.l[i]? =some x/\x.p=n/\t.p.ns.getD i default=n:=by
  intro i n hn;have hn':(t.ns.l.map Nd.p)[i]? =some n:=hn;rw[List.getElem?_map]at hn'
  cases hx:t.ns.l[i]? with
  |none=>rw[hx]at hn';cases hn'
  |some x=>rw[hx]at hn';exact⟨x,rfl,Option.some.inj hn',by rw[List.getD_eq_getElem?_getD,hn];rfl⟩
 cases s with
 |leaf i=>
  obtain⟨rfl,n,hn,hr⟩:=h;obtain⟨x,hx,rfl,hg⟩:=key hn;exact⟨i,x,rfl,hx,hg,.inl ⟨hr,rfl⟩⟩
 |node i l r=>
  obtain⟨rfl,n,hn,hr,hl,hr'⟩:=h;obtain⟨x,hx,rfl,hg⟩:=key hn;exact⟨i,x,rfl,hx,hg,.inr ⟨hr,l,r,rfl,hl,hr'⟩⟩
theorem BL (o r:List Nd) (n:Nd):((o++n::r).map ke)[o.length]? =some (ke n):=by simp
theorem BM (o r:List Nd) (n m:Nd):((o++n::r).map ke).set o.length (ke m)=(o++m::r).map ke:=by
 rw[<-List.map_set];simp
def EU (l:List Nd):Prop:=∀n∈l,n.ps.l.length<=1000000
theorem Sh.lZ (ns:List gG) (s:Sh) (b:Nat):(s.lay ns b).length=s.size:=by
 induction s generalizing b with
 |leaf i=>rfl
 |node i l r h1 h2=>simp[Sh.lay,Sh.size,h1,h2];omega
theorem l4:∀{f:Nat} {ns:List gG} {met:List Nat} {at_:Int} {k:Kb} {s:Sh},shape ns f met at_ k=some s->s.ay.Nodup/\∀i∈s.ay,i<ns.length/\i∉met
 |0,_,_,_,_,_,h=>by simp[shape]at h
 |f+1,ns,met,at_,k,s,h=>by
  obtain⟨i,n,rfl,hn,hm,hc⟩:=oY h;have hm':i∉met:=by simpa using hm
  have hi:=ae hn;rcases hc with⟨_,_,rfl⟩| ⟨_,_,l,r,rfl,hl,hr⟩;exact⟨by simp[Sh.ay],fun j hj=>by simp[Sh.ay]at hj;subst hj;exact⟨hi,hm'⟩⟩;obtain⟨a1,a2⟩:=l4 hl;obtain⟨b1,b2⟩:=l4 hr;refine⟨?_,?_⟩;simp only[Sh.ay,List.nodup_cons,List.mem_append,List.nodup_append];refine⟨?_,a1,b1,?_⟩;rintro(h1|h1);exact(a2 i h1).2 (by simp);exact(b2 i h1).2 (by simp);intro x hx y hy e;subst e;exact(b2 x hy).2 (by simp[hx]);intro j hj;simp only[Sh.ay,List.mem_cons,List.mem_append]at hj;rcases hj with rfl|h1|h1;exact⟨hi,hm'⟩;exact⟨(a2 j h1).1,fun h2=>(a2 j h1).2 (by simp[h2])⟩;exact⟨(b2 j h1).1,fun h2=>(b2 j h1).2 (by simp[h2])⟩
theorem qS:∀{N:Nat} {l:List Nat},l.Nodup->(∀i∈l,i<N)->l.length<=N
 |0,l,_,h=>by
  cases l with
  |nil=>simp
  |cons a l=>exact absurd (h a (by simp)) (Nat.not_lt_zero _)
 |N+1,l,hn,h=>by
  have h1:(l.erase N).Nodup:=hn.erase N
  have h2:=qS (N:=N) h1 fun i hi=>by
   have h3:=h i (List.mem_of_mem_erase hi);have h4:i≠N:=fun e=>by subst e;exact(List.Nodup.not_mem_erase hn) hi
   omega
  have h3:=List.length_erase (a:=N) (l:=l);split at h3<;>omega
theorem vR {α:Type} [DecidableEq α]:∀{a b:List α},a.Nodup->(∀i∈a,i∈b)->a.length<=b.length
 | [],b,_,_=>Nat.zero_le _
 |x::a,b,hn,h=>by
  obtain⟨h1,h2⟩:=List.nodup_cons.1 hn;have hx:x∈b:=h x (by simp);have:=vR (b:=b.erase x) h2 fun i hi=>(List.mem_erase_of_ne (fun e=>by subst e;exact h1 hi)).2 (h i (by simp[hi]));rw[List.length_erase_of_mem hx]at this;have:=List.length_pos_of_mem hx;simp;omega
structure Good (t:PT) (s:Sh):Prop where
 may:fl t=some s
 gN:t.ns.length<=2000
 aK:eR t.ns s t.root
 nodup:s.ay.Nodup
 lt:∀i∈s.ay,i<t.ns.length
 all:∀i,i<t.ns.length->i∈s.ay
 size:s.size=t.ns.length
theorem l6 {t:PT} {s:Sh} (h:fl t=some s):Good t s:=by
 obtain⟨h1,h2,h3,h4⟩:=vQ h;obtain⟨h5,h6⟩:=l4 h2
 have h7:∀i,i<t.ns.length->i∈s.ay:=fun i hi=>by
  have:=List.all_eq_true.1 h4 i (List.mem_range.2 hi);simpa using this
 refine⟨h,h1,h3,h5,fun i hi=>(h6 i hi).1,h7,?_⟩;have a:=qS h5 fun i hi=>(h6 i hi).1;have b:(List.range t.ns.length).length<=s.ay.length:=vR List.nodup_range fun i hi=>h7 i (List.mem_range.1 hi);rw[Sh.rZ]at a b;simp at b;omega
theorem eX {s:Sh}:∀i∈s.leaves,i∈s.ay:=by
 induction s with
 |leaf j=>intro i h;simpa[Sh.leaves,Sh.ay]using h
 |node j l r h1 h2=>
  intro i h;simp only[Sh.leaves,List.mem_append]at h;simp only[Sh.ay,List.mem_cons,List.mem_append];rcases h with h|h;exact .inr (.inl (h1 i h));exact .inr (.inr (h2 i h))
theorem tO (s:Sh):s.leaves.length<=s.size:=by
 induction s with
 |leaf j=>simp[Sh.leaves,Sh.size]
 |node j l r h1 h2=>simp[Sh.leaves,Sh.size];omega
def dT (t:PT):PT:=(tM t).getD ⟨0,[]⟩
def findD (t:PT) (key:Int):EI:=(NS t key).getD ⟨0,[],[]⟩
def vx (l:List Nat):List Int:=l.map fun(i:Nat)=>(i:Int)
theorem BN (a b:List Nat):vx (a++b)=vx a++vx b:=List.map_append
def NU (s:Sh) (o:List Int) (v:Value) (Γ:List ag) (M:E.Loc):Prop:=
 ∃(a':Option Addr) (c':Nat) (M':E.aO),v= .slice a' (o++vx s.leaves).length c'/\Γ=[]/\M=[M']/\E.bR 3 1 ((o++vx s.leaves).map aM) a' c' M'
def Lv (F:Nat) (t:Tr) (s:Sh):Prop:=∀(at_:Int),eR t.p.ns s at_->∀(o:List Int) (a:Option Addr) (c:Nat) (Mo:E.aO),E.bR 3 1 (o.map aM) a c Mo->o.length+s.size<=1000000->
 aN prog F [t.val,.int .i64 at_,.slice a o.length c] [pN t.ns,pO t.ns.l] [Mo] (NU s o)
theorem Tr.get {t:Tr} {i:Nat} (h:i<t.p.ns.length):∃x,t.ns.l[i]? =some x/\t.p.ns[i]? =some x.p/\t.p.ns.getD i default=x.p:=by
 have h':i<t.ns.l.length:=by simpa[Tr.p]using h
 obtain⟨x,hx⟩:=aD h';have hp:t.p.ns[i]? =some x.p:=aI hx;exact⟨x,hx,hp,by rw[List.getD_eq_getElem?_getD,hp];rfl⟩
theorem AB {t:PT} {i:Nat} (h:i∈dK t):i<t.ns.length:=by
 unfold dK at h;split at h;simp at h;rename_i s hs;exact(l6 hs).lt i (eX i h)
theorem yM (t:PT):(dK t).length<=2000:=by
 unfold dK;split;simp;rename_i s hs;have h1:=(l6 hs).size;have h2:=(l6 hs).gN;have:=tO s;omega
def outs (t:PT) (k:Nat):List Pr:=((dK t).take k).flatMap fun i=>(t.ns.getD i default).l
theorem EV {t:PT} {k:Nat} (h:(dK t).length<=k):outs t k=sH t:=by rw[outs,sH,List.take_of_length_le h]
theorem C6 {t:PT} {k i:Nat} {n:gG} (hi:(dK t)[k]? =some i) (hn:t.ns.getD i default=n):outs t (k+1)=outs t k++n.l:=by
 rw[outs,outs,List.take_succ_eq_append_getElem (ae hi),List.flatMap_append,(List.getElem?_eq_some_iff.1 hi).2];simp only[List.flatMap_cons,List.flatMap_nil,List.append_nil,hn]
theorem Iz {l:List Nat} {k i:Nat} (h:l[k]? =some i):(vx l)[k]? =some (i:Int):=aI h
theorem AD (l:List Nat):(vx l).length=l.length:=List.length_map ..
structure Way (t:Tr) (key:Int) (s:Sh) (at_:Int) (us:List Int) (rs:List Bool):Prop where
 aK:eR t.p.ns s at_
 leaf:(findD t.p key).leaf=(s.find t.p.ns key).leaf
 BK:vx (findD t.p key).BK=us++vx (s.find t.p.ns key).BK
 ff:(findD t.p key).ff=rs++(s.find t.p.ns key).ff
theorem Way.step {t:Tr} {key:Int} {i:Nat} {l r:Sh} {us:List Int} {rs:List Bool} {x:Nd} (h:Way t key (.node i l r) (i:Int) us rs) (hx:t.p.ns.getD i default=x.p) (hl:eR t.p.ns l x.left) (hr:eR t.p.ns r x.right):
  (key<x.key->Way t key l x.left (us++[(i:Int)]) (rs++[false]))/\(x.key<=key->Way t key r x.right (us++[(i:Int)]) (rs++[true])):=by
 have h1:=h.leaf;have h2:=h.BK;have h3:=h.ff;simp only[Sh.find,hx]at h1 h2 h3;constructor;intro hk;rw[if_pos (show key<x.p.key from hk)]at h1 h2 h3;exact⟨hl,h1,by rw[h2];simp[vx],by rw[h3];simp⟩;intro hk;rw[if_neg (show¬key<x.p.key by show¬key<x.key;omega)]at h1 h2 h3;exact⟨hr,h1,by rw[h2];simp[vx],by rw[h3];simp⟩
def NV (t:PT) (a:Int) (l:List Pr) (stat:Int):PT:=(U9 t a l stat).getD ⟨0,[]⟩
def Kb.lo (k:Kb):List Int:=if k.lY then[k.least]else[]
def Kb.hi (k:Kb):List Int:=if k.cY then[k.dW]else[]
theorem AE {n:gG} {k:Kb} (h:dQ n k=true):n.l=[]/\n.stat=0:=by
 simp only[dQ,Bool.and_eq_true,decide_eq_true_eq,List.isEmpty_iff]at h;exact⟨h.1,h.2.1⟩
def kC (t:PT) (a:Int):Bool:=(fl t).isSome&&(decide (0<=a)&&(match t.ns[a.toNat]? with|none=>false|some n=> !n.aj))
def Fits (ns:List gG):Sh->Int->Kb->Prop
 | .leaf i,a,k=>a=(i:Int)/\∃n,ns[i]? =some n/\n.aj=false/\iZ n k=true
 | .node i l r,a,k=>a=(i:Int)/\∃n,ns[i]? =some n/\n.aj=true/\dQ n k=true/\Fits ns l n.left (k.jL n.key)/\Fits ns r n.right (k.ff n.key)
theorem wZ:∀{f:Nat} {ns:List gG} {met:List Nat} {at_:Int} {k:Kb} {s:Sh},shape ns f met at_ k=some s->Fits ns s at_ k
 |0,_,_,_,_,_,h=>by simp[shape]at h
 |f+1,ns,met,at_,k,s,h=>by
  obtain⟨i,n,rfl,hn,_,hc⟩:=oY h;rcases hc with⟨hr,hk,rfl⟩| ⟨hr,hk,l,r,rfl,hl,hr'⟩;exact⟨rfl,n,hn,hr,hk⟩;exact⟨rfl,n,hn,hr,hk,wZ hl,wZ hr'⟩
section
variable {ns:List gG} {s:Sh} {a:Int} {k:Kb} (h:Fits ns s a k)
include ns s a k h
theorem Fits.lt:∀i∈s.ay,i<ns.length:=by
 induction s generalizing a k with
 |leaf j=>
  obtain⟨_,n,hn,_⟩:=h;intro i hi;simp[Sh.ay]at hi;subst hi;exact ae hn
 |node j l r h1 h2=>
  obtain⟨_,n,hn,_,_,hl,hr⟩:=h;intro i hi;simp only[Sh.ay,List.mem_cons,List.mem_append]at hi;rcases hi with rfl|hi|hi;exact ae hn;exact h1 hl i hi;exact h2 hr i hi
theorem Fits.aK:eR ns s a:=by
 induction s generalizing a k with
 |leaf j=>obtain⟨h0,n,hn,hr,_⟩:=h;exact⟨h0,n,hn,hr⟩
 |node j l r h1 h2=>obtain⟨h0,n,hn,hr,_,hl,hr'⟩:=h;exact⟨h0,n,hn,hr,h1 hl,h2 hr'⟩
theorem vy:∀{f:Nat} {met:List Nat},s.ay.Nodup->(∀i∈s.ay,i∉met)->s.size<=f->shape ns f met a k=some s:=by
 induction s generalizing a k with
 |leaf j=>
  obtain⟨rfl,n,hn,hr,hk⟩:=h;intro f met _ hm hf
  cases f with
  |zero=>simp[Sh.size]at hf
  |succ f=>
   have:met.contains j=false:=by simpa using hm j (by simp[Sh.ay])
   rw[fm hn this hr,hk];rfl
 |node j l r h1 h2=>
  obtain⟨rfl,n,hn,hr,hk,hl,hr'⟩:=h;intro f met hnd hm hf
  cases f with
  |zero=>simp only[Sh.size]at hf;omega
  |succ f=>
   simp only[Sh.size]at hf;simp only[Sh.ay,List.nodup_cons,List.mem_append,List.nodup_append]at hnd;obtain⟨hj,hn1,hn2,hd⟩:=hnd;have hmj:met.contains j=false:=by simpa using hm j (by simp[Sh.ay])
   have e1:shape ns f (j::met) n.left (k.jL n.key)=some l:=h1 hl hn1 (fun i hi=>by
    rw[List.mem_cons];rintro(h|h);subst h;exact hj (.inl hi);exact hm i (by simp[Sh.ay,hi]) h) (by omega)
   have e2:shape ns f (l.ay++j::met) n.right (k.ff n.key)=some r:=h2 hr' hn2 (fun i hi=>by
    rw[List.mem_append,List.mem_cons];rintro(h|h|h);exact hd i h i hi rfl;subst h;exact hj (.inr hi);exact hm i (by simp[Sh.ay,hi]) h) (by omega)
   rw[hZ hn hmj hr hk e1,e2];rfl
end
section
variable {t:PT} {s:Sh}
include t s
theorem tP (h:fl t=some s):Fits t.ns s t.root Kb.all:=wZ (vQ h).2.1
theorem yN (hN:t.ns.length<=2000) (hf:Fits t.ns s t.root Kb.all) (hn:s.ay.Nodup) (ha:∀i,i<t.ns.length->i∈s.ay):fl t=some s:=by
 have h1:=qS hn hf.lt;rw[Sh.rZ]at h1;have hs:=vy hf (f:=t.ns.length+1) (met:=[]) hn (fun _ _=>by simp) (by omega);unfold fl;rw[if_neg (by omega),hs];simp only[];rw[if_pos];rw[List.all_eq_true];intro i hi;simpa using ha i (List.mem_range.1 hi)
theorem Good.perm (h:Good t s):s.ay.Perm (List.range t.ns.length):=by
 rw[List.perm_ext_iff_of_nodup h.nodup List.nodup_range];intro i;rw[List.mem_range];exact⟨h.lt i,h.all i⟩
end
theorem C7 {ns:List gG}:(List.range ns.length).map (fun i=>ns.getD i default)=ns:=by
 apply List.ext_getElem?;intro j;by_cases hj:j<ns.length;rw[List.getElem?_map,List.getElem?_range hj];simp[List.getElem?_eq_getElem hj];rw[List.getElem?_eq_none (by simp;omega),List.getElem?_eq_none (by omega)]
theorem Good.nodes {t:PT} {s:Sh} (h:Good t s):(s.ay.map fun i=>t.ns.getD i default).Perm t.ns:=by
 have:=h.perm.map (fun i=>t.ns.getD i default)
 rwa [C7]at this
def mI:List Int->Int
 | []=>0
 |a::l=>a+mI l
theorem EW (a b:List Int):mI (a++b)=mI a+mI b:=by
 induction a with
 |nil=>simp[mI]
 |cons x a ih=>simp only[List.cons_append,mI,ih];omega
theorem vS {a b:List Int} (h:a.Perm b):mI a=mI b:=by
 induction h with
 |nil=>rfl
 |cons x _ ih=>simp only[mI,ih]
 |swap x y l=>simp only[mI];omega
 |trans _ _ h1 h2=>exact h1.trans h2
def kids (n:gG):Int:=if n.aj then n.left+n.right else 0
theorem EX {ns:List gG} {s:Sh} {a:Int} (h:eR ns s a):a+mI (s.ay.map fun i=>kids (ns.getD i default))=mI (vx s.ay):=by
 induction s generalizing a with
 |leaf i=>
  obtain⟨rfl,n,hn,hr⟩:=h;have hg:ns.getD i default=n:=by rw[List.getD_eq_getElem?_getD,hn];rfl
  simp only[Sh.ay,List.map_cons,List.map_nil,mI,vx,hg,kids,hr];simp
 |node i l r h1 h2=>
  obtain⟨rfl,n,hn,hr,hl,hr'⟩:=h;have hg:ns.getD i default=n:=by rw[List.getD_eq_getElem?_getD,hn];rfl
  have e1:=h1 hl;have e2:=h2 hr';simp only[vx]at e1 e2⊢;simp only[Sh.ay,List.map_cons,List.map_append,mI,EW,hg];have:kids n=n.left+n.right:=by simp[kids,hr]
  omega
theorem Good.sum {t:PT} {s:Sh} (h:Good t s):t.root+mI (t.ns.map kids)=mI (vx (List.range t.ns.length)):=by
 have h1:=EX h.aK;have h2:=vS (h.perm.map (fun i:Nat=>(i:Int)));have h3:=vS (h.nodes.map kids);rw[List.map_map]at h3;have h1':t.root+mI (s.ay.map (kids∘fun i=>t.ns.getD i default))=mI (s.ay.map fun i:Nat=>(i:Int)):=h1;rw[h3,h2]at h1';exact h1'
theorem dF {l:List Pr}:dV l=true<->l.Pairwise fun a b=>a.k<b.k:=by
 rw[List.pairwise_iff_getElem];constructor;intro h i j hi hj hij;exact EE h i j _ _ hij (List.getElem?_eq_getElem hi) (List.getElem?_eq_getElem hj);intro h
 exact gT.2 fun j a b ha hb=>by
  obtain⟨h1,rfl⟩:=List.getElem?_eq_some_iff.1 ha;obtain⟨h2,rfl⟩:=List.getElem?_eq_some_iff.1 hb;exact h j (j+1) h1 h2 (by omega)
def fE (p:Pr):List Pr->Bool->List Pr
 | [],done=>if done then[]else[p]
 |x::l,done=>(if !done&&decide (p.k<=x.k)then[p]else[])++((if x.k=p.k then[]else[x])++fE p l (done||decide (p.k<=x.k)))
def eM (l:List Pr) (p:Pr):List Pr:=fE p l false
section
variable {t:PT} {a:Int} {i:Nat} {l:List Pr} {stat:Int} {n:gG}
end
def Sh.bd (ns:List gG):Sh->Kb->Nat->Kb
 | .leaf _,k,_=>k
 | .node j l r,k,i=>if l.ay.contains i then l.bd ns (k.jL (ns.getD j default).key) i else r.bd ns (k.ff (ns.getD j default).key) i
theorem l7 {ns:List gG} {i:Nat} {n:gG} (h:ns[i]? =some n):ns.getD i default=n:=by rw[List.getD_eq_getElem?_getD,h];rfl
theorem l8 {j:Nat} {l r:Sh} (h:(Sh.node j l r).ay.Nodup):j∉l.ay/\j∉r.ay/\l.ay.Nodup/\r.ay.Nodup/\∀i∈l.ay,i∉r.ay:=by
 simp only[Sh.ay,List.nodup_cons,List.mem_append,List.nodup_append]at h;obtain⟨h1,h2,h3,h4⟩:=h;exact⟨fun h=>h1 (.inl h),fun h=>h1 (.inr h),h2,h3,fun i hi hj=>h4 i hi i hj rfl⟩
theorem tQ {t:PT} {s:Sh} (h:fl t=some s):dK t=s.leaves:=by simp[dK,h]
theorem NW {ns:List gG} {s:Sh} {a:Int} {k:Kb} {i:Nat} {n':gG} (h:Fits ns s a k) (hn:s.ay.Nodup) (hi:i∈s.leaves) (hr:n'.aj=false):Fits (ns.set i n') s a k<->iZ n' (s.bd ns k i)=true:=by
 have out:∀{s:Sh} {a:Int} {k:Kb},i∉s.ay->Fits ns s a k->Fits (ns.set i n') s a k:=by
  intro s
  induction s with
  |leaf j=>
   rintro a k hi ⟨h0,x,hx,h1⟩;exact⟨h0,x,by rw[List.getElem?_set_ne (fun e=>hi (by simp[Sh.ay,e]))];exact hx,h1⟩
  |node j l r h1 h2=>
   rintro a k hi ⟨h0,x,hx,hxr,hk,hl,hrr⟩;simp only[Sh.ay,List.mem_cons,List.mem_append,not_or]at hi;exact⟨h0,x,by rw[List.getElem?_set_ne hi.1];exact hx,hxr,hk,h1 hi.2.1 hl,h2 hi.2.2 hrr⟩
 induction s generalizing a k with
 |leaf j=>
  obtain⟨rfl,x,hx,hxr,hk⟩:=h;simp[Sh.leaves]at hi;subst hi;have e:(ns.set i n')[i]? =some n':=by rw[List.getElem?_set];simp[ae hx]
  constructor;rintro⟨_,y,hy,_,hk'⟩;rw[e]at hy;cases hy;exact hk';intro h;exact⟨rfl,n',e,hr,h⟩
 |node j l r h1 h2=>
  obtain⟨rfl,x,hx,hxr,hk,hl,hrr⟩:=h;obtain⟨c1,c2,d1,d2,d3⟩:=l8 hn;simp only[Sh.bd,l7 hx]
  have hij:i≠j:=by
   rintro rfl;rcases List.mem_append.1 hi with h'|h';exact c1 (eX _ h');exact c2 (eX _ h')
  have e:(ns.set i n')[j]? =some x:=by rw[List.getElem?_set_ne hij];exact hx
  rcases List.mem_append.1 hi with h'|h';have hp:=eX i h';rw[if_pos (by simpa using hp)];refine Iff.trans ?_ (h1 hl d1 h');constructor;rintro⟨_,y,hy,_,_,h3,_⟩;rw[e]at hy;cases hy;exact h3;intro h3;exact⟨rfl,x,e,hxr,hk,h3,out (d3 i hp) hrr⟩;have hp:=eX i h';have hnl:i∉l.ay:=fun h3=>d3 i h3 hp;rw[if_neg (by simpa using hnl)];refine Iff.trans ?_ (h2 hrr d2 h');constructor;rintro⟨_,y,hy,_,_,_,h3⟩;rw[e]at hy;cases hy;exact h3;intro h3;exact⟨rfl,x,e,hxr,hk,out hnl hl,h3⟩
theorem kD (p:Pr) (l:List Pr):fE p l true=l.filter fun x=>decide (x.k≠p.k):=by
 induction l with
 |nil=>rfl
 |cons x l ih=>
  simp only[fE,Bool.not_true,Bool.false_and,Bool.false_eq_true,if_false,List.nil_append,Bool.true_or,ih];by_cases h:x.k=p.k;rw[if_pos h,List.filter_cons_of_neg (by simp[h])];rfl;rw[if_neg h,List.filter_cons_of_pos (by simp[h])];rfl
theorem tR {p x:Pr} {l:List Pr}:x∈eM l p<->x=p\/(x∈l/\x.k≠p.k):=by
 unfold eM
 induction l with
 |nil=>simp[fE]
 |cons y l ih=>
  by_cases h1:p.k<=y.k;simp only[fE,Bool.not_false,Bool.true_and,h1,decide_true,if_true,Bool.false_or,kD,List.mem_append,List.mem_singleton,List.mem_filter,decide_eq_true_eq,List.mem_cons,List.not_mem_nil,or_false];by_cases h2:y.k=p.k;simp only[if_pos h2,List.not_mem_nil,false_or];constructor;rintro(h| ⟨h,h'⟩);exact .inl h;exact .inr ⟨.inr h,h'⟩;rintro(h| ⟨rfl|h,h'⟩);exact .inl h;exact absurd h2 h';exact .inr ⟨h,h'⟩;simp only[if_neg h2,List.mem_singleton];constructor;rintro(h|rfl| ⟨h,h'⟩);exact .inl h;exact .inr ⟨.inl rfl,h2⟩;exact .inr ⟨.inr h,h'⟩;rintro(h| ⟨rfl|h,h'⟩);exact .inl h;exact .inr (.inl rfl);exact .inr (.inr ⟨h,h'⟩);have h2:y.k≠p.k:=by omega
  simp only[fE,Bool.not_false,Bool.true_and,h1,decide_false,Bool.false_eq_true,if_false,Bool.false_or,List.nil_append,if_neg h2,List.mem_append,List.mem_singleton,ih,List.mem_cons,List.not_mem_nil,or_false];constructor;rintro(rfl|h| ⟨h,h'⟩);exact .inr ⟨.inl rfl,h2⟩;exact .inl h;exact .inr ⟨.inr h,h'⟩;rintro(h| ⟨rfl|h,h'⟩);exact .inr (.inl h);exact .inl rfl;exact .inr (.inr ⟨h,h'⟩)
theorem w6 {p:Pr} {l:List Pr} (h:l.Pairwise fun a b=>a.k<b.k):(eM l p).Pairwise fun a b=>a.k<b.k:=by
 induction l with
 |nil=>simp[eM,fE]
 |cons y l ih=>
  obtain⟨h1,h2⟩:=List.pairwise_cons.1 h;have hin:∀x∈fE p l false,x=p\/(x∈l/\x.k≠p.k):=fun x hx=>tR.1 hx;unfold eM;by_cases h3:p.k<=y.k;simp only[fE,Bool.not_false,Bool.true_and,h3,decide_true,if_true,Bool.false_or,kD];have hf:=List.Pairwise.filter (fun x:Pr=>decide (x.k≠p.k)) h2;by_cases h4:y.k=p.k;rw[if_pos h4];show List.Pairwise _ (p::l.filter fun x:Pr=>decide (x.k≠p.k));refine List.pairwise_cons.2 ⟨fun x hx=>?_,hf⟩;have:=h1 x (List.mem_filter.1 hx).1;omega;rw[if_neg h4];show List.Pairwise _ (p::y::l.filter fun x:Pr=>decide (x.k≠p.k));refine List.pairwise_cons.2 ⟨fun x hx=>?_,List.pairwise_cons.2 ⟨fun x hx=>h1 x (List.mem_filter.1 hx).1,hf⟩⟩;rcases List.mem_cons.1 hx with rfl|hx;omega;have:=h1 x (List.mem_filter.1 hx).1;omega;have h4:y.k≠p.k:=by omega
  simp only[fE,Bool.not_false,Bool.true_and,h3,decide_false,Bool.false_eq_true,if_false,Bool.false_or,List.nil_append,if_neg h4];show List.Pairwise _ (y::fE p l false);refine List.pairwise_cons.2 ⟨fun x hx=>?_,ih h2⟩;rcases hin x hx with rfl| ⟨hx,_⟩;omega;exact h1 x hx
theorem yO (p:Pr) (l:List Pr):(eM l p).length<=l.length+1:=by
 unfold eM
 induction l with
 |nil=>simp[fE]
 |cons y l ih=>
  by_cases h1:p.k<=y.k;simp only[fE,Bool.not_false,Bool.true_and,h1,decide_true,if_true,Bool.false_or,kD];have:=List.length_filter_le (fun x:Pr=>decide (x.k≠p.k)) l;split<;>simp only[List.length_append,List.length_cons,List.length_nil]<;>omega;simp only[fE,Bool.not_false,Bool.true_and,h1,decide_false,Bool.false_eq_true,if_false,Bool.false_or,List.nil_append];split<;>simp<;>omega
def Sh.eF:Sh->Nat->Sh
 | .leaf _,b=>.leaf b
 | .node _ l r,b=>.node b (l.eF (b+1)) (r.eF (b+1+l.size))
theorem vz (s:Sh) (b:Nat):(s.eF b).size=s.size:=by
 induction s generalizing b with
 |leaf i=>rfl
 |node i l r h1 h2=>simp[Sh.eF,Sh.size,h1,h2]
theorem mE (s:Sh) (b:Nat):(s.eF b).ay=List.range' b s.size:=by
 induction s generalizing b with
 |leaf i=>rfl
 |node i l r h1 h2=>
  simp only[Sh.eF,Sh.ay,Sh.size,h1,h2];rw[show 1+l.size+r.size=(l.size+r.size)+1 by omega,List.range'_succ,<-List.range'_append_1]
section
variable {ns:List gG} {s:Sh} {a:Int} {k:Kb} (h:Fits ns s a k)
include ns s a k h
theorem EY:∀(b:Nat) (pre post:List gG),pre.length=b->Fits (pre++s.lay ns b++post) (s.eF b) (b:Int) k:=by
 induction s generalizing a k with
 |leaf i=>
  obtain⟨rfl,n,hn,hr,hk⟩:=h;rintro b pre post rfl;refine⟨rfl,n,?_,hr,hk⟩;simp only[Sh.lay,l7 hn];simp
 |node i l r h1 h2=>
  obtain⟨rfl,n,hn,hr,hk,hl,hr'⟩:=h;rintro b pre post rfl;simp only[Sh.lay,l7 hn,Sh.eF];refine⟨rfl,{n with left:=((pre.length+1:Nat):Int),right:=((pre.length+1+l.size:Nat):Int)},by simp,hr,hk,?_,?_⟩;have:=h1 hl (pre.length+1) (pre++[{n with left:=((pre.length+1:Nat):Int),right:=((pre.length+1+l.size:Nat):Int)}]) (r.lay ns (pre.length+1+l.size)++post) (by simp);simpa[List.append_assoc]using this;have:=h2 hr' (pre.length+1+l.size) (pre++{n with left:=((pre.length+1:Nat):Int),right:=((pre.length+1+l.size:Nat):Int)}::l.lay ns (pre.length+1)) post (by simp[Sh.lZ];omega);simpa[List.append_assoc]using this
theorem IA:∀(b:Nat) (pre post:List gG),pre.length=b->(s.eF b).lay (pre++s.lay ns b++post) b=s.lay ns b:=by
 induction s generalizing a k with
 |leaf i=>
  rintro b pre post rfl;simp[Sh.eF,Sh.lay]
 |node i l r h1 h2=>
  obtain⟨rfl,n,hn,hr,hk,hl,hr'⟩:=h;rintro b pre post rfl;have e1:=h1 hl (pre.length+1) (pre++[{n with left:=((pre.length+1:Nat):Int),right:=((pre.length+1+l.size:Nat):Int)}]) (r.lay ns (pre.length+1+l.size)++post) (by simp);have e2:=h2 hr' (pre.length+1+l.size) (pre++{n with left:=((pre.length+1:Nat):Int),right:=((pre.length+1+l.size:Nat):Int)}::l.lay ns (pre.length+1)) post (by simp[Sh.lZ];omega);simp only[List.append_assoc,List.cons_append,List.nil_append]at e1 e2;simp only[Sh.lay,l7 hn,Sh.eF,vz,List.append_assoc,List.cons_append];rw[e1,e2];simp[List.getD_eq_getElem?_getD]
end
theorem vT {t:PT} {s:Sh} (h:fl t=some s):dT t=⟨0,s.lay t.ns 0⟩/\fl (dT t)=some (s.eF 0)/\dT (dT t)=dT t:=by
 have hg:=l6 h;have hp:dT t=⟨0,s.lay t.ns 0⟩:=by simp[dT,tM,h]
 have hf:=EY (tP h) 0 [] [] rfl;have hl:=IA (tP h) 0 [] [] rfl;simp only[List.nil_append,List.append_nil]at hf hl
 have hm:fl ⟨0,s.lay t.ns 0⟩=some (s.eF 0):=by
  refine yN (by rw[Sh.lZ,hg.size];exact hg.gN) hf ?_ fun i hi=>?_;rw[mE];exact List.nodup_range';rw[mE,List.mem_range'_1];rw[Sh.lZ]at hi;omega
 refine⟨hp,by rw[hp];exact hm,?_⟩;rw[hp];simp[dT,tM,hm,hl]
theorem C8 {ns:List gG} {s:Sh} {a:Int} {k:Kb} (h:Fits ns s a k) (b:Nat):(s.leaves.flatMap fun i=>(ns.getD i default).l)=(s.lay ns b).flatMap (·.l):=by
 induction s generalizing a k b with
 |leaf i=>simp[Sh.leaves,Sh.lay]
 |node i l r h1 h2=>
  obtain⟨rfl,n,hn,hr,hk,hl,hr'⟩:=h;simp only[Sh.leaves,Sh.lay,List.flatMap_append,List.flatMap_cons,l7 hn];rw[(AE hk).1,h1 hl (b+1),h2 hr' (b+1+l.size)];simp
theorem vU (t:PT):sH t=(dT t).ns.flatMap (·.l):=by
 unfold sH dK
 cases h:fl t with
 |none=>simp[dT,tM,h]
 |some s=>rw[(vT h).1];exact C8 (tP h) 0
theorem Fits.Ee {ns:List gG} {s:Sh} {a:Int} {k:Kb} (h:Fits ns s a k):a=(s.at_:Int):=by
 cases s with
 |leaf i=>exact h.1
 |node i l r=>exact h.1
theorem EZ {n k i j:Nat} (hi:i<n) (hj:j<n) (h:(i+k)%n=(j+k)%n):i=j:=by
 have h1:=Nat.div_add_mod (i+k) n;have h2:=Nat.div_add_mod (j+k) n;rw[h]at h1;rcases Nat.lt_trichotomy ((i+k)/n) ((j+k)/n)with h3|h3|h3;have:n*((i+k)/n)+n<=n*((j+k)/n):=by rw[<-Nat.mul_succ];exact Nat.mul_le_mul_left n h3
 omega;rw[h3]at h1;omega;have:n*((j+k)/n)+n<=n*((i+k)/n):=by rw[<-Nat.mul_succ];exact Nat.mul_le_mul_left n h3
 omega
def KD (n k:Nat) (x:gG):gG:=if x.aj then{x with left:=(x.left+(k:Int))%(n:Int),right:=(x.right+(k:Int))%(n:Int)}else x
end Go.Proofs.YtcnohdmimheoaaaGreat
namespace Go.Proofs.YtcnohdmimheoaaaGreat
open E Go Go.Proofs.Tryz
theorem E.bF.eJ {P:Program} {op:Op} {ty:TypeId} {n:Nat} {env:E.Env} {Γ:List ag} {L:E.Loc} {v:Value} (h:E.bF P op ty n env Γ L v):E.dN P op ty n env Γ L (fun v' Γ' L'=>v'=v/\Γ'=Γ/\L'=L):=
 E.dN.mz fun X d pos aft g a w H h1 h2 h3=>⟨v,w,H,Γ,L,h X d pos aft g a w H h1 h2 h3,⟨rfl,rfl,rfl⟩,Hp.le_refl H,h2,h3⟩
theorem KE (n:Int):IntKind.u64.wrap n=n%18446744073709551616:=by simp[IntKind.wrap,IntKind.bits,IntKind.signed]
theorem pick {a:Int} {n:Nat} (h0:0<n) (h1:n<=4611686018427387904):∃i:Nat,i<n/\IntKind.i64.wrap (Int.tmod (IntKind.u64.wrap a) (IntKind.u64.wrap (n:Int)))=(i:Int)/\IntKind.u64.wrap (n:Int)≠0:=by
 have e1:IntKind.u64.wrap (n:Int)=(n:Int):=by rw[KE];omega
 obtain⟨A,hA⟩:=Int.eq_ofNat_of_zero_le (show 0<=IntKind.u64.wrap a by rw[KE];omega);have h2:A%n<n:=Nat.mod_lt _ h0;refine⟨A%n,h2,?_,by rw[e1];omega⟩;rw[e1,hA];have e2:Int.tmod (A:Int) (n:Int)=((A%n:Nat):Int):=rfl;rw[e2];exact oI (by omega) (by omega)
theorem KH {u:Tr} {t:PT} {i:Nat} {n:gG} (h:u.p=t) (hn:t.ns[i]? =some n):∃y,u.ns.l[i]? =some y/\y.p=n:=by
 subst h;have hn':(u.ns.l.map Nd.p)[i]? =some n:=hn;rw[List.getElem?_map]at hn'
 cases hy:u.ns.l[i]? with
 |none=>rw[hy]at hn';cases hn'
 |some y=>rw[hy]at hn';exact⟨y,rfl,Option.some.inj hn'⟩
def jB (l:List Pr) (v:Value) (Γ:List ag) (M:E.Loc):Prop:=∃u:Sl Pr,v=u.val/\Γ=[aC u]/\M=[]/\u.l=l
def E0 (l:List Int) (v:Value) (Γ:List ag) (M:E.Loc):Prop:=∃u:Sl Int,v=u.val/\Γ=[cw u]/\M=[]/\u.l=l
def Ls (p:Tr) (k:Nat) (o:List Nd) (i:Nat):Prop:=o.length=p.ns.l.length/\∀(j:Nat) (y:Nd),j<i->p.ns.l[j]? =some y->(o.map Nd.p)[(j+k)%p.ns.l.length]? =some (KD p.ns.l.length k y.p)
theorem Ls.step {p:Tr} {k i:Nat} {o:List Nd} {y m:Nd} (h:Ls p k o i) (hy:p.ns.l[i]? =some y) (hm:m.p=KD p.ns.l.length k y.p):Ls p k (o.set ((i+k)%p.ns.l.length) m) (i+1):=by
 obtain⟨h1,h2⟩:=h;have hi:=ae hy;have hlt:(i+k)%p.ns.l.length<o.length:=by rw[h1];exact Nat.mod_lt _ (by omega)
 refine⟨by simpa using h1,fun j z hj hz=>?_⟩;rw[List.map_set];by_cases hji:j=i;subst hji;rw[hy]at hz
 cases hz
 rw[List.getElem?_set_self (by simpa using hlt),hm];rw[List.getElem?_set_ne (fun e=>hji (EZ (ae hz) hi e.symm))];exact h2 j z (by omega) hz
theorem tmod_nonneg {a:Int} (h:0<=a) (k n:Nat):Int.tmod (a+(k:Int)) (n:Int)=(a+(k:Int))%(n:Int):=Int.tmod_eq_emod_of_nonneg (by omega)
end Go.Proofs.YtcnohdmimheoaaaGreat
namespace Go.Proofs.YtcnohdmimheoaaaGreat
open E Go.Proofs.Tryz
def oB (n:gG) (side:Bool):Int:=if side then n.right else n.left
inductive jM (ns:List gG) (root:Int):List Nat->List Bool->Int->Prop
 |nil:jM ns root [] [] root
 |step {u:List Nat} {b:List Bool} {q:Nat} {n:gG} {side:Bool}:jM ns root u b (q:Int)->ns[q]? =some n->n.aj=true->jM ns root (u++[q]) (b++[side]) (oB n side)
theorem at_mem (s:Sh):s.at_∈s.ay:=by cases s<;>simp[Sh.at_,Sh.ay]
theorem eR.Ee {ns:List gG} {s:Sh} {a:Int} (h:eR ns s a):a=(s.at_:Int):=by
 cases s with
 |leaf i=>exact h.1
 |node i l r=>exact h.1
theorem ways {ns:List gG} {root:Int} {s:Sh} {a:Int} {u:List Nat} {b:List Bool} (h:eR ns s a) (hw:jM ns root u b a):∀p∈s.ay,∃u' b',jM ns root u' b' (p:Int):=by
 induction s generalizing a u b with
 |leaf i=>
  obtain⟨rfl,_⟩:=h;intro p hp;simp[Sh.ay]at hp;subst hp;exact⟨u,b,hw⟩
 |node i l r h1 h2=>
  obtain⟨rfl,n,hn,hr,hl,hr'⟩:=h;intro p hp;simp only[Sh.ay,List.mem_cons,List.mem_append]at hp;rcases hp with rfl|hp|hp;exact⟨u,b,hw⟩;exact h1 hl (jM.step (side:=false) hw hn hr) p hp;exact h2 hr' (jM.step (side:=true) hw hn hr) p hp
section
variable {ns:List gG} {s:Sh} {a:Int} (h:eR ns s a) (hn:s.ay.Nodup)
include ns s a h hn
theorem tS {q:Nat} {n:gG} (hq:q∈s.ay) (hns:ns[q]? =some n) (hr:n.aj=true) (side:Bool):
  ∃p∈s.ay,oB n side=(p:Int)/\p≠s.at_:=by
 induction s generalizing a with
 |leaf i=>
  obtain⟨rfl,m,hm,hmr⟩:=h;simp[Sh.ay]at hq;subst hq;rw[hns]at hm
  cases hm
  rw[hr]at hmr
  cases hmr
 |node i l r h1 h2=>
  obtain⟨rfl,m,hm,hmr,hl,hrr⟩:=h;obtain⟨c1,c2,d1,d2,d3⟩:=l8 hn;simp only[Sh.ay,List.mem_cons,List.mem_append]at hq;rcases hq with rfl|hq|hq;rw[hns]at hm
  cases hm
  cases side
  exact⟨l.at_,by simp[Sh.ay,at_mem],hl.Ee,fun e=>c1 (by show Sh.at_ (.node q l r)∈_;rw[<-e];exact at_mem l)⟩;exact⟨r.at_,by simp[Sh.ay,at_mem],hrr.Ee,fun e=>c2 (by show Sh.at_ (.node q l r)∈_;rw[<-e];exact at_mem r)⟩;obtain⟨p,hp,e,_⟩:=h1 hl d1 hq;exact⟨p,by simp[Sh.ay,hp],e,fun e'=>c1 (by show Sh.at_ (.node i l r)∈_;rw[<-e'];exact hp)⟩;obtain⟨p,hp,e,_⟩:=h2 hrr d2 hq;exact⟨p,by simp[Sh.ay,hp],e,fun e'=>c2 (by show Sh.at_ (.node i l r)∈_;rw[<-e'];exact hp)⟩
theorem tT {q q':Nat} {n n':gG} {side side':Bool} (hq:q∈s.ay) (hns:ns[q]? =some n) (hr:n.aj=true) (hq':q'∈s.ay) (hns':ns[q']? =some n') (hr':n'.aj=true) (he:oB n side=oB n' side'):q=q'/\side=side':=by
  induction s generalizing a with
  |leaf i=>
    obtain⟨rfl,m,hm,hmr⟩:=h;simp[Sh.ay]at hq;subst hq;rw[hns]at hm
    cases hm
    rw[hr]at hmr
    cases hmr
  |node i l r h1 h2=>
    obtain⟨rfl,m,hm,hmr,hl,hrr⟩:=h;obtain⟨c1,c2,d1,d2,d3⟩:=l8 hn
    have top:∀{sd sd':Bool} {x:Nat} {k:gG},x∈l.ay\/x∈r.ay->ns[x]? =some k->k.aj=true->oB m sd=oB k sd'->False:=by
      intro sd sd' x k hx hk hkr e;rcases hx with hx|hx;obtain⟨p,hp,e1,e2⟩:=tS hl d1 hx hk hkr sd'
      cases sd
      have e3:m.left=(l.at_:Int):=hl.Ee;have e4:oB m false=m.left:=rfl;rw[e4,e3,e1]at e;exact e2 (by omega);have e3:m.right=(r.at_:Int):=hrr.Ee;have e4:oB m true=m.right:=rfl;rw[e4,e3,e1]at e
      exact d3 p hp (by have:p=r.at_:=by omega
                        rw[this];exact at_mem r)
      obtain⟨p,hp,e1,e2⟩:=tS hrr d2 hx hk hkr sd'
      cases sd
      have e3:m.left=(l.at_:Int):=hl.Ee;have e4:oB m false=m.left:=rfl;rw[e4,e3,e1]at e
      exact d3 l.at_ (at_mem l) (by have:l.at_=p:=by omega
                                    rw[this];exact hp)
      have e3:m.right=(r.at_:Int):=hrr.Ee;have e4:oB m true=m.right:=rfl;rw[e4,e3,e1]at e;exact e2 (by omega)
    have hdis:∀{sd sd':Bool} {x y:Nat} {k k':gG},x∈l.ay->y∈r.ay->ns[x]? =some k->k.aj=true->ns[y]? =some k'->k'.aj=true->oB k sd=oB k' sd'->False:=by
      intro sd sd' x y k k' hx hy hk hkr hk' hkr' e;obtain⟨p,hp,e1,_⟩:=tS hl d1 hx hk hkr sd;obtain⟨p',hp',e1',_⟩:=tS hrr d2 hy hk' hkr' sd';rw[e1,e1']at e
      exact d3 p hp (by have:p=p':=by omega
                        rw[this];exact hp')
    simp only[Sh.ay,List.mem_cons,List.mem_append]at hq hq';rcases hq with rfl|hq;rcases hq' with rfl|hq';rw[hns]at hns'
    cases hns'
    rw[hns]at hm
    cases hm
    refine⟨rfl,?_⟩;have e3:n.left=(l.at_:Int):=hl.Ee;have e4:n.right=(r.at_:Int):=hrr.Ee;have e5:l.at_≠r.at_:=fun e=>d3 l.at_ (at_mem l) (by rw[e];exact at_mem r)
    cases side<;>cases side'
    rfl;exact absurd (show n.left=n.right from he) (by omega);exact absurd (show n.right=n.left from he) (by omega);rfl;rw[hns]at hm
    cases hm
    exact(top hq' hns' hr' he).elim;rcases hq' with rfl|hq';rw[hns']at hm
    cases hm
    exact(top hq hns hr he.symm).elim;rcases hq with hq|hq<;>rcases hq' with hq'|hq';exact h1 hl d1 hq hq';exact(hdis hq hq' hns hr hns' hr' he).elim;exact(hdis hq' hq hns' hr' hns hr he.symm).elim;exact h2 hrr d2 hq hq'
end
theorem E1 {t:PT} {s:Sh} {u:List Nat} {b:List Bool} (h:Good t s) (hw:jM t.ns t.root u b t.root):u=[]/\b=[]:=by
 generalize hx:t.root=x at hw;have hx':x=t.root:=hx.symm
 cases hw with
 |nil=>exact⟨rfl,rfl⟩
 | @step u' b' q n side hw' hn hr=>
  obtain⟨p,_,e,e2⟩:=tS h.aK h.nodup (h.all q (ae hn)) hn hr side;have:=h.aK.Ee;exact absurd (show p=s.at_ by omega) e2
def Sh.first:Sh->Nat
 | .leaf i=>i
 | .node _ l _=>l.first
def Sh.last:Sh->Nat
 | .leaf i=>i
 | .node _ _ r=>r.last
def Sh.nb (i:Nat):Sh->Option (Nat×Bool×Nat)
 | .leaf _=>none
 | .node j l r=>if l= .leaf i then some (j,false,r.first)else if r= .leaf i then some (j,true,l.last)else match l.nb i with
  |some x=>some x
  |none=>r.nb i
theorem E2 {s:Sh} {i j:Nat} {sd:Bool} {n:Nat} (h:s.nb i=some (j,sd,n)):i∈s.leaves:=by
 induction s with
 |leaf k=>cases h
 |node k l r h1 h2=>
  simp only[Sh.nb]at h;simp only[Sh.leaves,List.mem_append];split at h;rename_i e;subst e;exact .inl (by simp[Sh.leaves]);split at h;rename_i e;subst e;exact .inr (by simp[Sh.leaves]);split at h;rename_i x hx;cases h;exact .inl (h1 hx);exact .inr (h2 h)
theorem oZ {ns:List gG} {s:Sh} {i:Nat} {n:gG} (h:eR ns s (i:Int)) (hn:ns[i]? =some n) (hr:n.aj=false):s= .leaf i:=by
 cases s with
 |leaf j=>obtain⟨e,_⟩:=h;congr 1;omega
 |node j l r=>
  obtain⟨e,m,hm,hmr,_⟩:=h;obtain rfl:i=j:=by omega
  rw[hn]at hm
  cases hm
  rw[hr]at hmr
  cases hmr
theorem IB {ns:List gG} {s:Sh} {a:Int} (h:eR ns s a) (hn:s.ay.Nodup) {q i:Nat} {n x:gG} {side:Bool} (hq:q∈s.ay) (hns:ns[q]? =some n) (hr:n.aj=true) (he:oB n side=(i:Int)) (hx:ns[i]? =some x) (hxr:x.aj=false):
  ∃l r,eR ns l n.left/\eR ns r n.right/\s.nb i=some (q,side,if side then l.last else r.first):=by
 induction s generalizing a with
 |leaf j=>
  obtain⟨rfl,m,hm,hmr⟩:=h;simp[Sh.ay]at hq;subst hq;rw[hns]at hm
  cases hm
  rw[hr]at hmr
  cases hmr
 |node j l r h1 h2=>
  have hall:eR ns (.node j l r) a:=h;obtain⟨rfl,m,hm,hmr,hl,hrr⟩:=h;obtain⟨c1,c2,d1,d2,d3⟩:=l8 hn;have hj:j∈(Sh.node j l r).ay:=by simp[Sh.ay]
  have noL:q≠j->l≠ .leaf i:=fun hne e=>by
   subst e;have e1:oB m false=(i:Int):=hl.1;exact hne (tT hall hn hq hns hr hj hm hmr (he.trans e1.symm)).1
  have noR:q≠j->r≠ .leaf i:=fun hne e=>by
   subst e;have e1:oB m true=(i:Int):=hrr.1;exact hne (tT hall hn hq hns hr hj hm hmr (he.trans e1.symm)).1
  have hq0:=hq;simp only[Sh.ay,List.mem_cons,List.mem_append]at hq;rcases hq with rfl|hq|hq;rw[hns]at hm
  cases hm
  refine⟨l,r,hl,hrr,?_⟩
  cases side
  have e:l= .leaf i:=oZ (by have:n.left=(i:Int):=he;rw[<-this];exact hl) hx hxr;simp[Sh.nb,e];have e:r= .leaf i:=oZ (by have:n.right=(i:Int):=he;rw[<-this];exact hrr) hx hxr;have e':l≠ .leaf i:=fun e2=>d3 i (by rw[e2];simp[Sh.ay]) (by rw[e];simp[Sh.ay]);simp only[Sh.nb,if_neg e',if_pos e,if_true];have hne:q≠j:=fun e=>c1 (e▸hq);obtain⟨l',r',g1,g2,g3⟩:=h1 hl d1 hq;refine⟨l',r',g1,g2,?_⟩;simp only[Sh.nb,if_neg (noL hne),if_neg (noR hne),g3];have hne:q≠j:=fun e=>c2 (e▸hq);obtain⟨l',r',g1,g2,g3⟩:=h2 hrr d2 hq;refine⟨l',r',g1,g2,?_⟩
  have hno:l.nb i=none:=by
   cases hl':l.nb i with
   |none=>rfl
   |some y=>
    obtain⟨y1,y2,y3⟩:=y;have m1:=eX i (E2 hl');have m2:=eX i (E2 g3);exact absurd m2 (d3 i m1)
  simp only[Sh.nb,if_neg (noL hne),if_neg (noR hne),hno,g3]
def yP {α:Type} (l l':List α) (i:Nat):Prop:=l'.length=l.length/\∀j,j<l.length->l'[j]? =if j<i\/l.length<=j+i then l[l.length-1-j]? else l[j]?
theorem yP.WZ {α:Type} {l l':List α} {i j:Nat} (h:yP l l' i) (h1:i<=j) (h2:j+i<l.length):l'[j]? =l[j]? :=by
 rw[h.2 j (by omega),if_neg (by omega)]
theorem yP.step {α:Type} {l l':List α} {i k:Nat} {x y:α} (h:yP l l' i) (hk:k+i+1=l.length) (hik:i<k) (hx:l'[i]? =some x) (hy:l'[k]? =some y):yP l ((l'.set i y).set k x) (i+1):=by
 have hx':l[i]? =some x:=by rw[<-hx,h.WZ (Nat.le_refl _) (by omega)]
 have hy':l[k]? =some y:=by rw[<-hy,h.WZ (by omega) (by omega)]
 refine⟨by simp[h.1],fun j hj=>?_⟩;by_cases hjk:j=k;subst hjk;rw[List.getElem?_set_self (by simp[h.1];omega),if_pos (by omega),show l.length-1-j=i by omega,hx'];rw[List.getElem?_set_ne (Ne.symm hjk)];by_cases hji:j=i;subst hji;rw[List.getElem?_set_self (by rw[h.1];omega),if_pos (by omega),show l.length-1-j=k by omega,hy'];rw[List.getElem?_set_ne (Ne.symm hji),h.2 j hj];by_cases hc:j<i\/l.length<=j+i;rw[if_pos hc,if_pos (by omega)];rw[if_neg hc,if_neg (by omega)]
theorem IC {ns:List gG} {root:Int} {s:Sh} {a:Int} {u:List Nat} {b:List Bool} {c:Nat} (h:eR ns s a) (hw:jM ns root u b a) (hc:u.length+s.size<=c) (hl:b.length=u.length):∀p∈s.ay,∃u' b',jM ns root u' b' (p:Int)/\u'.length+1<=c/\b'.length=u'.length:=by
 induction s generalizing a u b with
 |leaf i=>
  obtain⟨rfl,_⟩:=h;intro p hp;simp[Sh.ay]at hp;subst hp;exact⟨u,b,hw,by simpa[Sh.size]using hc,hl⟩
 |node i l r h1 h2=>
  obtain⟨rfl,n,hn,hr,hg,hg'⟩:=h;simp only[Sh.size]at hc;intro p hp;simp only[Sh.ay,List.mem_cons,List.mem_append]at hp;rcases hp with rfl|hp|hp;exact⟨u,b,hw,by omega,hl⟩;exact h1 hg (jM.step (side:=false) hw hn hr) (by simp;omega) (by simp[hl]) p hp;exact h2 hg' (jM.step (side:=true) hw hn hr) (by simp;omega) (by simp[hl]) p hp
theorem Lu {t:PT} {s:Sh} {i:Nat} (hs:fl t=some s) (hi:i<t.ns.length):∃u b,jM t.ns t.root u b (i:Int)/\u.length<=2000/\b.length=u.length:=by
 have hg:=l6 hs;have h1:=hg.size;have h2:=hg.gN;obtain⟨u,b,h3,h4,h5⟩:=IC (c:=2000) hg.aK jM.nil (by simp;omega) rfl i (hg.all i hi);exact⟨u,b,h3,by omega,h5⟩
theorem Lw {t:PT} {s:Sh} {i:Nat} {x:gG} {u:List Nat} {b:List Bool} (hs:fl t=some s) (hx:t.ns[i]? =some x) (hr:x.aj=false) (hw:jM t.ns t.root u b (i:Int)):
  (u=[]/\b=[]/\s.nb i=none)\/∃(u':List Nat) (b':List Bool) (q:Nat) (n:gG) (side:Bool) (l r:Sh),u=u'++[q]/\b=b'++[side]/\t.ns[q]? =some n/\n.aj=true/\oB n side=(i:Int)/\eR t.ns l n.left/\eR t.ns r n.right/\s.nb i=some (q,side,if side then l.last else r.first):=by
 have hg:=l6 hs;by_cases he:(i:Int)=t.root;rw[he]at hw;obtain⟨e1,e2⟩:=E1 hg hw;have e3:s= .leaf i:=oZ (by rw[he];exact hg.aK) hx hr;exact .inl ⟨e1,e2,by rw[e3];rfl⟩;generalize hp:(i:Int)=y at hw
 cases hw with
 |nil=>exact absurd hp he
 | @step u' b' q n side hw' hn hnr=>
  obtain⟨l,r,h1,h2,h3⟩:=IB hg.aK hg.nodup (hg.all q (ae hn)) hn hnr hp.symm hx hr;rw[<-hp];exact .inr ⟨u',b',q,n,side,l,r,rfl,rfl,hn,hnr,hp.symm,h1,h2,h3⟩
def E3 (t:PT) (i:Nat) (n:gG):PT:=
 ⟨t.root,t.ns.set i ⟨true,(n.l.getD (n.l.length/2) default).k,(t.ns.length:Int),(t.ns.length:Int)+1,[],0⟩++[⟨false,0,0,0,n.l.take (n.l.length/2),0⟩,⟨false,0,0,0,n.l.drop (n.l.length/2),0⟩]⟩
def E4 (t:PT) (a:Int):Option PT:=if kC t a then(match t.ns[a.toNat]? with
 |none=>none
 |some n=>if n.l.length<2 then none else if 2000<t.ns.length+2 then none else tM (E3 t a.toNat n))else none
def NX (o:Option PT):PT:=o.getD ⟨0,[]⟩
section
variable {H:Hp} {s:Sl Pr} {m:Nat} (h:(aC s).holds H) (hm:m<=s.l.length)
include H s m h hm
theorem lg:(aC ⟨bQ s.a s.c 2 0,s.c,s.l.take m⟩).holds H:=by
 have h1:=oV (l:=0) (h:=m) h (Nat.zero_le _) (by simpa using hm);simpa[aC,List.map_take]using h1
theorem mX:(aC ⟨bQ s.a s.c 2 m,s.c-m,s.l.drop m⟩).holds H:=by
 have h1:=oV (l:=m) (h:=s.l.length) h hm (by simp)
 have e:((s.l.map js).drop m).take (s.l.length-m)=(s.l.drop m).map js:=by
  rw[<-List.map_drop,List.take_of_length_le (by simp)]
 rw[e]at h1;exact h1
end
theorem C9 (n:Nat) (h:n<=1000000):IntKind.i64.wrap (Int.tdiv (n:Int) 2)=((n/2:Nat):Int):=by
 have e:Int.tdiv (n:Int) 2=((n/2:Nat):Int):=rfl;rw[e];exact oI (by omega) (by omega)
theorem lj {s:Sl Pr} {m:Nat} (h:m<=s.l.length):Sl.val (⟨bQ s.a s.c 2 0,s.c,s.l.take m⟩:Sl Pr)= .slice (bQ s.a s.c 2 0) m s.c:=by
 simp[Sl.val];omega
theorem mY {s:Sl Pr} {m:Nat}:Sl.val (⟨bQ s.a s.c 2 m,s.c-m,s.l.drop m⟩:Sl Pr)= .slice (bQ s.a s.c 2 m) (s.l.length-m) (s.c-m):=by simp[Sl.val]
def Lx (z:Sl Pr):List Value:=[z.val]
def NY (s:Sl (Sl Pr)):ag:=sl s.a s.c 1 (s.l.map Lx)
def E5 (l:List (Sl Pr)):ag:=⟨fun H=>∀z∈l,(aC z).holds H,fun _ _ h k z hz=>(aC z).mono _ _ h (k z hz)⟩
theorem NZ {H:Hp} {x y:Sl Pr} (hx:(aC x).holds H) (hy:(aC y).holds H):(E5 [x,y]).holds H:=fun z hz=>by
 rcases List.mem_cons.1 hz with rfl|hz;exact hx;rw[List.mem_singleton.1 hz];exact hy
theorem pR {H:Hp} {l:List (Sl Pr)} {k:Nat} {z:Sl Pr} (h:(E5 l).holds H) (hz:l[k]? =some z):(aC z).holds H:=h z (List.mem_of_getElem? hz)
def ie (l:List (Sl Pr)) (k:Nat):List Pr:=(l.take k).flatMap (·.l)
theorem pS {l:List (Sl Pr)} {k:Nat} {z:Sl Pr} (h:l[k]? =some z):ie l (k+1)=ie l k++z.l:=by
 rw[ie,ie,List.take_succ_eq_append_getElem (ae h),List.flatMap_append,(List.getElem?_eq_some_iff.1 h).2];simp
theorem Va (x y:Sl Pr):ie [x,y] 2=x.l++y.l:=by simp[ie]
def qT (b:Nat) (a:Option Addr) (n c:Nat):E.aO:=[(b,.cells #[.int .i64 0,.slice a n c] 36 (0,0))]
def Sh.cut (i:Nat):Sh->Sh
 | .leaf j=>.leaf j
 | .node j l r=>if l= .leaf i then r else if r= .leaf i then l else .node j (l.cut i) (r.cut i)
def Sh.re (q:Nat):Sh->Sh
 | .leaf _=>.leaf q
 | .node _ l r=>.node q l r
def N0 (ns:List gG) (i m:Nat) (side:Bool):gG:=⟨false,0,0,0,if side then(ns.getD m default).l++(ns.getD i default).l else(ns.getD i default).l++(ns.getD m default).l,0⟩
def KI (t:PT) (a:Int):Option PT:=if kC t a then(match fl t with
 |none=>none
 |some s=>match s.nb a.toNat with
  |none=>none
  |some (_,side,m)=>some ⟨0,(s.cut a.toNat).lay (t.ns.set m (N0 t.ns a.toNat m side)) 0⟩)else none
theorem map_some {α β:Type} {o:Option α} {f:α->β} {c:β} (h:o.map f=some c):∃n,o=some n/\f n=c:=by
 cases o with
 |none=>cases h
 |some n=>exact⟨n,rfl,Option.some.inj h⟩
theorem sI (s:Sh) (b:Nat):(s.eF b).leaves.length=s.leaves.length:=by
 induction s generalizing b with
 |leaf i=>rfl
 |node i l r h1 h2=>simp only[Sh.eF,Sh.leaves,List.length_append,h1,h2]
def Kb.sub (k k':Kb):Prop:=(∀x,k.has x=true->k'.has x=true)/\(∀x,k.has x=true->(k'.lY=true->x=k'.least->k.lY=true/\x=k.least))
def Sh.split (i N:Nat):Sh->Sh
 | .leaf j=>if j=i then .node i (.leaf N) (.leaf (N+1))else .leaf j
 | .node j l r=>.node j (l.split i N) (r.split i N)
def hold (n lo hi:Int):Int:=min (max n lo) hi
structure iH where
 high:Int
 low:Int
 cont:Int
 gQ:Int
 jN:Int
 deriving DecidableEq
def iH.val (p:iH):Value:=.agg #[.int .i64 p.high,.int .i64 p.low,.int .i64 p.cont,.int .i64 p.gQ,.int .i64 p.jN]
def iH.cp (p:iH):iH:=⟨hold p.high 1 100000,hold p.low (-100000) 0,hold p.cont (-100000) 100000,hold p.gQ (-100000) 100000,hold p.jN (-100000) 100000⟩
def iH.off:iH:=⟨100000,-100000,0,0,0⟩
theorem iH.E6 (p:iH):1<=p.cp.high/\p.cp.high<=100000/\ -100000<=p.cp.low/\p.cp.low<=0/\ -100000<=p.cp.cont/\p.cp.cont<=100000/\
  -100000<=p.cp.gQ/\p.cp.gQ<=100000/\ -100000<=p.cp.jN/\p.cp.jN<=100000:=by
 simp only[iH.cp,hold];omega
def jj (n:Int):Int:=hold n (-1000000) 1000000
theorem yQ (n:Int): -1000000<=jj n/\jj n<=1000000:=by unfold jj hold;omega
def tU (p:iH) (s w:Int):Int:=if w=1 then jj s+p.cp.cont else if w=2 then jj s-p.cp.gQ else if w=3 then jj s-p.cp.jN else jj s
def cS (p:iH) (s w:Int):Int:=jj (tU p s w)
def gg (p:iH) (s:Int):Int:=if p.cp.high<jj s then 1 else if jj s<p.cp.low then 2 else 0
def KJ (t:PT) (p:iH) (a:Int):PT×Int:=if kC t a then(match t.ns[a.toNat]? with
 |none=>(⟨0,[]⟩,0)
 |some n=>if gg p n.stat=1/\(E4 t a).isSome=true then(NX (E4 t a),1)else if gg p n.stat=2/\(KI t a).isSome=true then(NX (KI t a),2)else(dT t,0))else(⟨0,[]⟩,0)
theorem yR {t:PT} (h:(fl t).isSome=true):(fl (dT t)).isSome=true/\(dK (dT t)).length=(dK t).length/\sH (dT t)=sH t/\dT (dT t)=dT t:=by
 obtain⟨s,hs⟩:=Option.isSome_iff_exists.1 h;obtain⟨p1,p2,p3⟩:=vT hs;exact⟨by rw[p2];rfl,by rw[tQ p2,sI,tQ hs],by rw[vU,p3,<-vU],p3⟩
theorem alone {t:PT} {s:Sh} {i:Nat} {x:gG} (hs:fl t=some s) (hx:t.ns[i]? =some x) (hr:x.aj=false) (h:∀(j:Nat) (n:gG),t.ns[j]? =some n->n.aj=true->n.left≠(i:Int)/\n.right≠(i:Int)):s.nb i=none:=by
 obtain⟨u,b,hw,_⟩:=Lu hs (ae hx);rcases Lw hs hx hr hw with⟨_,_,e⟩| ⟨_,_,q,n,side,_,_,_,_,hn,hnr,he,_⟩;exact e;have:=h q n hn hnr
 cases side
 exact absurd he this.1;exact absurd he this.2
def qU (ns:List gG) (g o:Int):Sh->Int->Prop
 | .leaf i,a=>(if a=g then o else a)=(i:Int)/\∃n,ns[i]? =some n/\n.aj=false
 | .node i l r,a=>(if a=g then o else a)=(i:Int)/\∃n,ns[i]? =some n/\n.aj=true/\qU ns g o l n.left/\qU ns g o r n.right
theorem qU.at {t:Tr} {g o:Int} {s:Sh} {a:Int} (h:qU t.p.ns g o s a):∃(i:Nat) (x:Nd),(if a=g then o else a)=(i:Int)/\t.ns.l[i]? =some x/\t.p.ns.getD i default=x.p/\
  ((x.aj=false/\s= .leaf i)\/(x.aj=true/\∃l r,s= .node i l r/\qU t.p.ns g o l x.left/\qU t.p.ns g o r x.right)):=by
 cases s with
 |leaf i=>
  obtain⟨h0,n,hn,hr⟩:=h;obtain⟨x,hx,hxn⟩:=KH (u:=t) rfl hn;subst hxn;exact⟨i,x,h0,hx,l7 hn,.inl ⟨hr,rfl⟩⟩
 |node i l r=>
  obtain⟨h0,n,hn,hr,hl,hr'⟩:=h;obtain⟨x,hx,hxn⟩:=KH (u:=t) rfl hn;subst hxn;exact⟨i,x,h0,hx,l7 hn,.inr ⟨hr,l,r,rfl,hl,hr'⟩⟩
def r7 (m:Nat) (o:List Nd) (mp:E.aO):Prop:=(o.length<=m/\mp=[])\/∃y,o[m]? =some y/\E.bR 43 2 (y.ps.l.map js) y.ps.a y.ps.c mp
theorem r7.here {m:Nat} {o:List Nd} {n:Nd} {mp M:E.aO} (h:r7 m o mp) (hm:o.length=m) (hO:E.bR 43 2 (n.ps.l.map js) n.ps.a n.ps.c M):r7 m (o++[n]) M:=.inr ⟨n,by rw[<-hm];simp,hO⟩
theorem r7.there {m:Nat} {o:List Nd} {n:Nd} {mp:E.aO} (h:r7 m o mp) (hm:o.length≠m):r7 m (o++[n]) mp:=by
 rcases h with⟨h1,h2⟩| ⟨y,hy,hO⟩;exact .inl ⟨by simp;omega,h2⟩;exact .inr ⟨y,by rw[List.getElem?_append_left (ae hy)];exact hy,hO⟩
theorem r7.nil (m:Nat):r7 m [] []:=.inl ⟨Nat.zero_le _,rfl⟩
structure bA where
 kind:Int
 key:Int
 hi:Int
 v:Int
def bA.val (o:bA):Value:=.agg #[.int .i64 o.kind,.int .i64 o.key,.int .i64 o.hi,.int .i64 o.v]
def fj (o:bA):Bool:=decide (1<=o.kind)&&decide (o.kind<=8)
def eG (o:bA):Bool:=decide (o.kind=1)||(decide (o.kind=2)||decide (o.kind=3))
structure An where
 err:Int
 ok:Bool
 p:Pr
 n:Int
 l:List Pr
 deriving DecidableEq
def An.val (a:An) (s:Sl Pr):Value:=.agg #[.int .i64 a.err,.bool a.ok,.int .i64 a.p.k,.int .i64 a.p.v,.int .i64 a.n,s.val]
def An.zero:An:=⟨0,false,⟨0,0⟩,0,[]⟩
def An.bad:An:=⟨1,false,⟨0,0⟩,0,[]⟩
def pD (k:Int) (p:Pr):Bool:=decide (p.k=k)
def Ef (lo hi:Int) (p:Pr):Bool:=decide (lo<=p.k)&&decide (p.k<=hi)
def dG (l:List Pr) (lo hi:Int):List Pr:=l.filter (Ef lo hi)
def cc (l:List Pr) (k:Int):List Pr:=l.filter fun p=> !pD k p
def o0:Option Pr->An
 |none=>.zero
 |some p=>⟨0,true,p,0,[]⟩
def vV (l:List Pr) (k:Int):An:=o0 (l.find? (pD k))
def eB (l:List Pr) (o:bA):List Pr×An:=
  if dV l&&fj o then
    (if o.kind=1 then(eM l ⟨o.key,o.v⟩,vV l o.key)
     else if o.kind=2 then(if(vV l o.key).ok then l else eM l ⟨o.key,o.v⟩,vV l o.key)
     else if o.kind=3 then(cc l o.key,vV l o.key)
     else if o.kind=5 then(l,⟨0,false,⟨0,0⟩,((dG l o.key o.hi).length:Int),dG l o.key o.hi⟩)
     else if o.kind=6 then(l,⟨0,false,⟨0,0⟩,((dG l o.key o.hi).length:Int),[]⟩)
     else if o.kind=7 then(l,o0 l.head?)
     else if o.kind=8 then(l,o0 l.getLast?)
     else(l,vV l o.key))
  else(l,.bad)
def KK (l:List Pr) (o:bA) (v:Value) (Γ:List ag) (M:E.Loc):Prop:=∃s s2:Sl Pr,v= .tuple #[s.val,(eB l o).2.val s2]/\Γ=[aC s,aC s2]/\M=[]/\s.l=(eB l o).1/\s2.l=(eB l o).2.l
theorem KL {l:List Pr} {o:bA} (h:dV l=false\/fj o=false):eB l o=(l,.bad):=by
 unfold eB;rw[if_neg (by rcases h with h|h<;>simp[h])]
theorem fF {l:List Pr} {o:bA} (h1:dV l=true) (h2:fj o=true):eB l o=(if o.kind=1 then(eM l ⟨o.key,o.v⟩,vV l o.key)
     else if o.kind=2 then(if(vV l o.key).ok then l else eM l ⟨o.key,o.v⟩,vV l o.key)
     else if o.kind=3 then(cc l o.key,vV l o.key)
     else if o.kind=5 then(l,⟨0,false,⟨0,0⟩,((dG l o.key o.hi).length:Int),dG l o.key o.hi⟩)
     else if o.kind=6 then(l,⟨0,false,⟨0,0⟩,((dG l o.key o.hi).length:Int),[]⟩)
     else if o.kind=7 then(l,o0 l.head?)
     else if o.kind=8 then(l,o0 l.getLast?)
     else(l,vV l o.key)):=by
  unfold eB;rw[if_pos (by simp[h1,h2])]
section
variable {α:Type} {p:α->Bool} {l:List α}
include α p l
theorem w7 (h:0<=mU p l):∃(j:Nat) (x:α),mU p l=(j:Int)/\l[j]? =some x/\p x=true/\∀y∈l.take j,p y=false:=by
 unfold mU at h⊢;split at h;rename_i ha;rw[if_pos ha];obtain⟨x,hx,hp⟩:=List.any_eq_true.1 ha;have hl:l.findIdx p<l.length:=List.findIdx_lt_length_of_exists ⟨x,hx,hp⟩;refine⟨l.findIdx p,l[l.findIdx p],rfl,by simp[hl],List.findIdx_getElem,fun y hy=>?_⟩;obtain⟨i,hi,e⟩:=List.mem_take_iff_getElem.1 hy;subst e;have:=List.not_of_lt_findIdx (p:=p) (xs:=l) (i:=i) (by omega);simpa using this;omega
theorem w8 (h:¬0<=mU p l):mU p l= -1/\∀y∈l,p y=false:=by
 unfold mU at h⊢;split at h;omega;rename_i ha;rw[if_neg ha];exact⟨rfl,by simpa using ha⟩
end
theorem E7 {α:Type} (p:α->Bool) (l:List α): -1<=mU p l:=by unfold mU;split<;>omega
section
variable {α:Type} {p:α->Bool}
include α p
theorem ID {l:List α} {j:Nat} {x:α} (hx:l[j]? =some x) (hp:p x=true) (hno:∀y∈l.take j,p y=false):l.find? p=some x:=by
 induction l generalizing j with
 |nil=>simp at hx
 |cons a l ih=>
  cases j with
  |zero=>simp at hx;subst hx;simp[hp]
  |succ j=>
   have h1:p a=false:=hno a (by simp);rw[List.find?_cons,h1];exact ih (j:=j) (by simpa using hx) fun y hy=>hno y (by simp[hy])
theorem IE {l:List α} (hno:∀y∈l,p y=false):l.find? p=none:=List.find?_eq_none.2 fun y hy=>by rw[hno y hy];simp
theorem jC {l o:List α} {k:Nat} {x:α} (hx:l[k]? =some x) (h:o=(l.take k).filter p):(if p x then o++[x]else o)=(l.take (k+1)).filter p:=by
 rw[List.take_succ_eq_append_getElem (ae hx),List.filter_append,<-h,(List.getElem?_eq_some_iff.1 hx).2]
 cases hp:p x<;>simp[hp]
end
theorem Da {p:Pr} {a:Pr} {l:List Pr} (h:a.k<p.k):eM (a::l) p=a::eM l p:=by
 unfold eM;simp only[fE];rw[decide_eq_false (by omega),if_neg (show¬a.k=p.k by omega)];simp
theorem IF {p:Pr} {l:List Pr} {k:Nat} (h:∀y∈l.take k,y.k<p.k):eM l p=l.take k++eM (l.drop k) p:=by
 induction l generalizing k with
 |nil=>simp
 |cons a l ih=>
  cases k with
  |zero=>simp
  |succ k=>
   rw[Da (h a (by simp)),ih (k:=k) fun y hy=>h y (by simp[hy])];simp
theorem Db {p:Pr} {l:List Pr} (hr:dV l=true) (h:∀y,l[0]? =some y->p.k<=y.k):eM l p=p::(match l[0]? with|none=>l|some y=>if y.k=p.k then l.drop 1 else l):=by
 cases l with
 |nil=>rfl
 |cons a l=>
  have ha:=h a rfl
  have hkeep:∀x∈l,x.k≠p.k:=fun x hx=>by
   have:=(List.pairwise_cons.1 (dF.1 hr)).1 x hx;omega
  have hf:(l.filter fun x=>decide (x.k≠p.k))=l:=List.filter_eq_self.2 fun x hx=>decide_eq_true (hkeep x hx);show fE p (a::l) false=_;simp only[fE,Bool.not_false,Bool.true_and,decide_eq_true ha,if_true,Bool.false_or,kD,hf];by_cases e:a.k=p.k<;>simp[e]
theorem AF {l:List Pr} (h:dV l=true) (k:Nat):dV (l.drop k)=true:=
 gT.2 fun j a b ha hb=>gT.1 h (k+j) a b (by rw[List.getElem?_drop]at ha;exact ha) (by rw[List.getElem?_drop]at hb;exact hb)
theorem tV {p:Pr} {l r:List Pr} {k:Nat} (hr:dV l=true) (h:∀y∈l.take k,y.k<p.k) (hk:∀y,l[k]? =some y->p.k<=y.k) (he:r=(match l[k]? with|none=>l.drop k|some y=>if y.k=p.k then(l.drop k).drop 1 else l.drop k)):
  l.take k++p::r=eM l p:=by
 have e0:(l.drop k)[0]? =l[k]? :=by rw[List.getElem?_drop];rfl
 rw[IF h,Db (AF hr k) (fun y hy=>hk y (by rw[<-e0];exact hy)),e0,he]
theorem IG {l:List Pr} {j:Nat} {x:Pr} {key:Int} (hr:dV l=true) (hx:l[j]? =some x) (hp:pD key x=true) (hno:∀y∈l.take j,pD key y=false):l.take j++l.drop (j+1)=cc l key:=by
 have hj:=ae hx
 have e:l=l.take j++x::l.drop (j+1):=by
  rw[<-(List.getElem?_eq_some_iff.1 hx).2,List.getElem_cons_drop,List.take_append_drop]
 have hxk:x.k=key:=of_decide_eq_true hp;have hpw:=dF.1 hr;rw[e,List.pairwise_append]at hpw;have h2:=(List.pairwise_cons.1 hpw.2.1).1
 conv=>rhs;rw[e]
 unfold cc;rw[List.filter_append,List.filter_cons,hp];simp only[Bool.not_true,Bool.false_eq_true,if_false];congr 1;exact(List.filter_eq_self.2 fun y hy=>by rw[hno y hy];rfl).symm;refine(List.filter_eq_self.2 fun y hy=>?_).symm;have:=h2 y hy;rw[pD,decide_eq_false (by omega)];rfl
theorem E8 {l:List Pr} {key:Int} (hno:∀y∈l,pD key y=false):cc l key=l:=List.filter_eq_self.2 fun y hy=>by rw[hno y hy];rfl
theorem yS {l:List (Sl Pr)} {k:Nat} (h:k<=l.length):(ie l k).length<=(ie l l.length).length:=by
 unfold ie;rw[List.take_of_length_le (Nat.le_refl _)]
 conv=>rhs;rw[<-List.take_append_drop k l]
 rw[List.flatMap_append,List.length_append];omega
section
variable (l:List Pr)
include l
theorem E9:l.head?=l[0]? :=by cases l<;>rfl
theorem Dc:l.getLast?=l[l.length-1]? :=List.getLast?_eq_getElem?
theorem yT (k:Int):(cc l k).length<=l.length:=List.length_filter_le _ _
theorem Fa (a b:Int):(dG l a b).length<=l.length:=List.length_filter_le _ _
theorem Ly (o:bA):(eB l o).1.length<=l.length+1:=by
 have h1:=yO ⟨o.key,o.v⟩ l;have h2:=yT l o.key;unfold eB
 repeat' split
 all_goals first|omega| (simp only[];split<;>omega)| (simp only[];omega)
end
theorem IH {l:List Pr} {k:Nat} {x:Pr} {K:Int} (hx:l[k]? =some x) (h:x.k<K) (hno:∀y∈l.take k,y.k<K):∀y∈l.take (k+1),y.k<K:=fun y hy=>by
 rw[List.take_succ_eq_append_getElem (ae hx),List.mem_append,(List.getElem?_eq_some_iff.1 hx).2]at hy;rcases hy with hy|hy;exact hno y hy;rw[List.mem_singleton.1 hy];exact h
section
variable {T:TypeId} {k c:Nat} {rows:List (List Value)} {a:Option Addr} {M:E.aO} (h:E.bR T k rows a c M)
include T k c rows a M h
theorem tW:bQ a c k 0=a:=by
 rcases h.2 with⟨rfl,rfl,_,_⟩| ⟨g,cur,rfl,_⟩;rfl;exact NK
theorem w9:rows.length<=c:=by
 rcases h.2 with⟨_,rfl,rfl,_⟩| ⟨g,cur,_,_,h5,_⟩;exact Nat.le_refl _;exact h5
end
def N7 (a b:ag):ag:=⟨fun H=>a.holds H/\b.holds H,fun _ _ h k=>⟨a.mono _ _ h k.1,b.mono _ _ h k.2⟩⟩
theorem N8 {H:Hp} {x y z:Sl Pr} (hx:(aC x).holds H) (hy:(aC y).holds H) (hz:(aC z).holds H):(E5 [x,y,z]).holds H:=fun w hw=>by
 simp only[List.mem_cons,List.not_mem_nil,or_false]at hw;rcases hw with rfl|rfl|rfl;exact hx;exact hy;exact hz
theorem Vb (x y z:Sl Pr):ie [x,y,z] 3=x.l++(y.l++z.l):=by simp[ie]
def je (p:Pr->Bool) (l ls:List Pr) (i j:Nat):Prop:=ls.length=l.length/\i<=j/\j<=l.length/\ls.take i=(l.take j).filter (fun x=> !p x)/\ls.drop j=l.drop j
theorem je.start {p:Pr->Bool} {l:List Pr} {j:Nat} {x:Pr} (hx:l[j]? =some x) (hp:p x=true) (hno:∀y∈l.take j,p y=false):je p l l j (j+1):=by
 have hj:=ae hx;refine⟨rfl,by omega,hj,?_,rfl⟩;have h1:(l.take j).filter (fun x=> !p x)=l.take j:=List.filter_eq_self.2 fun y hy=>by rw[hno y hy];rfl
 have h2:=jC (p:=fun x=> !p x) hx h1.symm;rw[<-h2];simp[hp]
section
variable {p:Pr->Bool} {l ls:List Pr} {i j:Nat} {x:Pr} (h:je p l ls i j) (hx:ls[j]? =some x)
include p l ls i j x h hx
theorem je.get:l[j]? =some x:=by
 obtain⟨_,_,_,_,h5⟩:=h;have h6:=congrArg (fun q=>q[0]?) h5;simp only[List.getElem?_drop,Nat.add_zero]at h6;rw[<-h6];exact hx
theorem je.skip (hp:p x=true):je p l ls i (j+1):=by
 have hx':=h.get hx;obtain⟨h1,h2,h3,h4,h5⟩:=h;have hj:=ae hx';refine⟨h1,by omega,hj,?_,?_⟩;rw[<-jC (p:=fun x=> !p x) hx' h4];simp[hp];rw[<-List.drop_drop,<-List.drop_drop,h5]
theorem je.bE (hp:p x=false):je p l (ls.set i x) (i+1) (j+1):=by
 have hx':=h.get hx;obtain⟨h1,h2,h3,h4,h5⟩:=h;have hj:=ae hx';refine⟨by simp[h1],by omega,hj,?_,?_⟩;rw[<-jC (p:=fun x=> !p x) hx' h4];simp only[hp,Bool.not_false,if_true];rw[List.take_succ_eq_append_getElem (by rw[List.length_set,h1];omega),List.take_set_of_le (Nat.le_refl _)];simp;rw[List.drop_set_of_lt (by omega),<-List.drop_drop,<-List.drop_drop,h5]
end
theorem je.done {p:Pr->Bool} {l ls:List Pr} {i j:Nat} (h:je p l ls i j) (hj:l.length<=j):ls.take i=l.filter fun x=> !p x:=by
 obtain⟨h1,h2,h3,h4,h5⟩:=h;rw[h4,List.take_of_length_le hj]
end Go.Proofs.YtcnohdmimheoaaaGreat
