/- Rules that step through a printed form of a function, for all enough fuel: what it computes is told by a function on plain data. -/
import Derived.Test.YtkdinadmheomfaaGreatAbForm
set_option linter.unusedVariables false
namespace Go.Ab
open Go
def Ev {α:Type} (g:Nat->Option α) (Q:α->Prop):Prop:=∃ x,Q x/\∃ K,∀ k,K<=k->g k=some x
section
variable {α β:Type}
theorem Ev.ret {x:α} {Q:α->Prop} (h:Q x):Ev (fun _=>some x) Q:=⟨x,h,0,fun _ _=>rfl⟩
theorem Ev.mono {g:Nat->Option α} {Q R:α->Prop} (h:Ev g Q) (k:∀ x,Q x->R x):Ev g R:=by
 obtain ⟨x,F,K,D⟩:=h
 exact ⟨x,k x F,K,D⟩
theorem Ev.bind {g:Nat->Option α} {h:Nat->α->Option β} {Q:α->Prop} {R:β->Prop} (N:Ev g Q) (O:∀ x,Q x->Ev (fun k=>h k x) R):Ev (fun k=>(g k).bind (h k)) R:=by
 obtain ⟨x,U,K,I⟩:=N
 obtain ⟨y,X,D,J⟩:=O x U
 refine ⟨y,X,max K D,fun k Y=>?_⟩
 have F:=I k (by omega)
 have G:=J k (by omega)
 show (g k).bind (h k)=some y
 rw [F]; exact G
theorem Ev.map {g:Nat->Option α} {f:α->β} {R:β->Prop} (F:Ev g (fun x=>R (f x))):Ev (fun k=>(g k).map f) R:=by
 obtain ⟨x,I,K,D⟩:=F
 exact ⟨f x,I,K,fun k G=>by show (g k).map f=_; rw [D k G]; rfl⟩
theorem Ev.congr {g g':Nat->Option α} {Q:α->Prop} (h:∀ k,g k=g' k) (D:Ev g' Q):Ev g Q:=by
 rw [show g=g' from funext h]; exact D
theorem Ev.succ {g:Nat->Option α} {Q:α->Prop} (h:Ev (fun k=>g (k + 1)) Q):Ev g Q:=by
 obtain ⟨x,F,K,D⟩:=h
 refine ⟨x,F,K + 1,fun k G=>?_⟩
 obtain ⟨j,rfl⟩:∃ j,k=j + 1:=⟨k - 1,by omega⟩
 exact D j (by omega)
end
theorem ble {a b:Nat} (h:Nat.ble a b=true):a<=b:=Nat.le_of_ble_eq_true h
theorem blt {a b:Nat} (h:Nat.blt a b=true):a < b:=Nat.le_of_ble_eq_true h
abbrev oZ:=Ex×b4×bs
section
variable {β:Type} {K:Nat->oZ->Option β} {Q:β->Prop} {e:b4} {M:bs}
def F5 (b:St) (K:oZ->Option β):oZ->Option β:=fun q=>match q.1 with | .nrm=>(b q.2.1 q.2.2).bind K | x=>K (x,q.2)
def Cw (id:Nat) (K:oZ->Option β):oZ->Option β:=fun q=>match q.1 with | .ext j=>if Nat.beq j id then K (.nrm,q.2) else K q | _=>K q
theorem sq {a b:Nat->St} (h:Ev (fun k=>(a k e M).bind (F5 (b k) (K k))) Q):Ev (fun k=>(ak (a k) (b k) e M).bind (K k)) Q:=by
 refine Ev.congr (fun k=>?_) h
 unfold ak F5
 cases a k e M with
 | none=>rfl
 | some q=>obtain ⟨x,q⟩:=q; cases x <;> rfl
theorem bl {a:Nat->St} {id:Nat} (h:Ev (fun k=>(a k e M).bind (Cw id (K k))) Q):Ev (fun k=>(bU id (a k) e M).bind (K k)) Q:=by
 refine Ev.congr (fun k=>?_) h
 unfold bU Cw
 cases a k e M with
 | none=>rfl
 | some q=>
  obtain ⟨x,q⟩:=q
  cases x with
  | ext j=>simp only [Option.map_some,Option.bind_some]; split <;> rfl
  | _=>rfl
theorem cT {a b:Nat->St} {o:Operand} {v:Bool} (F:eH e o = .bool v) (D:v=true) (h:Ev (fun k=>(a k e M).bind (K k)) Q):Ev (fun k=>(bJ o (a k) (b k) e M).bind (K k)) Q:=by
 subst D
 refine Ev.congr (fun k=>?_) h
 simp [bJ,F]
theorem cF {a b:Nat->St} {o:Operand} {v:Bool} (F:eH e o = .bool v) (D:v=false) (h:Ev (fun k=>(b k e M).bind (K k)) Q):Ev (fun k=>(bJ o (a k) (b k) e M).bind (K k)) Q:=by
 subst D
 refine Ev.congr (fun k=>?_) h
 simp [bJ,F]
theorem xx {x:Ex} (h:Ev (fun k=>K k (x,e,M)) Q):Ev (fun k=>(bV x e M).bind (K k)) Q:=h
theorem sN {b:Nat->St} (h:Ev (fun k=>(b k e M).bind (K k)) Q):Ev (fun k=>F5 (b k) (K k) (.nrm,e,M)) Q:=h
theorem sR {b:Nat->St} (h:Ev (fun k=>K k (.ret,e,M)) Q):Ev (fun k=>F5 (b k) (K k) (.ret,e,M)) Q:=h
theorem sE {b:Nat->St} {j:Nat} (h:Ev (fun k=>K k (.ext j,e,M)) Q):Ev (fun k=>F5 (b k) (K k) (.ext j,e,M)) Q:=h
theorem bN {id:Nat} (h:Ev (fun k=>K k (.nrm,e,M)) Q):Ev (fun k=>Cw id (K k) (.nrm,e,M)) Q:=h
theorem bR {id:Nat} (h:Ev (fun k=>K k (.ret,e,M)) Q):Ev (fun k=>Cw id (K k) (.ret,e,M)) Q:=h
theorem bE {id:Nat} (h:Ev (fun k=>K k (.nrm,e,M)) Q):Ev (fun k=>Cw id (K k) (.ext id,e,M)) Q:=by
 refine Ev.congr (fun k=>?_) h
 simp [Cw]
theorem bO {id j:Nat} (D:Nat.beq j id=false) (h:Ev (fun k=>K k (.ext j,e,M)) Q):Ev (fun k=>Cw id (K k) (.ext j,e,M)) Q:=by
 refine Ev.congr (fun k=>?_) h
 simp [Cw,D]
theorem kd {x:oZ} {Q:oZ->Prop} (h:Q x):Ev (fun _=>some x) Q:=Ev.ret h
theorem Ev.reg {r:Nat->b4->bs->Option (b4×bs)} {D:Nat->Option (b4×bs)} {l:List Nat} (F:∀ k,r k e M=(D k).map fun q=>(prune l q.1,q.2))
  (h:Ev (fun k=>(D k).bind fun q=>K k (.nrm,prune l q.1,q.2)) Q):Ev (fun k=>(ap (r k) e M).bind (K k)) Q:=by
 refine Ev.congr (fun k=>?_) h
 unfold ap
 rw [F k]
 cases D k <;> rfl
end
section
variable {β:Type} {K:Nat->b4×bs->Option β} {Q:β->Prop} {e:b4} {M:bs} {op:Option (AV×Eff)} {v:AV} {d:Option Nat} {cont:Nat->b4->bs->Option (b4×bs)}
theorem kx (D:op=some (v,.keep)) (h:Ev (fun k=>(cont k (put e d v) M).bind (K k)) Q):Ev (fun k=>(nx op d e M (cont k)).bind (K k)) Q:=by
 subst D; exact h
theorem ku {o:Ob} (D:op=some (v,.push [o])) (h:∀ M',M'=M++[.live o]->Ev (fun k=>(cont k (put e d v) M').bind (K k)) Q):Ev (fun k=>(nx op d e M (cont k)).bind (K k)) Q:=by
 subst D; exact h _ rfl
theorem Ev.nxpushL {l:List Ob} (D:op=some (v,.push l)) (h:∀ M',M'=M++l.map .live->Ev (fun k=>(cont k (put e d v) M').bind (K k)) Q):Ev (fun k=>(nx op d e M (cont k)).bind (K k)) Q:=by
 subst D; exact h _ rfl
theorem kw {D:bs} (F:op=some (v,.put D)) (h:∀ M',M'=D->Ev (fun k=>(cont k (put e d v) M').bind (K k)) Q):Ev (fun k=>(nx op d e M (cont k)).bind (K k)) Q:=by
 subst F; exact h _ rfl
theorem Ev.nxc {D:Nat->Option (AV×Eff)} {R:AV×Eff->Prop} (G:Ev D R) (h:∀ v F,R (v,F)->Ev (fun k=>(cont k (put e d v) (F.on M)).bind (K k)) Q):Ev (fun k=>(nx (D k) d e M (cont k)).bind (K k)) Q:=by
 have:∀ k,(nx (D k) d e M (cont k)).bind (K k)=(D k).bind fun p=>(cont k (put e d p.1) (p.2.on M)).bind (K k):=fun k=>by
  unfold nx; cases D k <;> rfl
 exact Ev.congr this (Ev.bind G (fun p I=>h p.1 p.2 I))
theorem kc {D:Nat->Option (AV×Eff)} (G:Ev D (fun p=>p=(v,.keep))) (h:Ev (fun k=>(cont k (put e d v) M).bind (K k)) Q):Ev (fun k=>(nx (D k) d e M (cont k)).bind (K k)) Q:=
 Ev.nxc G (fun v' I F=>by cases F; exact h)
theorem Ev.nxcp {D:Nat->Option (AV×Eff)} {l:List Ob} (G:Ev D (fun p=>p=(v,.push l))) (h:∀ M',M'=M++l.map .live->Ev (fun k=>(cont k (put e d v) M').bind (K k)) Q):Ev (fun k=>(nx (D k) d e M (cont k)).bind (K k)) Q:=
 Ev.nxc G (fun v' I F=>by cases F; exact h _ rfl)
theorem Ev.rend {β:Type} {K:Nat->oZ->Option β} {Q:β->Prop} {e:b4} {M:bs} {l:List Nat} (h:∀ D,D=prune l e->Ev (fun k=>K k (.nrm,D,M)) Q):Ev (fun k=>(some (e,M)).bind fun q=>K k (.nrm,prune l q.1,q.2)) Q:=h _ rfl
end
section
variable {β:Type} {K:Nat->b4×List Ob->Option β} {Q:β->Prop} {e:b4} {C:List Ob} {op:Option (AV×Eff)} {v:AV} {d:Option Nat} {calm:Bool} {cont:Nat->b4->List Ob->Option (b4×List Ob)}
theorem kf (D:op=some (v,.keep)) (h:Ev (fun k=>(cont k (put e d v) C).bind (K k)) Q):Ev (fun k=>(nf op d calm e C (cont k)).bind (K k)) Q:=by
 subst D; exact h
theorem Ev.nfpush {l:List Ob} (F:op=some (v,.push l)) (h:∀ D,D=C++l->Ev (fun k=>(cont k (put e d v) D).bind (K k)) Q):Ev (fun k=>(nf op d false e C (cont k)).bind (K k)) Q:=by
 subst F; exact h _ rfl
theorem fc {D:Nat->Option (AV×Eff)} (G:Ev D (fun p=>p=(v,.keep))) (h:Ev (fun k=>(cont k (put e d v) C).bind (K k)) Q):Ev (fun k=>(nf (D k) d calm e C (cont k)).bind (K k)) Q:=by
 have:∀ k,(nf (D k) d calm e C (cont k)).bind (K k)=(D k).bind fun p=>((wT calm C p.2).bind fun F=>cont k (put e d p.1) F).bind (K k):=fun k=>by
  unfold nf; cases D k <;> rfl
 exact Ev.congr this (Ev.bind G (fun p I=>by subst I; exact h))
def bk (b:b4->bs->Option (b4×bs)) (e:b4) (M:bs):Option (b4×bs):=b e M
theorem Ev.regD {β:Type} {K:Nat->oZ->Option β} {Q:β->Prop} {e:b4} {M:bs} {r:Nat->b4->bs->Option (b4×bs)} {F:Nat->List Ob->Option (b4×List Ob)} {D:Nat->b4->bs->Option (b4×bs)} {l:List Nat}
  (G:∀ k,r k e M=rD l (F k) (D k) M)
  (h:Ev (fun k=>(F k []).bind fun q=>(bk (D k) q.1 (M++q.2.map .live)).bind fun q=>K k (.nrm,prune l q.1,q.2)) Q):Ev (fun k=>(ap (r k) e M).bind (K k)) Q:=by
 refine Ev.congr (fun k=>?_) h
 unfold ap
 rw [G k]
 unfold rD bk
 cases F k [] with
 | none=>rfl
 | some q=>simp only [Option.bind_some]; cases D k q.1 (M++q.2.map .live) <;> rfl
theorem fZ {β:Type} {M:bs} {Q:β->Prop} {e:b4} {D:Nat->b4->bs->Option (b4×bs)} {K:Nat->b4×bs->Option β} (h:Ev (fun k=>(D k e M).bind (K k)) Q):Ev (fun k=>(some (e,([]:List Ob))).bind fun q=>(bk (D k) q.1 (M++q.2.map .live)).bind (K k)) Q:=by
 have:M++([]:List Ob).map .live=M:=by simp
 refine Ev.congr (fun k=>?_) h
 simp only [Option.bind_some,this,bk]
theorem Ev.fend1 {β:Type} {M:bs} {C:List Ob} {Q:β->Prop} {e:b4} {D:Nat->b4->bs->Option (b4×bs)} {K:Nat->b4×bs->Option β} (h:∀ M',M'=M++C.map .live->Ev (fun k=>(D k e M').bind (K k)) Q):Ev (fun k=>(some (e,C)).bind fun q=>(bk (D k) q.1 (M++q.2.map .live)).bind (K k)) Q:=h _ rfl
end
theorem KU {l:List Nat} {t:Nat} (h:fg l t=true):t ∈ l:=by
 unfold fg at h
 obtain ⟨x,F,D⟩:=List.any_eq_true.1 h
 rw [<- Nat.eq_of_beq_eq_true D]; exact F
theorem bZ {l:List Nat} {e D:b4} {t:Nat} {v:AV} (I:D=prune l e) (F:fg l t=true) (h:a3 e t=v):a3 D t=v:=by
 subst I
 rw [<- h]
 clear h
 have G:=KU F
 clear F
 unfold prune
 induction l with
 | nil=>cases G
 | cons s r J=>
  rw [List.map_cons]
  show (if Nat.beq s t=true then a3 e s else a3 (r.map fun t=>(t,a3 e t)) t)=_
  by_cases hs:s=t
  ·subst hs; simp
  ·rw [if_neg (fun h=>hs (Nat.eq_of_beq_eq_true h))]
   exact J ((List.mem_cons.1 G).resolve_left (fun h=>hs h.symm))
section
variable {M M':bs} {id i L:Nat} {o o2:Ob} {y:Ent}
theorem cv (h:M[id]? = some y):id < M.length:=(List.getElem?_eq_some_iff.1 h).1
theorem bS {l:List Ent} (D:M'=M++l) (h:M[i]? = some y):M'[i]? = some y:=by
 subst D; rw [List.getElem?_append_left (cv h)]; exact h
theorem b2 (D:M'=M++[.live o]):M'[M.length]? = some (.live o):=by
 subst D; simp
theorem ji {l:List Ob} (D:M'=M++l.map .live) (j:Nat) (h:l[j]? = some o):M'[M.length + j]? = some (.live o):=by
 subst D; rw [List.getElem?_append_right (by omega)]; simp [h]
theorem bc (D:M'=M.set id y) {z:Ent} (h:M[id]? = some z):M'[id]? = some y:=by
 subst D; rw [List.getElem?_set_self (cv h)]
theorem a9 {z:Ent} (D:M'=M.set id z) (F:i≠id) (h:M[i]? = some y):M'[i]? = some y:=by
 subst D; rw [List.getElem?_set_ne (Ne.symm F)]; exact h
theorem b6 (h:M[i]? = some y):i≠M.length:=Nat.ne_of_lt (cv h)
theorem gU (h:M[id]? = some (.live o)) (D:o.es.length=L):jI M id L=some o:=by unfold jI; rw [h]; simp [D]
end
def rd {τ:Type} (xs:List τ) (n:Int):Option τ:=if 0<=n then xs[n.toNat]? else none
def qB {τ:Type} (D:Nat) (xs ys:List τ):Option (List τ):=if (xs.length + ys.length) * D<=140737488355328/\xs.length + ys.length<=140737488355328 then some (xs++ys) else none
def NG {τ:Type} (D:Nat) (z:τ) (a:Int):Option (List τ):=if 0<=a/\a.toNat * D<=140737488355328/\a<=140737488355328 then some (List.replicate a.toNat z) else none
def NK {τ:Type} (xs:List τ) (l h:Int):Option (List τ):=if 0<=l/\l<=h/\h<=xs.length then some ((xs.drop l.toNat).take (h.toNat - l.toNat)) else none
def quo (k:IntKind) (a b:Int):Option Int:=if b=0 then none else some (k.wrap (a.tdiv b))
def rem (k:IntKind) (a b:Int):Option Int:=if b=0 then none else some (a.tmod b)
def shl (k:IntKind) (a b:Int):Option Int:=if b < 0 then none else some (k.wrap (a * 2 ^ (min b.toNat k.bits)))
def shr (k:IntKind) (a b:Int):Option Int:=if b < 0 then none else some (a.fdiv (2 ^ (min b.toNat k.bits)))
theorem ad {α β:Type} {x:Option α} {f:α->Option β} {r:β} (h:x.bind f=some r):∃ a,x=some a/\f a=some r:=Option.bind_eq_some_iff.1 h
theorem jc {τ:Type} {xs:List τ} {n:Int} {x:τ} (h:rd xs n=some x):0<=n/\xs[n.toNat]? = some x:=by
 unfold rd at h; split at h
 ·exact ⟨by assumption,h⟩
 ·cases h
theorem oI {τ:Type} {xs:List τ} {n:Int} {x:τ} (h:rd xs n=some x):n.toNat < xs.length/\n < xs.length:=by
 obtain ⟨F,D⟩:=jc h
 have:=(List.getElem?_eq_some_iff.1 D).1
 omega
def Fl {τ:Type} (c:τ->List AV) (sz:Nat):Prop:=∀ x,(c x).length=sz/\(c x).all cG=true
theorem H5 {M:bs} {x:AV} (h:cG x=true):okC M x=true:=by cases x <;> simp_all [cG,okC,gB]
theorem Db {x:AV} (h:cG x=true):gB x=true:=by cases x <;> simp_all [cG,gB]
theorem Fl.okC {τ:Type} {c:τ->List AV} {sz:Nat} (h:Fl c sz) (M:bs) (x:τ):(c x).all (okC M)=true:=List.all_eq_true.2 fun y D=>H5 (List.all_eq_true.1 (h x).2 y D)
theorem Fl.rows {τ:Type} {c:τ->List AV} {sz:Nat} (h:Fl c sz) (xs:List τ):((xs.map c).all fun r=>r.all cG)=true:=List.all_eq_true.2 fun y D=>by
 obtain ⟨x,_,rfl⟩:=List.mem_map.1 D; exact (h x).2
theorem Fl.fits {τ:Type} {c:τ->List AV} {sz D n:Nat} (h:Fl c sz) (M:bs) (ys:List τ) (I:0 < sz) (F:(n + ys.length) * D<=140737488355328) (G:n + ys.length<=140737488355328):fits M sz D n (ys.map c)=true:=by
 unfold Go.Ab.fits
 simp only [Bool.and_eq_true,List.all_eq_true,List.mem_map,decide_eq_true_eq,List.length_map,beq_iff_eq]
 refine ⟨⟨⟨?_,I⟩,F⟩,G⟩
 rintro r ⟨x,_,rfl⟩
 exact ⟨(h x).1,fun y J=>List.all_eq_true.1 (h.okC M x) y J⟩
theorem Oc {τ:Type} {c:τ->List AV} {xs:List τ} {i:Nat} {x:τ} (h:xs[i]? = some x):(xs.map c)[i]? = some (c x):=by rw [List.getElem?_map,h]; rfl
def cI (k:IntKind) (n:Int):List AV:=[.int k n]
def cL {τ:Type} (c:τ->List AV) (xs:List τ):List AV:=[.sl none (xs.map c)]
theorem de (k:IntKind):Fl (cI k) 1:=fun _=>⟨rfl,rfl⟩
end Go.Ab
