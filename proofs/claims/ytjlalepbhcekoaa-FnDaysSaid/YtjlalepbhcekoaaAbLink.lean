/- Rules that step through a printed form of a function, for all enough fuel: what it computes is told by a function on plain data. -/
import Derived.Test.YtjlalepbhcekoaaAbForm
set_option linter.unusedVariables false
namespace Go.Ab
open Go
def Ev {α:Type} (g:Nat→Option α) (Q:α→Prop):Prop:=∃ x,Q x∧∃ K,∀ k,K≤k→g k=some x
section
variable {α β:Type}
theorem Ev.ret {x:α} {Q:α→Prop} (h:Q x):Ev (fun _=>some x) Q:=⟨x,h,0,fun _ _=>rfl⟩
theorem Ev.mono {g:Nat→Option α} {Q R:α→Prop} (h:Ev g Q) (k:∀ x,Q x→R x):Ev g R:=by
 obtain ⟨x,hx,K,hK⟩:=h
 exact ⟨x,k x hx,K,hK⟩
theorem Ev.bind {g:Nat→Option α} {h:Nat→α→Option β} {Q:α→Prop} {R:β→Prop} (hg:Ev g Q) (hh:∀ x,Q x→Ev (fun k=>h k x) R):Ev (fun k=>(g k).bind (h k)) R:=by
 obtain ⟨x,hx,K,hK⟩:=hg
 obtain ⟨y,hy,K2,hK2⟩:=hh x hx
 refine ⟨y,hy,max K K2,fun k hk=>?_⟩
 have h1:=hK k (by omega)
 have h2:=hK2 k (by omega)
 show (g k).bind (h k)=some y
 rw [h1]; exact h2
theorem Ev.map {g:Nat→Option α} {f:α→β} {R:β→Prop} (hg:Ev g (fun x=>R (f x))):Ev (fun k=>(g k).map f) R:=by
 obtain ⟨x,hx,K,hK⟩:=hg
 exact ⟨f x,hx,K,fun k hk=>by show (g k).map f=_; rw [hK k hk]; rfl⟩
theorem Ev.congr {g g':Nat→Option α} {Q:α→Prop} (h:∀ k,g k=g' k) (hg:Ev g' Q):Ev g Q:=by
 rw [show g=g' from funext h]; exact hg
theorem Ev.succ {g:Nat→Option α} {Q:α→Prop} (h:Ev (fun k=>g (k + 1)) Q):Ev g Q:=by
 obtain ⟨x,hx,K,hK⟩:=h
 refine ⟨x,hx,K + 1,fun k hk=>?_⟩
 obtain ⟨j,rfl⟩:∃ j,k=j + 1:=⟨k - 1,by omega⟩
 exact hK j (by omega)
end
theorem ble {a b:Nat} (h:Nat.ble a b=true):a≤b:=Nat.le_of_ble_eq_true h
theorem blt {a b:Nat} (h:Nat.blt a b=true):a < b:=Nat.le_of_ble_eq_true h
abbrev Out:=Ex×Env×Mem
section
variable {β:Type} {K:Nat→Out→Option β} {Q:β→Prop} {e:Env} {M:Mem}
def kSeq (b:St) (K:Out→Option β):Out→Option β:=fun q=>match q.1 with | .nrm=>(b q.2.1 q.2.2).bind K | x=>K (x,q.2)
def kBlk (id:Nat) (K:Out→Option β):Out→Option β:=fun q=>match q.1 with | .ext j=>if Nat.beq j id then K (.nrm,q.2) else K q | _=>K q
theorem sq {a b:Nat→St} (h:Ev (fun k=>(a k e M).bind (kSeq (b k) (K k))) Q):Ev (fun k=>(bSeq (a k) (b k) e M).bind (K k)) Q:=by
 refine Ev.congr (fun k=>?_) h
 unfold bSeq kSeq
 cases a k e M with
 | none=>rfl
 | some q=>obtain ⟨x,q⟩:=q; cases x <;> rfl
theorem bl {a:Nat→St} {id:Nat} (h:Ev (fun k=>(a k e M).bind (kBlk id (K k))) Q):Ev (fun k=>(bBlock id (a k) e M).bind (K k)) Q:=by
 refine Ev.congr (fun k=>?_) h
 unfold bBlock kBlk
 cases a k e M with
 | none=>rfl
 | some q=>
  obtain ⟨x,q⟩:=q
  cases x with
  | ext j=>simp only [Option.map_some,Option.bind_some]; split <;> rfl
  | _=>rfl
theorem cT {a b:Nat→St} {o:Operand} {v:Bool} (hx:oval e o = .bool v) (hv:v=true) (h:Ev (fun k=>(a k e M).bind (K k)) Q):Ev (fun k=>(bCond o (a k) (b k) e M).bind (K k)) Q:=by
 subst hv
 refine Ev.congr (fun k=>?_) h
 simp [bCond,hx]
theorem cF {a b:Nat→St} {o:Operand} {v:Bool} (hx:oval e o = .bool v) (hv:v=false) (h:Ev (fun k=>(b k e M).bind (K k)) Q):Ev (fun k=>(bCond o (a k) (b k) e M).bind (K k)) Q:=by
 subst hv
 refine Ev.congr (fun k=>?_) h
 simp [bCond,hx]
theorem xx {x:Ex} (h:Ev (fun k=>K k (x,e,M)) Q):Ev (fun k=>(bEx x e M).bind (K k)) Q:=h
theorem sN {b:Nat→St} (h:Ev (fun k=>(b k e M).bind (K k)) Q):Ev (fun k=>kSeq (b k) (K k) (.nrm,e,M)) Q:=h
theorem sR {b:Nat→St} (h:Ev (fun k=>K k (.ret,e,M)) Q):Ev (fun k=>kSeq (b k) (K k) (.ret,e,M)) Q:=h
theorem sE {b:Nat→St} {j:Nat} (h:Ev (fun k=>K k (.ext j,e,M)) Q):Ev (fun k=>kSeq (b k) (K k) (.ext j,e,M)) Q:=h
theorem bN {id:Nat} (h:Ev (fun k=>K k (.nrm,e,M)) Q):Ev (fun k=>kBlk id (K k) (.nrm,e,M)) Q:=h
theorem bR {id:Nat} (h:Ev (fun k=>K k (.ret,e,M)) Q):Ev (fun k=>kBlk id (K k) (.ret,e,M)) Q:=h
theorem bE {id:Nat} (h:Ev (fun k=>K k (.nrm,e,M)) Q):Ev (fun k=>kBlk id (K k) (.ext id,e,M)) Q:=by
 refine Ev.congr (fun k=>?_) h
 simp [kBlk]
theorem kd {x:Out} {Q:Out→Prop} (h:Q x):Ev (fun _=>some x) Q:=Ev.ret h
theorem Ev.reg {r:Nat→Env→Mem→Option (Env×Mem)} {chain:Nat→Option (Env×Mem)} {l:List Nat} (hr:∀ k,r k e M=(chain k).map fun q=>(prune l q.1,q.2))
  (h:Ev (fun k=>(chain k).bind fun q=>K k (.nrm,prune l q.1,q.2)) Q):Ev (fun k=>(bReg (r k) e M).bind (K k)) Q:=by
 refine Ev.congr (fun k=>?_) h
 unfold bReg
 rw [hr k]
 cases chain k <;> rfl
end
section
variable {β:Type} {K:Nat→Env×Mem→Option β} {Q:β→Prop} {e:Env} {M:Mem} {op:Option (AV×Eff)} {v:AV} {d:Option Nat} {cont:Nat→Env→Mem→Option (Env×Mem)}
theorem kx (hop:op=some (v,.keep)) (h:Ev (fun k=>(cont k (put e d v) M).bind (K k)) Q):Ev (fun k=>(nx op d e M (cont k)).bind (K k)) Q:=by
 subst hop; exact h
theorem ku {o:Ob} (hop:op=some (v,.push [o])) (h:∀ M',M'=M++[.live o]→Ev (fun k=>(cont k (put e d v) M').bind (K k)) Q):Ev (fun k=>(nx op d e M (cont k)).bind (K k)) Q:=by
 subst hop; exact h _ rfl
theorem Ev.nxpushL {l:List Ob} (hop:op=some (v,.push l)) (h:∀ M',M'=M++l.map .live→Ev (fun k=>(cont k (put e d v) M').bind (K k)) Q):Ev (fun k=>(nx op d e M (cont k)).bind (K k)) Q:=by
 subst hop; exact h _ rfl
theorem kw {M2:Mem} (hop:op=some (v,.put M2)) (h:∀ M',M'=M2→Ev (fun k=>(cont k (put e d v) M').bind (K k)) Q):Ev (fun k=>(nx op d e M (cont k)).bind (K k)) Q:=by
 subst hop; exact h _ rfl
theorem Ev.nxc {opk:Nat→Option (AV×Eff)} {R:AV×Eff→Prop} (hop:Ev opk R) (h:∀ v eff,R (v,eff)→Ev (fun k=>(cont k (put e d v) (eff.on M)).bind (K k)) Q):Ev (fun k=>(nx (opk k) d e M (cont k)).bind (K k)) Q:=by
 have:∀ k,(nx (opk k) d e M (cont k)).bind (K k)=(opk k).bind fun p=>(cont k (put e d p.1) (p.2.on M)).bind (K k):=fun k=>by
  unfold nx; cases opk k <;> rfl
 exact Ev.congr this (Ev.bind hop (fun p hp=>h p.1 p.2 hp))
theorem kc {opk:Nat→Option (AV×Eff)} (hop:Ev opk (fun p=>p=(v,.keep))) (h:Ev (fun k=>(cont k (put e d v) M).bind (K k)) Q):Ev (fun k=>(nx (opk k) d e M (cont k)).bind (K k)) Q:=
 Ev.nxc hop (fun v' eff he=>by cases he; exact h)
theorem Ev.nxcp {opk:Nat→Option (AV×Eff)} {l:List Ob} (hop:Ev opk (fun p=>p=(v,.push l))) (h:∀ M',M'=M++l.map .live→Ev (fun k=>(cont k (put e d v) M').bind (K k)) Q):Ev (fun k=>(nx (opk k) d e M (cont k)).bind (K k)) Q:=
 Ev.nxc hop (fun v' eff he=>by cases he; exact h _ rfl)
theorem Ev.rend {β:Type} {K:Nat→Out→Option β} {Q:β→Prop} {e:Env} {M:Mem} {l:List Nat} (h:∀ e',e'=prune l e→Ev (fun k=>K k (.nrm,e',M)) Q):Ev (fun k=>(some (e,M)).bind fun q=>K k (.nrm,prune l q.1,q.2)) Q:=h _ rfl
end
section
variable {β:Type} {K:Nat→Env×List Ob→Option β} {Q:β→Prop} {e:Env} {C:List Ob} {op:Option (AV×Eff)} {v:AV} {d:Option Nat} {calm:Bool} {cont:Nat→Env→List Ob→Option (Env×List Ob)}
theorem kf (hop:op=some (v,.keep)) (h:Ev (fun k=>(cont k (put e d v) C).bind (K k)) Q):Ev (fun k=>(nf op d calm e C (cont k)).bind (K k)) Q:=by
 subst hop; exact h
theorem Ev.nfpush {l:List Ob} (hop:op=some (v,.push l)) (h:∀ C',C'=C++l→Ev (fun k=>(cont k (put e d v) C').bind (K k)) Q):Ev (fun k=>(nf op d false e C (cont k)).bind (K k)) Q:=by
 subst hop; exact h _ rfl
theorem fc {opk:Nat→Option (AV×Eff)} (hop:Ev opk (fun p=>p=(v,.keep))) (h:Ev (fun k=>(cont k (put e d v) C).bind (K k)) Q):Ev (fun k=>(nf (opk k) d calm e C (cont k)).bind (K k)) Q:=by
 have:∀ k,(nf (opk k) d calm e C (cont k)).bind (K k)=(opk k).bind fun p=>((frontEff calm C p.2).bind fun C'=>cont k (put e d p.1) C').bind (K k):=fun k=>by
  unfold nf; cases opk k <;> rfl
 exact Ev.congr this (Ev.bind hop (fun p hp=>by subst hp; exact h))
def bk (b:Env→Mem→Option (Env×Mem)) (e:Env) (M:Mem):Option (Env×Mem):=b e M
theorem Ev.regD {β:Type} {K:Nat→Out→Option β} {Q:β→Prop} {e:Env} {M:Mem} {r:Nat→Env→Mem→Option (Env×Mem)} {front:Nat→List Ob→Option (Env×List Ob)} {back:Nat→Env→Mem→Option (Env×Mem)} {l:List Nat}
  (hr:∀ k,r k e M=rD l (front k) (back k) M)
  (h:Ev (fun k=>(front k []).bind fun q=>(bk (back k) q.1 (M++q.2.map .live)).bind fun q=>K k (.nrm,prune l q.1,q.2)) Q):Ev (fun k=>(bReg (r k) e M).bind (K k)) Q:=by
 refine Ev.congr (fun k=>?_) h
 unfold bReg
 rw [hr k]
 unfold rD bk
 cases front k [] with
 | none=>rfl
 | some q=>simp only [Option.bind_some]; cases back k q.1 (M++q.2.map .live) <;> rfl
theorem fZ {β:Type} {M:Mem} {Q:β→Prop} {e:Env} {back:Nat→Env→Mem→Option (Env×Mem)} {K:Nat→Env×Mem→Option β} (h:Ev (fun k=>(back k e M).bind (K k)) Q):Ev (fun k=>(some (e,([]:List Ob))).bind fun q=>(bk (back k) q.1 (M++q.2.map .live)).bind (K k)) Q:=by
 have:M++([]:List Ob).map .live=M:=by simp
 refine Ev.congr (fun k=>?_) h
 simp only [Option.bind_some,this,bk]
theorem Ev.fend1 {β:Type} {M:Mem} {C:List Ob} {Q:β→Prop} {e:Env} {back:Nat→Env→Mem→Option (Env×Mem)} {K:Nat→Env×Mem→Option β} (h:∀ M',M'=M++C.map .live→Ev (fun k=>(back k e M').bind (K k)) Q):Ev (fun k=>(some (e,C)).bind fun q=>(bk (back k) q.1 (M++q.2.map .live)).bind (K k)) Q:=h _ rfl
end
theorem has_mem {l:List Nat} {t:Nat} (h:has l t=true):t ∈ l:=by
 unfold has at h
 obtain ⟨x,hx,hb⟩:=List.any_eq_true.1 h
 rw [← Nat.eq_of_beq_eq_true hb]; exact hx
theorem envp {l:List Nat} {e e':Env} {t:Nat} {v:AV} (he:e'=prune l e) (hl:has l t=true) (h:eget e t=v):eget e' t=v:=by
 subst he
 rw [← h]
 clear h
 have hm:=has_mem hl
 clear hl
 unfold prune
 induction l with
 | nil=>cases hm
 | cons s r ih=>
  rw [List.map_cons]
  show (if Nat.beq s t=true then eget e s else eget (r.map fun t=>(t,eget e t)) t)=_
  by_cases hs:s=t
  ·subst hs; simp
  ·rw [if_neg (fun h=>hs (Nat.eq_of_beq_eq_true h))]
   exact ih ((List.mem_cons.1 hm).resolve_left (fun h=>hs h.symm))
section
variable {M M':Mem} {id i L:Nat} {o o2:Ob} {y:Ent}
theorem lt_of_get (h:M[id]? = some y):id < M.length:=(List.getElem?_eq_some_iff.1 h).1
theorem push_old {l:List Ent} (hM:M'=M++l) (h:M[i]? = some y):M'[i]? = some y:=by
 subst hM; rw [List.getElem?_append_left (lt_of_get h)]; exact h
theorem push_new (hM:M'=M++[.live o]):M'[M.length]? = some (.live o):=by
 subst hM; simp
theorem push_at {l:List Ob} (hM:M'=M++l.map .live) (j:Nat) (h:l[j]? = some o):M'[M.length + j]? = some (.live o):=by
 subst hM; rw [List.getElem?_append_right (by omega)]; simp [h]
theorem set_same (hM:M'=M.set id y) {z:Ent} (h:M[id]? = some z):M'[id]? = some y:=by
 subst hM; rw [List.getElem?_set_self (lt_of_get h)]
theorem set_ne {z:Ent} (hM:M'=M.set id z) (hn:i≠id) (h:M[i]? = some y):M'[i]? = some y:=by
 subst hM; rw [List.getElem?_set_ne (Ne.symm hn)]; exact h
theorem ne_new (h:M[i]? = some y):i≠M.length:=Nat.ne_of_lt (lt_of_get h)
theorem getOb_of (h:M[id]? = some (.live o)) (hL:o.es.length=L):getOb M id L=some o:=by unfold getOb; rw [h]; simp [hL]
end
def rd {τ:Type} (xs:List τ) (n:Int):Option τ:=if 0≤n then xs[n.toNat]? else none
def app {τ:Type} (by_:Nat) (xs ys:List τ):Option (List τ):=if (xs.length + ys.length) * by_≤140737488355328∧xs.length + ys.length≤140737488355328 then some (xs++ys) else none
def mkS {τ:Type} (by_:Nat) (z:τ) (a:Int):Option (List τ):=if 0≤a∧a.toNat * by_≤140737488355328∧a≤140737488355328 then some (List.replicate a.toNat z) else none
def slc {τ:Type} (xs:List τ) (l h:Int):Option (List τ):=if 0≤l∧l≤h∧h≤xs.length then some ((xs.drop l.toNat).take (h.toNat - l.toNat)) else none
def quo (k:IntKind) (a b:Int):Option Int:=if b=0 then none else some (k.wrap (a.tdiv b))
def rem (k:IntKind) (a b:Int):Option Int:=if b=0 then none else some (a.tmod b)
def shl (k:IntKind) (a b:Int):Option Int:=if b < 0 then none else some (k.wrap (a * 2 ^ (min b.toNat k.bits)))
def shr (k:IntKind) (a b:Int):Option Int:=if b < 0 then none else some (a.fdiv (2 ^ (min b.toNat k.bits)))
theorem bind_some {α β:Type} {x:Option α} {f:α→Option β} {r:β} (h:x.bind f=some r):∃ a,x=some a∧f a=some r:=Option.bind_eq_some_iff.1 h
theorem rd_get {τ:Type} {xs:List τ} {n:Int} {x:τ} (h:rd xs n=some x):0≤n∧xs[n.toNat]? = some x:=by
 unfold rd at h; split at h
 ·exact ⟨by assumption,h⟩
 ·cases h
theorem rd_lt {τ:Type} {xs:List τ} {n:Int} {x:τ} (h:rd xs n=some x):n.toNat < xs.length∧n < xs.length:=by
 obtain ⟨h0,h1⟩:=rd_get h
 have:=(List.getElem?_eq_some_iff.1 h1).1
 omega
def Fl {τ:Type} (c:τ→List AV) (sz:Nat):Prop:=∀ x,(c x).length=sz∧(c x).all treeOk=true
theorem okC_tree {M:Mem} {x:AV} (h:treeOk x=true):okC M x=true:=by cases x <;> simp_all [treeOk,okC,cellOk]
theorem cellOk_tree {x:AV} (h:treeOk x=true):cellOk x=true:=by cases x <;> simp_all [treeOk,cellOk]
theorem Fl.okC {τ:Type} {c:τ→List AV} {sz:Nat} (h:Fl c sz) (M:Mem) (x:τ):(c x).all (okC M)=true:=List.all_eq_true.2 fun y hy=>okC_tree (List.all_eq_true.1 (h x).2 y hy)
theorem Fl.rows {τ:Type} {c:τ→List AV} {sz:Nat} (h:Fl c sz) (xs:List τ):((xs.map c).all fun r=>r.all treeOk)=true:=List.all_eq_true.2 fun y hy=>by
 obtain ⟨x,_,rfl⟩:=List.mem_map.1 hy; exact (h x).2
theorem Fl.fits {τ:Type} {c:τ→List AV} {sz by_ n:Nat} (h:Fl c sz) (M:Mem) (ys:List τ) (hs:0 < sz) (h1:(n + ys.length) * by_≤140737488355328) (h2:n + ys.length≤140737488355328):fits M sz by_ n (ys.map c)=true:=by
 unfold Go.Ab.fits
 simp only [Bool.and_eq_true,List.all_eq_true,List.mem_map,decide_eq_true_eq,List.length_map,beq_iff_eq]
 refine ⟨⟨⟨?_,hs⟩,h1⟩,h2⟩
 rintro r ⟨x,_,rfl⟩
 exact ⟨(h x).1,fun y hy=>List.all_eq_true.1 (h.okC M x) y hy⟩
theorem mapg {τ:Type} {c:τ→List AV} {xs:List τ} {i:Nat} {x:τ} (h:xs[i]? = some x):(xs.map c)[i]? = some (c x):=by rw [List.getElem?_map,h]; rfl
def cI (k:IntKind) (n:Int):List AV:=[.int k n]
def cB (b:Bool):List AV:=[.bool b]
def cL {τ:Type} (c:τ→List AV) (xs:List τ):List AV:=[.sl none (xs.map c)]
theorem cI_fl (k:IntKind):Fl (cI k) 1:=fun _=>⟨rfl,rfl⟩
theorem cB_fl:Fl cB 1:=fun _=>⟨rfl,rfl⟩
end Go.Ab
