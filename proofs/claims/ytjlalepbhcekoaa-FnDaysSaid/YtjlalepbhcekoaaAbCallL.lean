/- Loops, calls and results, told by functions on plain data. -/
import Derived.Test.YtjlalepbhcekoaaAbOpsL
set_option linter.unusedVariables false
namespace Go.Ab
open Go
section
variable {S R:Type}
def lpN (tb:S→Option (S⊕R)):Nat→S→Option R
 | 0,_=>none
 | n + 1,s=>match tb s with | none=>none | some (.inl s')=>lpN tb n s' | some (.inr r)=>some r
theorem lpN_mono {tb:S→Option (S⊕R)}:∀ {n m:Nat} {s:S} {r:R},lpN tb n s=some r→n≤m→lpN tb m s=some r
 | 0,_,_,_,h,_=>by cases h
 | n + 1,0,_,_,_,hm=>by omega
 | n + 1,m + 1,s,r,h,hm=>by
  unfold lpN at h ⊢
  split at h
  ·cases h
  ·exact lpN_mono h (by omega)
  ·exact h
open Classical in
noncomputable def Lw (tb:S→Option (S⊕R)) (s:S):Option R:=if h:∃ r n,lpN tb n s=some r then some (Classical.choose h) else none
theorem Lw_iff {tb:S→Option (S⊕R)} {s:S} {r:R}:Lw tb s=some r↔∃ n,lpN tb n s=some r:=by
 unfold Lw
 constructor
 ·intro h
  split at h
  ·rename_i h1
   cases h
   exact Classical.choose_spec h1
  ·cases h
 ·rintro ⟨n,hn⟩
  have h1:∃ r n,lpN tb n s=some r:=⟨r,n,hn⟩
  rw [dif_pos h1]
  obtain ⟨m,hm⟩:=Classical.choose_spec h1
  have a:=lpN_mono hn (Nat.le_max_left n m)
  have b:=lpN_mono hm (Nat.le_max_right n m)
  rw [← a.symm.trans b |> Option.some.inj |> Eq.symm]
theorem Lw_step {tb:S→Option (S⊕R)} {s s':S} (h:tb s=some (.inl s')):Lw tb s=Lw tb s':=by
 have key:∀ r,Lw tb s=some r↔Lw tb s'=some r:=by
  intro r
  rw [Lw_iff,Lw_iff]
  constructor
  ·rintro ⟨n,hn⟩
   cases n with
   | zero=>cases hn
   | succ n=>unfold lpN at hn; rw [h] at hn; exact ⟨n,hn⟩
  ·rintro ⟨n,hn⟩
   exact ⟨n + 1,by unfold lpN; rw [h]; exact hn⟩
 cases h1:Lw tb s with
 | some r=>rw [(key r).1 h1]
 | none=>cases h2:Lw tb s' with
  | none=>rfl
  | some r=>rw [(key r).2 h2] at h1; cases h1
theorem Lw_stop {tb:S→Option (S⊕R)} {s:S} {r:R} (h:tb s=some (.inr r)):Lw tb s=some r:=Lw_iff.2 ⟨1,by unfold lpN; rw [h]⟩
end
theorem loop_ev {S R:Type} {tb:S→Option (S⊕R)} {RS:S→Env→Mem→Prop} {RR:R→Ex→Env→Mem→Prop} {a:Nat→St} {l:List Nat}
  (hb:∀ s r,tb s=some r→∀ e M,RS s e M→Ev (fun k=>(a k (prune l e) M).bind fun q=>some q) (fun q:Out=>match r with | .inl s'=>q.1 = .nrm∧RS s' q.2.1 q.2.2 | .inr r'=>q.1≠.nrm∧RR r' q.1 q.2.1 q.2.2)) :
  ∀ (n:Nat) (s:S) (r:R) (e:Env) (M:Mem),lpN tb n s=some r→RS s e M→∃ q:Out,RR r q.1 q.2.1 q.2.2∧∃ K,∀ k,K≤k→∀ j,n≤j→bLoop l (a k) j e M=some q
 | 0,_,_,_,_,h,_=>by cases h
 | n + 1,s,r,e,M,h,hs=>by
  unfold lpN at h
  split at h
  ·cases h
  ·rename_i s' ht
   obtain ⟨q,hq,K,hK⟩:=hb _ _ ht e M hs
   obtain ⟨h1,h2⟩:=hq
   obtain ⟨q2,g1,K2,hK2⟩:=loop_ev hb n s' r q.2.1 q.2.2 h h2
   refine ⟨q2,g1,max K K2,fun k hk j hj=>?_⟩
   obtain ⟨i,rfl⟩:∃ i,j=i + 1:=⟨j - 1,by omega⟩
   have h3:=hK k (by omega)
   have h4:a k (prune l e) M=some q:=by cases h5:a k (prune l e) M with
    | none=>simp [h5] at h3
    | some q'=>simp [h5] at h3; rw [h3]
   obtain ⟨x,e1,M1⟩:=q
   simp only at h1
   subst h1
   unfold bLoop
   rw [h4]
   exact hK2 k (by omega) i (by omega)
  ·rename_i r' ht
   cases h
   obtain ⟨q,hq,K,hK⟩:=hb _ _ ht e M hs
   obtain ⟨h1,h2⟩:=hq
   refine ⟨q,h2,K,fun k hk j hj=>?_⟩
   obtain ⟨i,rfl⟩:∃ i,j=i + 1:=⟨j - 1,by omega⟩
   have h3:=hK k hk
   have h4:a k (prune l e) M=some q:=by cases h5:a k (prune l e) M with
    | none=>simp [h5] at h3
    | some q'=>simp [h5] at h3; rw [h3]
   obtain ⟨x,e1,M1⟩:=q
   unfold bLoop
   rw [h4]
   cases x with
   | nrm=>exact absurd rfl h1
   | _=>rfl
theorem Ev.loop {β S R:Type} {K:Nat→Out→Option β} {Q:β→Prop} {e:Env} {M:Mem} {tb:S→Option (S⊕R)} {RS:S→Env→Mem→Prop} {RR:R→Ex→Env→Mem→Prop} {a:Nat→St} {l:List Nat} {s:S} {r:R}
  (hb:∀ s r,tb s=some r→∀ e M,RS s e M→Ev (fun k=>(a k (prune l e) M).bind fun q=>some q) (fun q:Out=>match r with | .inl s'=>q.1 = .nrm∧RS s' q.2.1 q.2.2 | .inr r'=>q.1≠.nrm∧RR r' q.1 q.2.1 q.2.2))
  (h:Lw tb s=some r) (hs:RS s e M) (hK:∀ x e' M',RR r x e' M'→Ev (fun k=>K k (x,e',M')) Q):Ev (fun k=>(bLoop l (a k) k e M).bind (K k)) Q:=by
 obtain ⟨n,hn⟩:=Lw_iff.1 h
 obtain ⟨q,g1,K1,hK1⟩:=loop_ev hb n s r e M hn hs
 obtain ⟨y,hy,K2,hK2⟩:=hK _ _ _ g1
 refine ⟨y,hy,max (max K1 K2) n,fun k hk=>?_⟩
 show (bLoop l (a k) k e M).bind (K k)=some y
 rw [hK1 k (by omega) k (by omega)]
 exact hK2 k (by omega)
def kEnd (P:Program) (rs:List ResultVar):Out→Option (AV×Mem):=fun q=>match q.1 with | .ext _=>none | _=>(resAll P q.2.1 q.2.2 rs).map fun vs=>(oneOr vs,q.2.2)
theorem Ev.enter {P:Program} {rs:List ResultVar} {C:Nat→CallF} {f:Nat} {args:List AV} {M:Mem} {F:Nat→St} {Q:AV×Mem→Prop} (hc:∀ k,C (k + 1) f args M=bFun P rs (F k) args M)
  (h:Ev (fun k=>(F k (argEnv 0 args) M).bind (kEnd P rs)) Q):Ev (fun k=>C k f args M) Q:=by
 refine Ev.succ (Ev.congr (fun k=>?_) h)
 rw [hc k]
 unfold bFun kEnd
 cases F k (argEnv 0 args) M with
 | none=>rfl
 | some q=>obtain ⟨x,q⟩:=q; cases x <;> rfl
section
variable {P:Program} {rs:List ResultVar} {e:Env} {M:Mem} {vs vs':List AV} {v v':AV} {Q:AV×Mem→Prop} {t a sz:Nat} {ag:Bool}
theorem eR (hr:resAll P e M rs=some vs) (hq:Q (oneOr vs,M)):Ev (fun _:Nat=>kEnd P rs (.ret,e,M)) Q:=by
 have:kEnd P rs (.ret,e,M)=some (oneOr vs,M):=by unfold kEnd; simp [hr]
 rw [this]; exact Ev.ret hq
theorem eN (hr:resAll P e M rs=some vs) (hq:Q (oneOr vs,M)):Ev (fun _:Nat=>kEnd P rs (.nrm,e,M)) Q:=by
 have:kEnd P rs (.nrm,e,M)=some (oneOr vs,M):=by unfold kEnd; simp [hr]
 rw [this]; exact Ev.ret hq
theorem res0:resAll P e M []=some []:=rfl
theorem resT (h:eget e t=v) (hr:resAll P e M rs=some vs):resAll P e M (.tmp t::rs)=some (v::vs):=by subst h; simp [resAll,resOf,hr]
theorem resC (hk:okT P t=true∧Program.cellsAgg P t=ag∧P.cellsOf t=sz) (hl:keep (aLoad ag sz (eget e a) M)=some (v,.keep)) (hr:resAll P e M rs=some vs):resAll P e M (.cell a t::rs)=some (v::vs):=by
 obtain ⟨h1,h2,h3⟩:=hk
 have hl2:aLoad ag sz (eget e a) M=some v:=by
  cases h:aLoad ag sz (eget e a) M with
  | none=>rw [h] at hl; cases hl
  | some w=>rw [h] at hl; simp only [keep,Option.map_some,Option.some.injEq,Prod.mk.injEq] at hl; rw [hl.1]
 simp [resAll,resOf,h1,h2,h3,hl2,hr]
end
section
variable {τ:Type} {c:τ→List AV} {xs:List τ} {M:Mem} {id t s sz L i j n:Nat} {kn:Kn} {x x' v v' w:AV} {cs cs' vs vs' ws:List AV} {o:Ob}
theorem allTree_map (hf:Fl c sz):allTree (xs.map c)=true:=hf.rows xs
theorem rCell_tree {d:Nat} (h:treeOk x=true):rCell M (d + 1) x=x:=by
 cases x with
 | sl oo es=>cases oo with
  | none=>rfl
  | some t=>simp [treeOk] at h
 | _=>first | rfl | simp [treeOk] at h
theorem ra1_loc (ho:M[id]? = some (.live o)) (hL:o.es.length=L) (hr:o.es[i]? = some cs) (hc:(cs.drop j).map (rCell M 3)=cs') (ht:cs'.all treeOk=true∧0 < cs'.length):rArg1 M (.loc id L i j) = .pt none cs':=by
 have hlen:cs'.length=cs.length - j:=by rw [← hc]; simp
 simp only [rArg1,getOb_of ho hL,Option.bind_some,hr]
 split
 ·rename_i h
  have:cs.drop j=cs':=by
   rw [← hc]
   conv=>lhs; rw [← List.map_id (cs.drop j)]
   refine List.map_congr_left fun y hy=>?_
   exact (rCell_tree (List.all_eq_true.1 h.1 y hy)).symm
  rw [this]
 ·rw [hc]; unfold treePt; rw [if_pos ht]
theorem ra0:([]:List AV).map (rArg M)=[]:=rfl
theorem ra1 (h:rArg M x=x') (hr:vs.map (rArg M)=vs'):(x::vs).map (rArg M)=x'::vs':=by subst h hr; rfl
theorem cl {C:Nat→CallF} {S:TypeId→Nat} {rw_ wk_:Nat→Bool} {f:Nat} {args:List AV} (hrw:rw_ f=false) (hwk:wk_ f=false) (ha:args=vs) (hr:vs.map (rArg M)=vs') (hf:Ev (fun k=>C k f vs' []) (fun p=>rRes p.2 p.1=v)) (ho:vs.any hasRef=true→ownAll v=true) :
  Ev (fun k=>aCall S rw_ wk_ (C k) false n f args M) (fun p=>p=(v,.keep)):=by
 subst ha hr
 obtain ⟨p,hp,K,hK⟩:=hf
 refine ⟨(v,.keep),rfl,K,fun k hk=>?_⟩
 have h1:=hK k hk
 simp only at h1
 show aCall S rw_ wk_ (C k) false n f args M=_
 unfold aCall
 rw [if_neg (by rw [hrw]; simp),h1,Option.bind_some,hp,if_pos ho]
 simp [hwk]
theorem clW {C:Nat→CallF} {S:TypeId→Nat} {rw_ wk_:Nat→Bool} {f:Nat} {args:List AV} (hrw:rw_ f=false) (hwk:wk_ f=true) (ha:args=vs) (hr:vs.map (rArg M)=vs') (hf:Ev (fun k=>C k f vs' []) (fun p=>wkR (rRes p.2 p.1)=v)) (ho:vs.any hasRef=false) :
  Ev (fun k=>aCall S rw_ wk_ (C k) false n f args M) (fun p=>p=(v,.keep)):=by
 subst ha hr
 obtain ⟨p,hp,K,hK⟩:=hf
 refine ⟨(v,.keep),rfl,K,fun k hk=>?_⟩
 have h1:=hK k hk
 simp only at h1
 show aCall S rw_ wk_ (C k) false n f args M=_
 unfold aCall
 rw [if_neg (by rw [hrw]; simp),h1,Option.bind_some,if_pos (by rw [ho]; simp),← hp]
 simp [hwk]
theorem clO {C:Nat→CallF} {S:TypeId→Nat} {rw_ wk_:Nat→Bool} {f:Nat} {args:List AV} (hrw:rw_ f=false) (hwk:wk_ f=true) (ha:args=vs) (hr:vs.map (rArg M)=vs') (hf:Ev (fun k=>C k f vs' []) (fun p=>wkR (rRes p.2 p.1)=v∧ownAll (rRes p.2 p.1)=true)) :
  Ev (fun k=>aCall S rw_ wk_ (C k) false n f args M) (fun p=>p=(v,.keep)):=by
 subst ha hr
 obtain ⟨p,hp,K,hK⟩:=hf
 refine ⟨(v,.keep),rfl,K,fun k hk=>?_⟩
 have h1:=hK k hk
 simp only at h1
 show aCall S rw_ wk_ (C k) false n f args M=_
 unfold aCall
 rw [if_neg (by rw [hrw]; simp),h1,Option.bind_some,if_pos (fun _=>hp.2),← hp.1]
 simp [hwk]
theorem wkH {x y z:AV} (h:x=y) (hw:wkR y=z):wkR x=z:=by subst h; exact hw
theorem wkO {x y z:AV} (h:x=y) (hw:wkR y=z) (ho:ownAll y=true):wkR x=z∧ownAll x=true:=by subst h; exact ⟨hw,ho⟩
theorem Ev.callT {C:Nat→CallF} {S:TypeId→Nat} {rw_ wk_:Nat→Bool} {f:Nat} {args:List AV} {l:List Ob} (hrw:rw_ f=false) (ha:args=vs) (hr:vs.map (rArg M)=vs') (hf:Ev (fun k=>C k f vs' []) (fun p=>rRes p.2 p.1=v)) (ht:thawed S n v=some (v',.push l)) :
  Ev (fun k=>aCall S rw_ wk_ (C k) true n f args M) (fun p=>p=(v',.push l)):=by
 subst ha hr
 obtain ⟨p,hp,K,hK⟩:=hf
 refine ⟨(v',.push l),rfl,K,fun k hk=>?_⟩
 have h1:=hK k hk
 simp only at h1
 show aCall S rw_ wk_ (C k) true n f args M=_
 have ho:ownAll v=true:=by
  unfold thawed at ht
  split at ht
  ·rename_i h; exact h.1
  ·cases ht
 unfold aCall
 rw [if_neg (by rw [hrw]; simp),h1,Option.bind_some,hp,if_pos (fun _=>ho)]
 simp [ht]
theorem Ev.callW {C:Nat→CallF} {S:TypeId→Nat} {rw_ wk_:Nat→Bool} {f:Nat} {args:List AV} {R:AV×Mem→Prop} (hrw:rw_ f=true) (ha:args=vs) (hf:Ev (fun k=>C k f vs M) R) :
  Ev (fun k=>aCall S rw_ wk_ (C k) false n f args M) (fun p=>∃ M',R (p.1,M')∧p.2 = .put M'):=by
 subst ha
 obtain ⟨p,hp,K,hK⟩:=hf
 refine ⟨(p.1,.put p.2),⟨p.2,hp,rfl⟩,K,fun k hk=>?_⟩
 have h1:=hK k hk
 simp only at h1
 show aCall S rw_ wk_ (C k) false n f args M=_
 unfold aCall
 rw [if_pos hrw,h1]; rfl
def FlF {τ:Type} (c:τ→List AV):Prop:=∀ x,(c x).all flatC=true
theorem FlF.rows {τ:Type} {c:τ→List AV} (h:FlF c) (xs:List τ):((xs.map c).all fun r=>r.all flatC)=true:=List.all_eq_true.2 fun y hy=>by
 obtain ⟨x,_,rfl⟩:=List.mem_map.1 hy; exact h x
theorem rr_win {n:Nat} (ho:M[id]? = some (.live ⟨.grow,t,s,xs.map c⟩)) (hL:L=xs.length) (hn:n≤xs.length) (hf:Fl c sz):rRes1 M (.lsl id L 0 n) = .sl (some t) ((xs.take n).map c):=by
 subst hL
 simp only [rRes1,getOb_of ho (by simp:_=xs.length)]
 rw [if_pos ⟨trivial,trivial,hn,hf.rows xs⟩,List.map_take]
theorem rr_row (ho:M[id]? = some (.live ⟨.grow,t,s,xs.map c⟩)) (hL:L=xs.length) (hf:Fl c sz):rRes1 M (.lsl id L 0 L) = .sl (some t) (xs.map c):=by
 rw [rr_win ho hL (by omega) hf,List.take_of_length_le (by omega)]
theorem rr_agg (h:cs.map (rRes1 M)=cs'):rRes2 M (.agg cs) = .agg cs':=by subst h; rfl
theorem rr_tup (h:vs.map (rRes2 M)=vs'):rRes M (.tup vs) = .tup vs':=by subst h; rfl
theorem mp0 {f:AV→AV}:([]:List AV).map f=[]:=rfl
theorem mp1 {f:AV→AV} (h:f x=x') (hr:vs.map f=vs'):(x::vs).map f=x'::vs':=by subst h hr; rfl
end
end Go.Ab
