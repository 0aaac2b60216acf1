/- Loops, calls and results, told by functions on plain data. -/
import Derived.Test.YtkdinadmheomfaaGreatAbOpsL
set_option linter.unusedVariables false
namespace Go.Ab
open Go
section
variable {S R:Type}
def Gz (tb:S->Option (S⊕R)):Nat->S->Option R
 | 0,_=>none
 | n + 1,s=>match tb s with | none=>none | some (.inl s')=>Gz tb n s' | some (.inr r)=>some r
theorem zL {tb:S->Option (S⊕R)}:∀ {n m:Nat} {s:S} {r:R},Gz tb n s=some r->n<=m->Gz tb m s=some r
 | 0,_,_,_,h,_=>by cases h
 | n + 1,0,_,_,_,hm=>by omega
 | n + 1,m + 1,s,r,h,hm=>by
  unfold Gz at h ⊢
  split at h
  ·cases h
  ·exact zL h (by omega)
  ·exact h
open Classical in
noncomputable def Lw (tb:S->Option (S⊕R)) (s:S):Option R:=if h:∃ r n,Gz tb n s=some r then some (Classical.choose h) else none
theorem BA {tb:S->Option (S⊕R)} {s:S} {r:R}:Lw tb s=some r↔∃ n,Gz tb n s=some r:=by
 unfold Lw
 constructor
 ·intro h
  split at h
  ·rename_i D
   cases h
   exact Classical.choose_spec D
  ·cases h
 ·rintro ⟨n,F⟩
  have D:∃ r n,Gz tb n s=some r:=⟨r,n,F⟩
  rw [dif_pos D]
  obtain ⟨m,G⟩:=Classical.choose_spec D
  have a:=zL F (Nat.le_max_left n m)
  have b:=zL G (Nat.le_max_right n m)
  rw [<- a.symm.trans b |> Option.some.inj |> Eq.symm]
theorem e9 {tb:S->Option (S⊕R)} {s s':S} (h:tb s=some (.inl s')):Lw tb s=Lw tb s':=by
 have F:∀ r,Lw tb s=some r↔Lw tb s'=some r:=by
  intro r
  rw [BA,BA]
  constructor
  ·rintro ⟨n,D⟩
   cases n with
   | zero=>cases D
   | succ n=>unfold Gz at D; rw [h] at D; exact ⟨n,D⟩
  ·rintro ⟨n,D⟩
   exact ⟨n + 1,by unfold Gz; rw [h]; exact D⟩
 cases h1:Lw tb s with
 | some r=>rw [(F r).1 h1]
 | none=>cases h2:Lw tb s' with
  | none=>rfl
  | some r=>rw [(F r).2 h2] at h1; cases h1
theorem fm {tb:S->Option (S⊕R)} {s:S} {r:R} (h:tb s=some (.inr r)):Lw tb s=some r:=BA.2 ⟨1,by unfold Gz; rw [h]⟩
end
theorem EY {S R:Type} {tb:S->Option (S⊕R)} {RS:S->b4->bs->Prop} {RR:R->Ex->b4->bs->Prop} {a:Nat->St} {l:List Nat}
  (N:∀ s r,tb s=some r->∀ e M,RS s e M->Ev (fun k=>(a k (prune l e) M).bind fun q=>some q) (fun q:oZ=>match r with | .inl s'=>q.1 = .nrm/\RS s' q.2.1 q.2.2 | .inr r'=>q.1≠.nrm/\RR r' q.1 q.2.1 q.2.2)) :
  ∀ (n:Nat) (s:S) (r:R) (e:b4) (M:bs),Gz tb n s=some r->RS s e M->∃ q:oZ,RR r q.1 q.2.1 q.2.2/\∃ K,∀ k,K<=k->∀ j,n<=j->cD l (a k) j e M=some q
 | 0,_,_,_,_,h,_=>by cases h
 | n + 1,s,r,e,M,h,hs=>by
  unfold Gz at h
  split at h
  ·cases h
  ·rename_i s' U
   obtain ⟨q,O,K,J⟩:=N _ _ U e M hs
   obtain ⟨F,G⟩:=O
   obtain ⟨af,ab,Y,ac⟩:=EY N n s' r q.2.1 q.2.2 h G
   refine ⟨af,ab,max K Y,fun k X j ad=>?_⟩
   obtain ⟨i,rfl⟩:∃ i,j=i + 1:=⟨j - 1,by omega⟩
   have D:=J k (by omega)
   have I:a k (prune l e) M=some q:=by cases h5:a k (prune l e) M with
    | none=>simp [h5] at D
    | some ae=>simp [h5] at D; rw [D]
   obtain ⟨x,aa,Z⟩:=q
   simp only at F
   subst F
   unfold cD
   rw [I]
   exact ac k (by omega) i (by omega)
  ·rename_i r' U
   cases h
   obtain ⟨q,O,K,J⟩:=N _ _ U e M hs
   obtain ⟨F,G⟩:=O
   refine ⟨q,G,K,fun k X j ad=>?_⟩
   obtain ⟨i,rfl⟩:∃ i,j=i + 1:=⟨j - 1,by omega⟩
   have D:=J k X
   have I:a k (prune l e) M=some q:=by cases h5:a k (prune l e) M with
    | none=>simp [h5] at D
    | some ae=>simp [h5] at D; rw [D]
   obtain ⟨x,aa,Z⟩:=q
   unfold cD
   rw [I]
   cases x with
   | nrm=>exact absurd rfl F
   | _=>rfl
theorem Ev.loop {β S R:Type} {K:Nat->oZ->Option β} {Q:β->Prop} {e:b4} {M:bs} {tb:S->Option (S⊕R)} {RS:S->b4->bs->Prop} {RR:R->Ex->b4->bs->Prop} {a:Nat->St} {l:List Nat} {s:S} {r:R}
  (U:∀ s r,tb s=some r->∀ e M,RS s e M->Ev (fun k=>(a k (prune l e) M).bind fun q=>some q) (fun q:oZ=>match r with | .inl s'=>q.1 = .nrm/\RS s' q.2.1 q.2.2 | .inr r'=>q.1≠.nrm/\RR r' q.1 q.2.1 q.2.2))
  (h:Lw tb s=some r) (Y:RS s e M) (J:∀ x D M',RR r x D M'->Ev (fun k=>K k (x,D,M')) Q):Ev (fun k=>(cD l (a k) k e M).bind (K k)) Q:=by
 obtain ⟨n,X⟩:=BA.1 h
 obtain ⟨q,I,F,N⟩:=EY U n s r e M X Y
 obtain ⟨y,Z,G,O⟩:=J _ _ _ I
 refine ⟨y,Z,max (max F G) n,fun k aa=>?_⟩
 show (cD l (a k) k e M).bind (K k)=some y
 rw [N k (by omega) k (by omega)]
 exact O k (by omega)
def yR (P:Program) (rs:List ResultVar):oZ->Option (AV×bs):=fun q=>match q.1 with | .ext _=>none | _=>(ju P q.2.1 q.2.2 rs).map fun vs=>(s2 vs,q.2.2)
theorem Ev.enter {P:Program} {rs:List ResultVar} {C:Nat->bh} {f:Nat} {args:List AV} {M:bs} {F:Nat->St} {Q:AV×bs->Prop} (D:∀ k,C (k + 1) f args M=CX P rs (F k) args M)
  (h:Ev (fun k=>(F k (pV 0 args) M).bind (yR P rs)) Q):Ev (fun k=>C k f args M) Q:=by
 refine Ev.succ (Ev.congr (fun k=>?_) h)
 rw [D k]
 unfold CX yR
 cases F k (pV 0 args) M with
 | none=>rfl
 | some q=>obtain ⟨x,q⟩:=q; cases x <;> rfl
section
variable {P:Program} {rs:List ResultVar} {e:b4} {M:bs} {vs vs':List AV} {v v':AV} {Q:AV×bs->Prop} {t a sz:Nat} {ag:Bool}
theorem eR (F:ju P e M rs=some vs) (D:Q (s2 vs,M)):Ev (fun _:Nat=>yR P rs (.ret,e,M)) Q:=by
 have:yR P rs (.ret,e,M)=some (s2 vs,M):=by unfold yR; simp [F]
 rw [this]; exact Ev.ret D
theorem eN (F:ju P e M rs=some vs) (D:Q (s2 vs,M)):Ev (fun _:Nat=>yR P rs (.nrm,e,M)) Q:=by
 have:yR P rs (.nrm,e,M)=some (s2 vs,M):=by unfold yR; simp [F]
 rw [this]; exact Ev.ret D
theorem bK:ju P e M []=some []:=rfl
theorem bB (h:a3 e t=v) (D:ju P e M rs=some vs):ju P e M (.tmp t::rs)=some (v::vs):=by subst h; simp [ju,AB,D]
theorem eC (J:qo P t=true/\Program.cellsAgg P t=ag/\P.cellsOf t=sz) (D:keep (oK ag sz (a3 e a) M)=some (v,.keep)) (O:ju P e M rs=some vs):ju P e M (.cell a t::rs)=some (v::vs):=by
 obtain ⟨F,G,I⟩:=J
 have N:oK ag sz (a3 e a) M=some v:=by
  cases h:oK ag sz (a3 e a) M with
  | none=>rw [h] at D; cases D
  | some w=>rw [h] at D; simp only [keep,Option.map_some,Option.some.injEq,Prod.mk.injEq] at D; rw [D.1]
 simp [ju,AB,F,G,I,N,O]
end
section
variable {τ:Type} {c:τ->List AV} {xs:List τ} {M:bs} {id t s sz L i j n:Nat} {kn:Kn} {x x' v v' w:AV} {cs cs' vs vs' ws:List AV} {o:Ob}
theorem yf (D:Fl c sz):uv (xs.map c)=true:=D.rows xs
theorem Nn (G:M[id]? = some (.live ⟨kn,t,s,xs.map c⟩)) (D:L=xs.length) (F:Fl c sz):xe M (.lsl id L 0 L) = .sl none (xs.map c):=by
 have:=OY (M:=M) (x:=.lsl id L 0 L) rfl G D
 simp only [xe,sW,ls,this,yf F,if_true]
theorem y7 (G:M[id]? = some (.live ⟨kn,t,s,xs.map c⟩)) (D:L=xs.length) (F:Fl c sz):sW M (.lsl id L 0 L) = .sl none (xs.map c):=Nn G D F
theorem Du {d:Nat} (h:cG x=true):ls M (d + 1) x=x:=by
 cases x with
 | sl D es=>cases D with
  | none=>rfl
  | some t=>simp [cG] at h
 | _=>first | rfl | simp [cG] at h
theorem kq (G:M[id]? = some (.live o)) (F:o.es.length=L) (I:o.es[i]? = some cs) (D:(cs.drop j).map (ls M 3)=cs') (J:cs'.all cG=true/\0 < cs'.length):sW M (.loc id L i j) = .pt none cs':=by
 have O:cs'.length=cs.length - j:=by rw [<- D]; simp
 simp only [sW,gU G F,Option.bind_some,I]
 split
 ·rename_i h
  have:cs.drop j=cs':=by
   rw [<- D]
   conv=>lhs; rw [<- List.map_id (cs.drop j)]
   refine List.map_congr_left fun y N=>?_
   exact (Du (List.all_eq_true.1 h.1 y N)).symm
  rw [this]
 ·rw [D]; unfold treePt; rw [if_pos J]
theorem MS (h:cs.map (sW M)=cs'):xe M (.agg cs) = .agg cs':=by subst h; rfl
theorem ER:([]:List AV).map (xe M)=[]:=rfl
theorem zV (h:xe M x=x') (D:vs.map (xe M)=vs'):(x::vs).map (xe M)=x'::vs':=by subst h D; rfl
theorem cl {C:Nat->bh} {S:TypeId->Nat} {D F:Nat->Bool} {f:Nat} {args:List AV} (Z:D f=false) (aa:F f=false) (J:args=vs) (Y:vs.map (xe M)=vs') (N:Ev (fun k=>C k f vs' []) (fun p=>cp p.2 p.1=v)) (U:vs.any up=true->iu v=true) :
  Ev (fun k=>ld S D F (C k) false n f args M) (fun p=>p=(v,.keep)):=by
 subst J Y
 obtain ⟨p,X,K,I⟩:=N
 refine ⟨(v,.keep),rfl,K,fun k O=>?_⟩
 have G:=I k O
 simp only at G
 show ld S D F (C k) false n f args M=_
 unfold ld
 rw [if_neg (by rw [Z]; simp),G,Option.bind_some,X,if_pos U]
 simp [aa]
theorem Oo {C:Nat->bh} {S:TypeId->Nat} {D F:Nat->Bool} {f:Nat} {args:List AV} (Z:D f=false) (aa:F f=true) (J:args=vs) (Y:vs.map (xe M)=vs') (N:Ev (fun k=>C k f vs' []) (fun p=>As (cp p.2 p.1)=v)) (U:vs.any up=false) :
  Ev (fun k=>ld S D F (C k) false n f args M) (fun p=>p=(v,.keep)):=by
 subst J Y
 obtain ⟨p,X,K,I⟩:=N
 refine ⟨(v,.keep),rfl,K,fun k O=>?_⟩
 have G:=I k O
 simp only at G
 show ld S D F (C k) false n f args M=_
 unfold ld
 rw [if_neg (by rw [Z]; simp),G,Option.bind_some,if_pos (by rw [U]; simp),<- X]
 simp [aa]
theorem NB {C:Nat->bh} {S:TypeId->Nat} {D F:Nat->Bool} {f:Nat} {args:List AV} (Y:D f=false) (Z:F f=true) (N:args=vs) (X:vs.map (xe M)=vs') (O:Ev (fun k=>C k f vs' []) (fun p=>As (cp p.2 p.1)=v/\iu (cp p.2 p.1)=true)) :
  Ev (fun k=>ld S D F (C k) false n f args M) (fun p=>p=(v,.keep)):=by
 subst N X
 obtain ⟨p,I,K,J⟩:=O
 refine ⟨(v,.keep),rfl,K,fun k U=>?_⟩
 have G:=J k U
 simp only at G
 show ld S D F (C k) false n f args M=_
 unfold ld
 rw [if_neg (by rw [Y]; simp),G,Option.bind_some,if_pos (fun _=>I.2),<- I.1]
 simp [Z]
theorem E7 {x y z:AV} (h:x=y) (D:As y=z):As x=z:=by subst h; exact D
theorem AA {x y z:AV} (h:x=y) (F:As y=z) (D:iu y=true):As x=z/\iu x=true:=by subst h; exact ⟨F,D⟩
theorem Dr {vs vs':List AV} (h:vs.map Lt=vs'):As (.tup vs) = .tup vs':=by subst h; rfl
theorem xB {vs vs':List AV} (h:vs.map NE=vs'):Lt (.agg vs) = .agg vs':=by subst h; rfl
theorem rS {x:AV} (h:oF x=true):NE x=x:=by cases x <;> first | rfl | simp [oF] at h
theorem Ev.callT {C:Nat->bh} {S:TypeId->Nat} {F I:Nat->Bool} {f:Nat} {args:List AV} {l:List Ob} (aa:F f=false) (N:args=vs) (Z:vs.map (xe M)=vs') (O:Ev (fun k=>C k f vs' []) (fun p=>cp p.2 p.1=v)) (D:xz S n v=some (v',.push l)) :
  Ev (fun k=>ld S F I (C k) true n f args M) (fun p=>p=(v',.push l)):=by
 subst N Z
 obtain ⟨p,Y,K,J⟩:=O
 refine ⟨(v',.push l),rfl,K,fun k U=>?_⟩
 have G:=J k U
 simp only at G
 show ld S F I (C k) true n f args M=_
 have X:iu v=true:=by
  unfold xz at D
  split at D
  ·rename_i h; exact h.1
  ·cases D
 unfold ld
 rw [if_neg (by rw [aa]; simp),G,Option.bind_some,Y,if_pos (fun _=>X)]
 simp [D]
theorem Ev.callW {C:Nat->bh} {S:TypeId->Nat} {D F:Nat->Bool} {f:Nat} {args:List AV} {R:AV×bs->Prop} (X:D f=true) (Y:F f=false) (J:args=vs) (N:Ev (fun k=>C k f vs M) R) :
  Ev (fun k=>ld S D F (C k) false n f args M) (fun p=>∃ M',R (p.1,M')/\p.2 = .put M'):=by
 subst J
 obtain ⟨p,U,K,I⟩:=N
 refine ⟨(p.1,.put p.2),⟨p.2,U,rfl⟩,K,fun k O=>?_⟩
 have G:=I k O
 simp only at G
 show ld S D F (C k) false n f args M=_
 unfold ld
 simp only [JO,Y,if_pos X]
 rw [if_neg (by simp)]
 rw [G]; rfl
def OW (R:AV×bs->Prop) (x:AV×bs):Prop:=∃ y,R (y,x.2)/\Gy y=x.1
theorem Ev.callO {J:List AV} {G:bs} {C:Nat->bh} {S:TypeId->Nat} {D F:Nat->Bool} {f:Nat} {args:List AV} {R:AV×bs->Prop} (Z:D f=true) (ab:F f=true) (O:args=vs) (ac:kY li vs M=(J,G)) (aa:J.map NF=vs') (U:Ev (fun k=>C k f vs' G) R) :
  Ev (fun k=>ld S D F (C k) false n f args M) (fun p=>∃ M',OW R (p.1,M')/\p.2 = .put M'):=by
 subst O aa
 obtain ⟨p,Y,K,N⟩:=U
 refine ⟨(Gy p.1,.put p.2),⟨p.2,⟨p.1,Y,rfl⟩,rfl⟩,K,fun k X=>?_⟩
 have I:=N k X
 simp only at I
 show ld S D F (C k) false n f args M=_
 unfold ld
 simp only [JO,ab,ac,if_pos Z,if_true]
 rw [I]; rfl
def JP {τ:Type} (c:τ->List AV):Prop:=∀ x,(c x).all oF=true
theorem JP.rows {τ:Type} {c:τ->List AV} (h:JP c) (xs:List τ):((xs.map c).all fun r=>r.all oF)=true:=List.all_eq_true.2 fun y D=>by
 obtain ⟨x,_,rfl⟩:=List.mem_map.1 D; exact h x
theorem Nv {n:Nat} (I:M[id]? = some (.live ⟨.grow,t,s,xs.map c⟩)) (D:L=xs.length) (G:n<=xs.length) (F:Fl c sz):mb M (.lsl id L 0 n) = .sl (some t) ((xs.take n).map c):=by
 subst D
 simp only [mb,gU I (by simp:_=xs.length)]
 rw [if_pos ⟨trivial,trivial,G,F.rows xs⟩,List.map_take]
theorem eh (G:M[id]? = some (.live ⟨.grow,t,s,xs.map c⟩)) (D:L=xs.length) (F:Fl c sz):mb M (.lsl id L 0 L) = .sl (some t) (xs.map c):=by
 rw [Nv G D (by omega) F,List.take_of_length_le (by omega)]
theorem oT (h:cs.map (mb M)=cs'):uf M (.agg cs) = .agg cs':=by subst h; rfl
theorem jP (h:vs.map (uf M)=vs'):cp M (.tup vs) = .tup vs':=by subst h; rfl
theorem ru {f:AV->AV}:([]:List AV).map f=[]:=rfl
theorem hD {f:AV->AV} (h:f x=x') (D:vs.map f=vs'):(x::vs).map f=x'::vs':=by subst h D; rfl
end
end Go.Ab
