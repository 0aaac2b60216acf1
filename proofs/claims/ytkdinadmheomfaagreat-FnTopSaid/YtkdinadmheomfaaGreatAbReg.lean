/- Regions whose operations come in the text's order. -/
import Derived.Test.YtkdinadmheomfaaGreatAbStep
set_option linter.unusedVariables false
set_option linter.unusedSimpArgs false
namespace Go.Ab
open Go Go.RowKit
section
variable {P:Program} {S:TypeId->Nat} {B:Nat} {w w':World} {M A:bs} {ρ ρ':Pm}
theorem wS {A:bs} {k i:Nat}:(A++List.replicate k Ent.pend)[i]? = if i < A.length then A[i]? else if i < A.length + k then some .pend else none:=by
 by_cases h:i < A.length
 ·rw [if_pos h,List.getElem?_append_left h]
 ·rw [if_neg h,List.getElem?_append_right (by omega)]
  by_cases h2:i < A.length + k
  ·rw [if_pos h2,List.getElem?_replicate,if_pos (by omega)]
  ·rw [if_neg h2,List.getElem?_eq_none (by simp; omega)]
theorem n8 {A:bs} {k i:Nat} {o:Ob}:(A++List.replicate k Ent.pend)[i]? = some (.live o)↔A[i]? = some (.live o):=by
 rw [wS]
 by_cases h:i < A.length
 ·rw [if_pos h]
 ·rw [if_neg h,List.getElem?_eq_none (by omega)]
  split <;> simp
theorem AC {k b:Nat}:oQ (A++List.replicate k Ent.pend) ρ b↔oQ A ρ b:=by
 constructor
 ·rintro ⟨id,o,c,D,F⟩; exact ⟨id,o,c,n8.1 D,F⟩
 ·rintro ⟨id,o,c,D,F⟩; exact ⟨id,o,c,n8.2 D,F⟩
theorem Cc {k:Nat}:jK (A++List.replicate k Ent.pend) ρ=jK A ρ:=by
 funext id L
 unfold jK
 rw [wS]
 by_cases h:id < A.length
 ·rw [if_pos h]
 ·rw [if_neg h,List.getElem?_eq_none (by omega)]
  split <;> first | rfl | (rename_i h; split at h <;> cases h)
theorem F7 {k:Nat}:dc w (A++List.replicate k Ent.pend) ρ=dc w A ρ:=by
 funext b
 unfold dc
 have:oQ (A++List.replicate k Ent.pend) ρ b=oQ A ρ b:=propext AC
 rw [this]
theorem Fh {k:Nat} (h:MR S B w A ρ):MR S B w (A++List.replicate k Ent.pend) ρ:=by
 refine ⟨fun id o D=>?_,fun id I o J b c F D G=>h.inj id I o J b c F (n8.1 D) (n8.1 G),h.hid,⟨h.lo.1,fun id o b c D=>h.lo.2 id o b c (n8.1 D)⟩,h.fx⟩
 rw [F7,Cc]
 exact h.obj id o (n8.1 D)
theorem uE {k:Nat}:Step w A ρ w (A++List.replicate k Ent.pend) ρ:=
 ⟨rfl,rfl,rfl,Nat.le_refl _,fun _ _ _=>rfl,by rw [Cc]; exact rk.refl _,fun _ _ h=>AC.1 h,rfl,fun _ ⟨o,D,F⟩=>.inl ⟨o,n8.2 D,F⟩⟩
theorem Gs {k:Nat}:fN A (A++List.replicate k Ent.pend):=fun id h=>by rw [wS,if_pos h]
theorem AX:∀ (l:List Ob) (A:bs),nv (A++List.replicate l.length Ent.pend) A.length l=A++l.map .live
 | [],A=>by simp [nv]
 | o::l,A=>by
  have e:(A++List.replicate (l.length + 1) Ent.pend).set A.length (.live o)=(A++[.live o])++List.replicate l.length Ent.pend:=by
   rw [List.replicate_succ,List.set_append_right _ _ (Nat.le_refl _),Nat.sub_self]
   simp
  simp only [nv,List.length_cons]
  rw [e,show A.length + 1=(A++[Ent.live o]).length by simp]
  refine Eq.trans (AX l (A++[Ent.live o])) ?_
  simp
theorem zQ {c:Cx} {call:bh} (F:o5 c.P call) (hA:MR c.P.cellsOf B w A ρ) {ob th:Bool} {o:Oper} {e:b4} {a:Act} {y:AV} {D:Eff}
  (G:∀ t,RV c.P.cellsOf B w A ρ (a3 e t) (a.tmps.getD t Go.undef)) (h:mv c call ob th A.length o e A=some (y,D)):FY c.P B w A ρ o a (D.on A) y:=by
 cases D with
 | keep=>exact w1 (n:=A.length) F (fN.refl A) hA G h trivial
 | put M'=>exact w1 (n:=A.length) F (fN.refl A) hA G h rfl
 | push l=>
  intro K Q U
  have:=w1 (A:=A++List.replicate l.length Ent.pend) (n:=A.length) F Gs (Fh hA) (fun t=>uE.rv (G t)) h (fun k X=>by rw [wS,if_neg (by omega),if_pos (by omega)])
  refine this K Q (fun u w' ρ' I J N=>?_)
  have O:qq (A++List.replicate l.length Ent.pend) A.length (.push l)=A++l.map .live:=AX l A
  rw [O] at I J N
  exact U u w' ρ' (uE.trans I) J N
theorem zH (l:List Nat) (e:b4) (t:Nat):a3 (prune l e) t=a3 e t∨a3 (prune l e) t = .undef:=by
 induction l with
 | nil=>exact .inr rfl
 | cons x l D=>
  simp only [prune,List.map_cons,a3]
  by_cases h:Nat.beq x t=true
  ·rw [if_pos h]
   rw [Nat.eq_of_beq_eq_true h]
   exact .inl rfl
  ·rw [if_neg h]; exact D
theorem zB {l:List Nat} (e:b4) {t:Nat} (h:a3 (prune l e) t≠.undef):t ∈ l:=by
 induction l with
 | nil=>exact absurd rfl h
 | cons x l D=>
  simp only [prune,List.map_cons,a3] at h
  by_cases hx:Nat.beq x t=true
  ·rw [Nat.eq_of_beq_eq_true hx]; simp
  ·rw [if_neg hx] at h; exact List.mem_cons_of_mem _ (D h)
theorem qO {c:Cx} {ops:Array Oper} {o:Oper} {e:b4} {a:Act} {x:Option (AV×Eff)} {y:AV} {G:Eff} {V:Nat->Option Obj} {R:gC} (J:∀ t ∈ Of ops o,RC S V B R (a3 e t) (a.tmps.getD t Go.undef)) (h:gL (j4 ops e o) x=some (y,G)) :
  (Region.wanted o (yielded ops a.tmps)=true/\x=some (y,G))∨(Region.wanted o (yielded ops a.tmps)=false/\y = .un/\G = .keep):=by
 unfold j4 at h
 unfold Region.wanted
 cases hgd:o.guard with
 | none=>rw [hgd] at h; exact .inl ⟨rfl,h⟩
 | some U=>
  obtain ⟨j,X⟩:=U
  rw [hgd] at h
  simp only at h ⊢
  cases hd:(ops[j]?).bind (·.dst) with
  | none=>rw [hd] at h; simp [gL] at h
  | some t=>
   rw [hd] at h
   simp only at h
   have D:=J t (by simp [Of,hgd,hd])
   have O:yielded ops a.tmps j=match a.tmps[t]? with | some (.bool b)=>some b | _=>none:=by unfold yielded; rw [hd]; rfl
   rw [O]
   have N:a.tmps.getD t Go.undef=(a.tmps[t]?).getD Go.undef:=by simp [Array.getD_eq_getD_getElem?]
   rw [N] at D
   generalize Y:a3 e t=v at h D
   cases v with
   | bool b=>
    have F:(a.tmps[t]?).getD Go.undef = .bool b:=by
     revert D; generalize (a.tmps[t]?).getD Go.undef=u; intro D; cases D; rfl
    have I:a.tmps[t]? = some (.bool b):=by
     cases hq:a.tmps[t]? with
     | none=>rw [hq] at F; simp [Go.undef] at F
     | some u=>rw [hq] at F; exact congrArg some F
    rw [I]
    simp only [gL] at h ⊢
    by_cases hbw:(b==X)=true
    ·rw [if_pos hbw] at h; exact .inl ⟨by simpa using hbw,h⟩
    ·rw [if_neg hbw] at h
     simp only [Option.some.injEq,Prod.mk.injEq] at h
     exact .inr ⟨by simpa using hbw,h.1.symm,h.2.symm⟩
   | un=>
    have F:(a.tmps[t]?).getD Go.undef=Go.undef:=by
     revert D; generalize (a.tmps[t]?).getD Go.undef=u; intro D; cases D; rfl
    simp only [gL,Option.some.injEq,Prod.mk.injEq] at h
    refine .inr ⟨?_,h.1.symm,h.2.symm⟩
    cases hq:a.tmps[t]? with
    | none=>rfl
    | some u=>
     rw [hq] at F
     simp only [Option.getD_some] at F
     rw [F]
     rfl
   | _=>simp [gL] at h
structure SR (S:TypeId->Nat) (B:Nat) (nt:Nat) (a:Act) (w:World) (e:b4) (M:bs) (ρ:Pm):Prop where
 mr:MR S B w M ρ
 env:∀ t,RV S B w M ρ (a3 e t) (a.tmps.getD t Go.undef)
 size:nt<=a.tmps.size
 defers:a.defers=[]
theorem qn {a:Act} {d:Option Nat} {u:Value} (t:Nat) (h:∀ x,d=some x->x < a.tmps.size) :
  (a.put d u).tmps.size=a.tmps.size/\(a.put d u).defers=a.defers/\(a.put d u).tmps.getD t Go.undef=if d=some t then u else a.tmps.getD t Go.undef:=by
 cases d with
 | none=>simp [Act.put]
 | some x=>
  refine ⟨by simp [Act.put],rfl,?_⟩
  simp only [Act.put,Array.getD_eq_getD_getElem?,Array.getElem?_setIfInBounds]
  by_cases hx:x=t
  ·subst hx
   simp [h x rfl]
  ·simp [hx]
theorem Bp (e:b4) (d:Option Nat) (v:AV) (t:Nat):a3 (put e d v) t=if d=some t then v else a3 e t:=by
 cases d with
 | none=>simp [put]
 | some x=>
  simp only [put,a3]
  by_cases hx:x=t
  ·subst hx; simp
  ·rw [if_neg (by intro h; exact hx (Nat.eq_of_beq_eq_true h)),if_neg (by simpa using hx)]
theorem SR.put {nt:Nat} {a:Act} {e:b4} (h:SR S B nt a w e M ρ) {M':bs} (J:Step w M ρ w' M' ρ') (I:MR S B w' M' ρ') {d:Option Nat} (G:∀ x,d=some x->x < nt) {y:AV} {u:Value} (N:RV S B w' M' ρ' y u):SR S B nt (a.put d u) w' (put e d y) M' ρ':=by
 have F:∀ x,d=some x->x < a.tmps.size:=fun x D=>Nat.lt_of_lt_of_le (G x D) h.size
 refine ⟨I,fun t=>?_,by rw [(qn 0 F).1]; exact h.size,by rw [(qn (u:=u) 0 F).2.1]; exact h.defers⟩
 rw [Bp,(qn t F).2.2]
 by_cases D:d=some t
 ·rw [if_pos D,if_pos D]; exact N
 ·rw [if_neg D,if_neg D]; exact J.rv (h.env t)
theorem SR.prune {nt:Nat} {a:Act} {e:b4} (h:SR S B nt a w e M ρ) (l:List Nat):SR S B nt a w (prune l e) M ρ:=
 ⟨h.mr,fun t=>by rcases zH l e t with e1 | e1 <;> rw [e1]; exact h.env t; exact .undef _,h.size,h.defers⟩
theorem zM {nt:Nat} {o:Oper} (h:Di nt o=true):∀ x,o.dst=some x->x < nt:=by
 intro x D
 unfold Di at h
 rw [D] at h
 simp only [Nat.blt] at h
 exact Nat.le_of_ble_eq_true h
theorem vZ {c:Cx} {call:bh} (J:o5 c.P call) {nt:Nat} {ob th:List Nat} {ops:Array Oper} (N:∀ o ∈ ops.toList,Di nt o=true) {Q:Exit->Act->World->Prop} :
  ∀ (l:List Oper) (i:Nat) (e:b4) (M:bs) (ρ:Pm) (a:Act) (w:World) (D:b4) (M':bs),ops.toList.drop i=l->mZ c call ob th ops (dV i l) e M=some (D,M')->SR c.P.cellsOf B nt a w e M ρ ->
   (∀ F w' ρ',Step w M ρ w' M' ρ'->SR c.P.cellsOf B nt F w' D M' ρ'->Q .normal F w')->wpOps c.P ops Q (List.range' i l.length) a w
 | [],i,e,M,ρ,a,w,D,M',hl,h,hs,hQ=>by
  simp only [dV,mZ,Option.some.injEq,Prod.mk.injEq] at h
  obtain ⟨rfl,rfl⟩:=h
  exact hQ a w ρ (Step.refl _ _ _) hs
 | o::l,i,e,M,ρ,a,w,D,M',hl,h,hs,hQ=>by
  simp only [dV,mZ] at h
  obtain ⟨p,ac,h⟩:=Option.bind_eq_some_iff.1 h
  have O:i < ops.toList.length:=by
   by_cases hlt:i < ops.toList.length
   ·exact hlt
   ·rw [List.drop_eq_nil_of_le (by omega)] at hl; cases hl
  have U:=List.drop_eq_getElem_cons O
  rw [hl] at U
  injection U with h1 h2
  have aa:ops[i]? = some o:=by rw [<- Array.getElem?_toList,List.getElem?_eq_getElem O,<- h1]
  have ab:o ∈ ops.toList:=by rw [h1]; exact List.getElem_mem O
  simp only [List.length_cons,List.range'_succ]
  rw [wpOps_cons]
  unfold wpOp
  rw [aa]
  simp only
  have X:=zM (N o ab)
  rcases qO (c:=c) (fun t _=>hs.env t) ac with ⟨G,I⟩ | ⟨G,I,Z⟩
  ·rw [if_pos G]
   refine .inl (zQ J hs.mr (hs.prune (rds o)).env I _ _ (fun u w' ρ' Y ad ae=>?_))
   exact vZ J N l (i + 1) _ _ ρ' _ w' D M' h2.symm h (hs.put Y ad X ae) (fun F ai aj af ah=>hQ F ai aj (Y.trans af) ah)
  ·rw [if_neg (by rw [G]; simp)]
   rw [I,Z] at h
   refine vZ J N l (i + 1) _ _ ρ _ w D M' h2.symm h (hs.put (Step.refl _ _ _) hs.mr X .un) hQ
end
end Go.Ab
