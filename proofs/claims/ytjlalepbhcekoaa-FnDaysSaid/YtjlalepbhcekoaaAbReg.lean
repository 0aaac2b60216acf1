/- Regions whose operations come in the text's order. -/
import Derived.Test.YtjlalepbhcekoaaAbStep
set_option linter.unusedVariables false
set_option linter.unusedSimpArgs false
namespace Go.Ab
open Go Go.RowKit
section
variable {P:Program} {S:TypeId→Nat} {B:Nat} {w w':World} {M A:Mem} {ρ ρ':Pm}
theorem get_pend {A:Mem} {k i:Nat}:(A++List.replicate k Ent.pend)[i]? = if i < A.length then A[i]? else if i < A.length + k then some .pend else none:=by
 by_cases h:i < A.length
 ·rw [if_pos h,List.getElem?_append_left h]
 ·rw [if_neg h,List.getElem?_append_right (by omega)]
  by_cases h2:i < A.length + k
  ·rw [if_pos h2,List.getElem?_replicate,if_pos (by omega)]
  ·rw [if_neg h2,List.getElem?_eq_none (by simp; omega)]
theorem live_pend {A:Mem} {k i:Nat} {o:Ob}:(A++List.replicate k Ent.pend)[i]? = some (.live o)↔A[i]? = some (.live o):=by
 rw [get_pend]
 by_cases h:i < A.length
 ·rw [if_pos h]
 ·rw [if_neg h,List.getElem?_eq_none (by omega)]
  split <;> simp
theorem held_pend {k b:Nat}:Held (A++List.replicate k Ent.pend) ρ b↔Held A ρ b:=by
 constructor
 ·rintro ⟨id,o,c,h1,h2⟩; exact ⟨id,o,c,live_pend.1 h1,h2⟩
 ·rintro ⟨id,o,c,h1,h2⟩; exact ⟨id,o,c,live_pend.2 h1,h2⟩
theorem ref_pend {k:Nat}:Ref (A++List.replicate k Ent.pend) ρ=Ref A ρ:=by
 funext id L
 unfold Ref
 rw [get_pend]
 by_cases h:id < A.length
 ·rw [if_pos h]
 ·rw [if_neg h,List.getElem?_eq_none (by omega)]
  split <;> first | rfl | (rename_i h; split at h <;> cases h)
theorem view_pend {k:Nat}:View w (A++List.replicate k Ent.pend) ρ=View w A ρ:=by
 funext b
 unfold View
 have:Held (A++List.replicate k Ent.pend) ρ b=Held A ρ b:=propext held_pend
 rw [this]
theorem mr_pend {k:Nat} (h:MR S B w A ρ):MR S B w (A++List.replicate k Ent.pend) ρ:=by
 refine ⟨fun id o h1=>?_,fun id id' o o' b c c' h1 h2=>h.inj id id' o o' b c c' (live_pend.1 h1) (live_pend.1 h2),h.hid,⟨h.lo.1,fun id o b c h1=>h.lo.2 id o b c (live_pend.1 h1)⟩,h.fx⟩
 rw [view_pend,ref_pend]
 exact h.obj id o (live_pend.1 h1)
theorem step_pend {k:Nat}:Step w A ρ w (A++List.replicate k Ent.pend) ρ:=
 ⟨rfl,rfl,rfl,Nat.le_refl _,fun _ _ _=>rfl,by rw [ref_pend]; exact RefLe.refl _,fun _ _ h=>held_pend.1 h,rfl,fun _ ⟨o,h1,h2⟩=>.inl ⟨o,live_pend.2 h1,h2⟩⟩
theorem mext_pend {k:Nat}:MExt A (A++List.replicate k Ent.pend):=fun id h=>by rw [get_pend,if_pos h]
theorem fill_pend:∀ (l:List Ob) (A:Mem),fillP (A++List.replicate l.length Ent.pend) A.length l=A++l.map .live
 | [],A=>by simp [fillP]
 | o::l,A=>by
  have e:(A++List.replicate (l.length + 1) Ent.pend).set A.length (.live o)=(A++[.live o])++List.replicate l.length Ent.pend:=by
   rw [List.replicate_succ,List.set_append_right _ _ (Nat.le_refl _),Nat.sub_self]
   simp
  simp only [fillP,List.length_cons]
  rw [e,show A.length + 1=(A++[Ent.live o]).length by simp]
  refine Eq.trans (fill_pend l (A++[Ent.live o])) ?_
  simp
theorem op_alone {c:Cx} {call:CallF} (hcall:CallOk c.P call) (hA:MR c.P.cellsOf B w A ρ) {ob th:Bool} {o:Oper} {e:Env} {a:Act} {y:AV} {eff:Eff}
  (hs:∀ t,RV c.P.cellsOf B w A ρ (eget e t) (a.tmps.getD t Go.undef)) (h:evalOp c call ob th A.length o e A=some (y,eff)):OpOk c.P B w A ρ o a (eff.on A) y:=by
 cases eff with
 | keep=>exact op_sound (n:=A.length) hcall (MExt.refl A) hA hs h trivial
 | put M'=>exact op_sound (n:=A.length) hcall (MExt.refl A) hA hs h rfl
 | push l=>
  intro K Q hK
  have:=op_sound (A:=A++List.replicate l.length Ent.pend) (n:=A.length) hcall mext_pend (mr_pend hA) (fun t=>step_pend.rv (hs t)) h (fun k hk=>by rw [get_pend,if_neg (by omega),if_pos (by omega)])
  refine this K Q (fun u w' ρ' h1 h2 h3=>?_)
  have e1:effP (A++List.replicate l.length Ent.pend) A.length (.push l)=A++l.map .live:=fill_pend l A
  rw [e1] at h1 h2 h3
  exact hK u w' ρ' (step_pend.trans h1) h2 h3
theorem eget_prune (l:List Nat) (e:Env) (t:Nat):eget (prune l e) t=eget e t∨eget (prune l e) t = .undef:=by
 induction l with
 | nil=>exact .inr rfl
 | cons x l ih=>
  simp only [prune,List.map_cons,eget]
  by_cases h:Nat.beq x t=true
  ·rw [if_pos h]
   rw [Nat.eq_of_beq_eq_true h]
   exact .inl rfl
  ·rw [if_neg h]; exact ih
theorem eget_prune_mem {l:List Nat} (e:Env) {t:Nat} (h:eget (prune l e) t≠.undef):t ∈ l:=by
 induction l with
 | nil=>exact absurd rfl h
 | cons x l ih=>
  simp only [prune,List.map_cons,eget] at h
  by_cases hx:Nat.beq x t=true
  ·rw [Nat.eq_of_beq_eq_true hx]; simp
  ·rw [if_neg hx] at h; exact List.mem_cons_of_mem _ (ih h)
theorem guard_sound {c:Cx} {ops:Array Oper} {o:Oper} {e:Env} {a:Act} {x:Option (AV×Eff)} {y:AV} {eff:Eff} {V:Nat→Option Obj} {R:RefF} (hg:∀ t ∈ gds ops o,RC S V B R (eget e t) (a.tmps.getD t Go.undef)) (h:aGuard (guardVal ops e o) x=some (y,eff)) :
  (Region.wanted o (yielded ops a.tmps)=true∧x=some (y,eff))∨(Region.wanted o (yielded ops a.tmps)=false∧y = .un∧eff = .keep):=by
 unfold guardVal at h
 unfold Region.wanted
 cases hgd:o.guard with
 | none=>rw [hgd] at h; exact .inl ⟨rfl,h⟩
 | some jw=>
  obtain ⟨j,wt⟩:=jw
  rw [hgd] at h
  simp only at h ⊢
  cases hd:(ops[j]?).bind (·.dst) with
  | none=>rw [hd] at h; simp [aGuard] at h
  | some t=>
   rw [hd] at h
   simp only at h
   have hrt:=hg t (by simp [gds,hgd,hd])
   have hy:yielded ops a.tmps j=match a.tmps[t]? with | some (.bool b)=>some b | _=>none:=by unfold yielded; rw [hd]; rfl
   rw [hy]
   have hgetD:a.tmps.getD t Go.undef=(a.tmps[t]?).getD Go.undef:=by simp [Array.getD_eq_getD_getElem?]
   rw [hgetD] at hrt
   generalize hev:eget e t=v at h hrt
   cases v with
   | bool b=>
    have hv:(a.tmps[t]?).getD Go.undef = .bool b:=by
     revert hrt; generalize (a.tmps[t]?).getD Go.undef=u; intro hrt; cases hrt; rfl
    have hb:a.tmps[t]? = some (.bool b):=by
     cases hq:a.tmps[t]? with
     | none=>rw [hq] at hv; simp [Go.undef] at hv
     | some u=>rw [hq] at hv; exact congrArg some hv
    rw [hb]
    simp only [aGuard] at h ⊢
    by_cases hbw:(b==wt)=true
    ·rw [if_pos hbw] at h; exact .inl ⟨by simpa using hbw,h⟩
    ·rw [if_neg hbw] at h
     simp only [Option.some.injEq,Prod.mk.injEq] at h
     exact .inr ⟨by simpa using hbw,h.1.symm,h.2.symm⟩
   | un=>
    have hv:(a.tmps[t]?).getD Go.undef=Go.undef:=by
     revert hrt; generalize (a.tmps[t]?).getD Go.undef=u; intro hrt; cases hrt; rfl
    simp only [aGuard,Option.some.injEq,Prod.mk.injEq] at h
    refine .inr ⟨?_,h.1.symm,h.2.symm⟩
    cases hq:a.tmps[t]? with
    | none=>rfl
    | some u=>
     rw [hq] at hv
     simp only [Option.getD_some] at hv
     rw [hv]
     rfl
   | _=>simp [aGuard] at h
structure SR (S:TypeId→Nat) (B:Nat) (nt:Nat) (a:Act) (w:World) (e:Env) (M:Mem) (ρ:Pm):Prop where
 mr:MR S B w M ρ
 env:∀ t,RV S B w M ρ (eget e t) (a.tmps.getD t Go.undef)
 size:nt≤a.tmps.size
 defers:a.defers=[]
theorem put_tmps {a:Act} {d:Option Nat} {u:Value} (t:Nat) (h:∀ x,d=some x→x < a.tmps.size) :
  (a.put d u).tmps.size=a.tmps.size∧(a.put d u).defers=a.defers∧(a.put d u).tmps.getD t Go.undef=if d=some t then u else a.tmps.getD t Go.undef:=by
 cases d with
 | none=>simp [Act.put]
 | some x=>
  refine ⟨by simp [Act.put],rfl,?_⟩
  simp only [Act.put,Array.getD_eq_getD_getElem?,Array.getElem?_setIfInBounds]
  by_cases hx:x=t
  ·subst hx
   simp [h x rfl]
  ·simp [hx]
theorem put_get (e:Env) (d:Option Nat) (v:AV) (t:Nat):eget (put e d v) t=if d=some t then v else eget e t:=by
 cases d with
 | none=>simp [put]
 | some x=>
  simp only [put,eget]
  by_cases hx:x=t
  ·subst hx; simp
  ·rw [if_neg (by intro h; exact hx (Nat.eq_of_beq_eq_true h)),if_neg (by simpa using hx)]
theorem SR.put {nt:Nat} {a:Act} {e:Env} (h:SR S B nt a w e M ρ) {M':Mem} (hst:Step w M ρ w' M' ρ') (hm:MR S B w' M' ρ') {d:Option Nat} (hd:∀ x,d=some x→x < nt) {y:AV} {u:Value} (hy:RV S B w' M' ρ' y u):SR S B nt (a.put d u) w' (put e d y) M' ρ':=by
 have hd':∀ x,d=some x→x < a.tmps.size:=fun x hx=>Nat.lt_of_lt_of_le (hd x hx) h.size
 refine ⟨hm,fun t=>?_,by rw [(put_tmps 0 hd').1]; exact h.size,by rw [(put_tmps (u:=u) 0 hd').2.1]; exact h.defers⟩
 rw [put_get,(put_tmps t hd').2.2]
 by_cases hx:d=some t
 ·rw [if_pos hx,if_pos hx]; exact hy
 ·rw [if_neg hx,if_neg hx]; exact hst.rv (h.env t)
theorem SR.prune {nt:Nat} {a:Act} {e:Env} (h:SR S B nt a w e M ρ) (l:List Nat):SR S B nt a w (prune l e) M ρ:=
 ⟨h.mr,fun t=>by rcases eget_prune l e t with e1 | e1 <;> rw [e1]; exact h.env t; exact .undef _,h.size,h.defers⟩
theorem dstOk_spec {nt:Nat} {o:Oper} (h:dstOk nt o=true):∀ x,o.dst=some x→x < nt:=by
 intro x hx
 unfold dstOk at h
 rw [hx] at h
 simp only [Nat.blt] at h
 exact Nat.le_of_ble_eq_true h
theorem back_sound {c:Cx} {call:CallF} (hcall:CallOk c.P call) {nt:Nat} {ob th:List Nat} {ops:Array Oper} (hdst:∀ o ∈ ops.toList,dstOk nt o=true) {Q:Exit→Act→World→Prop} :
  ∀ (l:List Oper) (i:Nat) (e:Env) (M:Mem) (ρ:Pm) (a:Act) (w:World) (e':Env) (M':Mem),ops.toList.drop i=l→evalBack c call ob th ops (numbered i l) e M=some (e',M')→SR c.P.cellsOf B nt a w e M ρ →
   (∀ a' w' ρ',Step w M ρ w' M' ρ'→SR c.P.cellsOf B nt a' w' e' M' ρ'→Q .normal a' w')→wpOps c.P ops Q (List.range' i l.length) a w
 | [],i,e,M,ρ,a,w,e',M',hl,h,hs,hQ=>by
  simp only [numbered,evalBack,Option.some.injEq,Prod.mk.injEq] at h
  obtain ⟨rfl,rfl⟩:=h
  exact hQ a w ρ (Step.refl _ _ _) hs
 | o::l,i,e,M,ρ,a,w,e',M',hl,h,hs,hQ=>by
  simp only [numbered,evalBack] at h
  obtain ⟨p,hp,h⟩:=Option.bind_eq_some_iff.1 h
  have hi:i < ops.toList.length:=by
   by_cases hlt:i < ops.toList.length
   ·exact hlt
   ·rw [List.drop_eq_nil_of_le (by omega)] at hl; cases hl
  have hcons:=List.drop_eq_getElem_cons hi
  rw [hl] at hcons
  injection hcons with h1 h2
  have ho:ops[i]? = some o:=by rw [← Array.getElem?_toList,List.getElem?_eq_getElem hi,← h1]
  have hom:o ∈ ops.toList:=by rw [h1]; exact List.getElem_mem hi
  simp only [List.length_cons,List.range'_succ]
  rw [wpOps_cons]
  unfold wpOp
  rw [ho]
  simp only
  have hd:=dstOk_spec (hdst o hom)
  rcases guard_sound (c:=c) (fun t _=>hs.env t) hp with ⟨g1,g2⟩ | ⟨g1,g2,g3⟩
  ·rw [if_pos g1]
   refine .inl (op_alone hcall hs.mr (hs.prune (rds o)).env g2 _ _ (fun u w' ρ' s1 s2 s3=>?_))
   exact back_sound hcall hdst l (i + 1) _ _ ρ' _ w' e' M' h2.symm h (hs.put s1 s2 hd s3) (fun a' w2 ρ2 t1 t2=>hQ a' w2 ρ2 (s1.trans t1) t2)
  ·rw [if_neg (by rw [g1]; simp)]
   rw [g2,g3] at h
   refine back_sound hcall hdst l (i + 1) _ _ ρ _ w e' M' h2.symm h (hs.put (Step.refl _ _ _) hs.mr hd .un) hQ
end
end Go.Ab
