/- One operation: what the evaluator tells is what the machine does. -/
import Derived.Test.YtjlalepbhcekoaaAbGh
set_option linter.unusedVariables false
set_option linter.unusedSimpArgs false
namespace Go.Ab
open Go Go.RowKit
section
variable {P:Program} {B:Nat} {w:World} {M A:Mem} {ρ:Pm}
theorem elemOfT_spec {t el:TypeId} (h:elemOfT P t=some el):P.underlying t=some (.slice el)∧okT P el=true∧((P.info? el).bind (·.zero)).isSome=true∧(zeroOf P el).length=P.cellsOf el:=by
 unfold elemOfT at h
 split at h
 ·rename_i e he
  split at h
  ·rename_i hc
   obtain rfl:=Option.some.inj h
   have h2:=hc.2
   simp only [zOk,Bool.and_eq_true] at h2
   exact ⟨he,hc.1,h2.1,Nat.eq_of_beq_eq_true h2.2⟩
  ·cases h
 ·cases h
theorem keep_some {x:Option AV} {y:AV} {eff:Eff} (h:keep x=some (y,eff)):x=some y∧eff = .keep:=by
 unfold keep at h
 replace h:=Option.map_eq_some_iff.1 h
 obtain ⟨v,hv,h⟩:=h
 injection h with e1 e2
 exact ⟨by rw [hv,e1],e2.symm⟩
def OpOk (P:Program) (B:Nat) (w:World) (A:Mem) (ρ:Pm) (o:Oper) (a:Act) (A':Mem) (y:AV):Prop:=
 ∀ (K:Act→World→Prop) (Q:Exit→Act→World→Prop),(∀ u w' ρ',Step w A ρ w' A' ρ'→MR P.cellsOf B w' A' ρ'→RV P.cellsOf B w' A' ρ' y u→K (a.put o.dst u) w')→o.wp P a w K Q
theorem ok_value {o:Oper} {a:Act} {u:Value} {y:AV} (hA:MR P.cellsOf B w A ρ) (h:(execOp a.eval o).run P w = .ok (.value u) w) (hy:RV P.cellsOf B w A ρ y u):OpOk P B w A ρ o a A y:=by
 intro K Q hK
 unfold Oper.wp
 rw [h]
 exact hK u w ρ (Step.refl _ _ _) hA hy
theorem ok_done {o:Oper} {a:Act} {s:Sem Value} {A':Mem} {y:AV} (h:execOp a.eval o=(do pure (Next.value (← s)))) (hd:Done P.cellsOf B w A ρ (s.run P w) A' y):OpOk P B w A ρ o a A' y:=by
 intro K Q hK
 obtain ⟨u,w',ρ',h1,h2,h3,h4⟩:=hd
 unfold Oper.wp
 rw [h]
 simp only [Sem.run_bind,h1,Result.andThen_ok,Sem.run_pure]
 exact hK u w' ρ' h2 h3 h4
theorem ok_done2 {o:Oper} {a:Act} {s:Sem Value} {A':Mem} {y:AV} (h:∀ r,s.run P w=r→(execOp a.eval o).run P w=r.andThen fun u w'=>.ok (.value u) w') (hd:Done P.cellsOf B w A ρ (s.run P w) A' y):OpOk P B w A ρ o a A' y:=by
 intro K Q hK
 obtain ⟨u,w',ρ',h1,h2,h3,h4⟩:=hd
 unfold Oper.wp
 rw [h _ h1]
 exact hK u w' ρ' h2 h3 h4
theorem ok_pure {o:Oper} {a:Act} {s:Sem Value} {y:AV} (hA:MR P.cellsOf B w A ρ) (h:execOp a.eval o=(do pure (Next.value (← s)))) (hd:∃ u,s.run P w = .ok u w∧RV P.cellsOf B w A ρ y u):OpOk P B w A ρ o a A y:=by
 obtain ⟨u,h1,h2⟩:=hd
 exact ok_done h ⟨u,w,ρ,h1,Step.refl _ _ _,hA,h2⟩
theorem map_get {α β:Type} {l:List α} {f:α→β} {k:Nat} {y:β} (h:(l.map f)[k]? = some y):∃ x,l[k]? = some x∧f x=y:=by
 rw [List.getElem?_map] at h
 exact Option.map_eq_some_iff.1 h
theorem op_sound {c:Cx} {call:CallF} (hcall:CallOk c.P call) (hm:MExt M A) (hA:MR c.P.cellsOf B w A ρ) {ob th:Bool} {n:Nat} {o:Oper} {e:Env} {a:Act} {y:AV} {eff:Eff}
  (hs:∀ t,RV c.P.cellsOf B w A ρ (eget e t) (a.tmps.getD t Go.undef)) (h:evalOp c call ob th n o e M=some (y,eff)) (hr:Rdy M A n eff):OpOk c.P B w A ρ o a (effP A n eff) y:=by
 have ev:∀ x:Operand,RV c.P.cellsOf B w A ρ (oval e x) (a.eval x):=oval_rc hs
 have evm:∀ x:Option Operand,(x.map (oval e)).isNone=(x.map a.eval).isNone∧∀ q v,x.map (oval e)=some q→x.map a.eval=some v→RV c.P.cellsOf B w A ρ q v:=by
  intro x
  cases x with
  | none=>exact ⟨rfl,by simp⟩
  | some x=>refine ⟨rfl,fun q v h1 h2=>?_⟩; simp at h1 h2; subst h1; subst h2; exact ev x
 have nopend:∀ l:List Ob,eff = .push l→0 < l.length→A[n]? = some .pend:=fun l e1 h0=>by subst e1; exact hr 0 h0
 obtain ⟨dst,op,type,pos,after,guard⟩:=o
 unfold evalOp at h
 cases op with
 | move x=>
  simp only [Option.some.injEq,Prod.mk.injEq] at h
  obtain ⟨rfl,rfl⟩:=h
  exact ok_value hA rfl (ev x)
 | assign x=>
  simp only [Option.some.injEq,Prod.mk.injEq] at h
  obtain ⟨rfl,rfl⟩:=h
  exact ok_value hA rfl (ev x)
 | pick q x z=>
  simp only at h
  replace h:=keep_some h
  obtain ⟨h,rfl⟩:=h
  obtain ⟨b,hb,hy⟩:=pick_rc h (ev q) (ev x) (ev z)
  exact ok_value hA (by simp [execOp,hb,Sem.run_bind,asBool]) hy
 | alloc t=>
  simp only at h
  refine ok_done rfl (gho_ok h hr fun y eff h hr=>?_)
  split at h
  ·rename_i hc
   simp only [Option.some.injEq,Prod.mk.injEq] at h
   obtain ⟨rfl,rfl⟩:=h
   exact alloc_rc hA (hr 0 (by simp)) hc.1 hc.2.1 hc.2.2.1 hc.2.2.2.2
  ·cases h
 | box t x=>
  simp only at h
  split at h
  ·refine ok_done rfl (gho_ok h hr fun y eff h hr=>boxO_rc hm hA ?_ h (ev x))
   unfold aBoxO at h
   split at h
   ·injection h with h; injection h with _ h; subst h; exact hr 0 (by simp)
   ·cases h
  ·replace h:=keep_some h
   obtain ⟨h,rfl⟩:=h
   exact ok_done rfl (box_rc hm hA h (ev x))
 | build t parts=>
  simp only at h
  split at h
  ·rename_i hc
   replace h:=keep_some h
   obtain ⟨h,rfl⟩:=h
   refine ok_pure hA rfl (build_rc hm hA hc.1 hc.2 h (by simp) (fun k p q h1 h2=>?_))
   obtain ⟨p0,h3,rfl⟩:=map_get h1
   have h4:(parts.map fun (i,x)=>(i,a.eval x)).toList[k]? = some q:=by simpa using h2
   rw [Array.toList_map] at h4
   obtain ⟨p1,h5,rfl⟩:=map_get h4
   rw [h3] at h5
   obtain rfl:=Option.some.inj h5
   exact ⟨rfl,ev _⟩
  ·cases h
 | buildSlice t len parts=>
  simp only at h
  replace h:=Option.bind_eq_some_iff.1 h
  obtain ⟨el,hel,h⟩:=h
  replace h:=Option.bind_eq_some_iff.1 h
  obtain ⟨vs,hvs,h⟩:=h
  obtain ⟨e1,e2,e3,e4⟩:=elemOfT_spec hel
  split at h
  rotate_left
  ·cases h
  rename_i hc
  obtain ⟨c1,c2,c3,c4⟩:=hc
  obtain rfl:=Nat.eq_of_beq_eq_true c1
  obtain ⟨g1,g2⟩:=inOrder_spec hvs
  have hlen:(parts.map fun (i,x)=>(i,a.eval x)).size=vs.length:=by rw [g1]; simp
  have hp:∀ (k:Nat) p,(parts.map fun (i,x)=>(i,a.eval x))[k]? = some p→p.1=k:=by
   intro k p hk
   have h4:(parts.map fun (i,x)=>(i,a.eval x)).toList[k]? = some p:=by simpa using hk
   rw [Array.toList_map] at h4
   obtain ⟨p1,h5,rfl⟩:=map_get h4
   have:=g2 k (p1.1,oval e p1.2) (by rw [List.getElem?_map,h5]; rfl)
   simpa using this
  have hrr:∀ (k:Nat) v p,vs[k]? = some v→(parts.map fun (i,x)=>(i,a.eval x))[k]? = some p→RV c.P.cellsOf B w A ρ v p.2:=by
   intro k v p h1 hk
   have h4:(parts.map fun (i,x)=>(i,a.eval x)).toList[k]? = some p:=by simpa using hk
   rw [Array.toList_map] at h4
   obtain ⟨p1,h5,rfl⟩:=map_get h4
   rw [g1,List.map_map] at h1
   obtain ⟨p2,h6,rfl⟩:=map_get h1
   rw [h5] at h6
   obtain rfl:=Option.some.inj h6
   exact ev _
  split at h
  ·refine ok_done rfl (litO_rc hm hA ?_ e1 e2 e3 e4 hlen c2 h hp hrr)
   unfold aLitO at h
   replace h:=Option.bind_eq_some_iff.1 h
   obtain ⟨es,_,h⟩:=h
   split at h
   ·injection h with h; injection h with _ h; exact nopend _ h.symm (by simp)
   ·cases h
  ·replace h:=keep_some h
   obtain ⟨h,rfl⟩:=h
   exact ok_done rfl (litI_rc hm hA hA.lo.1 e1 e2 e3 e4 hlen c2 h hp hrr)
 | load t x=>
  simp only at h
  split at h
  ·rename_i hk
   replace h:=keep_some h
   obtain ⟨h,rfl⟩:=h
   exact ok_pure hA rfl (load_rc hm hA hk h (ev x))
  ·cases h
 | store t x v=>
  simp only at h
  split at h
  ·rename_i hk
   replace h:=Option.map_eq_some_iff.1 h
   obtain ⟨M',h,h2⟩:=h
   injection h2 with e1 e2
   subst e1
   subst e2
   have hAM:A=M:=hr
   subst hAM
   have key:∃ w' ρ',(Instr.storeAt t (a.eval x) (a.eval v)).run c.P w = .ok () w'∧Step w A ρ w' M' ρ'∧MR c.P.cellsOf B w' M' ρ':=by
    split at h
    ·obtain ⟨ρ1,k1,k2,v',k3,k4⟩:=storeG_rc hA hk h (ev x) (ev v)
     obtain ⟨w',g1,g2,g3⟩:=store_rc k2 hk k3 (k1.rv (ev x)) k4
     exact ⟨w',ρ1,g1,k1.trans g2,g3⟩
    ·obtain ⟨w',g1,g2,g3⟩:=store_rc hA hk h (ev x) (ev v)
     exact ⟨w',ρ,g1,g2,g3⟩
   obtain ⟨w',ρ',g1,g2,g3⟩:=key
   intro K Q hK
   unfold Oper.wp
   have:(execOp a.eval { dst,op:=.store t x v,type,pos,after,guard }).run c.P w = .ok .skip w':=by simp [execOp,Sem.run_bind,g1]
   rw [this]
   exact hK Go.undef w' ρ' g2 g3 .un
  ·cases h
 | nilCheck x=>
  simp only at h
  replace h:=keep_some h
  obtain ⟨h,rfl⟩:=h
  obtain ⟨⟨ad,hv⟩,rfl⟩:=nilCheck_rc hm h (ev x)
  refine ok_value hA ?_ (ev x)
  simp only [execOp]
  rw [hv]
  rfl
 | binOp op t x z ck=>
  simp only at h
  split at h
  ·rename_i ht
   replace h:=keep_some h
   obtain ⟨h,rfl⟩:=h
   exact ok_pure hA rfl (bin_rc hm x z ht h (ev x) (ev z) w)
  ·cases h
 | unOp op t x=>
  simp only at h
  replace h:=keep_some h
  obtain ⟨h,rfl⟩:=h
  exact ok_pure hA rfl (unOp_rc h (ev x) w)
 | convert s d x=>
  simp only at h
  split at h
  ·rename_i k k' h1 h2
   replace h:=keep_some h
   obtain ⟨h,rfl⟩:=h
   exact ok_pure hA rfl (convI_rc h1 h2 h (ev x) w)
  ·rename_i q h1 h2
   split at h
   ·rename_i hq
    replace h:=keep_some h
    obtain ⟨h,rfl⟩:=h
    exact ok_pure hA rfl (convB_rc hm hA h1 hq h2 h (ev x))
   ·cases h
  ·cases h
 | makeFunc fn fs cap=>
  cases fn <;> simp only at h <;> try (cases h; done)
  rename_i f
  split at h
  ·rename_i hz
   simp only [Option.some.injEq,Prod.mk.injEq] at h
   obtain ⟨rfl,rfl⟩:=h
   have hfs:fs = #[]:=Array.eq_empty_of_size_eq_zero hz
   subst hfs
   refine ok_value hA (u:=.func (.func f) #[] (cap.map a.eval)) (by simp [execOp,Instr.makeFunc]) (.fn f _ _ (by simp) (fun i x v h1 h2=>?_))
   obtain ⟨x0,h3,rfl⟩:=map_get h1
   have h4:(cap.map a.eval).toList[i]? = some v:=by simpa using h2
   rw [Array.toList_map] at h4
   obtain ⟨x1,h5,rfl⟩:=map_get h4
   rw [h3] at h5
   obtain rfl:=Option.some.inj h5
   exact ev _
  ·cases h
 | makeSlice t l k=>
  simp only at h
  replace h:=Option.bind_eq_some_iff.1 h
  obtain ⟨el,hel,h⟩:=h
  obtain ⟨e1,e2,e3,e4⟩:=elemOfT_spec hel
  split at h
  ·cases h
  ·refine ok_done rfl (gho_ok h hr fun y eff h hr=>make_rc hm hA ?_ e1 e2 e3 h (ev l) (ev k))
   unfold aMakeO at h
   split at h
   ·split at h
    ·injection h with h; injection h with _ h; subst h; exact hr 0 (by simp)
    ·cases h
   ·cases h
 | slice t x lo hi mx=>
  simp only at h
  split at h
  ·cases h
  ·rename_i hmx
   have hmx':mx=none:=by cases mx <;> simp at hmx ⊢
   subst hmx'
   split at h
   ·rename_i ht
    replace h:=keep_some h
    obtain ⟨h,rfl⟩:=h
    exact ok_pure hA rfl (sliceS_rc ht h (ev x) (evm lo).1 (evm hi).1 (evm lo).2 (evm hi).2 w)
   ·rename_i el ht
    split at h
    ·rename_i hk
     replace h:=keep_some h
     obtain ⟨h,rfl⟩:=h
     refine ok_pure hA rfl (slice_rc hm hA ht hk h (fun s hxs=>?_) (ev x) (evm lo).1 (evm hi).1 (evm lo).2 (evm hi).2 w)
     rw [hxs] at h
     simp only [aSlice,slLen,Option.bind_some] at h
     replace h:=Option.bind_eq_some_iff.1 h
     obtain ⟨h1,_,h⟩:=h
     replace h:=Option.bind_eq_some_iff.1 h
     obtain ⟨l1,_,h⟩:=h
     split at h <;> cases h
    ·cases h
   ·cases h
 | fieldAddr t x j=>
  simp only at h
  replace h:=Option.bind_eq_some_iff.1 h
  obtain ⟨q,hq,h⟩:=h
  replace h:=keep_some h
  obtain ⟨h,rfl⟩:=h
  obtain ⟨b,off,hv,hy⟩:=fieldAddr_rc hm h (ev x)
  unfold fieldOf at hq
  split at hq
  ·rename_i fs hfs
   obtain ⟨f,hf,hq⟩:=Option.bind_eq_some_iff.1 hq
   split at hq
   ·rename_i hk
    obtain ⟨d,ti,hd,hi,hz,h0⟩:=okT_spec hk
    obtain rfl:=Option.some.inj hq
    exact ok_pure hA rfl ⟨_,by simp [Instr.fieldAt,run_underlying hfs,hf,hv,Instr.sureAddr,fieldPlace,sizeOf,typeInfo,hi,Nat.ne_of_gt h0,Addr.add_mid],hy⟩
   ·cases hq
  ·cases hq
 | field t x j=>
  simp only at h
  replace h:=Option.bind_eq_some_iff.1 h
  obtain ⟨q,hq,h⟩:=h
  replace h:=keep_some h
  obtain ⟨h,rfl⟩:=h
  unfold fieldOf at hq
  split at hq
  ·rename_i fs hfs
   obtain ⟨f,hf,hq⟩:=Option.bind_eq_some_iff.1 hq
   split at hq
   ·rename_i hk
    obtain rfl:=Option.some.inj hq
    obtain ⟨cs,u,hv,hp,hy⟩:=part_rc hk h (ev x) w
    exact ok_pure hA rfl ⟨u,by simp [Instr.field,run_underlying hfs,hf,hv,asAgg,hp],hy⟩
   ·cases hq
  ·cases hq
 | indexAddr t x i=>
  simp only at h
  split at h
  ·rename_i el ht
   split at h
   ·rename_i hk
    obtain ⟨d,ti,hd,hi,hz,h0⟩:=okT_spec hk
    replace h:=keep_some h
    obtain ⟨h,rfl⟩:=h
    obtain ⟨k,m,hu,hm0,b,off,len,cap,hv,hlt,hy⟩:=indexS_rc hm h (ev x) (ev i)
    refine ok_pure hA rfl ⟨_,?_,hy⟩
    simp [Instr.indexAt,asIntOf,hu,hv,run_underlying ht,hm0,hlt,sizeOf,typeInfo,hi,hz,Sem.run_bind,Addr.add_mid]
   ·cases h
  ·rename_i len el ht
   split at h
   ·rename_i hk
    obtain ⟨d,ti,hd,hi,hz,h0⟩:=okT_spec hk.2
    replace h:=keep_some h
    obtain ⟨h,rfl⟩:=h
    obtain ⟨k,m,hu,hm0,hml,b,off,hv,hy⟩:=indexP_rc hm (by rw [hz]; exact h0) h (ev x) (ev i)
    refine ok_pure hA rfl ⟨_,?_,hy⟩
    simp [Instr.indexAt,asIntOf,hu,hv,run_underlying ht,hm0,hml,sizeOf,typeInfo,hi,hz,Sem.run_bind,Instr.sureAddr,Addr.add_mid]
   ·cases h
  ·cases h
 | index t x i=>
  simp only at h
  split at h
  ·rename_i ht
   replace h:=keep_some h
   obtain ⟨h,rfl⟩:=h
   exact ok_pure hA rfl (indexB_rc ht h (ev x) (ev i) w)
  ·rename_i len el ht
   split at h
   ·rename_i hk
    obtain ⟨d,ti,hd,hi,hz,h0⟩:=okT_spec hk
    replace h:=keep_some h
    obtain ⟨h,rfl⟩:=h
    unfold aIndexA at h
    split at h
    ·rename_i kk m hidx
     split at h
     ·rename_i hc
      have hi':=ev i
      rw [hidx] at hi'
      have hu:a.eval i = .int kk m:=by
       revert hi'
       generalize a.eval i=iv
       intro hi'
       cases hi'
       rfl
      obtain ⟨cs,u,hv,hp,hy⟩:=part_rc hk h (ev x) w
      refine ok_pure hA rfl ⟨u,?_,hy⟩
      rw [hz] at hp
      simp [Instr.index,asIntOf,hu,hv,run_underlying ht,hc.1,hc.2,sizeOf,typeInfo,hi,hp,Sem.run_bind]
     ·cases h
    ·cases h
   ·cases h
  ·cases h
 | extract x i=>
  simp only at h
  replace h:=keep_some h
  obtain ⟨h,rfl⟩:=h
  obtain ⟨vs,u,hv,hu,hy⟩:=extract_rc h (ev x)
  exact ok_pure hA rfl ⟨u,by simp [Instr.extract,hv,hu],hy⟩
 | call cl=>
  obtain ⟨callee,args,argTypes⟩:=cl
  cases callee with
  | value f=>
   simp only at h
   split at h
   ·rename_i g cap hf
    have hfv:=ev f
    rw [hf] at hfv
    intro K Q hK
    unfold Oper.wp
    generalize hfe:a.eval f=fv at hfv
    cases hfv with
    | fn _ _ vs hl hvs=>
     have hex:execOp a.eval { dst,op:=.call { callee:=.value f,args,argTypes },type,pos,after,guard }=callFunc g (#[]++args.map a.eval++vs):=by
      simp only [execOp,resolve,hfe,Deferred.ofValue]
      rfl
     rw [hex]
     refine call_rc hcall hm hA h hr (by simp [hl]) (fun i x v h1 h2=>?_) _ a K Q hK
     have h2':(args.toList.map a.eval++vs.toList)[i]? = some v:=by
      have h3:((#[]++args.map a.eval++vs:Array Value)).toList[i]? = some v:=by rw [Array.getElem?_toList]; exact h2
      simpa using h3
     by_cases hi:i < args.toList.length
     ·rw [List.getElem?_append_left (by simpa using hi)] at h1
      rw [List.getElem?_append_left (by simpa using hi)] at h2'
      obtain ⟨x0,h5,rfl⟩:=map_get h1
      obtain ⟨x1,h6,rfl⟩:=map_get h2'
      rw [h5] at h6
      obtain rfl:=Option.some.inj h6
      exact ev _
     ·rw [List.getElem?_append_right (by simpa using hi)] at h1
      rw [List.getElem?_append_right (by simpa using hi)] at h2'
      simp only [List.length_map] at h1 h2'
      exact hvs _ x v h1 (by simpa using h2')
   ·cases h
  | builtin b=>
   cases b <;> simp only at h <;> try (cases h; done)
   ·split at h
    ·rename_i x y' t u hx ht
     have hargs:args = #[x,y']:=by cases args; simp_all
     have hat:argTypes = #[t,u]:=by cases argTypes; simp_all
     subst hargs
     subst hat
     split at h
     ·rename_i htu
      obtain rfl:=Nat.eq_of_beq_eq_true htu
      replace h:=Option.bind_eq_some_iff.1 h
      obtain ⟨el,hel,h⟩:=h
      obtain ⟨e1,e2,e3,e4⟩:=elemOfT_spec hel
      have hex:∀ r,(Builtin.append_ #[t,t] type #[a.eval x,a.eval y']).run c.P w=r→(execOp a.eval { dst,op:=.call { callee:=.builtin .append,args:=#[x,y'],argTypes:=#[t,t] },type,pos,after,guard }).run c.P w=r.andThen fun u w'=>.ok (.value u) w':=by
       intro r hr'
       simp only [execOp,resolve,invoke,builtin,Sem.run_bind,Sem.run_pure,Result.andThen_ok,List.map_toArray,List.map_cons,List.map_nil,hr']
      split at h
      ·cases eff with
       | keep=>
        exfalso
        unfold aAppO at h
        replace h:=Option.bind_eq_some_iff.1 h
        obtain ⟨src,_,h⟩:=h
        split at h
        ·split at h <;> simp at h
        ·split at h <;> simp at h
        ·replace h:=Option.bind_eq_some_iff.1 h
         obtain ⟨o',_,h⟩:=h
         split at h
         ·split at h
          ·split at h <;> simp at h
          ·split at h <;> simp at h
         ·cases h
        ·cases h
       | push l=>
        refine ok_done2 hex (appO_push hm hA ?_ e1 e2 e3 e4 h (ev x) (ev y'))
        have h':=h
        unfold aAppO at h'
        replace h':=Option.bind_eq_some_iff.1 h'
        obtain ⟨src,_,h'⟩:=h'
        split at h'
        ·split at h'
         ·injection h' with h'; injection h' with _ h'; exact nopend _ rfl (by injection h' with h'; rw [← h']; simp)
         ·cases h'
        ·split at h'
         ·injection h' with h'; injection h' with _ h'; exact nopend _ rfl (by injection h' with h'; rw [← h']; simp)
         ·cases h'
        ·replace h':=Option.bind_eq_some_iff.1 h'
         obtain ⟨o',_,h'⟩:=h'
         split at h'
         ·split at h'
          ·split at h' <;> simp at h'
          ·split at h' <;> simp at h'
         ·cases h'
        ·cases h'
       | put M'=>
        have hAM:A=M:=hr
        subst hAM
        exact ok_done2 hex (appO_put hA e1 e2 e3 e4 h (ev x) (ev y'))
      ·cases eff with
       | keep=>exact ok_done2 hex (appI_keep hm hA e1 e2 e3 e4 h (ev x) (ev y'))
       | push l=>
        exfalso
        unfold aAppI at h
        replace h:=Option.bind_eq_some_iff.1 h
        obtain ⟨src,_,h⟩:=h
        split at h
        ·split at h
         ·split at h <;> simp at h
         ·split at h <;> simp at h
         ·replace h:=Option.bind_eq_some_iff.1 h
          obtain ⟨o',_,h⟩:=h
          split at h <;> simp at h
         ·cases h
        ·cases h
       | put M'=>
        have hAM:A=M:=hr
        subst hAM
        exact ok_done2 hex (appI_put hA e1 e2 e3 e4 h (ev x) (ev y'))
     ·cases h
    ·cases h
   ·split at h
    ·rename_i x t hx ht
     have hargs:args = #[x]:=by cases args; simp_all
     have hat:argTypes = #[t]:=by cases argTypes; simp_all
     subst hargs
     subst hat
     split at h
     ·rename_i hlt
      replace h:=keep_some h
      obtain ⟨h,rfl⟩:=h
      obtain ⟨u,hu,hy⟩:=len_rc (ty:=type) hm hlt h (ev x) w
      refine ok_value hA (u:=u) ?_ hy
      simp only [execOp,resolve,invoke,builtin,Sem.run_bind,Sem.run_pure,Result.andThen_ok,List.map_toArray,List.map_cons,List.map_nil,hu]
     ·cases h
    ·cases h
   ·split at h
    ·rename_i x y' hx
     have hargs:args = #[x,y']:=by cases args; simp_all
     subst hargs
     replace h:=keep_some h
     obtain ⟨h,rfl⟩:=h
     obtain ⟨u,hu,hy⟩:=max_rc (P:=c.P) h (ev x) (ev y') argTypes type w
     rw [if_pos rfl] at hu
     refine ok_value hA (u:=u) ?_ hy
     simp only [execOp,resolve,invoke,builtin,Sem.run_bind,Sem.run_pure,Result.andThen_ok,List.map_toArray,List.map_cons,List.map_nil,hu]
    ·cases h
   ·split at h
    ·rename_i x y' hx
     have hargs:args = #[x,y']:=by cases args; simp_all
     subst hargs
     replace h:=keep_some h
     obtain ⟨h,rfl⟩:=h
     obtain ⟨u,hu,hy⟩:=max_rc (P:=c.P) h (ev x) (ev y') argTypes type w
     rw [if_neg (by decide)] at hu
     refine ok_value hA (u:=u) ?_ hy
     simp only [execOp,resolve,invoke,builtin,Sem.run_bind,Sem.run_pure,Result.andThen_ok,List.map_toArray,List.map_cons,List.map_nil,hu]
    ·cases h
  | invoke _ _=>simp at h
 | _=>simp at h
end
end Go.Ab
