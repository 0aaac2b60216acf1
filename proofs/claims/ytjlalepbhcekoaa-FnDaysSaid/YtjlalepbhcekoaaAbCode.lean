/- Code and functions: the evaluator's word holds for the machine. -/
import Derived.Test.YtjlalepbhcekoaaAbDraw3
set_option linter.unusedVariables false
set_option linter.unusedSimpArgs false
namespace Go.Ab
open Go Go.RowKit
section
variable {c:Cx} {call:CallF} {B nt:Nat} {Q:Exit→Act→World→Prop}
theorem drawn_step {S:TypeId→Nat} {B:Nat} {w:World} {M:Mem} {ρ:Pm} (hM:MR S B w M ρ):Step w M ρ { w with drawn:=w.drawn + 1 } M ρ∧MR S B { w with drawn:=w.drawn + 1 } M ρ:=
 kept_step hM ⟨rfl,rfl,rfl,Nat.le_refl _,fun _ _=>rfl⟩
theorem seg_none {n:Nat}:∀ (FT:List Tr),FT.flatMap (seg fun i=>(Array.replicate n false).getD i false)=List.replicate (FT.flatMap obsOf).length Ent.pend
 | []=>rfl
 | t::FT=>by
  have h0:(Array.replicate n false).getD t.i false=false:=by
   rw [Array.getD_eq_getD_getElem?,Array.getElem?_replicate]
   split <;> rfl
  simp only [List.flatMap_cons,List.length_append]
  rw [seg_none FT,← List.replicate_append_replicate]
  congr 1
  unfold seg obsOf
  cases t.eff with
  | keep=>rfl
  | put M=>rfl
  | push l=>simp only [h0]; rfl
theorem told_sound (hmix:c.P.follows .mixedOrders=true) {ob th calm std suf:List Nat} {id:Nat} {ops:Array Oper} {e:Env} {M:Mem} {FT BT:List Tr} {ρ:Pm} {a:Act} {w:World} (T:Told c call ob th calm std suf ops nt M e FT BT) (hs:SR c.P.cellsOf B nt a w e M ρ)
  (hQ:∀ a' w' ρ',Step w M ρ w' (memA (M++(FT.flatMap obsOf).map .live) BT) ρ'→SR c.P.cellsOf B nt a' w' (envA (envA e FT) BT) (memA (M++(FT.flatMap obsOf).map .live) BT) ρ'→Q .normal a' w'):(Code.region id ops true).wp c.P Q a w:=by
 refine wp_region_any hmix ?_
 obtain ⟨d1,d2⟩:=drawn_step hs.mr
 have hseg:=seg_none (n:=ops.size) FT
 have notin:∀ i,¬ In (Array.replicate ops.size false) i:=by
  intro i hi
  unfold In at hi
  rw [Array.getD_eq_getD_getElem?,Array.getElem?_replicate] at hi
  split at hi <;> simp at hi
 have st:=d1.trans (step_pend (k:=(FT.flatMap obsOf).length))
 refine draw_any (w0:=w) (ρ0:=ρ) T (fun a' w' ρ' s1 s2=>hQ a' w' ρ' s1 (by rw [← envA_append]; exact s2)) ops.size _ a _ ρ (M++List.replicate (FT.flatMap obsOf).length Ent.pend)
  ⟨by simp,fun k o _ hi=>absurd hi (notin k),fun x=>⟨fun t _ _ hi=>absurd hi (notin _),fun _=>step_pend.rv (d1.rv (hs.env x))⟩,⟨0,by omega,⟨fun q t _ _=>⟨fun hi=>absurd hi (notin _),fun h=>by omega⟩,fun h=>by omega⟩,by rw [if_pos rfl,hseg],fun h=>by omega,fun h=>by omega⟩,mr_pend d2,hs.size,hs.defers,st.stp,st.ph⟩ (by simp)
theorem region_sound0 (hcall:CallOk c.P call) (hmix:c.P.follows .mixedOrders=true) {g:Reg} {id:Nat} {ops:Array Oper} {draw:Bool} {e e':Env} {M M':Mem} {ρ:Pm} {a:Act} {w:World} (h:evalRegion0 c call nt g ops draw e M=some (e',M')) (hs:SR c.P.cellsOf B nt a w e M ρ)
  (hQ:∀ a' w' ρ',Step w M ρ w' M' ρ'→SR c.P.cellsOf B nt a' w' e' M' ρ'→Q .normal a' w'):(Code.region id ops draw).wp c.P Q a w:=by
 unfold evalRegion0 at h
 split at h
 rotate_left
 ·cases h
 rename_i hdst
 have hdst':=List.all_eq_true.1 hdst
 replace h:=Option.map_eq_some_iff.1 h
 obtain ⟨⟨e1,M1⟩,h,h2⟩:=h
 simp only [Prod.mk.injEq] at h2
 obtain ⟨h2a,h2b⟩:=h2
 subst h2a
 subst h2b
 have hQ':∀ a' w' ρ',Step w M ρ w' M1 ρ'→SR c.P.cellsOf B nt a' w' e1 M1 ρ'→Q .normal a' w':=fun a' w' ρ' s1 s2=>hQ a' w' ρ' s1 (s2.prune _)
 cases draw with
 | false=>
  simp only [Bool.false_eq_true,if_false] at h
  refine wp_region ?_
  have:=back_sound hcall hdst' (Q:=Q) ops.toList 0 e M ρ a w e1 M1 (by simp) h hs hQ'
  rw [List.range_eq_range']
  simpa using this
 | true=>
  simp only [if_true] at h
  split at h
  ·split at h
   rotate_left
   ·cases h
   rename_i hok
   replace h:=Option.bind_eq_some_iff.1 h
   obtain ⟨⟨e2,C⟩,h3,h4⟩:=h
   obtain ⟨FT,f1,f2,f3,f4⟩:=front_trace _ _ _ _ _ h3
   obtain ⟨BT,b1,b2,b3,b4⟩:=back_trace _ _ _ _ _ h4
   simp only [List.nil_append] at f3
   subst f2
   subst f3
   have T:Told c call g.ob g.th g.calm [] g.suf ops nt M e FT BT:=⟨hcall,hdst',by rw [List.append_nil]; exact hok,f1,b1,fun q t hq=>by
     obtain ⟨k1,k2,k3,k4,k5,k6⟩:=f4 q t hq
     exact ⟨k1,k2,k3,k4,fun hc=>.inl (k5 hc),fun hc=>by simp [has] at hc,k6⟩,b4,fun q b hb t ht _=>.inr ⟨fun hc=>by simp [has] at hc,fun _ hc l he=>by
     obtain ⟨q',hq'⟩:=List.getElem?_of_mem ht
     have:=(f4 q' t hq').2.2.2.2.1 hc
     rw [he] at this
     cases this⟩⟩
   exact told_sound hmix T hs (fun a' w' ρ' s1 s2=>hQ' a' w' ρ' (by rw [b3]; exact s1) (by rw [b2,b3]; exact s2))
  ·rename_i std _
   split at h
   rotate_left
   ·cases h
   rename_i hok
   replace h:=Option.bind_eq_some_iff.1 h
   obtain ⟨⟨e2,C,S'⟩,h3,h4⟩:=h
   obtain ⟨FT,f1,f2,f3,f4,f5⟩:=front_traceS _ _ _ _ _ _ _ h3
   obtain ⟨BT,b1,b2,b3,b4,b5⟩:=back_traceS _ _ _ _ _ h4
   simp only [List.nil_append] at f3
   subst f2
   subst f3
   have T:Told c call g.ob g.th g.calm std g.suf ops nt M e FT BT:=⟨hcall,hdst',hok,f1,b1,f4,b4,fun q b hb t ht _=>by
    rcases (f5 _ _ (b5 q b hb)).2 t ht with h | h
    ·left
     have h1:=has_spec.1 h
     exact (List.mem_filter.1 h1).2
    ·exact .inr h⟩
   exact told_sound hmix T hs (fun a' w' ρ' s1 s2=>hQ' a' w' ρ' (by rw [b3]; exact s1) (by rw [b2,b3]; exact s2))
theorem region_sound (hcall:CallOk c.P call) (hmix:c.P.follows .mixedOrders=true) {g:Reg} {id:Nat} {ops:Array Oper} {draw:Bool} {e e':Env} {M M':Mem} {ρ:Pm} {a:Act} {w:World} (h:evalRegion c call nt g ops draw e M=some (e',M')) (hs:SR c.P.cellsOf B nt a w e M ρ)
  (hQ:∀ a' w' ρ',Step w M ρ w' M' ρ'→SR c.P.cellsOf B nt a' w' e' M' ρ'→Q .normal a' w'):(Code.region id ops draw).wp c.P Q a w:=by
 obtain ⟨h1,h2⟩:=frzAll_ok (e:=e) g.fz M hs.mr
 exact region_sound0 hcall hmix h ⟨h2,fun x=>h1.rv (hs.env x),hs.size,hs.defers⟩ (fun a' w' ρ' s1 s2=>hQ a' w' ρ' (h1.trans s1) s2)
def exOf:Ex→Exit
 | .nrm=>.normal
 | .ext id=>.exit id
 | .ret=>.ret
def StOk (c:Cx) (B nt:Nat) (code:Code) (s:St):Prop:=
 ∀ (e:Env) (M:Mem) (x:Ex) (e':Env) (M':Mem),s e M=some (x,e',M')→∀ (ρ:Pm) (a:Act) (w:World) (Q:Exit→Act→World→Prop),SR c.P.cellsOf B nt a w e M ρ →
  (∀ a' w' ρ',Step w M ρ w' M' ρ'→SR c.P.cellsOf B nt a' w' e' M' ρ'→Q (exOf x) a' w')→code.wp c.P Q a w
theorem least {R:Nat→Prop}:(∃ n,R n)→∃ n,R n∧∀ m,R m→n≤m:=by
 rintro ⟨n,hn⟩
 induction n using Nat.strongRecOn with
 | _ n ih=>
  by_cases h:∃ m,m < n∧R m
  ·obtain ⟨m,h1,h2⟩:=h
   exact ih m h1 h2
  ·refine ⟨n,hn,fun m hm=>?_⟩
   rcases Nat.lt_or_ge m n with h1 | h1
   ·exact absurd ⟨m,h1,hm⟩ h
   ·exact h1
open Classical in
theorem loop_sound {code:Code} {s:St} (hb:StOk c B nt code s) (l:List Nat) (k:Nat):StOk c B nt (.loop code) (bLoop l s k):=by
 intro e M x e' M' h ρ a w Q hs hQ
 let R:Nat→Act→World→Prop:=fun n a' w'=>∃ e1 M1 ρ1,bLoop l s n e1 M1=some (x,e',M')∧SR c.P.cellsOf B nt a' w' e1 M1 ρ1∧Step w M ρ w' M1 ρ1
 let μ:Act→World→Nat:=fun a' w'=>if h:∃ n,R n a' w' then Classical.choose (least h) else 0
 have hμ:∀ n a' w',R n a' w'→R (μ a' w') a' w'∧μ a' w'≤n:=by
  intro n a' w' hr
  have hex:∃ n,R n a' w':=⟨n,hr⟩
  have:μ a' w'=Classical.choose (least hex):=dif_pos hex
  rw [this]
  obtain ⟨h1,h2⟩:=Classical.choose_spec (least hex)
  exact ⟨h1,h2 n hr⟩
 refine wp_loop (fun a' w'=>∃ n,R n a' w') μ ⟨k,e,M,ρ,h,hs,Step.refl _ _ _⟩ (fun a1 w1 h1=>?_)
 obtain ⟨n,hr⟩:=h1
 obtain ⟨hr,_⟩:=hμ n a1 w1 hr
 generalize hn:μ a1 w1=m at hr
 obtain ⟨e1,M1,ρ1,k1,k2,k3⟩:=hr
 cases m with
 | zero=>simp [bLoop] at k1
 | succ m=>
  simp only [bLoop] at k1
  obtain ⟨⟨x1,e2,M2⟩,k4,k5⟩:=Option.bind_eq_some_iff.1 k1
  refine hb _ _ _ _ _ k4 ρ1 a1 w1 _ (k2.prune l) (fun a2 w2 ρ2 s1 s2=>?_)
  cases x1 with
  | nrm=>
   have hr2:R m a2 w2:=⟨e2,M2,ρ2,k5,s2,k3.trans s1⟩
   have:=(hμ m a2 w2 hr2).2
   exact ⟨⟨m,hr2⟩,by omega⟩
  | ext id=>
   simp only [Option.some.injEq,Prod.mk.injEq] at k5
   obtain ⟨rfl,rfl,rfl⟩:=k5
   exact hQ a2 w2 ρ2 (k3.trans s1) s2
  | ret=>
   simp only [Option.some.injEq,Prod.mk.injEq] at k5
   obtain ⟨rfl,rfl,rfl⟩:=k5
   exact hQ a2 w2 ρ2 (k3.trans s1) s2
theorem joinV_l {S:TypeId→Nat} {V:Nat→Option Obj} {B:Nat} {R:RefF} {a b:AV} {v:Value} (h:RC S V B R a v):RC S V B R (joinV a b) v:=by
 unfold joinV
 split
 ·exact h
 ·split
  ·cases h; exact .slON _
  ·cases h; exact .slON _
  ·exact .undef v
theorem joinV_r {S:TypeId→Nat} {V:Nat→Option Obj} {B:Nat} {R:RefF} {a b:AV} {v:Value} (h:RC S V B R b v):RC S V B R (joinV a b) v:=by
 unfold joinV
 split
 ·rename_i e; rw [e]; exact h
 ·split
  ·exact h
  ·cases h with
   | lit t es b cs f hb hB hz hs hm hes hc h htr=>exact .slO _ [] b 0 cs f hb hB (by simpa using hz) hs (by simp) (by simp) (by simp) hc h (by simp)
  ·exact .undef v
theorem joinE_get (l:List Nat) (e1 e2:Env) (t:Nat):eget (joinE l e1 e2) t=joinV (eget e1 t) (eget e2 t)∨eget (joinE l e1 e2) t = .undef:=by
 unfold joinE
 induction l with
 | nil=>exact .inr rfl
 | cons s r ih=>
  simp only [List.map_cons,eget]
  split
  ·rename_i hs; rw [Nat.eq_of_beq_eq_true hs]; exact .inl rfl
  ·exact ih
theorem joinE_l {S:TypeId→Nat} {V:Nat→Option Obj} {B:Nat} {R:RefF} (l:List Nat) (e1 e2:Env):∀ t v,RC S V B R (eget e1 t) v→RC S V B R (eget (joinE l e1 e2) t) v:=fun t v h=>by
 rcases joinE_get l e1 e2 t with e | e
 ·rw [e]; exact joinV_l h
 ·rw [e]; exact .undef v
theorem joinE_r {S:TypeId→Nat} {V:Nat→Option Obj} {B:Nat} {R:RefF} (l:List Nat) (e1 e2:Env):∀ t v,RC S V B R (eget e2 t) v→RC S V B R (eget (joinE l e1 e2) t) v:=fun t v h=>by
 rcases joinE_get l e1 e2 t with e | e
 ·rw [e]; exact joinV_r h
 ·rw [e]; exact .undef v
theorem SR.weak {S:TypeId→Nat} {a:Act} {w:World} {e e':Env} {M:Mem} {ρ:Pm} (h:SR S B nt a w e M ρ) (hw:∀ t v,RV S B w M ρ (eget e t) v→RV S B w M ρ (eget e' t) v):SR S B nt a w e' M ρ:=
 ⟨h.mr,fun t=>hw t _ (h.env t),h.size,h.defers⟩
theorem exec_sound (hcall:CallOk c.P call) (hmix:c.P.follows .mixedOrders=true) (an:Ann) (k:Nat):∀ code:Code,StOk c B nt code (exec c call nt an k code)
 | .skip=>fun e M x e' M' h ρ a w Q hs hQ=>by
  simp only [exec,bEx,Option.some.injEq,Prod.mk.injEq] at h
  obtain ⟨rfl,rfl,rfl⟩:=h
  exact wp_skip (hQ a w ρ (Step.refl _ _ _) hs)
 | .label l=>fun e M x e' M' h ρ a w Q hs hQ=>by
  simp only [exec,bEx,Option.some.injEq,Prod.mk.injEq] at h
  obtain ⟨rfl,rfl,rfl⟩:=h
  exact wp_label (hQ a w ρ (Step.refl _ _ _) hs)
 | .exit id=>fun e M x e' M' h ρ a w Q hs hQ=>by
  simp only [exec,bEx,Option.some.injEq,Prod.mk.injEq] at h
  obtain ⟨rfl,rfl,rfl⟩:=h
  exact wp_exit (hQ a w ρ (Step.refl _ _ _) hs)
 | .ret=>fun e M x e' M' h ρ a w Q hs hQ=>by
  simp only [exec,bEx,Option.some.injEq,Prod.mk.injEq] at h
  obtain ⟨rfl,rfl,rfl⟩:=h
  exact wp_ret (hQ a w ρ (Step.refl _ _ _) hs)
 | .region id ops draw=>fun e M x e' M' h ρ a w Q hs hQ=>by
  cases hl:look an.regs id with
  | none=>simp [exec,hl] at h
  | some g=>
   simp only [exec,hl,bReg] at h
   obtain ⟨⟨e1,M1⟩,h1,h2⟩:=Option.map_eq_some_iff.1 h
   simp only [Prod.mk.injEq] at h2
   obtain ⟨rfl,rfl,rfl⟩:=h2
   exact region_sound hcall hmix h1 hs hQ
 | .seq p q=>fun e M x e' M' h ρ a w Q hs hQ=>by
  simp only [exec,bSeq] at h
  obtain ⟨⟨x1,e1,M1⟩,h1,h2⟩:=Option.bind_eq_some_iff.1 h
  refine wp_seq (exec_sound hcall hmix an k p _ _ _ _ _ h1 ρ a w _ hs (fun a1 w1 ρ1 s1 s2=>?_))
  cases x1 with
  | nrm=>exact exec_sound hcall hmix an k q _ _ _ _ _ h2 ρ1 a1 w1 Q s2 (fun a2 w2 ρ2 t1 t2=>hQ a2 w2 ρ2 (s1.trans t1) t2)
  | ext id=>
   simp only [Option.some.injEq,Prod.mk.injEq] at h2
   obtain ⟨rfl,rfl,rfl⟩:=h2
   exact hQ a1 w1 ρ1 s1 s2
  | ret=>
   simp only [Option.some.injEq,Prod.mk.injEq] at h2
   obtain ⟨rfl,rfl,rfl⟩:=h2
   exact hQ a1 w1 ρ1 s1 s2
 | .cond x p q=>fun e M x' e' M' h ρ a w Q hs hQ=>by
  simp only [exec,bCond] at h
  have hx:=oval_rc hs.env x
  split at h
  ·rename_i hv
   rw [hv] at hx
   have:a.eval x = .bool true:=by
    revert hx
    generalize a.eval x=u
    intro hx
    cases hx
    rfl
   exact wp_cond_true this (exec_sound hcall hmix an k p _ _ _ _ _ h ρ a w Q hs hQ)
  ·rename_i hv
   rw [hv] at hx
   have:a.eval x = .bool false:=by
    revert hx
    generalize a.eval x=u
    intro hx
    cases hx
    rfl
   exact wp_cond_false this (exec_sound hcall hmix an k q _ _ _ _ _ h ρ a w Q hs hQ)
  ·rename_i hv
   rw [hv] at hx
   obtain ⟨b,hb⟩:∃ b,a.eval x = .bool b:=by
    revert hx
    generalize a.eval x=u
    intro hx
    cases hx
    exact ⟨_,rfl⟩
   unfold joinO at h
   obtain ⟨⟨x1,e1,M1⟩,h1,h⟩:=Option.bind_eq_some_iff.1 h
   obtain ⟨⟨x2,e2,M2⟩,h2,h⟩:=Option.bind_eq_some_iff.1 h
   split at h
   ·rename_i hc
    simp only at hc
    obtain ⟨rfl,rfl⟩:=hc
    simp only [Option.some.injEq,Prod.mk.injEq] at h
    obtain ⟨rfl,rfl,rfl⟩:=h
    cases b with
    | true=>exact wp_cond_true hb (exec_sound hcall hmix an k p _ _ _ _ _ h1 ρ a w Q hs (fun a' w' ρ' s1 s2=>hQ a' w' ρ' s1 (s2.weak (joinE_l _ _ _))))
    | false=>exact wp_cond_false hb (exec_sound hcall hmix an k q _ _ _ _ _ h2 ρ a w Q hs (fun a' w' ρ' s1 s2=>hQ a' w' ρ' s1 (s2.weak (joinE_r _ _ _))))
   ·cases h
  ·cases h
 | .block id p=>fun e M x e' M' h ρ a w Q hs hQ=>by
  simp only [exec,bBlock] at h
  obtain ⟨⟨x1,e1,M1⟩,h1,h2⟩:=Option.map_eq_some_iff.1 h
  refine wp_block (exec_sound hcall hmix an k p _ _ _ _ _ h1 ρ a w _ hs (fun a1 w1 ρ1 s1 s2=>?_))
  cases x1 with
  | nrm=>
   simp only [Prod.mk.injEq] at h2
   obtain ⟨rfl,rfl,rfl⟩:=h2
   exact hQ a1 w1 ρ1 s1 s2
  | ext j=>
   simp only at h2
   show if j=id then _ else _
   by_cases hj:j=id
   ·subst hj
    rw [if_pos (Nat.beq_refl j)] at h2
    simp only [Prod.mk.injEq] at h2
    obtain ⟨rfl,rfl,rfl⟩:=h2
    rw [if_pos rfl]
    exact hQ a1 w1 ρ1 s1 s2
   ·rw [if_neg (fun e=>hj (Nat.eq_of_beq_eq_true e))] at h2
    simp only [Prod.mk.injEq] at h2
    obtain ⟨rfl,rfl,rfl⟩:=h2
    rw [if_neg hj]
    exact hQ a1 w1 ρ1 s1 s2
  | ret=>
   simp only [Prod.mk.injEq] at h2
   obtain ⟨rfl,rfl,rfl⟩:=h2
   exact hQ a1 w1 ρ1 s1 s2
 | .loop p=>fun e M x e' M' h ρ a w Q hs hQ=>by
  cases hl:(firstReg p).bind (look an.loops) with
  | none=>simp [exec,hl] at h
  | some l=>
   simp only [exec,hl] at h
   exact loop_sound (exec_sound hcall hmix an k p) l k _ _ _ _ _ h ρ a w Q hs hQ
 | .goto _=>fun e M x e' M' h=>by simp [exec] at h
 | .scope _=>fun e M x e' M' h=>by simp [exec] at h
 | .refuse _=>fun e M x e' M' h=>by simp [exec] at h
 | .rangeFunc ..=>fun e M x e' M' h=>by simp [exec] at h
theorem argEnv_get:∀ (l:List AV) (i t:Nat),eget (argEnv i l) t=if i≤t then (l[t - i]?).getD .undef else .undef
 | [],i,t=>by simp [argEnv,eget]
 | v::l,i,t=>by
  simp only [argEnv,eget]
  by_cases h:i=t
  ·subst h; simp
  ·rw [if_neg (fun e=>h (Nat.eq_of_beq_eq_true e)),argEnv_get l (i + 1) t]
   by_cases h2:i + 1≤t
   ·rw [if_pos h2,if_pos (by omega),show t - i=(t - (i + 1)) + 1 by omega,List.getElem?_cons_succ]
   ·rw [if_neg h2,if_neg (by omega)]
theorem res_one {M:Mem} {ρ:Pm} {a:Act} {w:World} {e:Env} (hs:SR c.P.cellsOf B nt a w e M ρ) {r:ResultVar} {y:AV} (h:resOf c.P e M r=some y) :
  ∃ v,(match r with | .tmp t=>pure (a.tmps.getD t Go.undef) | .cell p t=>(do loadVar t (← asAddr (a.tmps.getD p Go.undef))):Sem Value).run c.P w = .ok v w∧RV c.P.cellsOf B w M ρ y v:=by
 cases r with
 | tmp t=>
  simp only [resOf,Option.some.injEq] at h
  subst h
  exact ⟨_,rfl,hs.env t⟩
 | cell p t=>
  simp only [resOf] at h
  split at h
  ·rename_i hk
   obtain ⟨u,h1,h2⟩:=load_rc (MExt.refl M) hs.mr hk h (hs.env p)
   refine ⟨u,?_,h2⟩
   show (do loadVar t (← asAddr (a.tmps.getD p Go.undef)):Sem Value).run c.P w = .ok u w
   generalize a.tmps.getD p Go.undef=v at h1 ⊢
   cases v with
   | pointer ad=>
    cases ad with
    | none=>simp [Instr.loadAt,Instr.sureAddr] at h1
    | some ad=>simp only [asAddr,Sem.run_bind,Sem.run_pure,Result.andThen_ok]; simpa [Instr.loadAt,Instr.sureAddr] using h1
   | _=>simp [Instr.loadAt,Instr.sureAddr] at h1
  ·cases h
theorem res_all {M:Mem} {ρ:Pm} {a:Act} {w:World} {e:Env} (hs:SR c.P.cellsOf B nt a w e M ρ) (f:ResultVar→Sem Value) (hf:f=fun | .tmp t=>pure (a.tmps.getD t Go.undef) | .cell p t=>do loadVar t (← asAddr (a.tmps.getD p Go.undef))) :
  ∀ (rs:List ResultVar) (ys:List AV),resAll c.P e M rs=some ys→∃ vs:List Value,(rs.mapM f).run c.P w = .ok vs w∧ys.length=vs.length∧∀ (i:Nat) y v,ys[i]? = some y→vs[i]? = some v→RV c.P.cellsOf B w M ρ y v
 | [],ys,h=>by
  simp only [resAll,Option.some.injEq] at h
  subst h
  exact ⟨[],by simp,rfl,by simp⟩
 | r::rs,ys,h=>by
  simp only [resAll] at h
  obtain ⟨y,h1,h⟩:=Option.bind_eq_some_iff.1 h
  obtain ⟨q,h2,rfl⟩:=Option.map_eq_some_iff.1 h
  obtain ⟨v,k1,k2⟩:=res_one hs h1
  obtain ⟨vs,k3,k4,k5⟩:=res_all hs f hf rs q h2
  refine ⟨v::vs,?_,by simp [k4],fun i y' v' g1 g2=>?_⟩
  ·rw [List.mapM_cons]
   have:(f r).run c.P w = .ok v w:=by rw [hf]; cases r <;> exact k1
   simp only [Sem.run_bind,this,Result.andThen_ok,k3,Sem.run_pure]
  ·cases i with
   | zero=>simp at g1 g2; subst g1; subst g2; exact k2
   | succ i=>exact k5 i y' v' (by simpa using g1) (by simpa using g2)
theorem res_sound {M:Mem} {ρ:Pm} {a:Act} {w:World} {e:Env} (hs:SR c.P.cellsOf B nt a w e M ρ) {fn:Func} {ys:List AV} (h:resAll c.P e M fn.results.toList=some ys) :
  ∃ v,(results fn a.tmps).run c.P w = .ok v w∧RV c.P.cellsOf B w M ρ (oneOr ys) v:=by
 obtain ⟨vs,h1,h2,h3⟩:=res_all hs _ rfl _ _ h
 have hr:(results fn a.tmps).run c.P w = .ok (if h:vs.toArray.size=1 then vs.toArray[0] else .tuple vs.toArray) w:=by
  unfold results
  rw [show fn.results=fn.results.toList.toArray by simp,List.mapM_toArray]
  simp only [Sem.run_bind,Sem.run_map]
  have key:∀ g:ResultVar→Sem Value,(∀ t,g (.tmp t)=pure (a.tmps.getD t Go.undef))→(∀ p t,g (.cell p t)=(do loadVar t (← asAddr (a.tmps.getD p Go.undef))))→(fn.results.toList.mapM g).run c.P w = .ok vs w:=by
   intro g hg1 hg2
   rw [show g=(fun | .tmp t=>pure (a.tmps.getD t Go.undef) | .cell p t=>do loadVar t (← asAddr (a.tmps.getD p Go.undef))) from funext fun r=>by cases r; exact hg1 _; exact hg2 _ _]
   exact h1
  rw [key]
  ·simp
  ·intro t; rfl
  ·intro p t; rfl
 refine ⟨_,hr,?_⟩
 cases vs with
 | nil=>
  have:ys=[]:=List.length_eq_zero_iff.1 h2
  subst this
  exact .tup [] #[] rfl (by simp)
 | cons v vs=>
  cases vs with
  | nil=>
   cases ys with
   | nil=>simp at h2
   | cons y ys=>
    cases ys with
    | nil=>exact h3 0 y v rfl rfl
    | cons _ _=>simp at h2
  | cons v2 vs=>
   cases ys with
   | nil=>simp at h2
   | cons y ys=>
    cases ys with
    | nil=>simp at h2
    | cons y2 ys=>
     simp only [oneOr]
     rw [dif_neg (by simp)]
     exact .tup _ _ (by simpa using h2) (fun i y' v' g1 g2=>h3 i y' v' g1 (by simpa using g2))
def PrimOk (P:Program) (prim:CallF) (isPrim:Nat→Bool):Prop:=CallOk P fun f args M=>if isPrim f=true then prim f args M else none
theorem callN_sound {an:Nat→Option Ann} {prim:Nat→List AV→Mem→Option (AV×Mem)} {isPrim:Nat→Bool} (hmix:c.P.follows .mixedOrders=true) (hprim:PrimOk c.P prim isPrim):∀ n,CallOk c.P (callN c an prim isPrim n)
 | 0=>fun f args M out M' h=>by simp [callN] at h
 | n + 1=>fun f args M out M' h B w ρ vals hM hl hv o a K Q hK=>by
  simp only [callN] at h
  split at h
  ·rename_i hp
   exact hprim f args M out M' (by simp only [hp,if_true]; exact h) B w ρ vals hM hl hv o a K Q hK
  ·split at h
   ·rename_i fn an' hf ha
    split at h
    ·rename_i b hb
     split at h
     ·rename_i hc
      unfold bFun at h
      obtain ⟨⟨x,e1,M1⟩,h1,h2⟩:=Option.bind_eq_some_iff.1 h
      have hne : ¬ fn.name = "runtime.NumGoroutine" := by have := hc.2; simpa using this
      have hrun:(callFunc f vals).run c.P w = .ok (.enter f vals) w:=by
       simp [callFunc,Sem.run_bind,hf,hne,hb]
      rw [hrun,Oper.upon_enter]
      have hfin:∀ ys,resAll c.P e1 M1 fn.results.toList=some ys→out=oneOr ys→M'=M1→∀ a' w' ρ',Step w M ρ w' M1 ρ'→SR c.P.cellsOf B fn.ntmps a' w' e1 M1 ρ'→a'.defers=[]∧∃ v,(results fn a'.tmps).run c.P w' = .ok v w'∧K (a.put o.dst v) w':=by
       intro ys h3 e2 e3 a' w' ρ' s1 s2
       subst e2
       subst e3
       obtain ⟨v,k1,k2⟩:=res_sound s2 h3
       exact ⟨s2.defers,v,k1,hK v w' ρ' s1 s2.mr k2⟩
      have hs0:SR c.P.cellsOf B fn.ntmps { tmps:=vals++Array.replicate (fn.ntmps - vals.size) undef,defers:=[] } w (argEnv 0 args) M ρ:=by
       refine ⟨hM,fun t=>?_,by simp; omega,rfl⟩
       rw [argEnv_get,if_pos (Nat.zero_le _),Nat.sub_zero]
       cases hat:args[t]? with
       | none=>exact .undef _
       | some x=>
        have hlt:=(List.getElem?_eq_some_iff.1 hat).1
        have hv':vals[t]? = some vals[t]:=Array.getElem?_eq_getElem (by omega)
        rw [Array.getD_eq_getD_getElem?,Array.getElem?_append_left (by omega),hv']
        exact hv t x _ hat hv'
      refine calls_of_wp hf hb (exec_sound (callN_sound hmix hprim n) hmix an' n b _ _ _ _ _ h1 ρ _ w _ hs0 (fun a' w' ρ' s1 s2=>?_))
      cases x with
      | nrm=>
       obtain ⟨ys,h3,h4⟩:=Option.map_eq_some_iff.1 h2
       injection h4 with e2 e3
       exact hfin ys h3 e2.symm e3.symm a' w' ρ' s1 s2
      | ret=>
       obtain ⟨ys,h3,h4⟩:=Option.map_eq_some_iff.1 h2
       injection h4 with e2 e3
       exact hfin ys h3 e2.symm e3.symm a' w' ρ' s1 s2
      | ext id=>cases h2
     ·cases h
    ·cases h
   ·cases h
end
end Go.Ab
