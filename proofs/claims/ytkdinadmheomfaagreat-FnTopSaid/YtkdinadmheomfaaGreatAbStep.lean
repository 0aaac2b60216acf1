/- One operation: what the evaluator tells is what the machine does. -/
import Derived.Test.YtkdinadmheomfaaGreatAbGh
set_option linter.unusedVariables false
set_option linter.unusedSimpArgs false
namespace Go.Ab
open Go Go.RowKit
section
variable {P:Program} {B:Nat} {w:World} {M A:bs} {ρ:Pm}
theorem sx {t el:TypeId} (h:wg P t=some el):P.underlying t=some (.slice el)/\qo P el=true/\((P.info? el).bind (·.zero)).isSome=true/\(b5 P el).length=P.cellsOf el:=by
 unfold wg at h
 split at h
 ·rename_i e G
  split at h
  ·rename_i F
   obtain rfl:=Option.some.inj h
   have D:=F.2
   simp only [OQ,Bool.and_eq_true] at D
   exact ⟨G,F.1,D.1,Nat.eq_of_beq_eq_true D.2⟩
  ·cases h
 ·cases h
theorem dC {x:Option AV} {y:AV} {D:Eff} (h:keep x=some (y,D)):x=some y/\D = .keep:=by
 unfold keep at h
 replace h:=Option.map_eq_some_iff.1 h
 obtain ⟨v,F,h⟩:=h
 injection h with e1 e2
 exact ⟨by rw [F,e1],e2.symm⟩
def FY (P:Program) (B:Nat) (w:World) (A:bs) (ρ:Pm) (o:Oper) (a:Act) (A':bs) (y:AV):Prop:=
 ∀ (K:Act->World->Prop) (Q:Exit->Act->World->Prop),(∀ u w' ρ',Step w A ρ w' A' ρ'->MR P.cellsOf B w' A' ρ'->RV P.cellsOf B w' A' ρ' y u->K (a.put o.dst u) w')->o.wp P a w K Q
theorem oG {o:Oper} {a:Act} {u:Value} {y:AV} (hA:MR P.cellsOf B w A ρ) (h:(execOp a.eval o).run P w = .ok (.value u) w) (F:RV P.cellsOf B w A ρ y u):FY P B w A ρ o a A y:=by
 intro K Q D
 unfold Oper.wp
 rw [h]
 exact D u w ρ (Step.refl _ _ _) hA F
theorem sc {o:Oper} {a:Act} {s:Sem Value} {A':bs} {y:AV} (h:execOp a.eval o=(do pure (Next.value (<- s)))) (N:we P.cellsOf B w A ρ (s.run P w) A' y):FY P B w A ρ o a A' y:=by
 intro K Q J
 obtain ⟨u,w',ρ',D,F,G,I⟩:=N
 unfold Oper.wp
 rw [h]
 simp only [Sem.run_bind,D,Result.andThen_ok,Sem.run_pure]
 exact J u w' ρ' F G I
theorem wG {o:Oper} {a:Act} {s:Sem Value} {A':bs} {y:AV} (h:∀ r,s.run P w=r->(execOp a.eval o).run P w=r.andThen fun u w'=>.ok (.value u) w') (N:we P.cellsOf B w A ρ (s.run P w) A' y):FY P B w A ρ o a A' y:=by
 intro K Q J
 obtain ⟨u,w',ρ',D,F,G,I⟩:=N
 unfold Oper.wp
 rw [h _ D]
 exact J u w' ρ' F G I
theorem jR {o:Oper} {a:Act} {s:Sem Value} {y:AV} (hA:MR P.cellsOf B w A ρ) (h:execOp a.eval o=(do pure (Next.value (<- s)))) (G:∃ u,s.run P w = .ok u w/\RV P.cellsOf B w A ρ y u):FY P B w A ρ o a A y:=by
 obtain ⟨u,D,F⟩:=G
 exact sc h ⟨u,w,ρ,D,Step.refl _ _ _,hA,F⟩
theorem pp {α β:Type} {l:List α} {f:α->β} {k:Nat} {y:β} (h:(l.map f)[k]? = some y):∃ x,l[k]? = some x/\f x=y:=by
 rw [List.getElem?_map] at h
 exact Option.map_eq_some_iff.1 h
theorem w1 {c:Cx} {call:bh} (a1:o5 c.P call) (O:fN M A) (hA:MR c.P.cellsOf B w A ρ) {ob th:Bool} {n:Nat} {o:Oper} {e:b4} {a:Act} {y:AV} {ak:Eff}
  (ba:∀ t,RV c.P.cellsOf B w A ρ (a3 e t) (a.tmps.getD t Go.undef)) (h:mv c call ob th n o e M=some (y,ak)) (aa:NR M A n ak):FY c.P B w A ρ o a (qq A n ak) y:=by
 have D:∀ x:Operand,RV c.P.cellsOf B w A ρ (eH e x) (a.eval x):=Eg ba
 have ao:∀ x:Option Operand,(x.map (eH e)).isNone=(x.map a.eval).isNone/\∀ q v,x.map (eH e)=some q->x.map a.eval=some v->RV c.P.cellsOf B w A ρ q v:=by
  intro x
  cases x with
  | none=>exact ⟨rfl,by simp⟩
  | some x=>refine ⟨rfl,fun q v I Z=>?_⟩; simp at I Z; subst I; subst Z; exact D x
 have aR:∀ l:List Ob,ak = .push l->0 < l.length->A[n]? = some .pend:=fun l ab ar=>by subst ab; exact aa 0 ar
 obtain ⟨dst,op,type,pos,after,guard⟩:=o
 unfold mv at h
 cases op with
 | move x=>
  simp only [Option.some.injEq,Prod.mk.injEq] at h
  obtain ⟨rfl,rfl⟩:=h
  exact oG hA rfl (D x)
 | assign x=>
  simp only [Option.some.injEq,Prod.mk.injEq] at h
  obtain ⟨rfl,rfl⟩:=h
  exact oG hA rfl (D x)
 | pick q x z=>
  simp only at h
  replace h:=dC h
  obtain ⟨h,rfl⟩:=h
  obtain ⟨b,a0,N⟩:=Ky h (D q) (D x) (D z)
  exact oG hA (by simp [execOp,a0,Sem.run_bind,asBool]) N
 | alloc t=>
  simp only at h
  refine sc rfl (D0 h aa fun y ak h aa=>?_)
  split at h
  ·rename_i ae
   simp only [Option.some.injEq,Prod.mk.injEq] at h
   obtain ⟨rfl,rfl⟩:=h
   exact IW hA (aa 0 (by simp)) ae.1 ae.2.1 ae.2.2.1 ae.2.2.2.2
  ·cases h
 | box t x=>
  simp only at h
  split at h
  ·refine sc rfl (D0 h aa fun y ak h aa=>J8 O hA ?_ h (D x))
   unfold s3 at h
   split at h
   ·injection h with h; injection h with _ h; subst h; exact aa 0 (by simp)
   ·cases h
  ·replace h:=dC h
   obtain ⟨h,rfl⟩:=h
   exact sc rfl (M1 O hA h (D x))
 | build t aw=>
  simp only at h
  split at h
  ·rename_i ae
   replace h:=dC h
   obtain ⟨h,rfl⟩:=h
   refine jR hA rfl (HO O hA ae.1 ae.2 h (by simp) (fun k p q I Z=>?_))
   obtain ⟨bp,aA,rfl⟩:=pp I
   have ah:(aw.map fun (i,x)=>(i,a.eval x)).toList[k]? = some q:=by simpa using Z
   rw [Array.toList_map] at ah
   obtain ⟨aH,ai,rfl⟩:=pp ah
   rw [aA] at ai
   obtain rfl:=Option.some.inj ai
   exact ⟨rfl,D _⟩
  ·cases h
 | buildSlice t len aw=>
  simp only at h
  replace h:=Option.bind_eq_some_iff.1 h
  obtain ⟨el,aD,h⟩:=h
  replace h:=Option.bind_eq_some_iff.1 h
  obtain ⟨vs,aP,h⟩:=h
  obtain ⟨ab,af,aj,an⟩:=sx aD
  split at h
  rotate_left
  ·cases h
  rename_i ae
  obtain ⟨aZ,aT,bm,bn⟩:=ae
  obtain rfl:=Nat.eq_of_beq_eq_true aZ
  obtain ⟨ap,aq⟩:=wa aP
  have aU:(aw.map fun (i,x)=>(i,a.eval x)).size=vs.length:=by rw [ap]; simp
  have av:∀ (k:Nat) p,(aw.map fun (i,x)=>(i,a.eval x))[k]? = some p->p.1=k:=by
   intro k p G
   have ah:(aw.map fun (i,x)=>(i,a.eval x)).toList[k]? = some p:=by simpa using G
   rw [Array.toList_map] at ah
   obtain ⟨aH,ai,rfl⟩:=pp ah
   have:=aq k (aH.1,eH e aH.2) (by rw [List.getElem?_map,ai]; rfl)
   simpa using this
  have aV:∀ (k:Nat) v p,vs[k]? = some v->(aw.map fun (i,x)=>(i,a.eval x))[k]? = some p->RV c.P.cellsOf B w A ρ v p.2:=by
   intro k v p I G
   have ah:(aw.map fun (i,x)=>(i,a.eval x)).toList[k]? = some p:=by simpa using G
   rw [Array.toList_map] at ah
   obtain ⟨aH,ai,rfl⟩:=pp ah
   rw [ap,List.map_map] at I
   obtain ⟨bq,aB,rfl⟩:=pp I
   rw [ai] at aB
   obtain rfl:=Option.some.inj aB
   exact D _
  split at h
  ·refine sc rfl (KQ O hA ?_ ab af aj an aU aT h av aV)
   unfold o8 at h
   replace h:=Option.bind_eq_some_iff.1 h
   obtain ⟨es,_,h⟩:=h
   split at h
   ·injection h with h; injection h with _ h; exact aR _ h.symm (by simp)
   ·cases h
  ·replace h:=dC h
   obtain ⟨h,rfl⟩:=h
   exact sc rfl (KB O hA hA.lo.1 ab af aj an aU aT h av aV)
 | load t x=>
  simp only at h
  split at h
  ·rename_i G
   replace h:=dC h
   obtain ⟨h,rfl⟩:=h
   exact jR hA rfl (EB O hA G h (D x))
  ·cases h
 | store t x v=>
  simp only at h
  split at h
  ·rename_i G
   replace h:=Option.map_eq_some_iff.1 h
   obtain ⟨M',h,Z⟩:=h
   injection Z with ab af
   subst ab
   subst af
   have aC:A=M:=aa
   subst aC
   have bg:∃ w' ρ',(Instr.storeAt t (a.eval x) (a.eval v)).run c.P w = .ok () w'/\Step w A ρ w' M' ρ'/\MR c.P.cellsOf B w' M' ρ':=by
    split at h
    ·obtain ⟨bk,aW,bd,v',be,bf⟩:=Gg hA G h (D x) (D v)
     obtain ⟨w',ap,aq,ay⟩:=CZ bd G be (aW.rv (D x)) bf
     exact ⟨w',bk,ap,aW.trans aq,ay⟩
    ·obtain ⟨w',ap,aq,ay⟩:=CZ hA G h (D x) (D v)
     exact ⟨w',ρ,ap,aq,ay⟩
   obtain ⟨w',ρ',ap,aq,ay⟩:=bg
   intro K Q aJ
   unfold Oper.wp
   have:(execOp a.eval { dst,op:=.store t x v,type,pos,after,guard }).run c.P w = .ok .skip w':=by simp [execOp,Sem.run_bind,ap]
   rw [this]
   exact aJ Go.undef w' ρ' aq ay .un
  ·cases h
 | nilCheck x=>
  simp only at h
  replace h:=dC h
  obtain ⟨h,rfl⟩:=h
  obtain ⟨⟨bl,ac⟩,rfl⟩:=Cv O h (D x)
  refine oG hA ?_ (D x)
  simp only [execOp]
  rw [ac]
  rfl
 | binOp op t x z ck=>
  simp only at h
  split at h
  ·rename_i X
   replace h:=dC h
   obtain ⟨h,rfl⟩:=h
   exact jR hA rfl (LA O x z X h (D x) (D z) w)
  ·cases h
 | unOp op t x=>
  simp only at h
  replace h:=dC h
  obtain ⟨h,rfl⟩:=h
  exact jR hA rfl (KO h (D x) w)
 | convert s d x=>
  simp only at h
  split at h
  ·rename_i k k' I Z
   replace h:=dC h
   obtain ⟨h,rfl⟩:=h
   exact jR hA rfl (Jx I Z h (D x) w)
  ·rename_i q I Z
   split at h
   ·rename_i J
    replace h:=dC h
    obtain ⟨h,rfl⟩:=h
    exact jR hA rfl (Ik O hA I J Z h (D x))
   ·cases h
  ·cases h
 | makeFunc fn aI cap=>
  cases fn <;> simp only at h <;> try (cases h; done)
  rename_i f
  split at h
  ·rename_i am
   simp only [Option.some.injEq,Prod.mk.injEq] at h
   obtain ⟨rfl,rfl⟩:=h
   have aF:aI = #[]:=Array.eq_empty_of_size_eq_zero am
   subst aF
   refine oG hA (u:=.func (.func f) #[] (cap.map a.eval)) (by simp [execOp,Instr.makeFunc]) (.fn f _ _ (by simp) (fun i x v I Z=>?_))
   obtain ⟨bi,aA,rfl⟩:=pp I
   have ah:(cap.map a.eval).toList[i]? = some v:=by simpa using Z
   rw [Array.toList_map] at ah
   obtain ⟨bj,ai,rfl⟩:=pp ah
   rw [aA] at ai
   obtain rfl:=Option.some.inj ai
   exact D _
  ·cases h
 | makeSlice t l k=>
  simp only at h
  replace h:=Option.bind_eq_some_iff.1 h
  obtain ⟨el,aD,h⟩:=h
  obtain ⟨ab,af,aj,an⟩:=sx aD
  split at h
  ·cases h
  ·refine sc rfl (D0 h aa fun y ak h aa=>J7 O hA ?_ ab af aj h (D l) (D k))
   unfold v9 at h
   split at h
   ·split at h
    ·injection h with h; injection h with _ h; subst h; exact aa 0 (by simp)
    ·cases h
   ·cases h
 | slice t x lo U aX=>
  simp only at h
  split at h
  ·cases h
  ·rename_i a7
   have a8:aX=none:=by cases aX <;> simp at a7 ⊢
   subst a8
   split at h
   ·rename_i X
    replace h:=dC h
    obtain ⟨h,rfl⟩:=h
    exact jR hA rfl (FD X h (D x) (ao lo).1 (ao U).1 (ao lo).2 (ao U).2 w)
   ·rename_i el X
    split at h
    ·rename_i G
     replace h:=dC h
     obtain ⟨h,rfl⟩:=h
     refine jR hA rfl (HU O hA X G h (fun s bc=>?_) (D x) (ao lo).1 (ao U).1 (ao lo).2 (ao U).2 w)
     rw [bc] at h
     simp only [vo,u9,Option.bind_some] at h
     replace h:=Option.bind_eq_some_iff.1 h
     obtain ⟨I,_,h⟩:=h
     replace h:=Option.bind_eq_some_iff.1 h
     obtain ⟨bo,_,h⟩:=h
     split at h <;> cases h
    ·cases h
   ·cases h
 | fieldAddr t x j=>
  simp only at h
  replace h:=Option.bind_eq_some_iff.1 h
  obtain ⟨q,J,h⟩:=h
  replace h:=dC h
  obtain ⟨h,rfl⟩:=h
  obtain ⟨b,off,ac,N⟩:=BJ O h (D x)
  unfold yZ at J
  split at J
  ·rename_i aI aF
   obtain ⟨f,aE,J⟩:=Option.bind_eq_some_iff.1 J
   split at J
   ·rename_i G
    obtain ⟨d,aS,aL,U,am,ar⟩:=ee G
    obtain rfl:=Option.some.inj J
    exact jR hA rfl ⟨_,by simp [Instr.fieldAt,run_underlying aF,aE,ac,Instr.sureAddr,fieldPlace,sizeOf,typeInfo,U,Nat.ne_of_gt ar,Addr.add_mid],N⟩
   ·cases J
  ·cases J
 | field t x j=>
  simp only at h
  replace h:=Option.bind_eq_some_iff.1 h
  obtain ⟨q,J,h⟩:=h
  replace h:=dC h
  obtain ⟨h,rfl⟩:=h
  unfold yZ at J
  split at J
  ·rename_i aI aF
   obtain ⟨f,aE,J⟩:=Option.bind_eq_some_iff.1 J
   split at J
   ·rename_i G
    obtain rfl:=Option.some.inj J
    obtain ⟨cs,u,ac,av,N⟩:=EA G h (D x) w
    exact jR hA rfl ⟨u,by simp [Instr.field,run_underlying aF,aE,ac,asAgg,av],N⟩
   ·cases J
  ·cases J
 | indexAddr t x i=>
  simp only at h
  split at h
  ·rename_i el X
   split at h
   ·rename_i G
    obtain ⟨d,aS,aL,U,am,ar⟩:=ee G
    replace h:=dC h
    obtain ⟨h,rfl⟩:=h
    obtain ⟨k,m,Y,aO,b,off,len,cap,ac,aN,N⟩:=Gl O h (D x) (D i)
    refine jR hA rfl ⟨_,?_,N⟩
    simp [Instr.indexAt,asIntOf,Y,ac,run_underlying X,aO,aN,sizeOf,typeInfo,U,am,Sem.run_bind,Addr.add_mid]
   ·cases h
  ·rename_i len el X
   split at h
   ·rename_i G
    obtain ⟨d,aS,aL,U,am,ar⟩:=ee G.2
    replace h:=dC h
    obtain ⟨h,rfl⟩:=h
    obtain ⟨k,m,Y,aO,a6,b,off,ac,N⟩:=FR O (by rw [am]; exact ar) h (D x) (D i)
    refine jR hA rfl ⟨_,?_,N⟩
    simp [Instr.indexAt,asIntOf,Y,ac,run_underlying X,aO,a6,sizeOf,typeInfo,U,am,Sem.run_bind,Instr.sureAddr,Addr.add_mid]
   ·cases h
  ·cases h
 | index t x i=>
  simp only at h
  split at h
  ·rename_i X
   replace h:=dC h
   obtain ⟨h,rfl⟩:=h
   exact jR hA rfl (F4 X h (D x) (D i) w)
  ·rename_i len el X
   split at h
   ·rename_i G
    obtain ⟨d,aS,aL,U,am,ar⟩:=ee G
    replace h:=dC h
    obtain ⟨h,rfl⟩:=h
    unfold lm at h
    split at h
    ·rename_i kk m a4
     split at h
     ·rename_i ae
      have aG:=D i
      rw [a4] at aG
      have Y:a.eval i = .int kk m:=by
       revert aG
       generalize a.eval i=iv
       intro aG
       cases aG
       rfl
      obtain ⟨cs,u,ac,av,N⟩:=EA G h (D x) w
      refine jR hA rfl ⟨u,?_,N⟩
      rw [am] at av
      simp [Instr.index,asIntOf,Y,ac,run_underlying X,ae.1,ae.2,sizeOf,typeInfo,U,av,Sem.run_bind]
     ·cases h
    ·cases h
   ·cases h
  ·cases h
 | extract x i=>
  simp only at h
  replace h:=dC h
  obtain ⟨h,rfl⟩:=h
  obtain ⟨vs,u,ac,Y,N⟩:=DQ h (D x)
  exact jR hA rfl ⟨u,by simp [Instr.extract,ac,Y],N⟩
 | call cl=>
  obtain ⟨callee,args,argTypes⟩:=cl
  cases callee with
  | value f=>
   simp only at h
   split at h
   ·rename_i g cap aE
    have aM:=D f
    rw [aE] at aM
    intro K Q aJ
    unfold Oper.wp
    generalize a2:a.eval f=fv at aM
    cases aM with
    | fn _ _ vs a5 aP=>
     have ax:execOp a.eval { dst,op:=.call { callee:=.value f,args,argTypes },type,pos,after,guard }=callFunc g (#[]++args.map a.eval++vs):=by
      simp only [execOp,resolve,a2,Deferred.ofValue]
      rfl
     rw [ax]
     refine Kz a1 O hA h aa (by simp [a5]) (fun i x v I Z=>?_) _ a K Q aJ
     have az:(args.toList.map a.eval++vs.toList)[i]? = some v:=by
      have aA:((#[]++args.map a.eval++vs:Array Value)).toList[i]? = some v:=by rw [Array.getElem?_toList]; exact Z
      simpa using aA
     by_cases U:i < args.toList.length
     ·rw [List.getElem?_append_left (by simpa using U)] at I
      rw [List.getElem?_append_left (by simpa using U)] at az
      obtain ⟨bi,ai,rfl⟩:=pp I
      obtain ⟨bj,aB,rfl⟩:=pp az
      rw [ai] at aB
      obtain rfl:=Option.some.inj aB
      exact D _
     ·rw [List.getElem?_append_right (by simpa using U)] at I
      rw [List.getElem?_append_right (by simpa using U)] at az
      simp only [List.length_map] at I az
      exact aP _ x v I (by simpa using az)
   ·cases h
  | builtin b=>
   cases b <;> simp only at h <;> try (cases h; done)
   ·split at h
    ·rename_i x ad t u aQ X
     have au:args = #[x,ad]:=by cases args; simp_all
     have aK:argTypes = #[t,u]:=by cases argTypes; simp_all
     subst au
     subst aK
     split at h
     ·rename_i bb
      obtain rfl:=Nat.eq_of_beq_eq_true bb
      replace h:=Option.bind_eq_some_iff.1 h
      obtain ⟨el,aD,h⟩:=h
      obtain ⟨ab,af,aj,an⟩:=sx aD
      have ax:∀ r,(Builtin.append_ #[t,t] type #[a.eval x,a.eval ad]).run c.P w=r->(execOp a.eval { dst,op:=.call { callee:=.builtin .append,args:=#[x,ad],argTypes:=#[t,t] },type,pos,after,guard }).run c.P w=r.andThen fun u w'=>.ok (.value u) w':=by
       intro r a9
       simp only [execOp,resolve,invoke,builtin,Sem.run_bind,Sem.run_pure,Result.andThen_ok,List.map_toArray,List.map_cons,List.map_nil,a9]
      split at h
      ·cases ak with
       | keep=>
        exfalso
        unfold ks at h
        replace h:=Option.bind_eq_some_iff.1 h
        obtain ⟨src,_,h⟩:=h
        split at h
        ·split at h <;> simp at h
        ·split at h <;> simp at h
        ·replace h:=Option.bind_eq_some_iff.1 h
         obtain ⟨aY,_,h⟩:=h
         split at h
         ·split at h
          ·split at h <;> simp at h
          ·split at h <;> simp at h
         ·cases h
        ·cases h
       | push l=>
        refine wG ax (Gb O hA ?_ ab af aj an h (D x) (D ad))
        have F:=h
        unfold ks at F
        replace F:=Option.bind_eq_some_iff.1 F
        obtain ⟨src,_,F⟩:=F
        split at F
        ·split at F
         ·injection F with F; injection F with _ F; exact aR _ rfl (by injection F with F; rw [<- F]; simp)
         ·cases F
        ·split at F
         ·injection F with F; injection F with _ F; exact aR _ rfl (by injection F with F; rw [<- F]; simp)
         ·cases F
        ·replace F:=Option.bind_eq_some_iff.1 F
         obtain ⟨aY,_,F⟩:=F
         split at F
         ·split at F
          ·split at F <;> simp at F
          ·split at F <;> simp at F
         ·cases F
        ·cases F
       | put M'=>
        have aC:A=M:=aa
        subst aC
        exact wG ax (GJ hA ab af aj an h (D x) (D ad))
      ·cases ak with
       | keep=>exact wG ax (FL O hA ab af aj an h (D x) (D ad))
       | push l=>
        exfalso
        unfold rB at h
        replace h:=Option.bind_eq_some_iff.1 h
        obtain ⟨src,_,h⟩:=h
        split at h
        ·split at h
         ·split at h <;> simp at h
         ·split at h <;> simp at h
         ·replace h:=Option.bind_eq_some_iff.1 h
          obtain ⟨aY,_,h⟩:=h
          split at h <;> simp at h
         ·cases h
        ·cases h
       | put M'=>
        have aC:A=M:=aa
        subst aC
        exact wG ax (Hy hA ab af aj an h (D x) (D ad))
     ·cases h
    ·cases h
   ·split at h
    ·rename_i x t aQ X
     have au:args = #[x]:=by cases args; simp_all
     have aK:argTypes = #[t]:=by cases argTypes; simp_all
     subst au
     subst aK
     split at h
     ·rename_i aN
      replace h:=dC h
      obtain ⟨h,rfl⟩:=h
      obtain ⟨u,Y,N⟩:=MK (ty:=type) O aN h (D x) w
      refine oG hA (u:=u) ?_ N
      simp only [execOp,resolve,invoke,builtin,Sem.run_bind,Sem.run_pure,Result.andThen_ok,List.map_toArray,List.map_cons,List.map_nil,Y]
     ·cases h
    ·cases h
   ·split at h
    ·rename_i x ad aQ
     have au:args = #[x,ad]:=by cases args; simp_all
     subst au
     replace h:=dC h
     obtain ⟨h,rfl⟩:=h
     obtain ⟨u,Y,N⟩:=IN (P:=c.P) h (D x) (D ad) argTypes type w
     rw [if_pos rfl] at Y
     refine oG hA (u:=u) ?_ N
     simp only [execOp,resolve,invoke,builtin,Sem.run_bind,Sem.run_pure,Result.andThen_ok,List.map_toArray,List.map_cons,List.map_nil,Y]
    ·cases h
   ·split at h
    ·rename_i x ad aQ
     have au:args = #[x,ad]:=by cases args; simp_all
     subst au
     replace h:=dC h
     obtain ⟨h,rfl⟩:=h
     obtain ⟨u,Y,N⟩:=IN (P:=c.P) h (D x) (D ad) argTypes type w
     rw [if_neg (by decide)] at Y
     refine oG hA (u:=u) ?_ N
     simp only [execOp,resolve,invoke,builtin,Sem.run_bind,Sem.run_pure,Result.andThen_ok,List.map_toArray,List.map_cons,List.map_nil,Y]
    ·cases h
  | invoke _ _=>simp at h
 | _=>simp at h
end
end Go.Ab
