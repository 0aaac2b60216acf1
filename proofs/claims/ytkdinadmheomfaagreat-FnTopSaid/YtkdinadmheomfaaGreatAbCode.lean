/- Code and functions: the evaluator's word holds for the machine. -/
import Derived.Test.YtkdinadmheomfaaGreatAbDraw3
set_option linter.unusedVariables false
set_option linter.unusedSimpArgs false
namespace Go.Ab
open Go Go.RowKit
section
variable {c:Cx} {call:bh} {B nt:Nat} {Q:Exit->Act->World->Prop}
theorem DB {S:TypeId->Nat} {B:Nat} {w:World} {M:bs} {ρ:Pm} (D:MR S B w M ρ):Step w M ρ { w with drawn:=w.drawn + 1 } M ρ/\MR S B { w with drawn:=w.drawn + 1 } M ρ:=
 rM D ⟨rfl,rfl,rfl,Nat.le_refl _,fun _ _=>rfl⟩
theorem Cl {n:Nat}:∀ (FT:List Tr),FT.flatMap (nH fun i=>(Array.replicate n false).getD i false)=List.replicate (FT.flatMap cH).length Ent.pend
 | []=>rfl
 | t::FT=>by
  have D:(Array.replicate n false).getD t.i false=false:=by
   rw [Array.getD_eq_getD_getElem?,Array.getElem?_replicate]
   split <;> rfl
  simp only [List.flatMap_cons,List.length_append]
  rw [Cl FT,<- List.replicate_append_replicate]
  congr 1
  unfold nH cH
  cases t.eff with
  | keep=>rfl
  | put M=>rfl
  | push l=>simp only [D]; rfl
theorem Ac (X:c.P.follows .mixedOrders=true) {ob th calm std suf:List Nat} {id:Nat} {ops:Array Oper} {e:b4} {M:bs} {FT BT:List Tr} {ρ:Pm} {a:Act} {w:World} (T:Told c call ob th calm std suf ops nt M e FT BT) (G:SR c.P.cellsOf B nt a w e M ρ)
  (U:∀ F w' ρ',Step w M ρ w' (pA (M++(FT.flatMap cH).map .live) BT) ρ'->SR c.P.cellsOf B nt F w' (o4 (o4 e FT) BT) (pA (M++(FT.flatMap cH).map .live) BT) ρ'->Q .normal F w'):(Code.region id ops true).wp c.P Q a w:=by
 refine wp_region_any X ?_
 obtain ⟨J,O⟩:=DB G.mr
 have Y:=Cl (n:=ops.size) FT
 have I:∀ i,¬ In (Array.replicate ops.size false) i:=by
  intro i D
  unfold In at D
  rw [Array.getD_eq_getD_getElem?,Array.getElem?_replicate] at D
  split at D <;> simp at D
 have N:=J.trans (uE (k:=(FT.flatMap cH).length))
 refine CR (w0:=w) (ρ0:=ρ) T (fun F w' ρ' Z aa=>U F w' ρ' Z (by rw [<- yo]; exact aa)) ops.size _ a _ ρ (M++List.replicate (FT.flatMap cH).length Ent.pend)
  ⟨by simp,fun k o _ D=>absurd D (I k),fun x=>⟨fun t _ _ D=>absurd D (I _),fun _=>uE.rv (J.rv (G.env x))⟩,⟨0,by omega,⟨fun q t _ _=>⟨fun D=>absurd D (I _),fun h=>by omega⟩,fun h=>by omega⟩,by rw [if_pos rfl,Y],fun h=>by omega,fun h=>by omega⟩,Fh O,G.size,G.defers,N.stp,N.ph⟩ (by simp)
theorem Ay (ad:o5 c.P call) (an:c.P.follows .mixedOrders=true) {g:Reg} {id:Nat} {ops:Array Oper} {Z:Bool} {e aj:b4} {M M':bs} {ρ:Pm} {a:Act} {w:World} (h:tY c call nt g ops Z e M=some (aj,M')) (ah:SR c.P.cellsOf B nt a w e M ρ)
  (av:∀ D w' ρ',Step w M ρ w' M' ρ'->SR c.P.cellsOf B nt D w' aj M' ρ'->Q .normal D w'):(Code.region id ops Z).wp c.P Q a w:=by
 unfold tY at h
 split at h
 rotate_left
 ·cases h
 rename_i aw
 have ae:=List.all_eq_true.1 aw
 replace h:=Option.map_eq_some_iff.1 h
 obtain ⟨⟨ak,O⟩,h,h2⟩:=h
 simp only [Prod.mk.injEq] at h2
 obtain ⟨ar,au⟩:=h2
 subst ar
 subst au
 have ac:∀ D w' ρ',Step w M ρ w' O ρ'->SR c.P.cellsOf B nt D w' ak O ρ'->Q .normal D w':=fun D w' ρ' I J=>av D w' ρ' I (J.prune _)
 cases Z with
 | false=>
  simp only [Bool.false_eq_true,if_false] at h
  refine wp_region ?_
  have:=vZ ad ae (Q:=Q) ops.toList 0 e M ρ a w ak O (by simp) h ah ac
  rw [List.range_eq_range']
  simpa using this
 | true=>
  simp only [if_true] at h
  split at h
  ·split at h
   rotate_left
   ·cases h
   rename_i af
   replace h:=Option.bind_eq_some_iff.1 h
   obtain ⟨⟨ap,C⟩,h3,h4⟩:=h
   obtain ⟨FT,aa,ab,f3,N⟩:=yi _ _ _ _ _ h3
   obtain ⟨BT,U,X,G,Y⟩:=zT _ _ _ _ _ h4
   simp only [List.nil_append] at f3
   subst ab
   subst f3
   have T:Told c call g.ob g.th g.calm [] g.suf ops nt M e FT BT:=⟨ad,ae,by rw [List.append_nil]; exact af,aa,U,fun q t ay=>by
     obtain ⟨aA,aB,aC,aD,aE,aF⟩:=N q t ay
     exact ⟨aA,aB,aC,aD,fun F=>.inl (aE F),fun F=>by simp [fg] at F,aF⟩,Y,fun q b am t ai _=>.inr ⟨fun F=>by simp [fg] at F,fun _ F l ax=>by
     obtain ⟨aG,az⟩:=List.getElem?_of_mem ai
     have:=(N aG t az).2.2.2.2.1 F
     rw [ax] at this
     cases this⟩⟩
   exact Ac an T ah (fun D w' ρ' I J=>ac D w' ρ' (by rw [G]; exact I) (by rw [X,G]; exact J))
  ·rename_i std _
   split at h
   rotate_left
   ·cases h
   rename_i af
   replace h:=Option.bind_eq_some_iff.1 h
   obtain ⟨⟨ap,C,aH⟩,h3,h4⟩:=h
   obtain ⟨FT,aa,ab,f3,N,f5⟩:=wu _ _ _ _ _ _ _ h3
   obtain ⟨BT,U,X,G,Y,ao⟩:=yp _ _ _ _ _ h4
   simp only [List.nil_append] at f3
   subst ab
   subst f3
   have T:Told c call g.ob g.th g.calm std g.suf ops nt M e FT BT:=⟨ad,ae,af,aa,U,N,Y,fun q b am t ai _=>by
    rcases (f5 _ _ (ao q b am)).2 t ai with h | h
    ·left
     have aq:=gn.1 h
     exact (List.mem_filter.1 aq).2
    ·exact .inr h⟩
   exact Ac an T ah (fun D w' ρ' I J=>ac D w' ρ' (by rw [G]; exact I) (by rw [X,G]; exact J))
theorem BU (U:o5 c.P call) (X:c.P.follows .mixedOrders=true) {g:Reg} {id:Nat} {ops:Array Oper} {G:Bool} {e I:b4} {M M':bs} {ρ:Pm} {a:Act} {w:World} (h:zO c call nt g ops G e M=some (I,M')) (F:SR c.P.cellsOf B nt a w e M ρ)
  (O:∀ D w' ρ',Step w M ρ w' M' ρ'->SR c.P.cellsOf B nt D w' I M' ρ'->Q .normal D w'):(Code.region id ops G).wp c.P Q a w:=by
 obtain ⟨J,N⟩:=AT (e:=e) g.fz M F.mr
 exact Ay U X h ⟨N,fun x=>J.rv (F.env x),F.size,F.defers⟩ (fun D w' ρ' Y Z=>O D w' ρ' (J.trans Y) Z)
def OI:Ex->Exit
 | .nrm=>.normal
 | .ext id=>.exit id
 | .ret=>.ret
def Mp (c:Cx) (B nt:Nat) (code:Code) (s:St):Prop:=
 ∀ (e:b4) (M:bs) (x:Ex) (F:b4) (M':bs),s e M=some (x,F,M')->∀ (ρ:Pm) (a:Act) (w:World) (Q:Exit->Act->World->Prop),SR c.P.cellsOf B nt a w e M ρ ->
  (∀ D w' ρ',Step w M ρ w' M' ρ'->SR c.P.cellsOf B nt D w' F M' ρ'->Q (OI x) D w')->code.wp c.P Q a w
theorem Cr {R:Nat->Prop}:(∃ n,R n)->∃ n,R n/\∀ m,R m->n<=m:=by
 rintro ⟨n,I⟩
 induction n using Nat.strongRecOn with
 | _ n J=>
  by_cases h:∃ m,m < n/\R m
  ·obtain ⟨m,D,F⟩:=h
   exact J m D F
  ·refine ⟨n,I,fun m G=>?_⟩
   rcases Nat.lt_or_ge m n with D | D
   ·exact absurd ⟨m,D,G⟩ h
   ·exact D
open Classical in
theorem Dv {code:Code} {s:St} (ap:Mp c B nt code s) (l:List Nat) (k:Nat):Mp c B nt (.loop code) (cD l s k):=by
 intro e M x am M' h ρ a w Q aq ah
 let R:Nat->Act->World->Prop:=fun n D w'=>∃ X I O,cD l s n X I=some (x,am,M')/\SR c.P.cellsOf B nt D w' X I O/\Step w M ρ w' I O
 let G:Act->World->Nat:=fun D w'=>if h:∃ n,R n D w' then Classical.choose (Cr h) else 0
 have aj:∀ n D w',R n D w'->R (G D w') D w'/\G D w'<=n:=by
  intro n D w' F
  have Z:∃ n,R n D w':=⟨n,F⟩
  have:G D w'=Classical.choose (Cr Z):=dif_pos Z
  rw [this]
  obtain ⟨Y,ao⟩:=Classical.choose_spec (Cr Z)
  exact ⟨Y,ao n F⟩
 refine wp_loop (fun D w'=>∃ n,R n D w') G ⟨k,e,M,ρ,h,aq,Step.refl _ _ _⟩ (fun U ae Y=>?_)
 obtain ⟨n,F⟩:=Y
 obtain ⟨F,_⟩:=aj n U ae F
 generalize av:G U ae=m at F
 obtain ⟨X,I,O,aa,ar,ab⟩:=F
 cases m with
 | zero=>simp [cD] at aa
 | succ m=>
  simp only [cD] at aa
  obtain ⟨⟨au,an,ak⟩,k4,k5⟩:=Option.bind_eq_some_iff.1 aa
  refine ap _ _ _ _ _ k4 O U ae _ (ar.prune l) (fun J N af ac ad=>?_)
  cases au with
  | nrm=>
   have ai:R m J N:=⟨an,ak,af,k5,ad,ab.trans ac⟩
   have:=(aj m J N ai).2
   exact ⟨⟨m,ai⟩,by omega⟩
  | ext id=>
   simp only [Option.some.injEq,Prod.mk.injEq] at k5
   obtain ⟨rfl,rfl,rfl⟩:=k5
   exact ah J N af (ab.trans ac) ad
  | ret=>
   simp only [Option.some.injEq,Prod.mk.injEq] at k5
   obtain ⟨rfl,rfl,rfl⟩:=k5
   exact ah J N af (ab.trans ac) ad
theorem EI {S:TypeId->Nat} {V:Nat->Option Obj} {B:Nat} {R:gC} {a b:AV} {v:Value} (h:RC S V B R a v):RC S V B R (wq a b) v:=by
 unfold wq
 split
 ·exact h
 ·split
  ·cases h; exact .slON _
  ·cases h; exact .slON _
  ·exact .undef v
theorem Fy {S:TypeId->Nat} {V:Nat->Option Obj} {B:Nat} {R:gC} {a b:AV} {v:Value} (h:RC S V B R b v):RC S V B R (wq a b) v:=by
 unfold wq
 split
 ·rename_i e; rw [e]; exact h
 ·split
  ·exact h
  ·cases h with
   | lit t es b cs f F D J I O N G h U=>exact .slO _ [] b 0 cs f F D (by simpa using J) I (by simp) (by simp) (by simp) G h (by simp)
  ·exact .undef v
theorem A7 (l:List Nat) (D F:b4) (t:Nat):a3 (Bg l D F) t=wq (a3 D t) (a3 F t)∨a3 (Bg l D F) t = .undef:=by
 unfold Bg
 induction l with
 | nil=>exact .inr rfl
 | cons s r I=>
  simp only [List.map_cons,a3]
  split
  ·rename_i G; rw [Nat.eq_of_beq_eq_true G]; exact .inl rfl
  ·exact I
theorem K0 {S:TypeId->Nat} {V:Nat->Option Obj} {B:Nat} {R:gC} (l:List Nat) (D F:b4):∀ t v,RC S V B R (a3 D t) v->RC S V B R (a3 (Bg l D F) t) v:=fun t v h=>by
 rcases A7 l D F t with e | e
 ·rw [e]; exact EI h
 ·rw [e]; exact .undef v
theorem J2 {S:TypeId->Nat} {V:Nat->Option Obj} {B:Nat} {R:gC} (l:List Nat) (F D:b4):∀ t v,RC S V B R (a3 D t) v->RC S V B R (a3 (Bg l F D) t) v:=fun t v h=>by
 rcases A7 l F D t with e | e
 ·rw [e]; exact Fy h
 ·rw [e]; exact .undef v
theorem SR.weak {S:TypeId->Nat} {a:Act} {w:World} {e D:b4} {M:bs} {ρ:Pm} (h:SR S B nt a w e M ρ) (F:∀ t v,RV S B w M ρ (a3 e t) v->RV S B w M ρ (a3 D t) v):SR S B nt a w D M ρ:=
 ⟨h.mr,fun t=>F t _ (h.env t),h.size,h.defers⟩
theorem jb (O:o5 c.P call) (U:c.P.follows .mixedOrders=true) (an:Ann) (k:Nat):∀ code:Code,Mp c B nt code (cf c call nt an k code)
 | .skip=>fun e M x G M' h ρ a w Q F D=>by
  simp only [cf,bV,Option.some.injEq,Prod.mk.injEq] at h
  obtain ⟨rfl,rfl,rfl⟩:=h
  exact wp_skip (D a w ρ (Step.refl _ _ _) F)
 | .label l=>fun e M x G M' h ρ a w Q F D=>by
  simp only [cf,bV,Option.some.injEq,Prod.mk.injEq] at h
  obtain ⟨rfl,rfl,rfl⟩:=h
  exact wp_label (D a w ρ (Step.refl _ _ _) F)
 | .exit id=>fun e M x G M' h ρ a w Q F D=>by
  simp only [cf,bV,Option.some.injEq,Prod.mk.injEq] at h
  obtain ⟨rfl,rfl,rfl⟩:=h
  exact wp_exit (D a w ρ (Step.refl _ _ _) F)
 | .ret=>fun e M x G M' h ρ a w Q F D=>by
  simp only [cf,bV,Option.some.injEq,Prod.mk.injEq] at h
  obtain ⟨rfl,rfl,rfl⟩:=h
  exact wp_ret (D a w ρ (Step.refl _ _ _) F)
 | .region id ops draw=>fun e M x G M' h ρ a w Q F D=>by
  cases hl:look an.regs id with
  | none=>simp [cf,hl] at h
  | some g=>
   simp only [cf,hl,ap] at h
   obtain ⟨⟨ae,ac⟩,h1,h2⟩:=Option.map_eq_some_iff.1 h
   simp only [Prod.mk.injEq] at h2
   obtain ⟨rfl,rfl,rfl⟩:=h2
   exact BU O U h1 F D
 | .seq p q=>fun e M x G M' h ρ a w Q F D=>by
  simp only [cf,ak] at h
  obtain ⟨⟨ab,ae,ac⟩,h1,h2⟩:=Option.bind_eq_some_iff.1 h
  refine wp_seq (jb O U an k p _ _ _ _ _ h1 ρ a w _ F (fun X Y Z J N=>?_))
  cases ab with
  | nrm=>exact jb O U an k q _ _ _ _ _ h2 Z X Y Q N (fun ai ao aq aj am=>D ai ao aq (J.trans aj) am)
  | ext id=>
   simp only [Option.some.injEq,Prod.mk.injEq] at h2
   obtain ⟨rfl,rfl,rfl⟩:=h2
   exact D X Y Z J N
  | ret=>
   simp only [Option.some.injEq,Prod.mk.injEq] at h2
   obtain ⟨rfl,rfl,rfl⟩:=h2
   exact D X Y Z J N
 | .cond x p q=>fun e M x' G M' h ρ a w Q F D=>by
  simp only [cf,bJ] at h
  have I:=Eg F.env x
  split at h
  ·rename_i aa
   rw [aa] at I
   have:a.eval x = .bool true:=by
    revert I
    generalize a.eval x=u
    intro I
    cases I
    rfl
   exact wp_cond_true this (jb O U an k p _ _ _ _ _ h ρ a w Q F D)
  ·rename_i aa
   rw [aa] at I
   have:a.eval x = .bool false:=by
    revert I
    generalize a.eval x=u
    intro I
    cases I
    rfl
   exact wp_cond_false this (jb O U an k q _ _ _ _ _ h ρ a w Q F D)
  ·rename_i aa
   rw [aa] at I
   obtain ⟨b,af⟩:∃ b,a.eval x = .bool b:=by
    revert I
    generalize a.eval x=u
    intro I
    cases I
    exact ⟨_,rfl⟩
   unfold Lu at h
   obtain ⟨⟨ab,ae,ac⟩,h1,h⟩:=Option.bind_eq_some_iff.1 h
   obtain ⟨⟨av,au,ar⟩,h2,h⟩:=Option.bind_eq_some_iff.1 h
   split at h
   ·rename_i ah
    simp only at ah
    obtain ⟨rfl,rfl⟩:=ah
    simp only [Option.some.injEq,Prod.mk.injEq] at h
    obtain ⟨rfl,rfl,rfl⟩:=h
    cases b with
    | true=>exact wp_cond_true af (jb O U an k p _ _ _ _ _ h1 ρ a w Q F (fun ad w' ρ' J N=>D ad w' ρ' J (N.weak (K0 _ _ _))))
    | false=>exact wp_cond_false af (jb O U an k q _ _ _ _ _ h2 ρ a w Q F (fun ad w' ρ' J N=>D ad w' ρ' J (N.weak (J2 _ _ _))))
   ·cases h
  ·cases h
 | .block id p=>fun e M x G M' h ρ a w Q F D=>by
  simp only [cf,bU] at h
  obtain ⟨⟨ab,ae,ac⟩,h1,h2⟩:=Option.map_eq_some_iff.1 h
  refine wp_block (jb O U an k p _ _ _ _ _ h1 ρ a w _ F (fun X Y Z J N=>?_))
  cases ab with
  | nrm=>
   simp only [Prod.mk.injEq] at h2
   obtain ⟨rfl,rfl,rfl⟩:=h2
   exact D X Y Z J N
  | ext j=>
   simp only at h2
   show if j=id then _ else _
   by_cases hj:j=id
   ·subst hj
    rw [if_pos (Nat.beq_refl j)] at h2
    simp only [Prod.mk.injEq] at h2
    obtain ⟨rfl,rfl,rfl⟩:=h2
    rw [if_pos rfl]
    exact D X Y Z J N
   ·rw [if_neg (fun e=>hj (Nat.eq_of_beq_eq_true e))] at h2
    simp only [Prod.mk.injEq] at h2
    obtain ⟨rfl,rfl,rfl⟩:=h2
    rw [if_neg hj]
    exact D X Y Z J N
  | ret=>
   simp only [Prod.mk.injEq] at h2
   obtain ⟨rfl,rfl,rfl⟩:=h2
   exact D X Y Z J N
 | .loop p=>fun e M x G M' h ρ a w Q F D=>by
  cases hl:(oP p).bind (look an.loops) with
  | none=>simp [cf,hl] at h
  | some l=>
   simp only [cf,hl] at h
   exact Dv (jb O U an k p) l k _ _ _ _ _ h ρ a w Q F D
 | .goto _=>fun e M x G M' h=>by simp [cf] at h
 | .scope _=>fun e M x G M' h=>by simp [cf] at h
 | .refuse _=>fun e M x G M' h=>by simp [cf] at h
 | .rangeFunc ..=>fun e M x G M' h=>by simp [cf] at h
theorem vW:∀ (l:List AV) (i t:Nat),a3 (pV i l) t=if i<=t then (l[t - i]?).getD .undef else .undef
 | [],i,t=>by simp [pV,a3]
 | v::l,i,t=>by
  simp only [pV,a3]
  by_cases h:i=t
  ·subst h; simp
  ·rw [if_neg (fun e=>h (Nat.eq_of_beq_eq_true e)),vW l (i + 1) t]
   by_cases h2:i + 1<=t
   ·rw [if_pos h2,if_pos (by omega),show t - i=(t - (i + 1)) + 1 by omega,List.getElem?_cons_succ]
   ·rw [if_neg h2,if_neg (by omega)]
theorem Li {M:bs} {ρ:Pm} {a:Act} {w:World} {e:b4} (F:SR c.P.cellsOf B nt a w e M ρ) {r:ResultVar} {y:AV} (h:AB c.P e M r=some y) :
  ∃ v,(match r with | .tmp t=>pure (a.tmps.getD t Go.undef) | .cell p t=>(do loadVar t (<- asAddr (a.tmps.getD p Go.undef))):Sem Value).run c.P w = .ok v w/\RV c.P.cellsOf B w M ρ y v:=by
 cases r with
 | tmp t=>
  simp only [AB,Option.some.injEq] at h
  subst h
  exact ⟨_,rfl,F.env t⟩
 | cell p t=>
  simp only [AB] at h
  split at h
  ·rename_i J
   obtain ⟨u,D,I⟩:=EB (fN.refl M) F.mr J h (F.env p)
   refine ⟨u,?_,I⟩
   show (do loadVar t (<- asAddr (a.tmps.getD p Go.undef)):Sem Value).run c.P w = .ok u w
   generalize a.tmps.getD p Go.undef=v at D ⊢
   cases v with
   | pointer G=>
    cases G with
    | none=>simp [Instr.loadAt,Instr.sureAddr] at D
    | some G=>simp only [asAddr,Sem.run_bind,Sem.run_pure,Result.andThen_ok]; simpa [Instr.loadAt,Instr.sureAddr] using D
   | _=>simp [Instr.loadAt,Instr.sureAddr] at D
  ·cases h
theorem Eo {M:bs} {ρ:Pm} {a:Act} {w:World} {e:b4} (I:SR c.P.cellsOf B nt a w e M ρ) (f:ResultVar->Sem Value) (G:f=fun | .tmp t=>pure (a.tmps.getD t Go.undef) | .cell p t=>do loadVar t (<- asAddr (a.tmps.getD p Go.undef))) :
  ∀ (rs:List ResultVar) (ys:List AV),ju c.P e M rs=some ys->∃ vs:List Value,(rs.mapM f).run c.P w = .ok vs w/\ys.length=vs.length/\∀ (i:Nat) y v,ys[i]? = some y->vs[i]? = some v->RV c.P.cellsOf B w M ρ y v
 | [],ys,h=>by
  simp only [ju,Option.some.injEq] at h
  subst h
  exact ⟨[],by simp,rfl,by simp⟩
 | r::rs,ys,h=>by
  simp only [ju] at h
  obtain ⟨y,J,h⟩:=Option.bind_eq_some_iff.1 h
  obtain ⟨q,N,rfl⟩:=Option.map_eq_some_iff.1 h
  obtain ⟨v,O,U⟩:=Li I J
  obtain ⟨vs,X,Y,Z⟩:=Eo I f G rs q N
  refine ⟨v::vs,?_,by simp [Y],fun i aa v' D F=>?_⟩
  ·rw [List.mapM_cons]
   have:(f r).run c.P w = .ok v w:=by rw [G]; cases r <;> exact O
   simp only [Sem.run_bind,this,Result.andThen_ok,X,Sem.run_pure]
  ·cases i with
   | zero=>simp at D F; subst D; subst F; exact U
   | succ i=>exact Z i aa v' (by simpa using D) (by simpa using F)
theorem A9 {M:bs} {ρ:Pm} {a:Act} {w:World} {e:b4} (Y:SR c.P.cellsOf B nt a w e M ρ) {D:Func} {ys:List AV} (h:ju c.P e M D.results.toList=some ys) :
  ∃ v,(results D a.tmps).run c.P w = .ok v w/\RV c.P.cellsOf B w M ρ (s2 ys) v:=by
 obtain ⟨vs,N,F,G⟩:=Eo Y _ rfl _ _ h
 have X:(results D a.tmps).run c.P w = .ok (if h:vs.toArray.size=1 then vs.toArray[0] else .tuple vs.toArray) w:=by
  unfold results
  rw [show D.results=D.results.toList.toArray by simp,List.mapM_toArray]
  simp only [Sem.run_bind,Sem.run_map]
  have Z:∀ g:ResultVar->Sem Value,(∀ t,g (.tmp t)=pure (a.tmps.getD t Go.undef))->(∀ p t,g (.cell p t)=(do loadVar t (<- asAddr (a.tmps.getD p Go.undef))))->(D.results.toList.mapM g).run c.P w = .ok vs w:=by
   intro g O U
   rw [show g=(fun | .tmp t=>pure (a.tmps.getD t Go.undef) | .cell p t=>do loadVar t (<- asAddr (a.tmps.getD p Go.undef))) from funext fun r=>by cases r; exact O _; exact U _ _]
   exact N
  rw [Z]
  ·simp
  ·intro t; rfl
  ·intro p t; rfl
 refine ⟨_,X,?_⟩
 cases vs with
 | nil=>
  have:ys=[]:=List.length_eq_zero_iff.1 F
  subst this
  exact .tup [] #[] rfl (by simp)
 | cons v vs=>
  cases vs with
  | nil=>
   cases ys with
   | nil=>simp at F
   | cons y ys=>
    cases ys with
    | nil=>exact G 0 y v rfl rfl
    | cons _ _=>simp at F
  | cons ab vs=>
   cases ys with
   | nil=>simp at F
   | cons y ys=>
    cases ys with
    | nil=>simp at F
    | cons ac ys=>
     simp only [s2]
     rw [dif_neg (by simp)]
     exact .tup _ _ (by simpa using F) (fun i aa v' I J=>G i aa v' I (by simpa using J))
def x5 (P:Program) (prim:bh) (isPrim:Nat->Bool):Prop:=o5 P fun f args M=>if isPrim f=true then prim f args M else none
theorem um {an:Nat->Option Ann} {prim:Nat->List AV->bs->Option (AV×bs)} {isPrim:Nat->Bool} (af:c.P.follows .mixedOrders=true) (ah:x5 c.P prim isPrim):∀ n,o5 c.P (nN c an prim isPrim n)
 | 0=>fun f args M Y M' h=>by simp [nN] at h
 | n + 1=>fun f args M Y M' h B w ρ vals ab ao ai o a K Q aa=>by
  simp only [nN] at h
  split at h
  ·rename_i aq
   exact ah f args M Y M' (by simp only [aq,if_true]; exact h) B w ρ vals ab ao ai o a K Q aa
  ·split at h
   ·rename_i F ak ad ax
    split at h
    ·rename_i b ac
     split at h
     ·rename_i am
      unfold CX at h
      obtain ⟨⟨x,Z,O⟩,h1,h2⟩:=Option.bind_eq_some_iff.1 h
      have ap : ¬ F.name = "runtime.NumGoroutine" := by have := am.2; simpa using this
      have ar:(callFunc f vals).run c.P w = .ok (.enter f vals) w:=by
       simp [callFunc,Sem.run_bind,ad,ap,ac]
      rw [ar,Oper.upon_enter]
      have ae:∀ ys,ju c.P Z O F.results.toList=some ys->Y=s2 ys->M'=O->∀ D w' ρ',Step w M ρ w' O ρ'->SR c.P.cellsOf B F.ntmps D w' Z O ρ'->D.defers=[]/\∃ v,(results F D.tmps).run c.P w' = .ok v w'/\K (a.put o.dst v) w':=by
       intro ys N I J D w' ρ' U G
       subst I
       subst J
       obtain ⟨v,av,aw⟩:=A9 G N
       exact ⟨G.defers,v,av,aa v w' ρ' U G.mr aw⟩
      have au:SR c.P.cellsOf B F.ntmps { tmps:=vals++Array.replicate (F.ntmps - vals.size) undef,defers:=[] } w (pV 0 args) M ρ:=by
       refine ⟨ab,fun t=>?_,by simp; omega,rfl⟩
       rw [vW,if_pos (Nat.zero_le _),Nat.sub_zero]
       cases hat:args[t]? with
       | none=>exact .undef _
       | some x=>
        have ay:=(List.getElem?_eq_some_iff.1 hat).1
        have aj:vals[t]? = some vals[t]:=Array.getElem?_eq_getElem (by omega)
        rw [Array.getD_eq_getD_getElem?,Array.getElem?_append_left (by omega),aj]
        exact ai t x _ hat aj
      refine calls_of_wp ad ac (jb (um af ah n) af ak n b _ _ _ _ _ h1 ρ _ w _ au (fun D w' ρ' U G=>?_))
      cases x with
      | nrm=>
       obtain ⟨ys,N,X⟩:=Option.map_eq_some_iff.1 h2
       injection X with I J
       exact ae ys N I.symm J.symm D w' ρ' U G
      | ret=>
       obtain ⟨ys,N,X⟩:=Option.map_eq_some_iff.1 h2
       injection X with I J
       exact ae ys N I.symm J.symm D w' ρ' U G
      | ext id=>cases h2
     ·cases h
    ·cases h
   ·cases h
end
end Go.Ab
