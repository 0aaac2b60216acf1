/- Regions in any order: one step, and the whole. -/
import Derived.Test.YtkdinadmheomfaaGreatAbDraw2
set_option linter.unusedVariables false
set_option linter.unusedSimpArgs false
namespace Go.Ab
open Go Go.RowKit
abbrev In (L:Array Bool) (i:Nat):Prop:=L.getD i false=true
theorem BS {L:Array Bool} {i k:Nat} (D:i < L.size):In (L.setIfInBounds i true) k↔In L k∨k=i:=by
  unfold In
  rw [Array.getD_eq_getD_getElem?,Array.getD_eq_getD_getElem?,Array.getElem?_setIfInBounds]
  by_cases h:i=k
  · subst h; simp [D]
  · rw [if_neg h]
    constructor
    · exact .inl
    · rintro (h1 | h1)
      · exact h1
      · exact absurd h1.symm h
structure Stp (w:World) (M:bs) (ρ:Pm) (w':World) (M':bs) (ρ':Pm):Prop where
  os:w'.os=w.os
  tape:w'.tape=w.tape
  output:w'.output=w.output
  size:w.heap.size<=w'.heap.size
  block:∀ b,b < w.heap.size->¬ oQ M ρ b->w'.heap[b]? = w.heap[b]?
  ref:rk (jK M ρ) (jK M' ρ')
  held:∀ b,b < w.heap.size->oQ M' ρ' b->oQ M ρ b
  hid:ρ'.hid=ρ.hid
theorem Step.stp {w w':World} {M M':bs} {ρ ρ':Pm} (h:Step w M ρ w' M' ρ'):Stp w M ρ w' M' ρ':=⟨h.os,h.tape,h.output,h.size,h.block,h.ref,h.held,h.hid⟩
theorem Stp.refl (w:World) (M:bs) (ρ:Pm):Stp w M ρ w M ρ:=(Step.refl w M ρ).stp
theorem Stp.trans {w N O:World} {M G I:bs} {ρ U X:Pm} (h:Stp w M ρ N G U) (k:Stp N G U O I X):Stp w M ρ O I X:=
  ⟨k.os.trans h.os,k.tape.trans h.tape,k.output.trans h.output,Nat.le_trans h.size k.size,
   fun b D J=>(k.block b (Nat.lt_of_lt_of_le D h.size) (fun F=>J (h.held b D F))).trans (h.block b D J),
   h.ref.trans k.ref,fun b D F=>h.held b D (k.held b (Nat.lt_of_lt_of_le D h.size) F),k.hid.trans h.hid⟩
theorem Stp.rv {S:TypeId->Nat} {B:Nat} {w w':World} {M M':bs} {ρ ρ':Pm} (h:Stp w M ρ w' M' ρ') {a:AV} {v:Value} (D:RV S B w M ρ a v):RV S B w' M' ρ' a v:=by
  refine RC.mono (fun b o D=>?_) (Nat.le_refl _) h.ref D
  obtain ⟨G,J⟩:=dc.some D
  have F:=dc.lt D
  rw [dc.of_not (fun I=>G (h.held b F I)) (by rw [h.hid]; exact dc.nhid D),h.block b F G,J]
def L5 (S:TypeId->Nat) (ob:Ob):Prop:=ob.kn = .box/\ob.s=S ob.t/\0 < ob.s/\(∀ e ∈ ob.es,e.length=ob.s)/\(∀ e ∈ ob.es,∀ x ∈ e,gB x=true)
theorem y8 {c:Cx} {call:bh} {ob th:List Nat} {ops:Array Oper} {t:Tr} {l:List Ob} (h:wo c call ob th ops t) (F:BR th t.i t.o=true) (O:t.eff = .push l):∃ o,l=[o]/\L5 c.P.cellsOf o:=by
  unfold wo at h
  rw [O] at h
  have D:mv c call (fg ob t.i) (fg th t.i) t.n t.o (prune (rds t.o) t.e) t.M=some (t.y,.push l):=by
    unfold gL at h
    split at h
    · exact h
    · split at h
      · exact h
      · simp at h
    · simp at h
    · cases h
  unfold BR at F
  split at F
  · rename_i ty U
    have X:fg th t.i=false:=by simpa using F
    unfold mv at D
    rw [U] at D
    simp only [X,Ki,Bool.false_eq_true,if_false] at D
    split at D
    · rename_i N
      simp only [Option.some.injEq,Prod.mk.injEq,Eff.push.injEq] at D
      obtain ⟨_,rfl⟩:=D
      obtain ⟨Y,Z,G,I,J⟩:=N
      exact ⟨_,rfl,rfl,rfl,I,by simpa using G,by simpa using J⟩
    · cases D
  · cases F
theorem Df {S:TypeId->Nat} {B:Nat} {w:World} (In:Nat->Bool):∀ (FT:List Tr) (D:bs) (ρ:Pm),MR S B w (D++FT.flatMap (nH In)) ρ->(∀ t ∈ FT,In t.i=false->∀ l,t.eff = .push l->∃ o,l=[o]/\L5 S o) ->
    ∃ ρ',Step w (D++FT.flatMap (nH In)) ρ w (D++(FT.flatMap cH).map .live) ρ'/\MR S B w (D++(FT.flatMap cH).map .live) ρ'/\(∀ i,i < D.length->ρ' i=ρ i) /\
      ∀ (q:Nat) t,FT[q]? = some t->In t.i=false->∀ l,t.eff = .push l->∀ k,k < l.length->ρ' (D.length + ((FT.take q).flatMap cH).length + k)=none
  | [],D,ρ,hA,_=>⟨ρ,Step.refl _ _ _,hA,fun _ _=>rfl,fun q t h=>by simp at h⟩
  | t::FT,D,ρ,hA,hg=>by
    have ai:∀ (J:bs) (N:Pm),J.length=D.length + (cH t).length->J++(FT.flatMap cH).map Ent.live=D++((t::FT).flatMap cH).map .live->Step w (D++(t::FT).flatMap (nH In)) ρ w (J++FT.flatMap (nH In)) N->MR S B w (J++FT.flatMap (nH In)) N->(∀ i,i < D.length->N i=ρ i) ->
        (In t.i=false->∀ l,t.eff = .push l->∀ k,k < l.length->N (D.length + k)=none) ->
        ∃ ρ',Step w (D++(t::FT).flatMap (nH In)) ρ w (D++((t::FT).flatMap cH).map .live) ρ'/\MR S B w (D++((t::FT).flatMap cH).map .live) ρ'/\(∀ i,i < D.length->ρ' i=ρ i) /\
          ∀ (q:Nat) I,(t::FT)[q]? = some I->In I.i=false->∀ l,I.eff = .push l->∀ k,k < l.length->ρ' (D.length + (((t::FT).take q).flatMap cH).length + k)=none:=by
      intro J N ac ax aA ay av aw
      obtain ⟨aD,ae,af,ah,aC⟩:=Df In FT J N ay (fun I aB=>hg I (List.mem_cons_of_mem _ aB))
      rw [ax] at ae af
      refine ⟨aD,aA.trans ae,af,fun i U=>by rw [ah i (by omega),av i U],fun q I Y G l F k X=>?_⟩
      cases q with
      | zero=>
        simp only [List.getElem?_cons_zero,Option.some.injEq] at Y
        subst Y
        simp only [List.take_zero,List.flatMap_nil,List.length_nil,Nat.add_zero]
        rw [ah _ (by rw [ac]; simp only [cH,F]; omega)]
        exact aw G l F k X
      | succ q=>
        rw [List.getElem?_cons_succ] at Y
        have:=aC q I Y G l F k X
        rw [ac] at this
        simp only [List.take_succ_cons,List.flatMap_cons,List.length_append]
        rw [<- this]
        congr 1
        omega
    have ad:((t::FT).flatMap cH).map Ent.live=(cH t).map .live++(FT.flatMap cH).map .live:=by simp
    have Z:(t::FT).flatMap (nH In)=nH In t++FT.flatMap (nH In):=by simp
    by_cases hp:∃ l,t.eff = .push l/\In t.i=false
    · obtain ⟨l,F,G⟩:=hp
      obtain ⟨o,rfl,ao,ap,aq,ar,au⟩:=hg t (List.mem_cons_self ..) G l F
      have O:nH In t=[.pend]:=by unfold nH; rw [F]; simp [G]
      have am:cH t=[o]:=by unfold cH; rw [F]
      have aa:=hA
      rw [Z,O] at aa
      have az:(D++([Ent.pend]++FT.flatMap (nH In)))[D.length]? = some .pend:=by simp
      obtain ⟨aj,ak⟩:=zm aa (Below.refl _ w) az o none (fun _ _ e=>by cases e) (fun _=>⟨ap,aq,ar,au,fun e=>by rw [ao] at e; cases e⟩)
      have an:(D++([Ent.pend]++FT.flatMap (nH In))).set D.length (.live o)=(D++[.live o])++FT.flatMap (nH In):=by
        rw [List.set_append_right _ _ (Nat.le_refl _),Nat.sub_self]; simp
      rw [an] at aj ak
      refine ai (D++[.live o]) _ (by simp [am]) (by rw [ad,am]; simp) (by rw [Z,O]; exact aj) ak (fun i U=>by simp only [fJ]; rw [if_neg (by omega)]) (fun _ aE ab k X=>?_)
      rw [F] at ab
      cases ab
      have:k=0:=by simpa using X
      subst this
      simp [fJ]
    · refine ai (D++(cH t).map .live) ρ (by simp) (by rw [ad]; simp) ?_ ?_ (fun _ _=>rfl) (fun G l F=>absurd ⟨l,F,G⟩ hp)
      all_goals
        have O:nH In t=(cH t).map .live:=by
          unfold nH cH
          cases F:t.eff with
          | push l=>
            cases U:In t.i with
            | true=>simp
            | false=>exact absurd ⟨l,F,U⟩ hp
          | _=>rfl
      · rw [Z,O,List.append_assoc]; exact Step.refl _ _ _
      · rw [Z,O] at hA
        rw [List.append_assoc]; exact hA
theorem I8 {S:TypeId->Nat} {B:Nat} {w:World} {A:bs} {ρ:Pm} (hA:MR S B w A ρ) {n:Nat} (h:Ph A ρ n):Stp w A ρ w (A.set n .pend) ρ/\MR S B w (A.set n .pend) ρ:=by
  have ad:=jK.ph h
  obtain ⟨o,aa,aq,ar⟩:=h
  have ac:=(List.getElem?_eq_some_iff.1 aa).1
  have live:∀ (id:Nat) (D:Ob),(A.set n Ent.pend)[id]? = some (Ent.live D)->A[id]? = some (Ent.live D):=by
    intro id D G
    by_cases hi:id=n
    · subst hi; rw [List.getElem?_set_self ac] at G; cases G
    · rw [List.getElem?_set_ne (Ne.symm hi)] at G; exact G
  have N:Stp w A ρ w (A.set n .pend) ρ:=by
    refine ⟨rfl,rfl,rfl,Nat.le_refl _,fun _ _ _=>rfl,fun id L=>?_,fun b au G=>?_,rfl⟩
    · by_cases hi:id=n
      · subst hi
        rw [ad L]
        exact ⟨fun e=>(by cases e),fun x e=>(by cases e)⟩
      · have:jK (A.set n .pend) ρ id L=jK A ρ id L:=by simp [jK,List.getElem?_set_ne (Ne.symm hi)]
        rw [this]
        exact ⟨fun e=>e,fun x e=>.inr e⟩
    · obtain ⟨id,D,c,F,J⟩:=G
      exact ⟨id,D,c,live id D F,J⟩
  refine ⟨N,fun id D F=>?_,fun id af ah o2 b c Z F J=>hA.inj id af ah o2 b c Z (live _ _ F) (live _ _ J),hA.hid,⟨hA.lo.1,fun id D b c F=>hA.lo.2 id D b c (live _ _ F)⟩,hA.fx⟩
  obtain ⟨O,U,X,Y,I⟩:=hA.obj id D (live id D F)
  refine ⟨O,U,X,Y,?_⟩
  cases hp:ρ id with
  | none=>rw [hp] at I; exact I
  | some p=>
    obtain ⟨b,cap⟩:=p
    rw [hp] at I
    obtain ⟨cs,f,ai,aj,ak,am,an,ao,ap⟩:=I
    exact ⟨cs,f,ai,aj,ak,am,an,ao,fun i j e x ab ae=>N.rv (ap i j e x ab ae)⟩
theorem pv {M:bs}:∀ {l:List Ob} {n:Nat},AO M n l->∀ k o,l[k]? = some o->M[n + k]? = some (.live o)
  | [],n,_,k,o,h=>by simp at h
  | o'::l,n,h,k,o,hk=>by
    cases k with
    | zero=>simp only [List.getElem?_cons_zero,Option.some.injEq] at hk; subst hk; exact h.1
    | succ k=>
      rw [List.getElem?_cons_succ] at hk
      have:=pv h.2 k o hk
      rw [show n + (k + 1)=n + 1 + k by omega]
      exact this
section
variable {c:Cx} {call:bh} {ob th calm std suf:List Nat} {ops:Array Oper} {B nt:Nat} {M0:bs} {e0:b4} {FT BT:List Tr} {w0:World} {ρ0:Pm}
def va (calm std:List Nat) (M0:bs) (FT BT:List Tr) (L:Array Bool) (A:bs) (ρ:Pm):Prop:=
  ∃ s,s<=BT.length/\((∀ (q:Nat) t,BT[q]? = some t->rp t.o=false->(In L t.i↔q < s))/\(0 < s->∃ t,BT[s - 1]? = some t/\rp t.o=false))/\A=(if s=0 then M0++FT.flatMap (nH fun i=>L.getD i false) else pA (M0++(FT.flatMap cH).map .live) (BT.take s))/\(0 < s->∀ t ∈ FT,In L t.i∨fg (calm++std) t.i=true) /\
    (0 < s->∀ t ∈ FT,¬ In L t.i->∀ l,t.eff = .push l->∀ k,k < l.length->ρ (t.n + k)=none)
structure Inv (c:Cx) (calm std:List Nat) (ops:Array Oper) (B nt:Nat) (M0:bs) (e0:b4) (FT BT:List Tr) (w0:World) (ρ0:Pm) (L:Array Bool) (a:Act) (w:World) (ρ:Pm) (A:bs):Prop where
  size:L.size=ops.size
  down:∀ k o,ops[k]? = some o->In L k->∀ j ∈ iX o,In L j
  env:∀ x,(∀ t ∈ FT++BT,t.o.dst=some x->In L t.i->RV c.P.cellsOf B w A ρ t.y (a.tmps.getD x Go.undef))/\((∀ t ∈ FT++BT,t.o.dst=some x->¬ In L t.i)->RV c.P.cellsOf B w A ρ (a3 e0 x) (a.tmps.getD x Go.undef))
  mem:va calm std M0 FT BT L A ρ
  mr:MR c.P.cellsOf B w A ρ
  nts:nt<=a.tmps.size
  defers:a.defers=[]
  step:Stp w0 M0 ρ0 w A ρ
  ph:∀ id,Ph M0 ρ0 id->Ph A ρ id∨A[id]? = some .dead
section
variable (T:Told c call ob th calm std suf ops nt M0 e0 FT BT)
include T
theorem Told.same {a b:Tr} (G:a ∈ FT++BT) (I:b ∈ FT++BT) (h:a.i=b.i):a=b:=by
  obtain ⟨p,F⟩:=List.getElem?_of_mem G
  obtain ⟨q,D⟩:=List.getElem?_of_mem I
  have:=T.inj F D h
  subst this
  rw [F] at D
  exact Option.some.inj D
theorem KA {L:Array Bool} {a:Act} {w:World} {ρ:Pm} {A:bs} (U:Inv c calm std ops B nt M0 e0 FT BT w0 ρ0 L a w ρ A) {q:Nat} {t:Tr} (G:(FT++BT)[q]? = some t) (ac:¬ In L t.i) (ah:∀ j ∈ iX t.o,In L j) {x:Nat} (ae:x ∈ rds t.o++Of ops t.o) :
    RV c.P.cellsOf B w A ρ (a3 t.e x) (a.tmps.getD x Go.undef):=by
  have ad:=List.mem_of_getElem? G
  rw [T.env G]
  rcases Aa x ((FT++BT).take q) e0 with ⟨I,J,N,O⟩ | ⟨J,N⟩
  · rw [O]
    have F:=List.mem_of_mem_take J
    obtain ⟨af,D⟩:=List.getElem?_of_mem J
    rw [List.getElem?_take] at D
    split at D
    · rename_i Y
      have X:=T.lt_of D G Y
      refine (U.env x).1 I F N ?_
      rcases T.deps ad F ae N with h4 | h4 | h4
      · have:=T.inj G D h4; omega
      · exact ah _ h4.1
      · exfalso
        rcases X with ⟨Z,aa⟩ | ⟨Z,aa⟩
        · rcases h4.2.2 with k | k
          · rw [k] at aa; cases aa
          · rw [k] at Z; cases Z
        · omega
    · cases D
  · rw [N]
    refine (U.env x).2 (fun I F O ab=>?_)
    rcases T.deps ad F ae O with h4 | h4 | h4
    · exact ac (by rw [h4]; exact ab)
    · obtain ⟨af,D⟩:=List.getElem?_of_mem F
      have X:Ot suf I t:=by
        rcases h4.2.2 with k | k
        · cases hs:fg suf I.i with
          | false=>exact .inl ⟨hs,k⟩
          | true=>exact .inr ⟨by rw [hs,k],h4.2.1⟩
        · cases hs:fg suf t.i with
          | false=>exact .inr ⟨by rw [hs,k],h4.2.1⟩
          | true=>exact .inl ⟨k,hs⟩
      have Y:=T.pos D G X
      exact J I (List.mem_of_getElem? (i:=af) (by rw [List.getElem?_take,if_pos Y]; exact D)) O
    · exact ac (MX (In:=In L) U.down _ _ ab h4.1)
theorem Inv.next {L:Array Bool} {a:Act} {w w':World} {ρ ρ':Pm} {A A':bs} (F:Inv c calm std ops B nt M0 e0 FT BT w0 ρ0 L a w ρ A) {t:Tr} (O:t ∈ FT++BT) (am:∀ j ∈ iX t.o,In L j) (ao:¬ In L t.i)
    (Y:Stp w A ρ w' A' ρ') (ak:∀ id,id < M0.length->Ph A ρ id->Ph A' ρ' id∨A'[id]? = some .dead) (aj:MR c.P.cellsOf B w' A' ρ') {u:Value} (an:RV c.P.cellsOf B w' A' ρ' t.y u) (ai:va calm std M0 FT BT (L.setIfInBounds t.i true) A' ρ') :
    Inv c calm std ops B nt M0 e0 FT BT w0 ρ0 (L.setIfInBounds t.i true) (a.put t.o.dst u) w' ρ' A':=by
  have aa:=T.at_ O
  have af:t.i < L.size:=by rw [F.size]; exact (Array.getElem?_eq_some_iff.1 aa).1
  have X:∀ k,In (L.setIfInBounds t.i true) k↔In L k∨k=t.i:=fun k=>BS af
  have U:∀ x,t.o.dst=some x->x < a.tmps.size:=fun x G=>Nat.lt_of_lt_of_le (zM (T.dst t.o (by
    have:=List.mem_of_getElem? (l:=ops.toList) (i:=t.i) (by simpa using aa); exact this)) x G) F.nts
  refine ⟨by simpa using F.size,fun k o Z D j ac=>?_,fun x=>⟨fun ab J I D=>?_,fun ad=>?_⟩,ai,aj,by rw [(qn 0 U).1]; exact F.nts,by rw [(qn (u:=u) 0 U).2.1]; exact F.defers,F.step.trans Y,fun id ae=>?_⟩
  · rw [X] at D ⊢
    rcases D with D | D
    · exact .inl (F.down k o Z D j ac)
    · subst D
      rw [aa] at Z
      obtain rfl:=Option.some.inj Z
      exact .inl (am j ac)
  · rw [(qn x U).2.2]
    by_cases G:t.o.dst=some x
    · rw [if_pos G]
      rw [<- T.same O J (T.one O J G I)]
      exact an
    · rw [if_neg G]
      rw [X] at D
      rcases D with D | D
      · exact Y.rv ((F.env x).1 ab J I D)
      · exfalso
        rw [T.same J O D] at I
        exact G I
  · rw [(qn x U).2.2]
    by_cases G:t.o.dst=some x
    · exact absurd ((X t.i).2 (.inr rfl)) (ad t O G)
    · rw [if_neg G]
      exact Y.rv ((F.env x).2 (fun ab J I D=>ad ab J I ((X _).2 (.inl D))))
  · have ah:id < M0.length:=by obtain ⟨o,N,_⟩:=ae; exact (List.getElem?_eq_some_iff.1 N).1
    rcases F.ph id ae with N | N
    · exact ak id ah N
    · exact .inr (zX Y.ref N)
theorem Told.apart {q D:Nat} {t F:Tr} (G:FT[q]? = some t) (N:FT[D]? = some F) (Z:q < D) {l:List Ob} (I:t.eff = .push l):t.n + l.length<=F.n:=by
  obtain ⟨_,_,O,_⟩:=T.fr q t G
  obtain ⟨_,_,U,_⟩:=T.fr D F N
  have X:((FT.take (q + 1)).flatMap cH).length<=((FT.take D).flatMap cH).length:=by
    have:FT.take (q + 1)=(FT.take D).take (q + 1):=by rw [List.take_take,Nat.min_eq_left (by omega)]
    rw [this]
    generalize FT.take D=l
    have:l.flatMap cH=(l.take (q + 1)).flatMap cH++(l.drop (q + 1)).flatMap cH:=by rw [<- List.flatMap_append,List.take_append_drop]
    rw [this,List.length_append]
    omega
  have Y:((FT.take (q + 1)).flatMap cH).length=((FT.take q).flatMap cH).length + l.length:=by
    obtain ⟨J,rfl⟩:=List.getElem?_eq_some_iff.1 G
    rw [List.take_succ_eq_append_getElem J,List.flatMap_append,List.length_append]
    congr 1
    rw [List.flatMap_cons,List.flatMap_nil,List.append_nil]
    unfold cH
    rw [I]
  rw [O,U]
  simp only [List.nil_append]
  omega
theorem Told.apart2 {t F:Tr} (U:t ∈ FT) (X:F ∈ FT) (O:F.i≠t.i) {l I:List Ob} (J:t.eff = .push l) (N:F.eff = .push I) {k k':Nat} (Z:k < l.length) (aa:k' < I.length):F.n + k'≠t.n + k:=by
  obtain ⟨q,G⟩:=List.getElem?_of_mem U
  obtain ⟨Y,D⟩:=List.getElem?_of_mem X
  rcases Nat.lt_trichotomy q Y with h | h | h
  · have:=T.apart G D h J; omega
  · subst h
    rw [G] at D
    obtain rfl:=Option.some.inj D
    exact absurd rfl O
  · have:=T.apart D G h N; omega
theorem Dz {L:Array Bool} (U:∀ k o,ops[k]? = some o->In L k->∀ j ∈ iX o,In L j) {s:Nat} (J:0 < s) (X:s<=BT.length) (F:(∀ (q:Nat) t,BT[q]? = some t->rp t.o=false->(In L t.i↔q < s))/\(0 < s->∃ t,BT[s - 1]? = some t/\rp t.o=false)) (N:∀ t ∈ FT,In L t.i∨fg (calm++std) t.i=true)
    {t:Tr} (I:t ∈ FT) (G:¬ In L t.i):Kt c call ob th calm std ops t (pA (M0++(FT.flatMap cH).map .live) (BT.take s)):=by
  obtain ⟨r,rfl⟩:∃ r,s=r + 1:=⟨s - 1,by omega⟩
  obtain ⟨b,D,O⟩:=F.2 J
  rw [Nat.add_sub_cancel] at D
  rcases T.sd r _ D t I ((N t I).resolve_left G) with h | h
  · exact absurd (MX (In:=In L) U _ _ ((F.1 r _ D O).2 (by omega)) h) G
  · exact h
theorem Gv {L:Array Bool} {w:World} {A:bs} {ρ:Pm} (aW:∀ k o,ops[k]? = some o->In L k->∀ j ∈ iX o,In L j) (hA:MR c.P.cellsOf B w A ρ) (aZ:va calm std M0 FT BT L A ρ) (aV:L.size=ops.size) {q:Nat} {t:Tr} (ak:FT[q]? = some t) (ad:¬ In L t.i) :
    ∃ av J,fN av J/\NR av J t.n t.eff/\wo c call ob th ops { t with M:=av }/\Stp w A ρ w J ρ/\MR c.P.cellsOf B w J ρ/\(∀ id,id < M0.length->Ph A ρ id->Ph J ρ id) /\
      ∀ w' ρ',Step w J ρ w' (qq J t.n t.eff) ρ'->va calm std M0 FT BT (L.setIfInBounds t.i true) (qq J t.n t.eff) ρ':=by
  obtain ⟨s,ax,ay,U,ah,aD⟩:=aZ
  obtain ⟨ae,_,aq,an,a4,a5,F⟩:=T.fr q t ak
  have X:=List.mem_of_getElem? ak
  have aY:t.i < L.size:=by rw [aV]; exact (Array.getElem?_eq_some_iff.1 (T.front X).1).1
  have ac:∀ k,In (L.setIfInBounds t.i true) k↔In L k∨k=t.i:=fun k=>BS aY
  have aE:(∀ (q:Nat) D,BT[q]? = some D->rp D.o=false->(In (L.setIfInBounds t.i true) D.i↔q < s))/\(0 < s->∃ t,BT[s - 1]? = some t/\rp t.o=false):=by
    refine ⟨fun ao D Z a2=>?_,ay.2⟩
    rw [ac,<- ay.1 ao D Z a2]
    refine ⟨fun h=>h.resolve_right (fun e=>?_),.inl⟩
    have ae:=(T.front X).2
    have aK:=(T.back (List.mem_of_getElem? Z)).2
    rw [e,ae] at aK
    cases aK
  have aG:0 < s->∀ D ∈ FT,In (L.setIfInBounds t.i true) D.i∨fg (calm++std) D.i=true:=fun aa D G=>(ah aa D G).imp (fun h=>(ac _).2 (.inl h)) id
  by_cases aa:s=0
  · rw [if_pos aa] at U
    have aA:=FM (In:=fun i=>L.getD i false) (In':=fun i=>(L.setIfInBounds t.i true).getD i false) ak (Bool.eq_false_iff.2 ad) ((ac t.i).2 (.inr rfl)) (fun D G ap=>by
        have:=ac D.i
        unfold In at this
        cases aD:L.getD D.i false <;> cases h6:(L.setIfInBounds t.i true).getD D.i false <;> simp_all) (fun ao D Z e=>by
        have af:(FT++BT)[ao]? = some D:=by rw [List.getElem?_append_left (List.getElem?_eq_some_iff.1 Z).1]; exact Z
        have aQ:(FT++BT)[q]? = some t:=by rw [List.getElem?_append_left (List.getElem?_eq_some_iff.1 ak).1]; exact ak
        exact T.inj af aQ e) M0
    simp only [List.nil_append] at aq
    refine ⟨t.M,A,?_,?_,ae,Stp.refl _ _ _,hA,fun _ _ h=>h,fun w' ρ' _=>⟨s,ax,aE,?_,aG,fun h=>by omega⟩⟩
    · rw [an]
      split
      · intro id h; simp at h
      · rw [U]; intro id h; rw [List.getElem?_append_left h]
    · rcases F with F | ⟨l,F⟩
      · rw [F]; trivial
      · rw [F,U,aq]; exact (aA.1 l F).2
    · rw [if_pos aa]
      rcases F with F | ⟨l,F⟩
      · rw [F]
        show A=_
        rw [U]
        exact aA.2 F
      · rw [F,U,aq]; exact (aA.1 l F).1
  · rw [if_neg aa] at U
    have ab:0 < s:=by omega
    have au:=fun (D:Tr) (G:D ∈ FT) (N:¬ In L D.i)=>Dz T aW ab ax ay (ah ab) G N
    rw [<- U] at au
    have ar:∀ D ∈ FT,¬ In L D.i->∀ l,D.eff = .push l->∀ k,k < l.length->Ph A ρ (D.n + k)/\∃ o,A[D.n + k]? = some (.live o):=by
      intro D G N l I k O
      obtain ⟨ao,Z⟩:=List.getElem?_of_mem G
      obtain ⟨aw,_,_,_,aT,aU,_⟩:=T.fr ao D Z
      have Y:fg std D.i=false:=by
        cases hh:fg std D.i with
        | false=>rfl
        | true=>have:=aU hh; rw [I] at this; cases this
      have aF:fg calm D.i=true:=by
        have:=(ah ab D G).resolve_left N
        rw [gn,List.mem_append] at this
        rcases this with h | h
        · exact gn.2 h
        · rw [gn.2 h] at Y; cases Y
      have az:BR th D.i D.o=true:=(aT aF).resolve_left (fun e=>by rw [I] at e; cases e)
      obtain ⟨o,rfl,aC⟩:=y8 aw az I
      have aX:k=0:=by simpa using O
      subst aX
      have aj:=pv ((au D G N).2 Y aF _ I) 0 o rfl
      exact ⟨⟨o,aj,aC.1,aD ab D G N _ I 0 (by simp)⟩,o,aj⟩
    have aN:∀ (J:bs) (w':World) (ρ':Pm),Step w J ρ w' A ρ'->(∀ D ∈ FT,D.i≠t.i->¬ In L D.i->∀ l,D.eff = .push l->∀ k,k < l.length->Ph J ρ (D.n + k))->va calm std M0 FT BT (L.setIfInBounds t.i true) A ρ':=by
      intro J w' ρ' am a3
      refine ⟨s,ax,aE,by rw [if_neg aa]; exact U,aG,fun _ D G N l I k O=>?_⟩
      have ap:D.i≠t.i:=fun e=>N ((ac _).2 (.inr e))
      have aJ:¬ In L D.i:=fun e=>N ((ac _).2 (.inl e))
      obtain ⟨_,o,a0⟩:=ar D G aJ l I k O
      rcases am.ph _ (a3 D G ap aJ l I k O) with ⟨aM,_,_,aS⟩ | g
      · exact aS
      · rw [a0] at g; cases g
    rcases F with F | ⟨l,F⟩
    · have af:qq A t.n t.eff=A:=by rw [F]; rfl
      have aB:∀ w' ρ',Step w A ρ w' (qq A t.n t.eff) ρ'->va calm std M0 FT BT (L.setIfInBounds t.i true) (qq A t.n t.eff) ρ':=by
        rw [af]
        exact fun w' ρ' am=>aN A w' ρ' am (fun D G _ N l I k O=>(ar D G N l I k O).1)
      cases hstd:fg std t.i with
      | true=>exact ⟨A,A,fN.refl A,by rw [F]; trivial,(au t X ad).1 hstd,Stp.refl _ _ _,hA,fun _ _ h=>h,aB⟩
      | false=>
        have ai:fg calm t.i=true:=by
          have:=(ah ab t X).resolve_left ad
          rw [gn,List.mem_append] at this
          rcases this with h | h
          · exact gn.2 h
          · rw [gn.2 h] at hstd; cases hstd
        rw [if_pos ai] at an
        exact ⟨t.M,A,by rw [an]; intro id h; simp at h,by rw [F]; trivial,ae,Stp.refl _ _ _,hA,fun _ _ h=>h,aB⟩
    · have Y:fg std t.i=false:=by
        cases hh:fg std t.i with
        | false=>rfl
        | true=>have:=a5 hh; rw [F] at this; cases this
      have ai:fg calm t.i=true:=by
        have:=(ah ab t X).resolve_left ad
        rw [gn,List.mem_append] at this
        rcases this with h | h
        · exact gn.2 h
        · rw [gn.2 h] at Y; cases Y
      rw [if_pos ai] at an
      have az:BR th t.i t.o=true:=(a4 ai).resolve_left (fun e=>by rw [F] at e; cases e)
      obtain ⟨o,rfl,aC⟩:=y8 ae az F
      obtain ⟨a1,_⟩:=ar t X ad _ F 0 (by simp)
      have aj:A[t.n]? = some (.live o):=pv ((au t X ad).2 Y ai _ F) 0 o rfl
      have aI:=(List.getElem?_eq_some_iff.1 aj).1
      obtain ⟨aO,aP⟩:=I8 hA a1
      have af:qq (A.set t.n .pend) t.n t.eff=A:=by
        rw [F]
        show (A.set t.n .pend).set t.n (.live o)=A
        rw [List.set_set]
        refine List.ext_getElem? (fun j=>?_)
        by_cases hj:j=t.n
        · subst hj; rw [List.getElem?_set_self aI,aj]
        · rw [List.getElem?_set_ne (Ne.symm hj)]
      have aL:∀ id,id≠t.n->Ph A ρ id->Ph (A.set t.n .pend) ρ id:=fun id aH ⟨aM,aw,aR⟩=>⟨aM,by rw [List.getElem?_set_ne (Ne.symm aH)]; exact aw,aR⟩
      refine ⟨t.M,A.set t.n .pend,by rw [an]; intro id h; simp at h,?_,ae,aO,aP,fun id aH=>aL id (by rw [aq]; omega),?_⟩
      · rw [F]
        intro k O
        have:k=0:=by simpa using O
        subst this
        rw [Nat.add_zero,List.getElem?_set_self aI]
      · rw [af]
        exact fun w' ρ' am=>aN _ w' ρ' am (fun D G ap N l I k O=>aL _ (by
          have:=T.apart2 X G ap F I (k:=0) (by simp) O
          simpa using this) (ar D G N l I k O).1)
theorem Hc {L:Array Bool} {w:World} {A:bs} {ρ:Pm} (aH:∀ k o,ops[k]? = some o->In L k->∀ j ∈ iX o,In L j) (hA:MR c.P.cellsOf B w A ρ) (aX:va calm std M0 FT BT L A ρ) (aR:L.size=ops.size) {q:Nat} {t:Tr} (X:BT[q]? = some t) (aZ:¬ In L t.i) (a2:∀ j ∈ iX t.o,In L j) (aq:rp t.o=false) :
    ∃ J O,Step w A ρ w J O/\MR c.P.cellsOf B w J O/\t.M=J/\t.n=J.length/\∀ w' ρ',Step w J O w' (t.eff.on J) ρ'->va calm std M0 FT BT (L.setIfInBounds t.i true) (t.eff.on J) ρ':=by
  obtain ⟨s,aP,ao,ad,aQ,ab⟩:=aX
  obtain ⟨_,_,aL,a5⟩:=T.br q t X
  have ak:=List.mem_of_getElem? X
  have aV:t.i < L.size:=by rw [aR]; exact (Array.getElem?_eq_some_iff.1 (T.back ak).1).1
  have af:∀ k,In (L.setIfInBounds t.i true) k↔In L k∨k=t.i:=fun k=>BS aV
  have aS:∀ k o,ops[k]? = some o->In (L.setIfInBounds t.i true) k->∀ j ∈ iX o,In (L.setIfInBounds t.i true) j:=by
    intro k o Y ae j aI
    rw [af] at ae ⊢
    rcases ae with ae | ae
    · exact .inl (aH k o Y ae j aI)
    · subst ae
      rw [(T.back ak).1] at Y
      obtain rfl:=Option.some.inj Y
      exact .inl (a2 j aI)
  have cl:∀ b:Tr,((oC [] ops.toList).getD t.i 0).testBit b.i=true->b.i≠t.i->In L b.i:=fun b Z a0=>by
    have:=MX (In:=In (L.setIfInBounds t.i true)) aS t.i b.i ((af _).2 (.inr rfl)) Z
    exact ((af _).1 this).resolve_right a0
  have ar:∀ (F:Nat) D,BT[F]? = some D->(FT++BT)[FT.length + F]? = some D:=fun F D h=>by
    rw [List.getElem?_append_right (by omega),Nat.add_sub_cancel_left]; exact h
  have ax:∀ b ∈ FT,t.i≠b.i:=fun b Z e=>by
    have:=(T.front Z).2; rw [<- e,(T.back ak).2] at this; cases this
  have az:∀ b ∈ FT,In L b.i∨fg (calm++std) b.i=true:=by
    intro b Z
    rcases (T.suffix ak (List.mem_append_left _ Z) (ax b Z) aq).2 (T.front Z).2 with h | h
    · exact .inr h
    · exact .inl (cl b h (Ne.symm (ax b Z)))
  have aU:s<=q:=by
    rcases Nat.lt_or_ge q s with h | h
    · exact absurd ((ao.1 q t X aq).2 h) aZ
    · exact h
  have aJ:∀ k D,s<=k->k < q->BT[k]? = some D->rp D.o=true:=by
    intro k D a9 ba aA
    cases aj:rp D.o with
    | true=>rfl
    | false=>
      exfalso
      have aw:=List.mem_of_getElem? aA
      have aW:=T.lt_of (ar k _ aA) (ar q t X) (by omega)
      have bb:D.i < t.i:=by
        rcases aW with ⟨ac,aD⟩ | ⟨ac,aD⟩
        · rw [(T.back aw).2] at ac; cases ac
        · exact aD
      rcases (T.suffix ak (List.mem_append_right _ aw) (by omega) aq).1 (T.back aw).2 aj with ab | ab
      · omega
      · have:=(ao.1 k _ aA aj).1 (cl _ ab (by omega))
        omega
  have aY:=T.puM aU aJ (M0++(FT.flatMap cH).map .live)
  have an:∀ D ∈ FT,¬ In L D.i->∀ l,D.eff = .push l->fg std D.i=false/\fg calm D.i=true/\∃ o,l=[o]/\L5 c.P.cellsOf o:=by
    intro D G U l I
    obtain ⟨F,N⟩:=List.getElem?_of_mem G
    obtain ⟨aa,_,_,_,aN,aO,_⟩:=T.fr F D N
    have ay:fg std D.i=false:=by
      cases hh:fg std D.i with
      | false=>rfl
      | true=>have:=aO hh; rw [I] at this; cases this
    have aG:fg calm D.i=true:=by
      have:=(az D G).resolve_left U
      rw [gn,List.mem_append] at this
      rcases this with h | h
      · exact gn.2 h
      · rw [gn.2 h] at ay; cases ay
    exact ⟨ay,aG,y8 aa ((aN aG).resolve_left (fun e=>by rw [I] at e; cases e)) I⟩
  obtain ⟨J,O,a6,a7,aC,a8⟩:∃ J O,Step w A ρ w J O/\MR c.P.cellsOf B w J O/\J=pA (M0++(FT.flatMap cH).map .live) (BT.take q)/\∀ D ∈ FT,¬ In L D.i->∀ l,D.eff = .push l->∀ k,k < l.length->Ph J O (D.n + k):=by
    rw [aY]
    by_cases h0:s=0
    · rw [if_pos h0] at ad
      have aF:=hA
      rw [ad] at aF
      obtain ⟨O,aa,ah,aE,aM⟩:=Df (fun i=>L.getD i false) FT M0 ρ aF (fun D G aT l I=>(an D G (by unfold In; rw [aT]; simp) l I).2.2)
      refine ⟨_,O,by rw [ad]; exact aa,ah,by rw [h0]; rfl,fun D G U l I k Y=>?_⟩
      obtain ⟨_,_,o,rfl,am⟩:=an D G U l I
      have ai:k=0:=by simpa using Y
      subst ai
      obtain ⟨F,N⟩:=List.getElem?_of_mem G
      obtain ⟨_,_,aB,_⟩:=T.fr F D N
      simp only [List.nil_append] at aB
      have a1:=aM F D N (Bool.eq_false_iff.2 U) _ I 0 (by simp)
      refine ⟨o,?_,am.1,by rw [aB]; exact a1⟩
      rw [Nat.add_zero,aB,List.getElem?_append_right (by omega),Nat.add_sub_cancel_left,List.getElem?_map]
      have:(FT.flatMap cH)[((FT.take F).flatMap cH).length]? = some o:=by
        have av:=(List.getElem?_eq_some_iff.1 N).1
        have a3:FT=FT.take F++D::FT.drop (F + 1):=by
          have:=(List.getElem?_eq_some_iff.1 N).2
          rw [<- this,<- List.drop_eq_getElem_cons av,List.take_append_drop]
        have:FT.flatMap cH=(FT.take F).flatMap cH++(cH D++(FT.drop (F + 1)).flatMap cH):=by
          conv=>lhs; rw [a3]
          simp
        rw [this,List.getElem?_append_right (Nat.le_refl _),Nat.sub_self]
        simp [cH,I]
      rw [this]; rfl
    · rw [if_neg h0] at ad
      have au:0 < s:=by omega
      refine ⟨A,ρ,Step.refl _ _ _,hA,ad,fun D G U l I k Y=>?_⟩
      obtain ⟨aa,ah,o,rfl,am⟩:=an D G U l I
      have ai:k=0:=by simpa using Y
      subst ai
      have aK:=Dz T aH au aP ao (aQ au) G U
      rw [<- ad] at aK
      exact ⟨o,pv (aK.2 aa ah _ I) 0 o rfl,am.1,ab au D G U _ I 0 (by simp)⟩
  have ac:t.eff.on J=pA (M0++(FT.flatMap cH).map .live) (BT.take (q + 1)):=by rw [AZ X,<- aC]
  refine ⟨J,O,a6,a7,by rw [aL,aC],by rw [a5,aL,aC],fun w' ρ' a4=>⟨q + 1,(List.getElem?_eq_some_iff.1 X).1,⟨fun F D N aj=>?_,fun _=>⟨t,X,aq⟩⟩,?_,fun _ D G=>(az D G).imp (fun h=>(af _).2 (.inl h)) id,fun _ D G U l I k Y=>?_⟩⟩
  · rw [af,ao.1 F D N aj]
    constructor
    · rintro (h | h)
      · omega
      · have:=T.inj (ar F D N) (ar q t X) h
        omega
    · intro h
      rcases Nat.lt_or_ge F q with ab | ab
      · rcases Nat.lt_or_ge F s with h6 | h6
        · exact .inl h6
        · have:=aJ F D h6 ab N
          rw [aj] at this; cases this
      · have:F=q:=by omega
        subst this
        rw [X] at N
        obtain rfl:=Option.some.inj N
        exact .inr rfl
  · rw [if_neg (by omega),ac]
  · have ap:¬ In L D.i:=fun e=>U ((af _).2 (.inl e))
    obtain ⟨aa,ah,o,rfl,am⟩:=an D G ap l I
    have ai:k=0:=by simpa using Y
    subst ai
    rcases T.sd q t X D G ((az D G).resolve_left ap) with h | h
    · exact absurd (cl D h (Ne.symm (ax D G))) ap
    · rw [<- ac] at h
      have av:=pv (h.2 aa ah _ I) 0 o rfl
      rcases a4.ph _ (a8 D G ap _ I 0 (by simp)) with ⟨bc,_,_,aE⟩ | g
      · exact aE
      · rw [av] at g; cases g
theorem HC {L:Array Bool} {A:bs} {ρ ρ':Pm} {w w':World} (au:L.size=ops.size) (az:va calm std M0 FT BT L A ρ) {t:Tr} (ac:t ∈ BT) (aC:rp t.o=true) (hA:MR c.P.cellsOf B w A ρ)
    (aw:∀ k o,ops[k]? = some o->In L k->∀ j ∈ iX o,In L j) (aD:Step w A ρ w' A ρ'):va calm std M0 FT BT (L.setIfInBounds t.i true) A ρ':=by
  obtain ⟨s,ae,O,U,X,af⟩:=az
  have ay:t.i < L.size:=by rw [au]; exact (Array.getElem?_eq_some_iff.1 (T.back ac).1).1
  have ai:∀ k,In (L.setIfInBounds t.i true) k↔In L k∨k=t.i:=fun k=>BS ay
  have Y:∀ D ∈ FT,(In (L.setIfInBounds t.i true) D.i↔In L D.i):=by
    intro D F
    rw [ai]
    refine ⟨fun h=>h.resolve_right (fun e=>?_),.inl⟩
    have ak:=(T.front F).2
    rw [e,(T.back ac).2] at ak
    cases ak
  refine ⟨s,ae,⟨fun ad D N ab=>?_,O.2⟩,?_,fun G D F=>(X G D F).imp (Y D F).2 id,fun G D F aA l I k aj=>?_⟩
  · rw [ai,<- O.1 ad D N ab]
    refine ⟨fun h=>h.resolve_right (fun e=>?_),.inl⟩
    have:=T.same (List.mem_append_right _ (List.mem_of_getElem? N)) (List.mem_append_right _ ac) e
    rw [this,aC] at ab
    cases ab
  · rw [U]
    split
    · congr 1
      have:∀ l:List Tr,(∀ D ∈ l,D ∈ FT)->l.flatMap (nH fun i=>L.getD i false)=l.flatMap (nH fun i=>(L.setIfInBounds t.i true).getD i false):=by
        intro l J
        induction l with
        | nil=>rfl
        | cons D l aF=>
          simp only [List.flatMap_cons]
          rw [aF (fun x aE=>J x (List.mem_cons_of_mem _ aE))]
          congr 1
          have:=Y D (J D (by simp))
          unfold In at this
          unfold nH
          cases af:L.getD D.i false <;> cases h6:(L.setIfInBounds t.i true).getD D.i false <;> simp_all
      exact this FT (fun _ h=>h)
    · rfl
  · have Z:¬ In L D.i:=fun e=>aA ((Y D F).2 e)
    have aB:=af G D F Z l I k aj
    obtain ⟨ad,N⟩:=List.getElem?_of_mem F
    obtain ⟨an,_,_,_,ap,aq,_⟩:=T.fr ad D N
    have aa:fg std D.i=false:=by
      cases hh:fg std D.i with
      | false=>rfl
      | true=>have:=aq hh; rw [I] at this; cases this
    have ah:fg calm D.i=true:=by
      have:=(X G D F).resolve_left Z
      rw [gn,List.mem_append] at this
      rcases this with h | h
      · exact gn.2 h
      · rw [gn.2 h] at aa; cases aa
    have av:BR th D.i D.o=true:=(ap ah).resolve_left (fun e=>by rw [I] at e; cases e)
    obtain ⟨o,rfl,ar⟩:=y8 an av I
    have ax:k=0:=by simpa using aj
    subst ax
    have am:=Dz T aw G ae O (X G) F Z
    rw [if_neg (by omega)] at U
    rw [<- U] at am
    have J:=pv (am.2 aa ah _ I) 0 o rfl
    rcases aD.ph _ ⟨o,J,ar.1,aB⟩ with ⟨aG,_,_,ao⟩ | g
    · exact ao
    · rw [J] at g; cases g
theorem F6 {L:Array Bool} {a:Act} {w:World} {ρ:Pm} {A:bs} (D:Inv c calm std ops B nt M0 e0 FT BT w0 ρ0 L a w ρ A) {i:Nat} (ax:i ∈ Region.ready .any ops L) {K:Act->World->Prop} {Q:Exit->Act->World->Prop}
    (aa:∀ av w' ρ' A',Inv c calm std ops B nt M0 e0 FT BT w0 ρ0 (L.setIfInBounds i true) av w' ρ' A'->K av w'):wpOp c.P ops Q i K a w:=by
  unfold Region.ready at ax
  obtain ⟨aJ,an⟩:=List.mem_filter.1 ax
  have az:i < ops.size:=List.mem_range.1 aJ
  have am:ops[i]? = some ops[i]:=Array.getElem?_eq_getElem az
  simp only [am,Option.map_some,Option.getD_some,Bool.and_eq_true,Bool.not_eq_true'] at an
  obtain ⟨t,X,rfl,aC⟩:=T.all am
  have O:¬ In L t.i:=by
    unfold In
    have:=an.1
    rw [Array.getD_eq_getD_getElem?] at this ⊢
    rw [Array.getElem?_eq_getElem (by rw [D.size]; exact az)] at this ⊢
    simp only [Option.getD_some] at this ⊢
    rw [this]; simp
  have U:∀ j ∈ iX t.o,In L j:=by
    intro j ay
    unfold iX at ay
    obtain ⟨e,aE,rfl⟩:=List.mem_map.1 ay
    obtain ⟨aF,aG⟩:=List.mem_filter.1 aE
    have:=(Array.all_eq_true_iff_forall_mem.1 an.2) e (by rw [<- aC]; simpa using aF)
    rw [aG] at this
    simp only [Bool.not_true,Bool.false_or] at this
    exact this
  unfold wpOp
  rw [am,<- aC]
  simp only
  obtain ⟨q,ab⟩:=List.getElem?_of_mem X
  have ap:=T.tr ab
  have aj:=fun x Y=>KA T D ab O U (x:=x) Y
  have ao:∀ x,RV c.P.cellsOf B w A ρ (a3 (prune (rds t.o) t.e) x) (a.tmps.getD x Go.undef):=by
    intro x
    rcases zH (rds t.o) t.e x with Z | Z
    · by_cases hu:a3 (prune (rds t.o) t.e) x = .undef
      · rw [hu]; exact .undef _
      · rw [Z]; exact aj x (List.mem_append_left _ (zB t.e hu))
    · rw [Z]; exact .undef _
  by_cases hf:q < FT.length
  · have aI:FT[q]? = some t:=by rw [List.getElem?_append_left hf] at ab; exact ab
    obtain ⟨aN,au,aq,ar,aK,N,ac,aw,ae⟩:=Gv T D.down D.mr D.mem D.size aI O
    rcases qO (c:=c) (fun x Y=>aj x (List.mem_append_right _ Y)) aK with ⟨F,G⟩ | ⟨F,G,ad⟩
    · rw [if_pos F]
      exact .inl (w1 T.hcall aq ac (fun x=>N.rv (ao x)) G ar K Q (fun u w' ρ' J ah ai=>aa _ _ _ _ (Inv.next T D X U O (N.trans J.stp) (fun id ak I=>J.ph id (aw id ak I)) ah ai (ae w' ρ' J))))
    · rw [if_neg (by rw [F]; simp)]
      have aD:t.eff = .keep:=ad
      have Z:qq au t.n t.eff=au:=by rw [aD]; rfl
      have af:=ae w ρ (by rw [Z]; exact Step.refl _ _ _)
      rw [Z] at af
      exact aa _ _ _ _ (Inv.next T D X U O N (fun id ak I=>.inl (aw id ak I)) ac (by rw [show t.y = .un from G]; exact .un) af)
  · have aA:BT[q - FT.length]? = some t:=by rw [List.getElem?_append_right (by omega)] at ab; exact ab
    cases hpu:rp t.o with
    | true=>
      obtain ⟨_,aH⟩:=T.pu X hpu
      have aB:=List.mem_of_getElem? aA
      rcases qO (c:=c) (fun x Y=>aj x (List.mem_append_right _ Y)) (aH A.length A) with ⟨F,G⟩ | ⟨F,G,ad⟩
      · rw [if_pos F]
        exact .inl (zQ T.hcall D.mr ao G K Q (fun u w' ρ' J ah ai=>aa _ _ _ _ (Inv.next T D X U O J.stp (fun id _ I=>J.ph id I) ah ai (HC T D.size D.mem aB hpu D.mr D.down J))))
      · rw [if_neg (by rw [F]; simp)]
        exact aa _ _ _ _ (Inv.next T D X U O (Stp.refl _ _ _) (fun id _ I=>.inl I) D.mr (by rw [G]; exact .un) (HC T D.size D.mem aB hpu D.mr D.down (Step.refl _ _ _)))
    | false=>
    obtain ⟨aM,aL,N,ac,aq,ar,ae⟩:=Hc T D.down D.mr D.mem D.size aA O U hpu
    unfold wo at ap
    rw [aq,ar] at ap
    rcases qO (c:=c) (fun x Y=>aj x (List.mem_append_right _ Y)) ap with ⟨F,G⟩ | ⟨F,G,ad⟩
    · rw [if_pos F]
      exact .inl (zQ T.hcall ac (fun x=>N.rv (ao x)) G K Q (fun u w' ρ' J ah ai=>aa _ _ _ _ (Inv.next T D X U O (N.stp.trans J.stp) (fun id _ I=>(N.trans J).ph id I) ah ai (ae w' ρ' J))))
    · rw [if_neg (by rw [F]; simp)]
      have af:=ae w aL (by rw [ad]; exact Step.refl _ _ _)
      rw [ad] at af
      exact aa _ _ _ _ (Inv.next T D X U O N.stp (fun id _ I=>N.ph id I) ac (by rw [G]; exact .un) af)
theorem CS {L:Array Bool} {a:Act} {w:World} {ρ:Pm} {A:bs} (D:Inv c calm std ops B nt M0 e0 FT BT w0 ρ0 L a w ρ A) (ac:Region.ready .any ops L=[]) :
    ∃ ρ',Step w0 M0 ρ0 w (pA (M0++(FT.flatMap cH).map .live) BT) ρ'/\SR c.P.cellsOf B nt a w (o4 e0 (FT++BT)) (pA (M0++(FT.flatMap cH).map .live) BT) ρ':=by
  have Z:∀ i,i < ops.size->In L i:=by
    intro i
    induction i using Nat.strongRecOn with
    | _ i ah=>
      intro N
      have Y:ops[i]? = some ops[i]:=Array.getElem?_eq_getElem N
      cases hL:L.getD i false with
      | true=>exact hL
      | false=>
        exfalso
        have:i ∈ Region.ready .any ops L:=by
          unfold Region.ready
          refine List.mem_filter.2 ⟨List.mem_range.2 N,?_⟩
          simp only [Y,Option.map_some,Option.getD_some,Bool.and_eq_true,Bool.not_eq_true']
          refine ⟨?_,Array.all_eq_true_iff_forall_mem.2 (fun e ab=>?_)⟩
          · rw [Array.getD_eq_getD_getElem?,Array.getElem?_eq_getElem (by rw [D.size]; exact N)] at hL ⊢
            exact hL
          · cases hb:Region.binds .any e with
            | false=>rfl
            | true=>
              have J:=T.edge Y (k:=e.on) (List.mem_map.2 ⟨e,List.mem_filter.2 ⟨by simpa using ab,hb⟩,rfl⟩)
              have:=ah e.on J (by omega)
              simp only [Bool.not_true,Bool.false_or]
              exact this
        rw [ac] at this
        cases this
  have U:∀ t ∈ FT++BT,In L t.i:=fun t O=>Z t.i (Array.getElem?_eq_some_iff.1 (T.at_ O)).1
  have hA:A=pA (M0++(FT.flatMap cH).map .live) BT:=by
    obtain ⟨s,F,I,G,aj,ak⟩:=D.mem
    have ad:∀ k t,s<=k->k < BT.length->BT[k]? = some t->rp t.o=true:=by
      intro k t am _ J
      cases hp:rp t.o with
      | true=>rfl
      | false=>
        have:=(I.1 k t J hp).1 (U _ (List.mem_append_right _ (List.mem_of_getElem? J)))
        omega
    have X:=T.puM F ad (M0++(FT.flatMap cH).map .live)
    rw [List.take_length] at X
    rw [X]
    by_cases h0:s=0
    · rw [if_pos h0] at G
      rw [G,h0,Dk (fun ai af=>.inl (U ai (List.mem_append_left _ af)))]
      rfl
    · rw [if_neg h0] at G
      exact G
  have ae:Step w0 M0 ρ0 w A ρ:=⟨D.step.os,D.step.tape,D.step.output,D.step.size,D.step.block,D.step.ref,D.step.held,D.step.hid,D.ph⟩
  refine ⟨ρ,by rw [<- hA]; exact ae,by rw [<- hA]; exact D.mr,fun x=>?_,D.nts,D.defers⟩
  rw [<- hA]
  rcases Aa x (FT++BT) e0 with ⟨t,F,I,G⟩ | ⟨F,I⟩
  · rw [G]; exact (D.env x).1 t F I (U t F)
  · rw [I]; exact (D.env x).2 (fun t O aa=>absurd aa (F t O))
theorem CR {Q:Exit->Act->World->Prop} (X:∀ a w ρ',Step w0 M0 ρ0 w (pA (M0++(FT.flatMap cH).map .live) BT) ρ'->SR c.P.cellsOf B nt a w (o4 e0 (FT++BT)) (pA (M0++(FT.flatMap cH).map .live) BT) ρ'->Q .normal a w) :
    ∀ (D:Nat) (L:Array Bool) (a:Act) (w:World) (ρ:Pm) (A:bs),Inv c calm std ops B nt M0 e0 FT BT w0 ρ0 L a w ρ A->L.toList.count false<=D->wpAny c.P .any ops Q D L a w
  | 0,L,a,w,ρ,A,I,hc=>by
    have J:Region.ready .any ops L=[]:=by
      unfold Region.ready
      refine List.filter_eq_nil_iff.2 (fun i F=>?_)
      have G:i < L.size:=by rw [I.size]; exact List.mem_range.1 F
      have ab:L.toList.count false=0:=by omega
      have ad:L[i]≠false:=fun e=>List.count_eq_zero.1 ab (by rw [<- e]; exact Array.mem_toList_iff.2 (Array.getElem_mem G))
      simp only [Array.getD_eq_getD_getElem?,Array.getElem?_eq_getElem G,Option.getD_some]
      cases U:L[i] with
      | true=>simp
      | false=>exact absurd U ad
    refine ⟨J,?_⟩
    obtain ⟨ρ',N,O⟩:=CS T I J
    exact X a w ρ' N O
  | D + 1,L,a,w,ρ,A,I,hc=>by
    refine ⟨fun J=>?_,fun i F=>?_⟩
    · obtain ⟨ρ',N,O⟩:=CS T I J
      exact X a w ρ' N O
    · refine F6 T I F (fun aa w' ρ' A' Z=>CR X D _ aa w' ρ' A' Z ?_)
      unfold Region.ready at F
      obtain ⟨ae,Y⟩:=List.mem_filter.1 F
      have G:i < L.size:=by rw [I.size]; exact List.mem_range.1 ae
      simp only [Bool.and_eq_true,Bool.not_eq_true'] at Y
      have U:L[i]=false:=by
        have:=Y.1
        rw [Array.getD_eq_getD_getElem?,Array.getElem?_eq_getElem G] at this
        simpa using this
      rw [Array.toList_setIfInBounds,List.count_set (by simpa using G)]
      have ac:L.toList.count false - 1<=D:=by omega
      simpa [U] using ac
end
end
end Go.Ab
