/- Nil slices in a new object become rows of the store with nothing in them. -/
import Derived.Test.YtkdinadmheomfaaGreatAbCall3
set_option linter.unusedVariables false
set_option linter.unusedSimpArgs false
namespace Go.Ab
open Go Go.RowKit
theorem v4 (S:TypeId->Nat) (n:Nat) (x:AV) (r:List AV) (ts:List Nat):ey S n (x::r) ts=(match x,ts with
  | .nils,(e + 1)::ts'=>(.lsl n 0 0 0::(ey S (n + 1) r ts').1,⟨.grow,e,S e,[]⟩::(ey S (n + 1) r ts').2)
  | y,ts'=>(y::(ey S n r ts'.tail).1,(ey S n r ts'.tail).2)):=rfl
theorem sS (S:TypeId->Nat):∀ (e:List AV) (ts:List Nat) (n:Nat),(ey S n e ts).1.length=e.length /\
  (∀ (j:Nat) x',(ey S n e ts).1[j]? = some x'->∃ x,e[j]? = some x/\(x'=x∨x = .nils/\∃ k,k < (ey S n e ts).2.length/\x' = .lsl (n + k) 0 0 0)) /\
  ∀ ob ∈ (ey S n e ts).2,ob.kn = .grow/\ob.es=[]/\ob.s=S ob.t
 | [],ts,n=>⟨rfl,fun j x' h=>by simp [ey] at h,fun ob h=>by simp [ey] at h⟩
 | x::r,ts,n=>by
  have X:(ey S n (x::r) ts=(x::(ey S n r ts.tail).1,(ey S n r ts.tail).2))∨∃ t ts',x = .nils/\ts=(t + 1)::ts'/\ey S n (x::r) ts=(.lsl n 0 0 0::(ey S (n + 1) r ts').1,⟨.grow,t,S t,[]⟩::(ey S (n + 1) r ts').2):=by
   rw [v4]
   split
   ·exact .inr ⟨_,_,rfl,rfl,rfl⟩
   ·exact .inl rfl
  rcases X with h | ⟨t,ts',rfl,rfl,h⟩
  ·obtain ⟨G,I,J⟩:=sS S r ts.tail n
   rw [h]
   refine ⟨by simp [G],fun j x' F=>?_,J⟩
   cases j with
   | zero=>exact ⟨x,rfl,.inl (by simpa using F.symm)⟩
   | succ j=>exact I j x' (by simpa using F)
  ·obtain ⟨G,I,J⟩:=sS S r ts' (n + 1)
   rw [h]
   refine ⟨by simp [G],fun j x' F=>?_,fun ob N=>?_⟩
   ·cases j with
    | zero=>exact ⟨.nils,rfl,.inr ⟨rfl,0,by simp,by simpa using F.symm⟩⟩
    | succ j=>
     obtain ⟨y,O,D⟩:=I j x' (by simpa using F)
     refine ⟨y,O,?_⟩
     rcases D with D | ⟨D,k,Y,U⟩
     ·exact .inl D
     ·exact .inr ⟨D,k + 1,by simp; omega,by rw [U,show n + 1 + k=n + (k + 1) by omega]⟩
   ·rcases List.mem_cons.1 N with rfl | N
    ·exact ⟨rfl,rfl,rfl⟩
    ·exact J ob N
theorem ye (S:TypeId->Nat) (ts:List Nat):∀ (es:List (List AV)) (n:Nat),(np S ts n es).1.length=es.length /\
  (∀ (i:Nat) D,(np S ts n es).1[i]? = some D->∃ e,es[i]? = some e/\D.length=e.length/\∀ (j:Nat) x',D[j]? = some x'->∃ x,e[j]? = some x/\(x'=x∨x = .nils/\∃ k,k < (np S ts n es).2.length/\x' = .lsl (n + k) 0 0 0)) /\
  ∀ ob ∈ (np S ts n es).2,ob.kn = .grow/\ob.es=[]/\ob.s=S ob.t
 | [],n=>⟨rfl,fun i D h=>by simp [np] at h,fun ob h=>by simp [np] at h⟩
 | e::r,n=>by
  obtain ⟨aa,ab,ac⟩:=sS S e ts n
  obtain ⟨X,Y,Z⟩:=ye S ts r (n + (ey S n e ts).2.length)
  rw [np]
  refine ⟨by simp [X],fun i D O=>?_,fun ob G=>?_⟩
  ·cases i with
   | zero=>
    obtain rfl:(ey S n e ts).1=D:=by simpa using O
    refine ⟨e,rfl,aa,fun j x' J=>?_⟩
    obtain ⟨x,N,F⟩:=ab j x' J
    refine ⟨x,N,?_⟩
    rcases F with F | ⟨F,k,U,ad⟩
    ·exact .inl F
    ·exact .inr ⟨F,k,by simp; omega,ad⟩
   | succ i=>
    obtain ⟨e0,N,F,U⟩:=Y i D (by simpa using O)
    refine ⟨e0,N,F,fun j x' J=>?_⟩
    obtain ⟨x,ae,I⟩:=U j x' J
    refine ⟨x,ae,?_⟩
    rcases I with I | ⟨I,k,ah,af⟩
    ·exact .inl I
    ·exact .inr ⟨I,(ey S n e ts).2.length + k,by simp; omega,by rw [af,Nat.add_assoc]⟩
  ·rcases List.mem_append.1 G with G | G
   ·exact ac ob G
   ·exact Z ob G
section
variable {P:Program} {S:TypeId->Nat} {B:Nat} {w:World} {M A A':bs} {ρ ρ':Pm}
theorem CH (hA:MR S B w A ρ) (aD:ρ'.hid=ρ.hid)
  (hid:∀ id,(A'[id]? = A[id]?/\ρ' id=ρ id) ∨
   (∃ o G,A[id]? = some (.live o)/\A'[id]? = some (.live G)/\ρ' id=ρ id/\G.kn=o.kn/\G.t=o.t/\G.s=o.s/\G.es.length=o.es.length /\
    ∀ (i:Nat) Z,G.es[i]? = some Z->∃ e,o.es[i]? = some e/\Z.length=e.length/\∀ (j:Nat) x',Z[j]? = some x'->∃ x,e[j]? = some x/\(x'=x∨x = .nils/\∃ m s,x' = .lsl m 0 0 0/\jK A' ρ' m 0=some (some (none,s)))) ∨
   ((A[id]? = some .pend∨A[id]? = none)/\ρ' id=none/\∃ ob,A'[id]? = some (.live ob)/\ob.kn = .grow/\ob.es=[]/\ob.s=S ob.t/\0 < ob.s)):Step w A ρ w A' ρ'/\MR S B w A' ρ':=by
 have ay:Step w A ρ w A' ρ':=by
  refine ⟨rfl,rfl,rfl,Nat.le_refl _,fun _ _ _=>rfl,fun id L=>?_,fun b ai aG=>?_,aD,fun id ⟨o,X,af,ah⟩=>by
   rcases hid id with ⟨D,F⟩ | ⟨N,G,ab,an,ac,ao,_⟩ | ⟨D | D,_⟩
   ·exact .inl ⟨o,by rw [D]; exact X,af,by rw [F]; exact ah⟩
   ·rw [X] at ab
    cases ab
    exact .inl ⟨G,an,by rw [ao]; exact af,by rw [ac]; exact ah⟩
   ·rw [D] at X; cases X
   ·rw [D] at X; cases X⟩
  ·rcases hid id with ⟨D,F⟩ | ⟨o,G,D,F,O,J,aq,aw,ax,aO⟩ | ⟨D,_⟩
   ·have:jK A' ρ' id L=jK A ρ id L:=by simp [jK,D,F]
    rw [this]
    exact ⟨fun e=>e,fun x e=>.inr e⟩
   ·have:jK A' ρ' id L=jK A ρ id L:=by simp only [jK,D,F,O,J,aw,ax]
    rw [this]
    exact ⟨fun e=>e,fun x e=>.inr e⟩
   ·have:jK A ρ id L=none:=by rcases D with D | D <;> simp [jK,D]
    rw [this]
    exact ⟨fun e=>(by cases e),fun x e=>(by cases e)⟩
  ·obtain ⟨id,o,c,D,F⟩:=aG
   rcases hid id with ⟨O,J⟩ | ⟨N,G,ab,an,ac,_⟩ | ⟨O,J,_⟩
   ·exact ⟨id,o,c,by rw [<- O]; exact D,by rw [<- J]; exact F⟩
   ·exact ⟨id,N,c,ab,by rw [<- ac]; exact F⟩
   ·rw [J] at F; cases F
 have live:∀ id o b c,A'[id]? = some (.live o)->ρ' id=some (b,c)->∃ N,A[id]? = some (.live N)/\ρ id=some (b,c):=by
  intro id o b c D F
  rcases hid id with ⟨O,J⟩ | ⟨N,G,ab,an,ac,_⟩ | ⟨O,J,_⟩
  ·exact ⟨o,by rw [<- O]; exact D,by rw [<- J]; exact F⟩
  ·exact ⟨N,ab,by rw [<- ac]; exact F⟩
  ·rw [J] at F; cases F
 refine ⟨ay,fun id o h=>?_,fun id aE o G b c aC D F O J=>?_,fun b ai=>hA.hid b (by rw [aD] at ai; exact ai),⟨hA.lo.1,fun id o b c D F=>?_⟩,hA.fx⟩
 ·rcases hid id with ⟨D,F⟩ | ⟨N,G,ab,an,ac,ao,aF,ap,au,az⟩ | ⟨D,F,ob,O,J,aq,aw,ax⟩
  ·obtain ⟨X,af,ah,av,aa⟩:=hA.obj id o (by rw [<- D]; exact h)
   refine ⟨X,af,ah,av,?_⟩
   rw [F]
   cases hp:ρ id with
   | none=>rw [hp] at aa; exact aa
   | some p=>
    obtain ⟨b,cap⟩:=p
    rw [hp] at aa
    obtain ⟨cs,f,U,Y,ad,ae,aj,aA,aB⟩:=aa
    exact ⟨cs,f,U,Y,ad,ae,aj,aA,fun i j e x I am=>ay.rv (aB i j e x I am)⟩
  ·rw [an] at h
   cases h
   obtain ⟨X,af,ah,av,aa⟩:=hA.obj id N ab
   refine ⟨by rw [ap,aF]; exact X,by rw [ap]; exact af,fun Z I=>?_,fun Z I x' am=>?_,?_⟩
   ·obtain ⟨i,ak⟩:=List.getElem?_of_mem I
    obtain ⟨e,U,Y,_⟩:=az i Z ak
    rw [Y,ap]
    exact ah e (List.mem_of_getElem? U)
   ·obtain ⟨i,ak⟩:=List.getElem?_of_mem I
    obtain ⟨e,U,Y,ad⟩:=az i Z ak
    obtain ⟨j,ar⟩:=List.getElem?_of_mem am
    obtain ⟨x,ae,aj⟩:=ad j x' ar
    rcases aj with rfl | ⟨_,m,s,rfl,_⟩
    ·exact av e (List.mem_of_getElem? U) _ (List.mem_of_getElem? ae)
    ·rfl
   ·rw [ac]
    cases hp:ρ id with
    | none=>
     rw [hp] at aa
     exact fun aH=>List.length_eq_zero_iff.1 (by rw [au,aa (by rw [<- ao]; exact aH)]; rfl)
    | some p=>
     obtain ⟨b,cap⟩:=p
     rw [hp] at aa
     obtain ⟨cs,f,U,Y,ad,ae,aj,aA,aB⟩:=aa
     refine ⟨cs,f,by rw [aF]; exact U,by rw [ap]; exact Y,by rw [au]; exact ad,ae,fun ai=>⟨by rw [au]; exact (aj (by rw [<- ao]; exact ai)).1,(aj (by rw [<- ao]; exact ai)).2⟩,fun i j ak ar=>by rw [ap] at ar ⊢; exact aA i j (by rw [<- au]; exact ak) ar,fun i j Z x' I am=>?_⟩
     obtain ⟨e,aK,aP,aL⟩:=az i Z I
     obtain ⟨x,aM,aN⟩:=aL j x' am
     have:=aB i j e x aK aM
     rcases aN with rfl | ⟨rfl,m,s,rfl,aI⟩
     ·exact ay.rv this
     ·generalize f i j=v at this
      cases this
      exact .lslN m s aI
  ·rw [O] at h
   cases h
   refine ⟨aw,ax,?_,?_,?_⟩
   ·intro e I; rw [aq] at I; cases I
   ·intro e I; rw [aq] at I; cases I
   ·rw [F]; exact fun _=>aq
 ·obtain ⟨N,U,Y⟩:=live id o b c D O
  obtain ⟨aJ,ad,ae⟩:=live aE G b aC F J
  exact hA.inj id aE N aJ b c aC U ad Y ae
 ·obtain ⟨N,U,Y⟩:=live id o b c D F
  exact hA.lo.2 id N b c U Y
theorem D0 {th:Bool} {n:Nat} {x:Option (AV×Eff)} {y:AV} {F:Eff} {r:Result Value} (h:Ki P th n x=some (y,F)) (U:NR M A n F)
  (aj:∀ y F,x=some (y,F)->NR M A n F->we P.cellsOf B w A ρ r (qq A n F) y):we P.cellsOf B w A ρ r (qq A n F) y:=by
 unfold Ki at h
 split at h
 rotate_left
 ·exact aj y F h U
 obtain ⟨⟨v,e0⟩,h0,h⟩:=Option.bind_eq_some_iff.1 h
 unfold Oy at h
 split at h
 rotate_left
 ·cases h
 rename_i v' o av
 injection av with e1 e2
 subst e1 e2
 split at h
 rotate_left
 ·cases h
 rename_i O
 injection h with h
 injection h with e1 e2
 subst e1 e2
 obtain ⟨X,Y,N⟩:=ye P.cellsOf (q6 P 6 o.t) o.es (n + 1)
 revert O X Y N U
 generalize np P.cellsOf (q6 P 6 o.t) (n + 1) o.es=q
 obtain ⟨es',gs⟩:=q
 intro O U X Y N
 simp only at O X Y N ⊢
 have aa:∀ k,k < gs.length + 1->A[n + k]? = some .pend:=fun k D=>U k (by simpa using D)
 have ax:n + (gs.length + 1)<=A.length:=by
  have:=(List.getElem?_eq_some_iff.1 (aa gs.length (by omega))).1
  omega
 obtain ⟨u,w',am,ao,ad,ae,af⟩:=aj v (.push [o]) h0 (fun k D=>aa k (by simp at D; omega))
 have an:qq A n (.push [o])=A.set n (.live o):=rfl
 rw [an] at ad ae af
 have ay:n < A.length:=by omega
 have I:∀ i,(qq A n (.push (⟨o.kn,o.t,o.s,es'⟩::gs)))[i]? = if n<=i/\i < n + (gs.length + 1) then ((((⟨o.kn,o.t,o.s,es'⟩:Ob)::gs)[i - n]?).map Ent.live) else A[i]? := fun i=>xI (⟨o.kn,o.t,o.s,es'⟩::gs) A n i (by simpa using ax)
 generalize qq A n (.push (⟨o.kn,o.t,o.s,es'⟩::gs))=A2 at I
 let Z:Pm:=⟨fun i=>if n + 1<=i/\i < n + 1 + gs.length then none else am i,am.hid⟩
 have ar:∀ k,k < gs.length->∃ s,jK A2 Z (n + 1 + k) 0=some (some (none,s)):=by
  intro k D
  have G:=I (n + 1 + k)
  rw [if_pos (by omega),show n + 1 + k - n=k + 1 by omega,List.getElem?_cons_succ,List.getElem?_eq_getElem D] at G
  simp only [Option.map_some] at G
  obtain ⟨ab,ac,ak⟩:=N gs[k] (List.getElem_mem D)
  refine ⟨gs[k].s,?_⟩
  have az:Z (n + 1 + k)=none:=if_pos (by omega)
  simp [jK,G,ab,ac,az]
 obtain ⟨ah,aq⟩:=CH (A':=A2) (ρ':=Z) ae rfl (fun id=>by
  by_cases hi:id=n
  ·subst hi
   refine .inr (.inl ⟨o,⟨o.kn,o.t,o.s,es'⟩,by simp [ay],?_,if_neg (by omega),rfl,rfl,rfl,X,fun i ap au=>?_⟩)
   ·rw [I id,if_pos (by omega)]; simp
   ·obtain ⟨e,aB,aC,aD⟩:=Y i ap au
    refine ⟨e,aB,aC,fun j x' aw=>?_⟩
    obtain ⟨z,aE,J⟩:=aD j x' aw
    refine ⟨z,aE,?_⟩
    rcases J with J | ⟨J,k,aF,aG⟩
    ·exact .inl J
    ·obtain ⟨s,aA⟩:=ar k aF
     exact .inr ⟨J,id + 1 + k,s,aG,aA⟩
  ·by_cases G:n + 1<=id/\id < n + 1 + gs.length
   ·refine .inr (.inr ⟨.inl ?_,if_pos G,?_⟩)
    ·rw [List.getElem?_set_ne (Ne.symm hi)]
     have:=aa (id - n) (by omega)
     rwa [show n + (id - n)=id by omega] at this
    ·have D:id - (n + 1) < gs.length:=by omega
     have ai:=I id
     rw [if_pos (by omega),show id - n=(id - (n + 1)) + 1 by omega,List.getElem?_cons_succ,List.getElem?_eq_getElem D] at ai
     obtain ⟨ab,ac,ak⟩:=N _ (List.getElem_mem D)
     exact ⟨_,ai,ab,ac,ak,by simpa using List.all_eq_true.1 O _ (List.getElem_mem D)⟩
   ·refine .inl ⟨?_,if_neg G⟩
    rw [I id,if_neg (by omega),List.getElem?_set_ne (Ne.symm hi)])
 exact ⟨u,w',Z,ao,ad.trans ah,aq,ah.rv af⟩
theorem Gg (hA:MR P.cellsOf B w M ρ) {t:TypeId} (D:qo P t=true) {kp:Bool} {ts:List Nat} {x v:AV} {M':bs} {aA af:Value} (h:w2 P.cellsOf ts kp (P.cellsOf t) x v M=some M') (aB:RV P.cellsOf B w M ρ x aA) (ar:RV P.cellsOf B w M ρ v af) :
  ∃ Z,Step w M ρ w (M++(match v with | .agg cs=>(ey P.cellsOf M.length cs ts).2 | _=>[]).map .live) Z/\MR P.cellsOf B w (M++(match v with | .agg cs=>(ey P.cellsOf M.length cs ts).2 | _=>[]).map .live) Z /\
   ∃ v',ri kp (P.cellsOf t) x v' (M++(match v with | .agg cs=>(ey P.cellsOf M.length cs ts).2 | _=>[]).map .live)=some M'/\RV P.cellsOf B w (M++(match v with | .agg cs=>(ey P.cellsOf M.length cs ts).2 | _=>[]).map .live) Z v' af:=by
 unfold w2 at h
 cases v <;> simp only at h <;> try (cases h; done)
 rename_i cs
 simp only
 split at h
 rotate_left
 ·cases h
 rename_i I
 obtain ⟨J,N,F⟩:=sS P.cellsOf cs ts M.length
 revert h I J N F
 generalize ey P.cellsOf M.length cs ts=q
 obtain ⟨cs',gs⟩:=q
 intro I h J N F
 simp only at I h J N F ⊢
 let O:Pm:=⟨fun i=>if M.length<=i/\i < M.length + gs.length then none else ρ i,ρ.hid⟩
 have aw:∀ id,id < M.length->(M++gs.map Ent.live)[id]? = M[id]? := fun id U=>List.getElem?_append_left U
 have ad:∀ k,k < gs.length->(M++gs.map Ent.live)[M.length + k]? = (gs[k]?).map .live:=fun k D=>by rw [List.getElem?_append_right (by omega),Nat.add_sub_cancel_left,List.getElem?_map]
 have ak:∀ k,k < gs.length->∃ s,jK (M++gs.map Ent.live) O (M.length + k) 0=some (some (none,s)):=by
  intro k D
  have G:=ad k D
  rw [List.getElem?_eq_getElem D] at G
  simp only [Option.map_some] at G
  obtain ⟨X,Y,ae⟩:=F gs[k] (List.getElem_mem D)
  have ao:O (M.length + k)=none:=if_pos (by omega)
  exact ⟨gs[k].s,by simp [jK,G,X,Y,ao]⟩
 obtain ⟨aa,aj⟩:=CH (A':=M++gs.map Ent.live) (ρ':=O) hA rfl (fun id=>by
  by_cases U:id < M.length
  ·exact .inl ⟨aw id U,if_neg (by omega)⟩
  ·by_cases G:id < M.length + gs.length
   ·have D:id - M.length < gs.length:=by omega
    have ab:=ad (id - M.length) D
    rw [show M.length + (id - M.length)=id by omega,List.getElem?_eq_getElem D] at ab
    obtain ⟨X,Y,ae⟩:=F _ (List.getElem_mem D)
    exact .inr (.inr ⟨.inr (List.getElem?_eq_none (by omega)),if_pos (by omega),_,ab,X,Y,ae,by simpa using List.all_eq_true.1 I _ (List.getElem_mem D)⟩)
   ·have ah:M[id]? = none:=List.getElem?_eq_none (by omega)
    have ai:(M++gs.map Ent.live)[id]? = none:=List.getElem?_eq_none (by simp; omega)
    exact .inl ⟨by rw [ah,ai],if_neg (by omega)⟩)
 refine ⟨O,aa,aj,.agg cs',h,?_⟩
 have au:=aa.rv ar
 cases au with
 | agg _ vs an am=>
  refine .agg _ _ (by rw [J]; exact an) fun i x' u av aq=>?_
  obtain ⟨y,ax,ay⟩:=N i x' av
  have ac:=am i y u ax aq
  rcases ay with rfl | ⟨rfl,k,az,rfl⟩
  ·exact ac
  ·obtain ⟨s,ap⟩:=ak k az
   cases ac
   exact .lslN _ s ap
end
end Go.Ab
