/- Appends. -/
import Derived.Test.YtkdinadmheomfaaGreatAbOps9
set_option linter.unusedVariables false
set_option linter.unusedSimpArgs false
namespace Go.Ab
open Go Go.RowKit
section
variable {P:Program} {S:TypeId->Nat} {B:Nat} {w w':World} {M A A':bs} {ρ ρ':Pm}
theorem vL (ae:fN M A) (hA:MR S B w A ρ) {x:AV} {v:Value} {src:List (List AV)} {sz:Nat} (ar:0 < sz) (h:mP x M=some src) (ap:RV S B w A ρ x v) (ac:∀ e ∈ src,e.length=sz/\∀ y ∈ e,okC M y=true) :
  ∃ a c O,v = .slice a src.length c/\(src=[]∨∃ U,a=some U/\∀ j u,O[j]? = some u->w.cell? (U.add j)=some u)/\se S (dc w A ρ) B (jK A ρ) sz src O/\∀ u ∈ O,u.oneCell'=true:=by
 obtain ⟨a,c,rfl,aq,am⟩:=Co ae hA h ap
 by_cases he:src=[]
 ·subst he
  exact ⟨a,c,[],rfl,.inl rfl,se.nil,by simp⟩
 ·obtain ⟨b,off,s,rfl,ah,J,f,ak,X⟩:=am.resolve_left he
  obtain ⟨e0,ab⟩:=List.exists_mem_of_ne_nil _ he
  obtain rfl:s=sz:=by rw [<- J e0 ab,(ac e0 ab).1]
  have N:∀ j u,((List.range (src.length * s)).map fun k=>f (k / s) (k % s))[j]? = some u->j < src.length * s/\f (j / s) (j % s)=u:=by
   intro j u D
   rw [List.getElem?_map] at D
   obtain ⟨q,an,rfl⟩:=Option.map_eq_some_iff.1 D
   obtain ⟨Y,Z⟩:=List.getElem?_eq_some_iff.1 an
   simp at Y Z
   subst Z
   exact ⟨Y,rfl⟩
  have aa:∀ j,j < src.length * s->j / s < src.length/\j % s < s:=fun j D=>⟨Nat.div_lt_of_lt_mul (by rw [Nat.mul_comm]; exact D),Nat.mod_lt _ ah⟩
  refine ⟨_,c,(List.range (src.length * s)).map fun k=>f (k / s) (k % s),rfl,.inr ⟨_,rfl,fun j u D=>?_⟩,⟨by simp,J,fun i j e x v G F I=>?_⟩,fun u ao=>?_⟩
  ·obtain ⟨G,rfl⟩:=N j u D
   obtain ⟨F,I⟩:=aa j G
   have:=ak (j / s) (j % s) F I
   simp only at this
   rw [Nat.div_add_mod' j s] at this
   rw [Addr.add_mid]; exact this
  ·obtain ⟨au,rfl⟩:=N _ _ I
   have D:=(List.getElem?_eq_some_iff.1 F).1
   rw [J e (List.mem_of_getElem? G)] at D
   have ai:(i * s + j) / s=i:=by rw [Nat.mul_comm,Nat.mul_add_div ah,Nat.div_eq_of_lt D]; simp
   have aj:(i * s + j) % s=j:=by rw [Nat.mul_comm,Nat.mul_add_mod,Nat.mod_eq_of_lt D]
   rw [ai,aj]
   exact X i j e x G F
  ·obtain ⟨j,D⟩:=List.getElem?_of_mem ao
   obtain ⟨G,rfl⟩:=N j u D
   obtain ⟨F,I⟩:=aa j G
   have af:=List.getElem_mem F
   have ad:j % s < (src[j / s]).length:=by rw [J _ af]; exact I
   exact (z7 ae ((ac _ af).2 _ (List.getElem_mem ad)) (X (j / s) (j % s) _ _ (List.getElem?_eq_getElem F) (List.getElem?_eq_getElem ad))).1
theorem od {sz D n:Nat} {src:List (List AV)} (h:fits M sz D n src=true) :
  (∀ e ∈ src,e.length=sz/\∀ y ∈ e,okC M y=true)/\0 < sz/\(n + src.length) * D<=140737488355328/\n + src.length<=140737488355328:=by
 simp only [fits,Bool.and_eq_true,List.all_eq_true,decide_eq_true_eq,beq_iff_eq] at h
 exact ⟨fun e F=>h.1.1.1 e F,h.1.1.2,h.1.2,h.2⟩
theorem iG {t ty el:TypeId} (I:P.underlying t=some (.slice el)) (F:qo P el=true) (base:Option Addr) (n cap:Nat) (G:n<=cap) (a:Option Addr) (c:Nat) :
  (Builtin.append_ #[t,t] ty #[.slice base n cap,.slice a 0 c]).run P w = .ok (.slice base n cap) w:=by
 obtain ⟨d,i,N,D,O,J⟩:=ee F
 cases base <;> cases a <;> simp [Builtin.append_,run_underlying I,sizeOf,typeInfo,D,Builtin.lenOf,Builtin.firstCells,loadCells,loadCellsFrom,G,storeCells]
theorem y3 {t ty el:TypeId} (ae:P.underlying t=some (.slice el)) (Y:qo P el=true) (ah:((P.info? el).bind (·.zero)).isSome=true) (au:(b5 P el).length=P.cellsOf el)
  (g n cap:Nat) (D:Array Value) (N:w.heap[g]? = some (.cells D el (0,0))) (ar:n<=cap) (an:cap<=maxLen) (ab:D.size=cap * P.cellsOf el)
  (a:Addr) (m c:Nat) (F:List Value) (G:F.length=m * P.cellsOf el) (ad:∀ j u,F[j]? = some u->w.cell? (a.add j)=some u) (aj:∀ u ∈ F,u.oneCell'=true)
  (az:n + m<=140737488355328) (aa:(n + m) * P.bytesOf el<=140737488355328) :
  ∃ g' J X w',(Builtin.append_ #[t,t] ty #[.slice (some ⟨g,0,none⟩) n cap,.slice (some a) m c]).run P w = .ok (.slice (some ⟨g',0,none⟩) (n + m) J) w' /\
   w'.heap[g']? = some (.cells X el (0,0))/\n + m<=J/\J<=maxLen/\X.size=J * P.cellsOf el/\X.toList.take ((n + m) * P.cellsOf el)=D.toList.take (n * P.cellsOf el)++F /\
   w.grownBy w' (some g)/\((g'=g/\n + m<=cap)∨(w.heap.size<=g'/\w'.heap[g]? = w.heap[g]?)):=by
 obtain ⟨d,i,ay,I,af,ax⟩:=ee Y
 rw [I] at ah
 obtain ⟨z,aw⟩:=Option.isSome_iff_exists.1 ah
 have ai:i.zero=some z:=by simpa using aw
 have am:P.bytesOf el=i.bytes:=by simp [Program.bytesOf,I]
 have av:z.cells.size=i.size:=by rw [<- af,<- au]; simp [b5,I,ai]
 rw [am] at aa
 rw [af] at ab G ⊢
 have O:(D.toList.take (n * i.size)).length=n * i.size:=by
  have:=Nat.mul_le_mul_right i.size ar
  simp; omega
 have ac:(D.toList.take (n * i.size)++F).length=(n + m) * i.size:=by rw [List.length_append,O,G,Nat.add_mul]
 by_cases hroom:n + m<=cap
 ·have ap:n * i.size + F.length<=D.size:=by rw [G,ab,<- Nat.add_mul]; exact Nat.mul_le_mul_right _ hroom
  have Z:=run_append_room (P:=P) w t ty el i ae I g n cap D N a m c F G ad aj hroom ap
  refine ⟨g,cap,_,_,Z,setRow_heap w g D _ el _ N,hroom,an,?_,?_,qT w g _,.inl ⟨rfl,hroom⟩⟩
  ·simp only [List.size_toArray,List.length_append,List.length_drop,Array.length_toList,O]
   omega
  ·rw [<- ac]
   exact List.take_left
 ·have ak:n + m<=maxLen:=by unfold maxLen; omega
  have Z:=run_append_grow (P:=P) w t ty el i z ae I ai ⟨g,0,none⟩ n cap (D.toList.take (n * i.size)) O (fun j v U=>by
    rw [List.getElem?_take] at U
    split at U
    ·rw [Addr.add_mid,cell_of_row w g _ D el (0,0) N]; simpa using U
    ·cases U) a m c F G ad (by omega) (by omega) (growslice_fits (by omega) aa)
  have aq:=grownCap_ge w (n + m) cap el
  have ao:grownCap w (n + m) cap el<=maxLen:=grownCap_le_maxLen w (n + m) cap el ak
  refine ⟨w.heap.size,_,_,_,Z,heap_alloc_new w.drew _,aq,ao,?_,?_,⟨rfl,rfl,rfl,by simp,fun k Y _=>heap_alloc_old w.drew _ Y⟩,.inr ⟨Nat.le_refl _,heap_alloc_old w.drew _ (Array.getElem?_eq_some_iff.1 N).1⟩⟩
  ·simp only [Array.size_append,List.size_toArray,size_zeroCells,av,O,G,<- Nat.add_mul]
   congr 1
   omega
  ·simp only [Array.toList_append,List.append_assoc]
   rw [<- List.append_assoc,<- ac]
   exact List.take_left
theorem qQ {t ty el:TypeId} (ah:P.underlying t=some (.slice el)) (N:qo P el=true) (U:((P.info? el).bind (·.zero)).isSome=true) (ai:(b5 P el).length=P.cellsOf el)
  (a:Addr) (m c:Nat) (I:List Value) (Y:0 < m) (G:I.length=m * P.cellsOf el) (ae:∀ j u,I[j]? = some u->w.cell? (a.add j)=some u)
  (ao:m<=140737488355328) (ab:m * P.bytesOf el<=140737488355328) :
  ∃ D J w',(Builtin.append_ #[t,t] ty #[.slice none 0 0,.slice (some a) m c]).run P w = .ok (.slice (some ⟨w.heap.size,0,none⟩) m D) w' /\
   w'.heap[w.heap.size]? = some (.cells J el (0,0))/\m<=D/\D<=maxLen/\J.size=D * P.cellsOf el/\J.toList.take (m * P.cellsOf el)=I/\Below w.heap.size w w':=by
 obtain ⟨d,i,an,F,O,am⟩:=ee N
 rw [F] at U
 obtain ⟨z,ak⟩:=Option.isSome_iff_exists.1 U
 have X:i.zero=some z:=by simpa using ak
 have aa:P.bytesOf el=i.bytes:=by simp [Program.bytesOf,F]
 have aj:z.cells.size=i.size:=by rw [<- O,<- ai]; simp [b5,F,X]
 rw [aa] at ab
 rw [O] at G ⊢
 have Z:m<=maxLen:=by unfold maxLen; omega
 have af:=run_append_nil (P:=P) w t ty el i z ah F X a m c I G ae Y (by omega) (by omega)
 have ad:=grownCap_ge w m 0 el
 have ac:grownCap w m 0 el<=maxLen:=grownCap_le_maxLen w m 0 el Z
 refine ⟨_,_,_,af,heap_alloc_new w.drew _,ad,ac,?_,?_,⟨rfl,rfl,rfl,by simp,fun k N=>heap_alloc_old w.drew _ N⟩⟩
 ·simp only [Array.size_append,List.size_toArray,size_zeroCells,aj,G,<- Nat.add_mul]
  congr 1
  omega
 ·simp only [Array.toList_append]
  rw [<- G]
  exact List.take_left
theorem kL {V:Nat->Option Obj} {R:gC} {t:TypeId} {es:List (List AV)} {b cap:Nat} {cs:Array Value} (U:V b=some (.cells cs t (0,0))) (O:B<=b) (ab:cs.size=cap * S t) (Z:0 < S t) (X:es.length<=cap) (Y:cap<=maxLen)
  (D:se S V B R (S t) es (cs.toList.take (es.length * S t))) (aa:∀ e ∈ es,∀ x ∈ e,cG x=true):RC S V B R (.sl (some t) es) (.slice (some ⟨b,0,none⟩) es.length cap):=by
 refine .slO t es b cap cs (fun i j=>(cs.toList.take (es.length * S t)).getD (i * S t + j) Go.undef) U O ab Z X Y D.2.1 (fun i j J F=>?_) (fun i j e x I N=>?_) aa
 ·have:=D.cell J F
  have G:=this
  rw [List.getElem?_take] at G
  split at G
  ·rw [<- this,List.getElem?_take,if_pos (by assumption)]; simp
  ·cases G
 ·have J:=(List.getElem?_eq_some_iff.1 I).1
  have F:=(List.getElem?_eq_some_iff.1 N).1
  rw [D.2.1 e (List.mem_of_getElem? I)] at F
  exact D.2.2 i j e x _ I N (D.cell J F)
theorem DR (hA:MR S B w A ρ) {g:Nat} (D:w.grownBy w' (some g)) (G:w'.heap[g]? = w.heap[g]?):Step w A ρ w' A ρ/\MR S B w' A ρ:=
 rM hA ⟨D.os,D.tape,D.output,D.size,fun k F=>by
  by_cases e:k=g
  ·rw [e]; exact G
  ·exact D.block k F (fun h=>e (Option.some.inj h))⟩
theorem FL (au:fN M A) (hA:MR P.cellsOf B w A ρ) {t ty el:TypeId} (X:P.underlying t=some (.slice el)) (U:qo P el=true) (aD:((P.info? el).bind (·.zero)).isSome=true) (aE:(b5 P el).length=P.cellsOf el)
  {x s y:AV} {aG vs:Value} (h:rB el (P.cellsOf el) (P.bytesOf el) x s M=some (y,.keep)) (Y:RV P.cellsOf B w A ρ x aG) (ax:RV P.cellsOf B w A ρ s vs) :
  we P.cellsOf B w A ρ ((Builtin.append_ #[t,t] ty #[aG,vs]).run P w) A y:=by
 unfold rB at h
 obtain ⟨src,az,h⟩:=Option.bind_eq_some_iff.1 h
 split at h
 rotate_left
 ·cases h
 rename_i aQ
 have aA:∀ e ∈ src,∀ x ∈ e,cG x=true:=fun e D x Y=>List.all_eq_true.1 (List.all_eq_true.1 aQ e D) x Y
 cases x with
 | nils=>
  simp only at h
  split at h
  rotate_left
  ·cases h
  rename_i J
  obtain ⟨aa,I,f3,O⟩:=od J
  simp only [Option.some.injEq,Prod.mk.injEq] at h
  obtain ⟨rfl,_⟩:=h
  obtain ⟨a,c,ac,rfl,F,N,ap⟩:=vL au hA I az ax aa
  cases Y
  by_cases D:src=[]
  ·subst D
   exact ⟨_,w,ρ,iG X U none 0 0 (Nat.le_refl _) a c,Step.refl _ _ _,hA,.slON _⟩
  ·obtain ⟨Z,rfl,ab⟩:=F.resolve_left D
   have ao:0 < src.length:=List.length_pos_iff.2 D
   rw [Nat.zero_add] at f3 O
   obtain ⟨aH,aI,w',ad,ae,af,ah,ai,aj,ak⟩:=qQ (ty:=ty) (w:=w) X U aD aE Z src.length c ac ao N.1 ab O f3
   obtain ⟨G,an⟩:=rM hA ak
   refine ⟨_,w',ρ,ad,G,an,kL (S:=P.cellsOf) ?_ hA.lo.1 ai I af ah ?_ aA⟩
   ·rw [dc.of_not (fun F=>by have:=qI hA F; omega) (fun F=>by have:=hA.hid _ F; have:=hA.lo.1; omega)]; exact ae
   ·rw [aj]; exact N.mono G.view G.ref
 | lit aF es=>
  simp only at h
  split at h
  rotate_left
  ·cases h
  rename_i J
  obtain ⟨rfl,J⟩:=J
  obtain ⟨aa,I,f3,O⟩:=od J
  simp only [Option.some.injEq,Prod.mk.injEq] at h
  obtain ⟨rfl,_⟩:=h
  obtain ⟨a,c,ac,rfl,F,N,ap⟩:=vL au hA I az ax aa
  cases Y with
  | lit _ _ b cs f aq aJ aC ay av aM aL aP aB=>
   have aR:∀ e ∈ es++src,∀ x ∈ e,cG x=true:=fun e D=>(List.mem_append.1 D).elim (aB e) (aA e)
   obtain ⟨aT,aK⟩:=dc.some aq
   have ar:se P.cellsOf (dc w A ρ) B (jK A ρ) (P.cellsOf aF) es (cs.toList.take (es.length * P.cellsOf aF)):=se.of_lie ⟨ay,aM,f,fun i j aN aO=>by simpa using aL i j aN aO,aP⟩
   by_cases D:src=[]
   ·subst D
    refine ⟨_,w,ρ,iG X U _ es.length es.length (Nat.le_refl _) a c,Step.refl _ _ _,hA,?_⟩
    rw [List.append_nil]
    exact kL (S:=P.cellsOf) aq aJ aC ay (Nat.le_refl _) av ar aB
   ·obtain ⟨Z,rfl,ab⟩:=F.resolve_left D
    have ao:0 < src.length:=List.length_pos_iff.2 D
    obtain ⟨g',aH,aI,w',ad,ae,af,ah,ai,aj,ak,am⟩:=y3 (ty:=ty) (w:=w) X U aD aE b es.length es.length cs aK (Nat.le_refl _) av aC Z src.length c ac N.1 ab ap O f3
    obtain ⟨am,aS⟩:=am.resolve_left (fun h=>by omega)
    obtain ⟨G,an⟩:=DR hA ak aS
    have aw:=kL (S:=P.cellsOf) (V:=dc w' A ρ) (R:=jK A ρ) (es:=es++src) (by rw [dc.of_not (fun F=>by have:=qI hA F; omega) (fun F=>by have:=hA.hid _ F; have:=hA.lo.1; omega)]; exact ae) (Nat.le_trans hA.lo.1 am) ai I (by simpa using af) ah (by
     rw [List.length_append,aj]; exact (ar.append N).mono G.view G.ref) aR
    rw [List.length_append] at aw
    exact ⟨_,w',ρ,ad,G,an,aw⟩
 | lsl id L off n=>
  simp only at h
  obtain ⟨o,aU,h⟩:=Option.bind_eq_some_iff.1 h
  split at h
  ·simp at h
  ·cases h
 | _=>simp at h
theorem oj {id b:Nat} {o:Ob} (hA:MR S B w A ρ) (h:A[id]? = some (.live o)) (O:∀ F c,ρ id=some (F,c)->b=F∨w.heap.size<=b) (X:ρ id=none->w.heap.size<=b) {p:Pl}:¬ oQ (A.set id .dead) (fJ ρ id p) b:=by
 have U:=(List.getElem?_eq_some_iff.1 h).1
 rintro ⟨I,N,c,D,G⟩
 by_cases he:I=id
 ·subst he
  rw [List.getElem?_set_self U] at D
  cases D
 ·rw [List.getElem?_set_ne (Ne.symm he)] at D
  simp only [fJ,if_neg he] at G
  have Y:=qI hA ⟨I,N,c,D,G⟩
  cases hq:ρ id with
  | none=>have:=X hq; omega
  | some q=>
   obtain ⟨F,J⟩:=q
   rcases O F J hq with rfl | h3
   ·exact he (hA.inj I id N o b c J D h G hq)
   ·omega
theorem Hy (hA:MR P.cellsOf B w M ρ) {t ty el:TypeId} (af:P.underlying t=some (.slice el)) (aa:qo P el=true) (aE:((P.info? el).bind (·.zero)).isSome=true) (aF:(b5 P el).length=P.cellsOf el)
  {x s y:AV} {aK vs:Value} {M':bs} (h:rB el (P.cellsOf el) (P.bytesOf el) x s M=some (y,.put M')) (ac:RV P.cellsOf B w M ρ x aK) (aW:RV P.cellsOf B w M ρ s vs) :
  we P.cellsOf B w M ρ ((Builtin.append_ #[t,t] ty #[aK,vs]).run P w) M' y:=by
 have ay:=fN.refl M
 unfold rB at h
 obtain ⟨src,aX,h⟩:=Option.bind_eq_some_iff.1 h
 split at h
 rotate_left
 ·cases h
 rename_i aY
 have aC:∀ e ∈ src,∀ x ∈ e,cG x=true:=fun e G x ac=>List.all_eq_true.1 (List.all_eq_true.1 aY e G) x ac
 cases x with
 | nils=>
  simp only at h
  split at h
  ·simp at h
  ·cases h
 | lit a2 es=>
  simp only at h
  split at h
  ·simp at h
  ·cases h
 | lsl id L off n=>
  simp only at h
  obtain ⟨o,az,h⟩:=Option.bind_eq_some_iff.1 h
  split at h
  rotate_left
  ·cases h
  rename_i aU
  simp only [Option.some.injEq,Prod.mk.injEq,Eff.put.injEq] at h
  obtain ⟨ab,ai⟩:=h
  subst ab
  subst ai
  obtain ⟨a0,aL,aM,rfl,rfl,aV,aN⟩:=aU
  obtain ⟨aR,ad,f3,aj⟩:=od aV
  obtain ⟨a,c,aJ,rfl,U,ae,aT⟩:=vL ay hA ad aX aW aR
  obtain ⟨F,ax⟩:=eo az
  have aD:∀ e ∈ o.es,∀ x ∈ e,cG x=true:=fun e G x ac=>List.all_eq_true.1 (List.all_eq_true.1 aN e G) x ac
  have aZ:∀ e ∈ o.es++src,∀ x ∈ e,cG x=true:=fun e G=>(List.mem_append.1 G).elim (aD e) (aC e)
  subst aL
  rcases jO ay ac az with ⟨b,cap,X,_,rfl⟩ | ⟨X,rfl,_,_,rfl⟩
  ·obtain ⟨aP,aG,am,an,aH,a1,aI,ao⟩:=po hA F X
   rw [aM] at am ao
   subst ax
   rw [Nat.zero_mul,Nat.sub_zero]
   by_cases G:src=[]
   ·subst G
    have I:w.grownBy w (Pl.block (ρ id)):=⟨rfl,rfl,rfl,Nat.le_refl _,fun _ _ _=>rfl⟩
    have D:=lP hA F I (.inl rfl) (p:=ρ id) (fun J N e=>.inl (by rw [e]; rfl))
    have Z:=sk hA F I (.inl rfl) (p:=ρ id) (fun J N e=>.inl (by rw [e]; rfl)) (fun _ ob e=>by cases e)
    refine ⟨_,w,_,iG af aa _ _ _ an a c,D,Z,?_⟩
    rw [List.append_nil]
    refine kL (S:=P.cellsOf) ?_ aI am ad an aH (ao.mono D.view D.ref) aD
    rw [dc.of_not (oj hA F (fun J N e=>by rw [X] at e; injection e with e; injection e with ab ai; exact .inl ab) (fun e=>by rw [X] at e; cases e)) (fun U=>by have:=hA.hid _ U; omega)]
    exact aG
   ·obtain ⟨ah,rfl,ak⟩:=U.resolve_left G
    obtain ⟨g',aO,aQ,w',ap,aq,ar,au,av,aw,Y,O⟩:=y3 (ty:=ty) (w:=w) af aa aE aF b o.es.length cap aP aG an aH am ah src.length c aJ ae.1 ak aT aj f3
    have I:w.grownBy w' (Pl.block (ρ id)):=by rw [X]; exact Y
    have D:=lP hA F I (.inl rfl) (p:=none) (fun J N e=>by cases e)
    have Z:=sk hA F I (.inl rfl) (p:=none) (fun J N e=>by cases e) (fun _ ob e=>by cases e)
    have aB:=kL (S:=P.cellsOf) (V:=dc w' (M.set id .dead) (fJ ρ id none)) (R:=jK (M.set id .dead) (fJ ρ id none)) (B:=B) (es:=o.es++src) (by
     rw [dc.of_not (oj hA F (fun J N e=>by
      rw [X] at e; injection e with e; injection e with ab ai
      rcases O with O | O
      ·exact .inl (O.1.trans ab)
      ·exact .inr O.1) (fun e=>by rw [X] at e; cases e)) (fun U=>by have:=hA.hid _ U; have:=hA.lo.1; rcases O with ⟨rfl,_⟩ | ⟨O,_⟩ <;> omega)]
     exact aq) (by rcases O with ⟨rfl,_⟩ | ⟨O,_⟩; exact aI; exact Nat.le_trans hA.lo.1 O) av ad (by simpa using ar) au (by rw [List.length_append,aw]; exact (ao.append ae).mono D.view D.ref) aZ
    rw [List.length_append] at aB
    exact ⟨_,w',_,ap,D,Z,aB⟩
  ·have aA:o.es=[]:=List.length_eq_zero_iff.1 ax
   by_cases G:src=[]
   ·subst G
    have I:w.grownBy w (Pl.block (ρ id)):=⟨rfl,rfl,rfl,Nat.le_refl _,fun _ _ _=>rfl⟩
    have D:=lP hA F I (.inl rfl) (p:=none) (fun J N e=>by cases e)
    have Z:=sk hA F I (.inl rfl) (p:=none) (fun J N e=>by cases e) (fun _ ob e=>by cases e)
    refine ⟨_,w,_,iG af aa none 0 0 (Nat.le_refl _) a c,D,Z,?_⟩
    rw [aA,List.append_nil]
    exact .slON _
   ·obtain ⟨ah,rfl,ak⟩:=U.resolve_left G
    have aS:0 < src.length:=List.length_pos_iff.2 G
    rw [Nat.zero_add] at f3 aj
    obtain ⟨aO,aQ,w',ap,aq,ar,au,av,aw,Y⟩:=qQ (ty:=ty) (w:=w) af aa aE aF ah src.length c aJ aS ae.1 ak aj f3
    have I:w.grownBy w' (Pl.block (ρ id)):=⟨Y.os,Y.tape,Y.output,Y.size,fun k aa _=>Y.block k aa⟩
    have D:=lP hA F I (.inl rfl) (p:=none) (fun J N e=>by cases e)
    have Z:=sk hA F I (.inl rfl) (p:=none) (fun J N e=>by cases e) (fun _ ob e=>by cases e)
    rw [aA,List.nil_append]
    refine ⟨_,w',_,ap,D,Z,kL (S:=P.cellsOf) ?_ hA.lo.1 av ad ar au (by rw [aw]; exact ae.mono D.view D.ref) aC⟩
    rw [dc.of_not (oj hA F (fun J N e=>by rw [X] at e; cases e) (fun _=>Nat.le_refl _)) (fun U=>by have:=hA.hid _ U; have:=hA.lo.1; omega)]
    exact aq
 | _=>simp at h
end
end Go.Ab
