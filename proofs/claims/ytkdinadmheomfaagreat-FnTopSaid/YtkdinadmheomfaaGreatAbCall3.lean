/- A call, as the caller tells it. -/
import Derived.Test.YtkdinadmheomfaaGreatAbCall2
set_option linter.unusedVariables false
set_option linter.unusedSimpArgs false
namespace Go.Ab
open Go Go.RowKit
def o5 (P:Program) (call:bh):Prop:=
 ∀ f args M D M',call f args M=some (D,M')->∀ (B:Nat) (w:World) (ρ:Pm) (vals:Array Value),MR P.cellsOf B w M ρ->args.length=vals.size ->
  (∀ (i:Nat) x v,args[i]? = some x->vals[i]? = some v->RV P.cellsOf B w M ρ x v) ->
  ∀ (o:Oper) (a:Act) (K:Act->World->Prop) (Q:Exit->Act->World->Prop),
   (∀ v w' ρ',Step w M ρ w' M' ρ'->MR P.cellsOf B w' M' ρ'->RV P.cellsOf B w' M' ρ' D v->K (a.put o.dst v) w')->o.upon P a K Q ((callFunc f vals).run P w)
section
variable {P:Program} {S:TypeId->Nat} {B B':Nat} {w w':World} {M A A':bs} {ρ ρ':Pm} {V:Nat->Option Obj} {R':gC}
theorem xI:∀ (l:List Ob) (A:bs) (n i:Nat),n + l.length<=A.length->(nv A n l)[i]? = if n<=i/\i < n + l.length then (l[i - n]?).map Ent.live else A[i]?
 | [],A,n,i,_=>by
  rw [if_neg (by simp)]
  rfl
 | o::l,A,n,i,h=>by
  simp only [List.length_cons] at h
  simp only [nv]
  rw [xI l (A.set n (.live o)) (n + 1) i (by simp; omega)]
  by_cases h1:i=n
  ·subst h1
   rw [if_neg (by omega),if_pos (by simp only [List.length_cons]; omega),List.getElem?_set_self (by omega)]
   simp
  ·by_cases h2:n + 1<=i/\i < n + 1 + l.length
   ·rw [if_pos h2,if_pos (by simp only [List.length_cons]; omega),show i - n=(i - (n + 1)) + 1 by omega,List.getElem?_cons_succ]
   ·rw [if_neg h2,if_neg (by simp only [List.length_cons]; omega),List.getElem?_set_ne (Ne.symm h1)]
def zy (ρ:Pm) (n:Nat) (D:List Pl):Pm:=⟨fun i=>if n<=i/\i < n + D.length then D.getD (i - n) none else ρ i,ρ.hid⟩
theorem yl:∀ {l:List Ob} {i j:Nat} {a b:Ob},xQ l=true->l[i]? = some a->l[j]? = some b->a.t=b.t->i=j
 | [],i,j,a,b,_,h,_,_=>by simp at h
 | o::l,i,j,a,b,h,hi,hj,ht=>by
  simp only [xQ,Bool.and_eq_true,List.all_eq_true] at h
  cases i with
  | zero=>
   simp at hi
   subst hi
   cases j with
   | zero=>rfl
   | succ j=>
    have:=h.1 b (List.mem_of_getElem? (by simpa using hj))
    rw [ht] at this
    simp at this
  | succ i=>
   cases j with
   | zero=>
    simp at hj
    subst hj
    have:=h.1 a (List.mem_of_getElem? (by simpa using hi))
    rw [ht] at this
    simp at this
   | succ j=>exact congrArg (· + 1) (yl h.2 (by simpa using hi) (by simpa using hj) ht)
theorem FQ (hA:MR S B w A ρ) (aq:Below w.heap.size w w') {n:Nat} {x:AV×List Ob} {u:Value} (ar:∀ k,k < x.2.length->A[n + k]? = some .pend) (aC:xW S w.heap.size w' V B n x u) (ay:xQ x.2=true) (aB:(x.2.all fun o=>decide (0 < o.s))=true) :
  ∃ ρ',Step w A ρ w' (nv A n x.2) ρ'/\MR S B w' (nv A n x.2) ρ'/\RV S B w' (nv A n x.2) ρ' x.1 u:=by
 obtain ⟨G,aR,aw,ax⟩:=aC
 have aA:n + x.2.length<=A.length∨x.2.length=0:=by
  by_cases U:x.2.length=0
  ·exact .inr U
  ·have:=(List.getElem?_eq_some_iff.1 (ar (x.2.length - 1) (by omega))).1
   exact .inl (by omega)
 have Z:∀ i,(nv A n x.2)[i]? = if n<=i/\i < n + x.2.length then (x.2[i - n]?).map Ent.live else A[i]? := by
  intro i
  rcases aA with hl | U
  ·exact xI x.2 A n i hl
  ·have:x.2=[]:=List.length_eq_zero_iff.1 U
   rw [this,if_neg (by simp)]
   rfl
 have ai:∀ k ob,x.2[k]? = some ob->∃ p,G[k]? = some p/\(zy ρ n G) (n + k)=p/\Ed S w.heap.size w' ob p:=by
  intro k ob N
  have aS:=(List.getElem?_eq_some_iff.1 N).1
  have af:k < G.length:=by omega
  refine ⟨G[k],List.getElem?_eq_getElem af,?_,aw k ob _ N (List.getElem?_eq_getElem af)⟩
  simp [zy,af]
 have ap:∀ id,((nv A n x.2)[id]? = A[id]?/\zy ρ n G id=ρ id)∨(A[id]? = some .pend/\∃ ob,(nv A n x.2)[id]? = some (.live ob)/\∀ b cap,zy ρ n G id=some (b,cap)->w.heap.size<=b):=by
  intro id
  by_cases hin:n<=id/\id < n + x.2.length
  ·obtain ⟨k,rfl⟩:∃ k,id=n + k:=⟨id - n,by omega⟩
   have N:k < x.2.length:=by omega
   obtain ⟨p,F,D,J⟩:=ai k x.2[k] (List.getElem?_eq_getElem N)
   refine .inr ⟨ar k N,x.2[k],?_,fun b cap ao=>?_⟩
   ·rw [Z,if_pos hin]; simp [N]
   ·rw [D] at ao
    subst ao
    exact J.2.2.1
  ·refine .inl ⟨by rw [Z,if_neg hin],?_⟩
   simp only [zy]
   rw [if_neg (by omega)]
 have ah:∀ id ob,A[id]? = some .pend->(nv A n x.2)[id]? = some (.live ob)->∃ k p,id=n + k/\x.2[k]? = some ob/\G[k]? = some p/\(zy ρ n G) id=p/\Ed S w.heap.size w' ob p:=by
  intro id ob F D
  rw [Z] at D
  by_cases hin:n<=id/\id < n + x.2.length
  ·rw [if_pos hin] at D
   obtain ⟨o,J,O⟩:=Option.map_eq_some_iff.1 D
   injection O with O
   subst O
   obtain ⟨p,aa,I,X⟩:=ai (id - n) o J
   exact ⟨id - n,p,by omega,J,aa,by rw [show n + (id - n)=id by omega] at I; exact I,X⟩
  ·rw [if_neg hin,F] at D
   cases D
 refine ⟨zy ρ n G,uu hA aq rfl ap,BY hA aq rfl ap (fun id ob F D=>?_) (fun id aE b c aQ F D J O ad ae=>?_),ax _ _ (fun k ob p F D=>?_)⟩
 ·obtain ⟨k,p,rfl,I,X,aj,ak⟩:=ah id ob F D
  rw [aj]
  have U:0 < ob.s:=by simpa using List.all_eq_true.1 aB ob (List.mem_of_getElem? I)
  obtain ⟨au,aL,Y⟩:=ak
  cases p with
  | none=>
   simp only at Y
   exact ⟨au,U,by rw [Y.2]; simp,by rw [Y.2]; simp,fun _=>Y.2⟩
  | some av=>
   obtain ⟨b,cap⟩:=av
   obtain ⟨aU,cs,am,aM,aN,aO,aP,aK⟩:=Y
   exact sT au U (fun e az y aD=>Al (Gu (aL e az y aD))) am aM aN aO aP (aK _ _ _)
 ·obtain ⟨ob,ad⟩:=ad
  obtain ⟨aI,ae⟩:=ae
  obtain ⟨k,p,rfl,I,X,aj,ak⟩:=ah id ob F ad
  obtain ⟨k',aJ,rfl,aF,aT,aG,aH⟩:=ah aE aI D ae
  rw [aj] at J
  rw [aG] at O
  subst J
  subst O
  obtain ⟨_,_,_,cs,am,_⟩:=ak
  obtain ⟨_,_,_,cs',ab,_⟩:=aH
  rw [am] at ab
  injection ab with ab
  injection ab with an ac
  rw [yl ay I aF ac]
 ·have N:=(List.getElem?_eq_some_iff.1 F).1
  obtain ⟨aJ,aa,I,X⟩:=ai k ob F
  rw [D] at aa
  obtain rfl:=Option.some.inj aa
  have:(nv A n x.2)[n + k]? = some (.live ob):=by rw [Z,if_pos (by omega),Nat.add_sub_cancel_left,F]; rfl
  simp only [jK,this,if_true]
  rw [I,if_neg]
  rintro ⟨an,ac⟩
  subst ac
  have:=X.2.2.1
  rw [an] at this
  cases this
def NR (M A:bs) (n:Nat):Eff->Prop
 | .keep=>True
 | .push l=>∀ k,k < l.length->A[n + k]? = some .pend
 | .put _=>A=M
def Eb (S:TypeId->Nat) (B:Nat) (w:World) (M:bs) (ρ:Pm) (x:AV×bs) (v:Value):Prop:=
 Step w M ρ w x.2 ρ/\MR S B w x.2 ρ/\RV S B w x.2 ρ x.1 v
theorem A5 (hA:MR S B w M ρ) (x:AV):Step w M ρ w (li x M).2 ρ/\MR S B w (li x M).2 ρ:=by
 have D:Step w M ρ w M ρ/\MR S B w M ρ:=⟨Step.refl w M ρ,hA⟩
 unfold li
 split
 ·rename_i id L off n
  split
  ·rename_i o U
   split
   ·obtain ⟨F,X⟩:=eo U
    have G:w.grownBy w (Pl.block (ρ id)):=⟨rfl,rfl,rfl,Nat.le_refl _,fun _ _ _=>rfl⟩
    have I:=lP hA F G (.inl rfl) (p:=ρ id) (fun N O e=>.inl (by rw [e]; rfl))
    have J:=sk hA F G (.inl rfl) (p:=ρ id) (fun N O e=>.inl (by rw [e]; rfl)) (fun _ ob e=>by cases e)
    rw [rZ] at I J
    exact ⟨I,J⟩
   ·exact D
  ·exact D
 ·exact D
theorem Bb:∀ (cs:List AV) (M:bs),MR S B w M ρ->Step w M ρ w (kY li cs M).2 ρ/\MR S B w (kY li cs M).2 ρ
 | [],M,hA=>⟨Step.refl w M ρ,hA⟩
 | c::cs,M,hA=>by
  obtain ⟨D,F⟩:=A5 hA c
  obtain ⟨G,I⟩:=Bb cs _ F
  exact ⟨D.trans G,I⟩
theorem ze (hA:MR S B w M ρ) {x:AV} {v:Value} (F:RV S B w M ρ x v):Eb S B w M ρ (li x M) v:=by
 obtain ⟨Y,Z⟩:=A5 hA x
 refine ⟨Y,Z,?_⟩
 cases x with
 | lsl id L off n=>
  revert Y Z
  simp only [li]
  split
  ·rename_i o J
   split
   ·rename_i af
    intro X az
    obtain ⟨aw,ab,ac,ad⟩:=af
    subst ab ac
    obtain ⟨G,ae⟩:=eo J
    obtain ⟨aa,ao,ap,aq,ar⟩:=hA.obj id o G
    rcases jO (fN.refl M) F J with ⟨b,cap,D,_,rfl⟩ | ⟨D,ay,_,_,rfl⟩
    ·obtain ⟨ax,aj,N,ak,am,O,an,U⟩:=po hA G D
     subst ae
     rw [Nat.zero_mul,Nat.sub_zero]
     rw [aa] at N O U
     have I:=oj hA G (b:=b) (fun au av e=>by rw [D] at e; injection e with e; injection e with e1 e2; exact .inl e1) (fun e=>by rw [D] at e; cases e) (p:=ρ id)
     rw [rZ] at I
     refine kL (S:=S) ?_ an N O ak am (U.mono X.view X.ref) (mW ad)
     rw [dc.of_not I (fun ai=>by have:=hA.hid _ ai; omega)]
     exact aj
    ·have ah:o.es=[]:=List.length_eq_zero_iff.1 (by omega)
     rw [ah]
     exact .slON _
   ·exact fun _ _=>F
  ·exact fun _ _=>F
 | _=>exact F
theorem wb (f:AV->bs->AV×bs) (G:∀ (M:bs) x v,MR S B w M ρ->RV S B w M ρ x v->Eb S B w M ρ (f x M) v) :
  ∀ (cs:List AV) (vs:List Value) (M:bs),MR S B w M ρ->cs.length=vs.length->(∀ (i:Nat) x v,cs[i]? = some x->vs[i]? = some v->RV S B w M ρ x v) ->
   Step w M ρ w (kY f cs M).2 ρ/\MR S B w (kY f cs M).2 ρ/\(kY f cs M).1.length=vs.length/\∀ (i:Nat) x v,(kY f cs M).1[i]? = some x->vs[i]? = some v->RV S B w (kY f cs M).2 ρ x v
 | [],vs,M,hA,hl,h=>⟨Step.refl w M ρ,hA,hl,h⟩
 | c::cs,[],M,_,hl,_=>by simp at hl
 | c::cs,u::vs,M,hA,hl,h=>by
  obtain ⟨I,N,O⟩:=G M c u hA (h 0 c u rfl rfl)
  obtain ⟨J,U,X,Y⟩:=wb f G cs vs (f c M).2 N (by simpa using hl) (fun i x v D F=>I.rv (h (i + 1) x v (by simpa using D) (by simpa using F)))
  refine ⟨I.trans J,U,by simp [kY,X],fun i x v D F=>?_⟩
  cases i with
  | zero=>
   simp [kY] at D F
   subst D F
   exact J.rv O
  | succ i=>exact Y i x v (by simpa [kY] using D) (by simpa using F)
theorem EN (hA:MR S B w M ρ) {x:AV} {v:Value} (D:RV S B w M ρ x v):Eb S B w M ρ (Dn x M) v:=by
 by_cases hag:∃ cs,x = .agg cs
 ·obtain ⟨cs,rfl⟩:=hag
  cases D with
  | agg _ vs U h=>
   obtain ⟨I,J,N,O⟩:=wb (S:=S) (B:=B) (w:=w) (ρ:=ρ) li (fun M x v hA D=>ze hA D) cs vs.toList M hA (by simpa using U) (fun i x v F G=>h i x v F (by simpa using G))
   exact ⟨I,J,.agg _ vs (by simpa using N) (fun i x v F G=>O i x v F (by simpa using G))⟩
 ·have e:Dn x M=li x M:=by
   unfold Dn
   split
   ·rename_i cs; exact absurd ⟨cs,rfl⟩ hag
   ·rfl
  rw [e]
  exact ze hA D
theorem ML (hA:MR S B w M ρ) {x:AV} {v:Value} (D:RV S B w M ρ x v):Eb S B w M ρ (N4 x M) v:=by
 by_cases hag:∃ cs,x = .tup cs
 ·obtain ⟨cs,rfl⟩:=hag
  cases D with
  | tup _ vs U h=>
   obtain ⟨I,J,N,O⟩:=wb (S:=S) (B:=B) (w:=w) (ρ:=ρ) Dn (fun M x v hA D=>EN hA D) cs vs.toList M hA (by simpa using U) (fun i x v F G=>h i x v F (by simpa using G))
   exact ⟨I,J,.tup _ vs (by simpa using N) (fun i x v F G=>O i x v F (by simpa using G))⟩
 ·have e:N4 x M=Dn x M:=by
   unfold N4
   split
   ·rename_i cs; exact absurd ⟨cs,rfl⟩ hag
   ·rfl
  rw [e]
  exact EN hA D
theorem IO {id:Nat} {o:Ob} {x:AV} (h:M[id]? = some (.live o)) (I:o.kn = .box):(li x M).2[id]? = some (.live o):=by
 unfold li
 split
 ·rename_i G L off n
  split
  ·rename_i O N
   split
   ·rename_i F
    obtain ⟨D,_⟩:=eo N
    have J:G≠id:=by
     intro e
     subst e
     rw [h] at D
     cases D
     rw [I] at F
     cases F.1
    show (M.set G .dead)[id]? = _
    rw [List.getElem?_set_ne J]
    exact h
   ·exact h
  ·exact h
 ·exact h
theorem Ch {id:Nat} {o:Ob} (D:o.kn = .box):∀ (cs:List AV) (M:bs),M[id]? = some (.live o)->(kY li cs M).2[id]? = some (.live o)
 | [],_,h=>h
 | c::cs,M,h=>Ch D cs _ (IO h D)
theorem zK:∀ (cs:List AV) (M:bs),(kY li cs M).1.length=cs.length
 | [],_=>rfl
 | c::cs,M=>by simp [kY,zK cs]
theorem FN {x:AV} (h:gB x=true):gB (li x M).1=true:=by
 unfold li
 split
 ·split
  ·split
   ·rfl
   ·exact h
  ·exact h
 ·exact h
theorem AE:∀ (cs:List AV) (M:bs),(∀ x ∈ cs,gB x=true)->∀ x ∈ (kY li cs M).1,gB x=true
 | [],_,_,x,hx=>by simp [kY] at hx
 | c::cs,M,h,x,hx=>by
  simp only [kY,List.mem_cons] at hx
  rcases hx with rfl | hx
  ·exact FN (h c (List.mem_cons_self ..))
  ·exact AE cs _ (fun y D=>h y (List.mem_cons_of_mem _ D)) x hx
theorem CK {x:AV} (h:gB x=true):gB (so x)=true:=by cases x <;> first | rfl | exact h
theorem Gh (hA:MR S B w M ρ) (x:AV):Step w M ρ w (Ad x M) ρ/\MR S B w (Ad x M) ρ:=by
 have X:Step w M ρ w M ρ/\MR S B w M ρ:=⟨Step.refl _ _ _,hA⟩
 unfold Ad
 split
 ·rename_i id
  split
  ·rename_i o aB
   split
   ·rename_i cs G F
    obtain ⟨aa,_⟩:=eo aB
    obtain ⟨aq,ar,Y,au,Z⟩:=hA.obj id o aa
    obtain ⟨aJ,ap⟩:=Bb cs M hA
    have ab:=Ch G cs M aa
    have ae:w.grownBy w (Pl.block (ρ id)):=⟨rfl,rfl,rfl,Nat.le_refl _,fun _ _ _=>rfl⟩
    have N:cs ∈ o.es:=by rw [F]; simp
    have ad:(Ent.live { o with es:=[(kY li cs M).1.map so] }) = .dead∨∃ es',(Ent.live { o with es:=[(kY li cs M).1.map so] }) = .live { o with es:=es' }/\((o.kn = .grow/\o.es.length < es'.length)∨(es'.length=o.es.length/\ρ id=ρ id)):=.inr ⟨_,rfl,.inr ⟨by rw [F]; rfl,rfl⟩⟩
    have ai:∀ b c,ρ id=some (b,c)->Pl.block (ρ id)=some b∨w.heap.size<=b:=fun b c e=>.inl (by rw [e]; rfl)
    have an:=lP ap ab ae ad ai
    have ao:=sk ap ab ae ad ai (fun aj ob U=>by
     injection U with U
     subst U
     refine ⟨aq,ar,fun e D=>?_,fun e D y ak=>?_,?_⟩
     ·rw [List.mem_singleton.1 D,List.length_map,zK]; exact Y cs N
     ·rw [List.mem_singleton.1 D] at ak
      obtain ⟨z,J,rfl⟩:=List.mem_map.1 ak
      exact CK (AE cs M (au cs N) z J)
     ·cases hp:ρ id with
      | none=>exact fun aA=>by rw [show o.kn=Kn.grow from aA] at G; cases G
      | some p=>
       obtain ⟨b,cap⟩:=p
       rw [hp] at Z
       obtain ⟨av,f,aC,aD,am,aE,aF,aG,aH⟩:=Z
       have aM:cs.length=o.s:=Y cs N
       obtain ⟨_,_,aN,aI⟩:=wb (S:=S) (B:=B) (w:=w) (ρ:=ρ) li (fun M x v hA I=>ze hA I) cs ((List.range cs.length).map (f 0)) M hA (by simp) (fun i x v aw ac=>by
        rw [List.getElem?_map] at ac
        obtain ⟨j,ax,rfl⟩:=Option.map_eq_some_iff.1 ac
        have O:=(List.getElem?_eq_some_iff.1 ax)
        obtain ⟨aL,af⟩:=O
        rw [List.getElem_range] at af
        subst af
        exact aH 0 i cs x (by rw [F]; rfl) aw)
       refine ⟨av,f,aC,aD,by rw [F] at am; exact am,aE,fun aK=>⟨rfl,(aF G).2⟩,fun i j ay O=>?_,fun i j e x D I=>?_⟩
       ·have az:i=0:=by simpa using ay
        subst az
        exact aG 0 j (by rw [F]; simp) O
       ·cases i with
        | succ i=>simp at D
        | zero=>
         simp only [List.getElem?_cons_zero,Option.some.injEq] at D
         subst D
         rw [List.getElem?_map] at I
         obtain ⟨z,J,rfl⟩:=Option.map_eq_some_iff.1 I
         have ah:=(List.getElem?_eq_some_iff.1 J).1
         rw [zK] at ah
         rw [hp] at aj
         exact aj.rv (lN (aI j z (f 0 j) J (by simp [ah]))))
    rw [rZ] at an ao
    exact ⟨aJ.trans an,ao⟩
   ·exact X
  ·exact X
 ·exact X
theorem AT {e:b4}:∀ (l:List Nat) (M:bs),MR S B w M ρ->Step w M ρ w (sm e l M) ρ/\MR S B w (sm e l M) ρ
 | [],M,hA=>⟨Step.refl w M ρ,hA⟩
 | t::l,M,hA=>by
  obtain ⟨D,F⟩:=Gh hA (a3 e t)
  obtain ⟨G,I⟩:=AT (e:=e) l _ F
  exact ⟨D.trans G,I⟩
theorem Jz {x:AV} {v:Value} (h:RC S V B R' x v):RC S V B R' (NE x) v:=by
 cases x with
 | nils=>cases h; exact .slN none 0 (fun _=>rfl)
 | sl o es=>exact lN h
 | lit t es=>exact lN h
 | _=>exact h
theorem Hx {x:AV} {v:Value} (h:RC S V B R' x v):RC S V B R' (Lt x) v:=by
 by_cases hag:∃ cs,x = .agg cs
 ·obtain ⟨cs,rfl⟩:=hag
  cases h with
  | agg _ vs I h=>
   refine .agg _ vs (by simpa using I) (fun i x v D F=>?_)
   rw [List.getElem?_map] at D
   obtain ⟨J,G,rfl⟩:=Option.map_eq_some_iff.1 D
   exact Jz (h i J v G F)
 ·have e:Lt x=NE x:=by
   unfold Lt
   split
   ·rename_i cs; exact absurd ⟨cs,rfl⟩ hag
   ·rfl
  rw [e]
  exact Jz h
theorem LJ {x:AV} {v:Value} (h:RC S V B R' x v):RC S V B R' (As x) v:=by
 by_cases hag:∃ cs,x = .tup cs
 ·obtain ⟨cs,rfl⟩:=hag
  cases h with
  | tup _ vs I h=>
   refine .tup _ vs (by simpa using I) (fun i x v D F=>?_)
   rw [List.getElem?_map] at D
   obtain ⟨J,G,rfl⟩:=Option.map_eq_some_iff.1 D
   exact Hx (h i J v G F)
 ·have e:As x=Lt x:=by
   unfold As
   split
   ·rename_i cs; exact absurd ⟨cs,rfl⟩ hag
   ·rfl
  rw [e]
  exact Hx h
theorem DH {x:AV} {v:Value} (h:RC S V B R' x v):RC S V B R' (NF x) v:=by
 cases x with
 | sl o es=>exact lN h
 | lit t es=>exact lN h
 | _=>exact h
theorem MU {x:AV} {v:Value} (h:RC S V B R' x v):RC S V B R' (Gy x) v:=by
 by_cases hag:∃ cs,x = .tup cs
 ·obtain ⟨cs,rfl⟩:=hag
  cases h with
  | tup _ vs I h=>
   refine .tup _ vs (by simpa using I) (fun i x v D F=>?_)
   rw [List.getElem?_map] at D
   obtain ⟨J,G,rfl⟩:=Option.map_eq_some_iff.1 D
   exact DH (h i J v G F)
 ·have e:Gy x=NF x:=by
   unfold Gy
   split
   ·rename_i cs; exact absurd ⟨cs,rfl⟩ hag
   ·rfl
  rw [e]
  exact DH h
theorem NA {wk:Bool} {args:List AV} (hA:MR S B w M ρ) {vals:Array Value} (G:args.length=vals.size) (I:∀ (i:Nat) x v,args[i]? = some x->vals[i]? = some v->RV S B w M ρ x v) :
  Step w M ρ w (JO wk args M).2 ρ/\MR S B w (JO wk args M).2 ρ/\(JO wk args M).1.length=vals.size/\∀ (i:Nat) x v,(JO wk args M).1[i]? = some x->vals[i]? = some v->RV S B w (JO wk args M).2 ρ x v:=by
 unfold JO
 split
 ·obtain ⟨N,O,U,X⟩:=wb (S:=S) (B:=B) (w:=w) (ρ:=ρ) li (fun M x v hA Y=>ze hA Y) args vals.toList M hA (by simpa using G) (fun i x v D F=>I i x v D (by simpa using F))
  refine ⟨N,O,by simpa using U,fun i x v D F=>?_⟩
  simp only [List.getElem?_map] at D
  obtain ⟨Z,J,rfl⟩:=Option.map_eq_some_iff.1 D
  exact DH (X i Z v J (by simpa using F))
 ·exact ⟨Step.refl ..,hA,G,I⟩
theorem Kz {call:bh} (ak:o5 P call) (aO:fN M A) (hA:MR P.cellsOf B w A ρ) {aT aC:Nat->Bool} {th:Bool} {n f:Nat} {args:List AV} {y:AV} {U:Eff} (h:ld P.cellsOf aT aC call th n f args M=some (y,U)) (Y:NR M A n U)
  {vals:Array Value} (au:args.length=vals.size) (ay:∀ (i:Nat) x v,args[i]? = some x->vals[i]? = some v->RV P.cellsOf B w A ρ x v)
  (o:Oper) (a:Act) (K:Act->World->Prop) (Q:Exit->Act->World->Prop)
  (ac:∀ v w' ρ',Step w A ρ w' (qq A n U) ρ'->MR P.cellsOf B w' (qq A n U) ρ'->RV P.cellsOf B w' (qq A n U) ρ' y v->K (a.put o.dst v) w'):o.upon P a K Q ((callFunc f vals).run P w):=by
 unfold ld at h
 split at h
 ·obtain ⟨p,ae,h⟩:=Option.map_eq_some_iff.1 h
  obtain ⟨aE,aF,av,az⟩:=NA (wk:=aC f) (show MR P.cellsOf B w M ρ from (show A=M from by split at h <;> (injection h with J F; subst F; exact Y)) ▸ hA) au (fun i x v ab ai=>(show A=M from by split at h <;> (injection h with J F; subst F; exact Y)) ▸ ay i x v ab ai)
  split at h
  ·injection h with J F
   subst J
   subst F
   have aj:A=M:=Y
   subst aj
   exact ak f _ _ p.1 p.2 ae B w ρ vals aF av az o a K Q (fun v w' ρ' I O N=>by
    obtain ⟨Z,aa,an⟩:=ML O N
    exact ac v w' ρ' ((aE.trans I).trans Z) aa an)
  ·injection h with J F
   subst J
   subst F
   have aj:A=M:=Y
   subst aj
   exact ak f _ _ p.1 p.2 ae B w ρ vals aF av az o a K Q (fun v w' ρ' I O N=>ac v w' ρ' (aE.trans I) O (by
    split
    ·exact MU N
    ·exact N))
 ·obtain ⟨p,ae,h⟩:=Option.bind_eq_some_iff.1 h
  split at h
  rotate_left
  ·cases h
  rename_i aQ
  have am:∀ b,ρ.hid b->b < w.heap.size:=fun b D=>Nat.lt_of_lt_of_le (hA.hid b D) hA.lo.1
  have aA:∀ H:Nat->Prop,(∀ b,H b->b < w.heap.size)->(∀ b,H b->oQ A ρ b∨ρ.hid b)->(∀ b,ρ.hid b->H b)->(args.any up=true->∀ b,oQ A ρ b->¬ H b)->(args.any up=false->∀ b,oQ A ρ b->H b) ->
    o.upon P a K Q ((callFunc f vals).run P w):=by
   intro H aG aH aI aJ aK
   have aL:MR P.cellsOf w.heap.size w [] ⟨fun _=>none,H⟩:=⟨fun id o h=>by simp at h,fun id aX o aB b c aV h=>by simp at h,aG,⟨Nat.le_refl _,fun id o b c h=>by simp at h⟩,hA.fx.mono hA.lo.1 fun _ _=>rfl⟩
   have aw:∀ (ρ0:Pm) b,¬ oQ [] ρ0 b:=by rintro ρ0 b ⟨id,o,c,h,_⟩; simp at h
   have ap:∀ b,¬ H b->dc w [] ⟨fun _=>none,H⟩ b=w.heap[b]? := fun b D=>dc.of_not (aw _ b) D
   have aM:zb (dc w A ρ) (dc w [] ⟨fun _=>none,H⟩):=by
    intro b ob D
    obtain ⟨af,ah⟩:=dc.some D
    have X:=dc.nhid D
    rw [ap b (fun G=>(aH b G).elim af X)]
    exact ah
   refine ak f (args.map (xe M)) [] p.1 p.2 ae w.heap.size w ⟨fun _=>none,H⟩ vals aL (by simpa using au) (fun i x v ab ai=>?_) o a K Q (fun v w' ρ' I O N=>?_)
   ·rw [List.getElem?_map] at ab
    obtain ⟨aD,ao,rfl⟩:=Option.map_eq_some_iff.1 ab
    refine J4 aO hA aM (fun aR b D=>?_) (ay i aD v ao ai)
    exact ap b (aJ (List.any_eq_true.2 ⟨aD,List.mem_of_getElem? ao,aR⟩) b D)
   ·have ar:Below w.heap.size w w':=⟨I.os,I.tape,I.output,I.size,fun b D=>I.block b D (aw _ b)⟩
    have aq:∀ b,w.heap.size<=b->dc w' A ρ b=w'.heap[b]? := fun b D=>dc.of_not (fun G=>by have:=qI hA G; omega) (fun G=>by have:=am b G; omega)
    have aN:zb (dc w' p.2 ρ') (dc w' A ρ)∨iu (cp p.2 p.1)=true:=by
     cases hq:args.any up with
     | true=>exact .inr (aQ hq)
     | false=>
      refine .inl (fun b ob D=>?_)
      have X:=dc.nhid D
      rw [I.hid] at X
      rw [dc.of_not (fun G=>X (aK hq b G)) (fun G=>X (aI b G))]
      exact (dc.some D).2
    have ax:=EC (R':=jK A ρ) O hA.lo.1 aq aN N
    split at h
    ·rename_i aW
     unfold xz at h
     split at h
     rotate_left
     ·cases h
     rename_i ad
     simp only [Option.some.injEq,Prod.mk.injEq] at h
     obtain ⟨J,F⟩:=h
     subst J
     subst F
     have aS:=EC (B:=w.heap.size) (V:=dc w' A ρ) (R':=jK A ρ) O (Nat.le_refl _) aq (.inr ad.1) N
     have aP:=K1 (w:=w') (fun b o D=>(dc.some D).2) B n ad.1 aS
     obtain ⟨aU,Z,aa,an⟩:=FQ hA ar Y aP ad.2.1 ad.2.2
     exact ac v w' aU Z aa an
    ·simp only [Option.some.injEq,Prod.mk.injEq] at h
     obtain ⟨J,F⟩:=h
     subst J
     subst F
     obtain ⟨Z,aa⟩:=rM hA ar
     refine ac v w' ρ Z aa ?_
     split
     ·exact LJ ax
     ·exact ax
  cases hq:args.any up with
  | true=>
   refine aA ρ.hid am (fun b D=>.inr D) (fun b D=>D) (fun _ b D G=>?_) (fun h=>by rw [hq] at h; cases h)
   obtain ⟨id,aB,c,af,ah⟩:=D
   have:=hA.lo.2 id aB b c af ah
   have:=hA.hid b G
   omega
  | false=>exact aA (fun b=>oQ A ρ b∨ρ.hid b) (fun b D=>D.elim (qI hA) (am b)) (fun b D=>D) (fun b D=>.inr D) (fun h=>by rw [hq] at h; cases h) (fun _ b D=>.inl D)
end
end Go.Ab
