/- Operations that make blocks: variables, literals, make; structs put together. -/
import Derived.Test.YtkdinadmheomfaaGreatAbOps5
import Derived.Deep.OwnRows
set_option linter.unusedVariables false
set_option linter.unusedSimpArgs false
namespace Go.Ab
open Go Go.RowKit
def we (S:TypeId->Nat) (B:Nat) (w:World) (A:bs) (ρ:Pm) (r:Result Value) (A':bs) (y:AV):Prop:=
 ∃ u w' ρ',r = .ok u w'/\Step w A ρ w' A' ρ'/\MR S B w' A' ρ'/\RV S B w' A' ρ' y u
section
variable {P:Program} {S:TypeId->Nat} {B:Nat} {w:World} {M A:bs} {ρ:Pm}
theorem AM (hA:MR S B w A ρ) (cs:Array Value) (t:TypeId) :
  Step w A ρ (w.alloc (.cells cs t)) A ρ/\MR S B (w.alloc (.cells cs t)) A ρ/\∀ k,jJ (dc (w.alloc (.cells cs t)) A ρ) w.heap.size k=cs[k]? := by
 obtain ⟨D,F⟩:=rM hA (m6 w (.cells cs t))
 exact ⟨D,F,fun k=>by simp [jJ,Da hA]⟩
theorem Oz {cs:List AV} {vs:Array Value} {Q:AV->Value->Prop} (G:vs.size=cs.length) (h:∀ (i:Nat) a b,cs[i]? = some a->vs[i]? = some b->Q a b) :
  ∃ f:Nat->Value,(∀ j,j < cs.length->vs[j]? = some (f j))/\∀ (j:Nat) x,cs[j]? = some x->Q x (f j):=by
 refine ⟨fun j=>vs.getD j Go.undef,fun j F=>?_,fun j x D=>?_⟩
 ·have:j < vs.size:=by omega
  simp [Array.getD,this]
 ·have F:=(List.getElem?_eq_some_iff.1 D).1
  have:j < vs.size:=by omega
  exact h j x _ D (by simp [Array.getD,this])
theorem M1 (Z:fN M A) (hA:MR P.cellsOf B w A ρ) {t:TypeId} {x y:AV} {v:Value} (h:FW (P.cellsOf t) x M=some y) (aa:RV P.cellsOf B w A ρ x v) :
  we P.cellsOf B w A ρ ((Instr.box t v).run P w) A y:=by
 unfold FW at h
 split at h
 ·rename_i X
  obtain ⟨D,F,ae⟩:=X
  obtain rfl:=Option.some.inj h
  obtain ⟨I,ad,J⟩:=zR Z (DZ F) aa
  obtain ⟨G,ab,ac⟩:=AM hA v.cells t
  obtain ⟨f,N,O⟩:=Oz I J
  refine ⟨.pointer (some ⟨w.heap.size,0,none⟩),_,ρ,?_,G,ab,.ptB _ _ 0 f (by intro e; rw [e] at D; simp at D; omega) (fun j Y=>?_) (fun j a U=>G.rv (O j a U)) (List.all_eq_true.1 F)⟩
  ·simp [Instr.box,newVar,newRow,Sem.run_bind]
  ·rw [Nat.zero_add,ac]; exact N j Y
 ·cases h
theorem vh:1<=maxLen:=by unfold maxLen; omega
theorem ry (hA:MR S B w A ρ) {n:Nat} (ac:A[n]? = some .pend) (kn:Kn) (t:TypeId) (es:List (List AV)) (vs:Array Value) (w':World) (Z:Below w.heap.size w w') (b cap:Nat) (ak:w.heap.size<=b) (ah:w'.heap[b]? = some (.cells vs t (0,0)))
  (ae:0 < S t) (F:vs.size=cap * S t) (aa:es.length<=cap) (ab:cap<=maxLen) (N:kn = .box->es.length=1/\cap=1) (G:∀ e ∈ es,e.length=S t) (ad:∀ e ∈ es,∀ x ∈ e,gB x=true)
  (O:∀ (i j:Nat) e x v,es[i]? = some e->e[j]? = some x->vs[i * S t + j]? = some v->RV S B w A ρ x v) :
  Step w A ρ w' (A.set n (.live ⟨kn,t,S t,es⟩)) (fJ ρ n (some (b,cap)))/\MR S B w' (A.set n (.live ⟨kn,t,S t,es⟩)) (fJ ρ n (some (b,cap))):=by
 refine zm hA Z ac _ _ (fun ai aj e=>by injection e with e; injection e with e1 e2; omega) (fun af=>⟨rfl,ae,G,ad,vs,fun i j=>vs.getD (i * S t + j) Go.undef,ah,F,aa,ab,N,fun i j U X=>?_,fun i j e x D J=>?_⟩)
 ·have I:i < es.length:=U
  have Y:j < S t:=X
  have:i * S t + j < vs.size:=by
   rw [F]
   calc i * S t + j < i * S t + S t:=by omega
    _=(i + 1) * S t:=by rw [Nat.succ_mul]
    _<=cap * S t:=Nat.mul_le_mul_right _ (by omega)
  simp [Array.getD,this]
 ·have I:=(List.getElem?_eq_some_iff.1 D).1
  have Y:=(List.getElem?_eq_some_iff.1 J).1
  have am:e.length=S t:=G e (List.mem_of_getElem? D)
  have an:i < es.length:=I
  have:i * S t + j < vs.size:=by
   rw [F]
   calc i * S t + j < i * S t + S t:=by omega
    _=(i + 1) * S t:=by rw [Nat.succ_mul]
    _<=cap * S t:=Nat.mul_le_mul_right _ (by omega)
  exact af.rv (O i j e x _ D J (by simp [Array.getD,this]))
theorem w3 {A:bs} {ρ:Pm} {n:Nat} {ob:Ob} {p:Pl} (F:n < A.length) (D:ob.kn = .box->p≠none):jK (A.set n (.live ob)) (fJ ρ n p) n ob.es.length=some (some (p,ob.s)):=by
 simpa [jK,fJ,F] using D
theorem Fb {w':World} {n b:Nat} {ob:Ob} (G:A[n]? = some .pend) (F:ob.es.length=1):RV S B w' (A.set n (.live ob)) (fJ ρ n (some (b,1))) (.loc n 1 0 0) (.pointer (some ⟨b,0,none⟩)):=by
 have:=w3 (A:=A) (ρ:=ρ) (ob:=ob) (p:=some (b,1)) (List.getElem?_eq_some_iff.1 G).1 (fun _ h=>by cases h)
 rw [F] at this
 have D:=RC.locV (S:=S) (V:=dc w' (A.set n (.live ob)) (fJ ρ n (some (b,1)))) (B:=B) n 1 0 0 b 1 ob.s this (by omega)
 simpa using D
theorem zc {w':World} {n b cap:Nat} {ob:Ob} (F:A[n]? = some .pend):RV S B w' (A.set n (.live ob)) (fJ ρ n (some (b,cap))) (.lsl n ob.es.length 0 ob.es.length) (.slice (some ⟨b,0,none⟩) ob.es.length cap):=by
 have:=w3 (A:=A) (ρ:=ρ) (ob:=ob) (p:=some (b,cap)) (List.getElem?_eq_some_iff.1 F).1 (fun _ h=>by cases h)
 have D:=RC.lslV (S:=S) (V:=dc w' (A.set n (.live ob)) (fJ ρ n (some (b,cap)))) (B:=B) n ob.es.length 0 ob.es.length b cap ob.s this (by omega)
 simpa using D
theorem Ke {w':World} {n:Nat} {ob:Ob} (G:A[n]? = some .pend) (F:ob.kn = .grow) (D:ob.es=[]):RV S B w' (A.set n (.live ob)) (fJ ρ n none) (.lsl n ob.es.length 0 ob.es.length) (.slice none 0 0):=by
 have:=w3 (A:=A) (ρ:=ρ) (ob:=ob) (p:=none) (List.getElem?_eq_some_iff.1 G).1 (fun h=>by rw [F] at h; cases h)
 rw [D] at this ⊢
 exact RC.lslN n ob.s this
def nv (A:bs):Nat->List Ob->bs
 | _,[]=>A
 | n,o::r=>nv (A.set n (.live o)) (n + 1) r
def qq (A:bs) (n:Nat):Eff->bs
 | .keep=>A
 | .push l=>nv A n l
 | .put M=>M
theorem J8 (aa:fN M A) (hA:MR P.cellsOf B w A ρ) {n:Nat} (N:A[n]? = some .pend) {t:TypeId} {x y:AV} {v:Value} {F:Eff} (h:s3 n t (P.cellsOf t) x M=some (y,F)) (ac:RV P.cellsOf B w A ρ x v) :
  we P.cellsOf B w A ρ ((Instr.box t v).run P w) (qq A n F) y:=by
 unfold s3 at h
 split at h
 ·rename_i Y
  obtain ⟨G,I,X⟩:=Y
  injection h with h
  injection h with e1 e2
  subst e1; subst e2
  obtain ⟨O,af,U⟩:=zR aa I ac
  obtain ⟨ad,ae⟩:=ry hA N .box t [fV x] v.cells _ (m6 w (.cells v.cells t)) w.heap.size 1 (Nat.le_refl _) (heap_alloc_new w _) X (by rw [O,G,Nat.one_mul]) (by simp) vh (fun _=>⟨rfl,rfl⟩) (by simp [G])
   (by simp only [List.mem_singleton,forall_eq]; intro a D; exact mq (List.all_eq_true.1 I a D))
   (fun i j e a u J D ab=>by
    cases i with
    | zero=>
     have Z:fV x=e:=by simpa using J
     subst Z
     exact U j a u D (by simpa using ab)
    | succ i=>simp at J)
  exact ⟨.pointer (some ⟨w.heap.size,0,none⟩),_,_,by simp [Instr.box,newVar,newRow,Sem.run_bind],ad,ae,Fb N rfl⟩
 ·cases h
theorem xv {V:Nat->Option Obj} {R:gC} {t:TypeId} {i:TypeInfo} {z:Value} (G:P.info? t=some i) (I:i.zero=some z) :
  b5 P t=z.cells.toList.map Dq/\∀ (j:Nat) a b,(b5 P t)[j]? = some a->z.cells[j]? = some b->RC S V B R a b:=by
 have e:b5 P t=z.cells.toList.map Dq:=by simp [b5,G,I]
 refine ⟨e,fun j a b D F=>?_⟩
 rw [e,List.getElem?_map] at D
 have:z.cells.toList[j]? = some b:=by simpa using F
 rw [this] at D
 obtain rfl:Dq b=a:=by simpa using D
 exact Em b
theorem IW (hA:MR P.cellsOf B w A ρ) {n:Nat} (J:A[n]? = some .pend) {t:TypeId} (aa:qo P t=true) (N:((P.info? t).bind (·.zero)).isSome=true) (G:(b5 P t).length=P.cellsOf t) (Y:(b5 P t).all gB=true) :
  we P.cellsOf B w A ρ ((Instr.alloc t true (.tuple #[])).run P w) (qq A n (.push [⟨.box,t,P.cellsOf t,[b5 P t]⟩])) (.loc n 1 0 0):=by
 obtain ⟨d,i,ai,F,aj,ah⟩:=ee aa
 rw [F] at N
 obtain ⟨z,ad⟩:=Option.isSome_iff_exists.1 N
 have O:i.zero=some z:=by simpa using ad
 obtain ⟨U,X⟩:=xv (S:=P.cellsOf) (B:=B) (V:=dc w A ρ) (R:=jK A ρ) F O
 have ab:z.cells.size=P.cellsOf t:=by rw [<- G,U]; simp
 obtain ⟨ae,af⟩:=ry hA J .box t [b5 P t] z.cells _ (m6 w (.cells z.cells t)) w.heap.size 1 (Nat.le_refl _) (heap_alloc_new w _) (by omega) (by rw [ab,Nat.one_mul]) (by simp) vh (fun _=>⟨rfl,rfl⟩) (by simp [G])
  (by simp only [List.mem_singleton,forall_eq]; intro a D; exact List.all_eq_true.1 Y a D)
  (fun i j e a u I D ac=>by
   cases i with
   | zero=>
    have Z:b5 P t=e:=by simpa using I
    subst Z
    exact X j a u D (by simpa using ac)
   | succ i=>simp at I)
 exact ⟨.pointer (some ⟨w.heap.size,0,none⟩),_,_,by simp [Instr.alloc,zeroValue,typeInfo,F,O,newVar,newRow,Sem.run_bind],ae,af,Fb J rfl⟩
theorem C1:∀ (vs:List Value) (off k:Nat) (cs:Array Value),off + k + vs.length<=cs.size ->
  ((vs.zipIdx k).foldl (fun cs p=>cs.setIfInBounds (off + p.2) p.1) cs).toList=cs.toList.take (off + k)++vs++cs.toList.drop (off + k + vs.length)
 | [],off,k,cs,_=>by simp
 | v::vs,off,k,cs,h=>by
  simp only [List.zipIdx_cons,List.foldl_cons]
  have G:off + (k + 1) + vs.length<=(cs.setIfInBounds (off + k) v).size:=by simp only [List.length_cons] at h; simp; omega
  rw [C1 vs off (k + 1) _ G]
  have I:off + k < cs.toList.length:=by simp only [List.length_cons] at h; simp; omega
  rw [Array.toList_setIfInBounds,List.length_cons,show off + (k + 1) + vs.length=off + k + (vs.length + 1) by omega]
  have D:(cs.toList.set (off + k) v).take (off + (k + 1))=cs.toList.take (off + k)++[v]:=by
   rw [show off + (k + 1)=(off + k) + 1 by omega,List.take_set,List.take_succ_eq_append_getElem I,List.set_append_right _ _ (by simp; omega)]
   have J:(cs.toList.take (off + k)).length=off + k:=List.length_take_of_le (by simp only [List.length_cons] at h; simp; omega)
   simp [J]
  have F:(cs.toList.set (off + k) v).drop (off + k + (vs.length + 1))=cs.toList.drop (off + k + (vs.length + 1)):=by
   rw [List.drop_set_of_lt (by omega)]
  rw [D,F]
  simp [List.append_assoc]
theorem AH (D:Nat->Option (Nat×Nat)) (cells:Array Value) (i off size:Nat) (v:Value) (G:List (Nat×Value)) (J:D i=some (off,size)) (F:v.cells.size=size) (N:off + size<=cells.size) :
  Instr.fill D cells ((i,v)::G)=Instr.fill D (cells.toList.take off++v.cells.toList++cells.toList.drop (off + size)).toArray G:=by
 rw [Instr.fill,J]
 simp only
 have I:¬ (v.cells.size≠size || off + v.cells.size > cells.size)=true:=by simp [F]; omega
 rw [if_neg (by simpa using I)]
 congr 1
 apply Array.ext'
 have:=C1 v.cells.toList off 0 cells (by simp; omega)
 simp only [Nat.add_zero,Array.length_toList,F] at this
 rw [<- this,<- Array.foldl_toList]
 simp [Array.toList_zipIdx]
theorem Cq (aa:fN M A) (I:Nat->Option (Nat×Nat)):∀ (J:List (Nat×AV)) (N:List (Nat×Value)) (cs G:List AV) (cells:Array Value),
  J.length=N.length->(∀ (k:Nat) p q,J[k]? = some p->N[k]? = some q->p.1=q.1/\RV S B w A ρ p.2 q.2) ->
  (∀ p ∈ J,(I p.1).isSome=true)->u7 M cs (J.map fun p=>(((I p.1).getD (0,0)).1,((I p.1).getD (0,0)).2,p.2))=some G ->
  cells.size=cs.length->(∀ (j:Nat) a b,cs[j]? = some a->cells[j]? = some b->RV S B w A ρ a b) ->
  ∃ X,Instr.fill I cells N=some X/\X.size=G.length/\∀ (j:Nat) a b,G[j]? = some a->X[j]? = some b->RV S B w A ρ a b
 | [],[],cs,G,cells,_,_,_,h,hz,hc=>by
  simp only [List.map_nil,u7,Option.some.injEq] at h
  subst h
  exact ⟨cells,rfl,hz,hc⟩
 | [],_::_,_,_,_,hl,_,_,_,_,_=>by simp at hl
 | _::_,[],_,_,_,hl,_,_,_,_,_=>by simp at hl
 | (i,x)::J,(i',v)::N,cs,G,cells,hl,hr,hp,h,hz,hc=>by
  obtain ⟨Y,Z⟩:=hr 0 (i,x) (i',v) rfl rfl
  simp only at Y Z
  subst Y
  obtain ⟨⟨off,size⟩,hpl⟩:=Option.isSome_iff_exists.1 (hp (i,x) (by simp))
  simp only at hpl
  simp only [List.map_cons,hpl,Option.getD_some,u7] at h
  split at h
  ·rename_i ac
   obtain ⟨ai,aj,ae⟩:=ac
   obtain ⟨af,ah,ab⟩:=xj aa ae Z
   rw [AH I cells i off size v N hpl (by omega) (by omega)]
   refine Cq aa I J N _ G _ (by simpa using hl) (fun k p q a b=>hr (k + 1) p q a b) (fun p ad=>hp p (by simp [ad])) h (by simp; omega) (fun j a b F D=>?_)
   simp only [List.getElem?_toArray] at D
   by_cases hj1:j < off
   ·rw [List.getElem?_append_left (by simp; omega),List.getElem?_append_left (by simp; omega),List.getElem?_take_of_lt hj1] at F
    rw [List.getElem?_append_left (by simp; omega),List.getElem?_append_left (by simp; omega),List.getElem?_take_of_lt hj1] at D
    exact hc j a b F (by simpa using D)
   ·by_cases hj2:j < off + size
    ·rw [List.getElem?_append_left (by simp; omega),List.getElem?_append_right (by simp; omega)] at F D
     have O:(cs.take off).length=off:=by simp; omega
     have U:(cells.toList.take off).length=off:=by simp; omega
     rw [O] at F
     rw [U] at D
     exact ab (j - off) a b F (by simpa using D)
    ·rw [List.getElem?_append_right (by simp; omega),List.getElem?_drop] at F D
     have O:(cs.take off++im x).length=off + size:=by simp; omega
     have U:(cells.toList.take off++v.cells.toList).length=off + size:=by simp; omega
     rw [O] at F
     rw [U] at D
     exact hc _ a b F (by simpa using D)
  ·cases h
theorem u6 {α β:Type} {f:α->Option β}:∀ {l:List α} {r:List β},l.mapM f=some r->(∀ a ∈ l,(f a).isSome=true)/\∀ d,r=l.map fun a=>(f a).getD d
 | [],r,h=>by simp at h; subst h; simp
 | a::l,r,h=>by
  rw [List.mapM_cons] at h
  simp only [bind,Option.bind_eq_some_iff,pure,Option.some.injEq] at h
  obtain ⟨b,F,s,J,rfl⟩:=h
  obtain ⟨G,I⟩:=u6 J
  refine ⟨fun c D=>?_,fun d=>?_⟩
  ·rcases List.mem_cons.1 D with rfl | D
   ·simp [F]
   ·exact G c D
  ·simp [F,<- I d]
theorem HO (av:fN M A) (hA:MR S B w A ρ) {t:TypeId} (ar:qo P t=true) (ah:((P.info? t).bind (·.zero)).isSome=true) {I:List (Nat×AV)} {F:Array (Nat×Value)} {y:AV}
  (h:((zq P t I).bind fun q=>db (b5 P t) q M)=some y) (U:I.length=F.size) (ay:∀ (k:Nat) p q,I[k]? = some p->F[k]? = some q->p.1=q.1/\RV S B w A ρ p.2 q.2) :
  ∃ u,(Instr.build t F).run P w = .ok u w/\RV S B w A ρ y u:=by
 obtain ⟨d,i,X,O,aF,aE⟩:=ee ar
 rw [O] at ah
 obtain ⟨z,az⟩:=Option.isSome_iff_exists.1 ah
 have ab:i.zero=some z:=by simpa using az
 obtain ⟨ak,am⟩:=xv (S:=S) (B:=B) (V:=dc w A ρ) (R:=jK A ρ) O ab
 obtain ⟨q,D,h⟩:=Option.bind_eq_some_iff.1 h
 unfold db at h
 obtain ⟨ac,af,rfl⟩:=Option.map_eq_some_iff.1 h
 unfold zq at D
 rw [X] at D
 have ad:∀ G:Nat->Option (Nat×Nat),P.built t F.toList=Instr.fill G z.cells F.toList->(∀ p ∈ I,(G p.1).isSome=true)->q=I.map (fun p=>(((G p.1).getD (0,0)).1,((G p.1).getD (0,0)).2,p.2)) ->
   ∃ u,(Instr.build t F).run P w = .ok u w/\RV S B w A ρ (.agg ac) u:=by
  intro G ap J ax
  rw [ax] at af
  obtain ⟨ai,aC,o2,aD⟩:=Cq av G I F.toList (b5 P t) ac z.cells (by simpa using U) (fun k p q a b=>ay k p q a (by simpa using b)) J af (by rw [ak]; simp) am
  exact ⟨.agg ai,run_build w t F ai (by rw [ap,aC]),.agg _ _ o2.symm (fun j a b=>aD j a b)⟩
 cases d with
 | struct N=>
  simp only at D
  split at D
  ·rename_i ao
   obtain ⟨ae,an⟩:=u6 D
   have aw:N.toList.mapM (fun f=>(P.info? f.type).map fun i=>(f.offset,i.size))=some (N.toList.map fun f=>(f.offset,P.cellsOf f.type)):=by
    have:∀ l:List Field,(∀ f ∈ l,qo P f.type=true)->l.mapM (fun f=>(P.info? f.type).map fun i=>(f.offset,i.size))=some (l.map fun f=>(f.offset,P.cellsOf f.type)):=by
     intro l U
     induction l with
     | nil=>rfl
     | cons f r aB=>
      obtain ⟨aj,aA,_,Z,aa,_⟩:=ee (U f (by simp))
      rw [List.mapM_cons,Z,aB (fun g aq=>U g (by simp [aq]))]
      simp [aa]
    exact this _ (fun f Y=>by simpa using List.all_eq_true.1 ao f Y)
   refine ad (fun k=>(N[k]?).map fun f=>(f.offset,P.cellsOf f.type)) ?_ (fun p J=>?_) ?_
   ·simp only [Program.built,O,X,ab,aw]
    congr 1
    funext k
    simp
   ·have:=ae p J
    simpa using this
   ·rw [an (0,0,p0)]
    refine List.map_congr_left (fun p J=>?_)
    have:=ae p J
    cases Y:N[p.1]? with
    | none=>simp [Y] at this
    | some f=>simp
  ·cases D
 | array n e=>
  simp only at D
  split at D
  ·rename_i au
   obtain ⟨aj,aA,_,Z,aa,_⟩:=ee au
   obtain rfl:=Option.some.inj D
   refine ad (fun k=>some (k * P.cellsOf e,P.cellsOf e)) ?_ (fun _ _=>rfl) rfl
   simp [Program.built,O,X,ab,Z,aa]
  ·cases D
 | _=>simp at D
where p0:AV:=.undef
theorem t0 {kp:Bool}:∀ {vs:List AV} {es:List (List AV)} {sz:Nat},ui kp M sz vs=some es->es=vs.map (ec kp)/\(∀ v ∈ vs,(ec kp v).length=sz/\(ec kp v).all (okC M)=true)
 | [],es,sz,h=>by simp [ui] at h; subst h; simp
 | v::vs,es,sz,h=>by
  simp only [ui] at h
  split at h
  ·rename_i F
   obtain ⟨q,G,rfl⟩:=Option.map_eq_some_iff.1 h
   obtain ⟨rfl,g⟩:=t0 G
   refine ⟨rfl,fun x D=>?_⟩
   rcases List.mem_cons.1 D with rfl | D
   ·exact F
   ·exact g x D
  ·cases h
theorem wa:∀ {D:List (Nat×AV)} {vs:List AV} {n:Nat},wP n D=some vs->vs=D.map (·.2)/\∀ (k:Nat) p,D[k]? = some p->p.1=n + k
 | [],vs,n,h=>by simp [wP] at h; subst h; simp
 | (i,v)::D,vs,n,h=>by
  simp only [wP] at h
  split at h
  ·rename_i G
   obtain ⟨q,I,rfl⟩:=Option.map_eq_some_iff.1 h
   obtain ⟨rfl,g⟩:=wa I
   refine ⟨rfl,fun k p F=>?_⟩
   cases k with
   | zero=>simp at F; subst F; simpa using G
   | succ k=>have:=g k p (by simpa using F); omega
  ·cases h
theorem Ca (size:Nat):∀ (D:List (Nat×Value)) (n:Nat) (cells:Array Value),(∀ (k:Nat) p,D[k]? = some p->p.1=n + k/\p.2.cells.size=size)->cells.size=(n + D.length) * size ->
  Instr.fill (fun i=>some (i * size,size)) cells D=some (cells.toList.take (n * size)++(D.map fun p=>p.2.cells.toList).flatten).toArray
 | [],n,cells,_,hz=>by
  have:cells.toList.take (n * size)=cells.toList:=List.take_of_length_le (by simp at hz ⊢; omega)
  simp [Instr.fill,this]
 | (i,v)::D,n,cells,h,hz=>by
  obtain ⟨F,G⟩:=h 0 (i,v) rfl
  simp only [Nat.add_zero] at F G
  subst F
  have J:(i + (D.length + 1)) * size=i * size + (size + D.length * size):=by rw [Nat.add_mul,Nat.succ_mul]; omega
  have O:cells.size=i * size + (size + D.length * size):=by rw [<- J]; exact hz
  have N:(i + 1) * size=i * size + size:=Nat.succ_mul i size
  rw [AH _ cells i (i * size) size v D rfl G (by omega)]
  rw [Ca size D (i + 1) _ (fun k p I=>by have:=h (k + 1) p (by simpa using I); exact ⟨by omega,this.2⟩) (by
   have:(i + 1 + D.length) * size=i * size + (size + D.length * size):=by rw [Nat.add_mul,Nat.succ_mul]; omega
   rw [this]; simp; omega)]
  congr 1
  have:(cells.toList.take (i * size)++v.cells.toList++cells.toList.drop (i * size + size)).take ((i + 1) * size)=cells.toList.take (i * size)++v.cells.toList:=by
   rw [List.take_append_of_le_length (by simp; omega)]
   exact List.take_of_length_le (by simp; omega)
  show (((cells.toList.take (i * size)++v.cells.toList++cells.toList.drop (i * size + size)).take ((i + 1) * size))++(D.map fun p=>p.2.cells.toList).flatten).toArray=_
  rw [this]
  simp only [List.map_cons,List.flatten_cons,List.append_assoc]
end
end Go.Ab
