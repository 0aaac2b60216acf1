/- A call, as the caller tells it. -/
import Derived.Test.YtjlalepbhcekoaaAbCall2
set_option linter.unusedVariables false
set_option linter.unusedSimpArgs false
namespace Go.Ab
open Go Go.RowKit
def CallOk (P:Program) (call:CallF):Prop:=
 ∀ f args M out M',call f args M=some (out,M')→∀ (B:Nat) (w:World) (ρ:Pm) (vals:Array Value),MR P.cellsOf B w M ρ→args.length=vals.size →
  (∀ (i:Nat) x v,args[i]? = some x→vals[i]? = some v→RV P.cellsOf B w M ρ x v) →
  ∀ (o:Oper) (a:Act) (K:Act→World→Prop) (Q:Exit→Act→World→Prop),
   (∀ v w' ρ',Step w M ρ w' M' ρ'→MR P.cellsOf B w' M' ρ'→RV P.cellsOf B w' M' ρ' out v→K (a.put o.dst v) w')→o.upon P a K Q ((callFunc f vals).run P w)
section
variable {P:Program} {S:TypeId→Nat} {B B':Nat} {w w':World} {M A A':Mem} {ρ ρ':Pm} {V:Nat→Option Obj} {R':RefF}
theorem fillP_get:∀ (l:List Ob) (A:Mem) (n i:Nat),n + l.length≤A.length→(fillP A n l)[i]? = if n≤i∧i < n + l.length then (l[i - n]?).map Ent.live else A[i]?
 | [],A,n,i,_=>by
  rw [if_neg (by simp)]
  rfl
 | o::l,A,n,i,h=>by
  simp only [List.length_cons] at h
  simp only [fillP]
  rw [fillP_get l (A.set n (.live o)) (n + 1) i (by simp; omega)]
  by_cases h1:i=n
  ·subst h1
   rw [if_neg (by omega),if_pos (by simp only [List.length_cons]; omega),List.getElem?_set_self (by omega)]
   simp
  ·by_cases h2:n + 1≤i∧i < n + 1 + l.length
   ·rw [if_pos h2,if_pos (by simp only [List.length_cons]; omega),show i - n=(i - (n + 1)) + 1 by omega,List.getElem?_cons_succ]
   ·rw [if_neg h2,if_neg (by simp only [List.length_cons]; omega),List.getElem?_set_ne (Ne.symm h1)]
def rputs (ρ:Pm) (n:Nat) (pls:List Pl):Pm:=⟨fun i=>if n≤i∧i < n + pls.length then pls.getD (i - n) none else ρ i,ρ.hid⟩
theorem apartT_spec:∀ {l:List Ob} {i j:Nat} {a b:Ob},apartT l=true→l[i]? = some a→l[j]? = some b→a.t=b.t→i=j
 | [],i,j,a,b,_,h,_,_=>by simp at h
 | o::l,i,j,a,b,h,hi,hj,ht=>by
  simp only [apartT,Bool.and_eq_true,List.all_eq_true] at h
  cases i with
  | zero=>
   simp at hi
   subst hi
   cases j with
   | zero=>rfl
   | succ j=>
    have:=h.1 b (List.mem_of_getElem? (by simpa using hj))
    rw [ht] at this
    simp at this
  | succ i=>
   cases j with
   | zero=>
    simp at hj
    subst hj
    have:=h.1 a (List.mem_of_getElem? (by simpa using hi))
    rw [ht] at this
    simp at this
   | succ j=>exact congrArg (· + 1) (apartT_spec h.2 (by simpa using hi) (by simpa using hj) ht)
theorem thaw_step (hA:MR S B w A ρ) (hk:Below w.heap.size w w') {n:Nat} {x:AV×List Ob} {u:Value} (hp:∀ k,k < x.2.length→A[n + k]? = some .pend) (ht:ThawOk S w.heap.size w' V B n x u) (hap:apartT x.2=true) (hs0:(x.2.all fun o=>decide (0 < o.s))=true) :
  ∃ ρ',Step w A ρ w' (fillP A n x.2) ρ'∧MR S B w' (fillP A n x.2) ρ'∧RV S B w' (fillP A n x.2) ρ' x.1 u:=by
 obtain ⟨pls,h1,h2,h3⟩:=ht
 have hlen:n + x.2.length≤A.length∨x.2.length=0:=by
  by_cases h0:x.2.length=0
  ·exact .inr h0
  ·have:=(List.getElem?_eq_some_iff.1 (hp (x.2.length - 1) (by omega))).1
   exact .inl (by omega)
 have hget:∀ i,(fillP A n x.2)[i]? = if n≤i∧i < n + x.2.length then (x.2[i - n]?).map Ent.live else A[i]? := by
  intro i
  rcases hlen with hl | h0
  ·exact fillP_get x.2 A n i hl
  ·have:x.2=[]:=List.length_eq_zero_iff.1 h0
   rw [this,if_neg (by simp)]
   rfl
 have hplk:∀ k ob,x.2[k]? = some ob→∃ p,pls[k]? = some p∧(rputs ρ n pls) (n + k)=p∧OwnAt S w.heap.size w' ob p:=by
  intro k ob hk'
  have hlt:=(List.getElem?_eq_some_iff.1 hk').1
  have hlt':k < pls.length:=by omega
  refine ⟨pls[k],List.getElem?_eq_getElem hlt',?_,h2 k ob _ hk' (List.getElem?_eq_getElem hlt')⟩
  simp [rputs,hlt']
 have hid:∀ id,((fillP A n x.2)[id]? = A[id]?∧rputs ρ n pls id=ρ id)∨(A[id]? = some .pend∧∃ ob,(fillP A n x.2)[id]? = some (.live ob)∧∀ b cap,rputs ρ n pls id=some (b,cap)→w.heap.size≤b):=by
  intro id
  by_cases hin:n≤id∧id < n + x.2.length
  ·obtain ⟨k,rfl⟩:∃ k,id=n + k:=⟨id - n,by omega⟩
   have hk':k < x.2.length:=by omega
   obtain ⟨p,g1,g2,g3⟩:=hplk k x.2[k] (List.getElem?_eq_getElem hk')
   refine .inr ⟨hp k hk',x.2[k],?_,fun b cap hb=>?_⟩
   ·rw [hget,if_pos hin]; simp [hk']
   ·rw [g2] at hb
    subst hb
    exact g3.2.2.1
  ·refine .inl ⟨by rw [hget,if_neg hin],?_⟩
   simp only [rputs]
   rw [if_neg (by omega)]
 have hnew:∀ id ob,A[id]? = some .pend→(fillP A n x.2)[id]? = some (.live ob)→∃ k p,id=n + k∧x.2[k]? = some ob∧pls[k]? = some p∧(rputs ρ n pls) id=p∧OwnAt S w.heap.size w' ob p:=by
  intro id ob g1 g2
  rw [hget] at g2
  by_cases hin:n≤id∧id < n + x.2.length
  ·rw [if_pos hin] at g2
   obtain ⟨o,g3,g4⟩:=Option.map_eq_some_iff.1 g2
   injection g4 with g4
   subst g4
   obtain ⟨p,k1,k2,k3⟩:=hplk (id - n) o g3
   exact ⟨id - n,p,by omega,g3,k1,by rw [show n + (id - n)=id by omega] at k2; exact k2,k3⟩
  ·rw [if_neg hin,g1] at g2
   cases g2
 refine ⟨rputs ρ n pls,grow_step hA hk rfl hid,grow_mr hA hk rfl hid (fun id ob g1 g2=>?_) (fun id id' b c c' g1 g2 g3 g4 g5 g6=>?_),h3 _ _ (fun k ob p g1 g2=>?_)⟩
 ·obtain ⟨k,p,rfl,k2,k3,k4,k5⟩:=hnew id ob g1 g2
  rw [k4]
  have h0:0 < ob.s:=by simpa using List.all_eq_true.1 hs0 ob (List.mem_of_getElem? k2)
  obtain ⟨q1,q2,q3⟩:=k5
  cases p with
  | none=>
   simp only at q3
   exact ⟨q1,h0,by rw [q3.2]; simp,by rw [q3.2]; simp,fun _=>q3.2⟩
  | some bc=>
   obtain ⟨b,cap⟩:=bc
   obtain ⟨q4,cs,q5,q6,q7,q8,q9,q10⟩:=q3
   exact obr_of_row q1 h0 (fun e he y hy=>treeOk_cellOk (flat_tree (q2 e he y hy))) q5 q6 q7 q8 q9 (q10 _ _ _)
 ·obtain ⟨ob,g5⟩:=g5
  obtain ⟨ob',g6⟩:=g6
  obtain ⟨k,p,rfl,k2,k3,k4,k5⟩:=hnew id ob g1 g5
  obtain ⟨k',p',rfl,k2',k3',k4',k5'⟩:=hnew id' ob' g2 g6
  rw [k4] at g3
  rw [k4'] at g4
  subst g3
  subst g4
  obtain ⟨_,_,_,cs,q5,_⟩:=k5
  obtain ⟨_,_,_,cs',q5',_⟩:=k5'
  rw [q5] at q5'
  injection q5' with q5'
  injection q5' with e1 e2
  rw [apartT_spec hap k2 k2' e2]
 ·have hk':=(List.getElem?_eq_some_iff.1 g1).1
  obtain ⟨p',k1,k2,k3⟩:=hplk k ob g1
  rw [g2] at k1
  obtain rfl:=Option.some.inj k1
  have:(fillP A n x.2)[n + k]? = some (.live ob):=by rw [hget,if_pos (by omega),Nat.add_sub_cancel_left,g1]; rfl
  simp only [Ref,this,if_true]
  rw [k2,if_neg]
  rintro ⟨e1,e2⟩
  subst e2
  have:=k3.2.2.1
  rw [e1] at this
  cases this
def Rdy (M A:Mem) (n:Nat):Eff→Prop
 | .keep=>True
 | .push l=>∀ k,k < l.length→A[n + k]? = some .pend
 | .put _=>A=M
def FrzOk (S:TypeId→Nat) (B:Nat) (w:World) (M:Mem) (ρ:Pm) (x:AV×Mem) (v:Value):Prop:=
 Step w M ρ w x.2 ρ∧MR S B w x.2 ρ∧RV S B w x.2 ρ x.1 v
theorem frz1_step (hA:MR S B w M ρ) (x:AV):Step w M ρ w (frz1 x M).2 ρ∧MR S B w (frz1 x M).2 ρ:=by
 have stay:Step w M ρ w M ρ∧MR S B w M ρ:=⟨Step.refl w M ρ,hA⟩
 unfold frz1
 split
 ·rename_i id L off n
  split
  ·rename_i o ho
   split
   ·obtain ⟨g1,g2⟩:=getOb_some ho
    have hg:w.grownBy w (Pl.block (ρ id)):=⟨rfl,rfl,rfl,Nat.le_refl _,fun _ _ _=>rfl⟩
    have s1:=row_step hA g1 hg (.inl rfl) (p:=ρ id) (fun b' c' e=>.inl (by rw [e]; rfl))
    have s2:=row_mr hA g1 hg (.inl rfl) (p:=ρ id) (fun b' c' e=>.inl (by rw [e]; rfl)) (fun _ ob e=>by cases e)
    rw [rput_self] at s1 s2
    exact ⟨s1,s2⟩
   ·exact stay
  ·exact stay
 ·exact stay
theorem frzL_step:∀ (cs:List AV) (M:Mem),MR S B w M ρ→Step w M ρ w (frzL frz1 cs M).2 ρ∧MR S B w (frzL frz1 cs M).2 ρ
 | [],M,hA=>⟨Step.refl w M ρ,hA⟩
 | c::cs,M,hA=>by
  obtain ⟨h1,h2⟩:=frz1_step hA c
  obtain ⟨h3,h4⟩:=frzL_step cs _ h2
  exact ⟨h1.trans h3,h4⟩
theorem frz1_ok (hA:MR S B w M ρ) {x:AV} {v:Value} (hx:RV S B w M ρ x v):FrzOk S B w M ρ (frz1 x M) v:=by
 obtain ⟨t1,t2⟩:=frz1_step hA x
 refine ⟨t1,t2,?_⟩
 cases x with
 | lsl id L off n=>
  revert t1 t2
  simp only [frz1]
  split
  ·rename_i o ho
   split
   ·rename_i hc
    intro s1 s2
    obtain ⟨c1,c2,c3,c4⟩:=hc
    subst c2 c3
    obtain ⟨g1,g2⟩:=getOb_some ho
    obtain ⟨a1,a2,a3,a4,a5⟩:=hA.obj id o g1
    rcases lsl_inv (MExt.refl M) hx ho with ⟨b,cap,hp,_,rfl⟩ | ⟨hp,h0,_,_,rfl⟩
    ·obtain ⟨cells,k1,k2,k3,k4,k5,k6,k7⟩:=obj_row hA g1 hp
     subst g2
     rw [Nat.zero_mul,Nat.sub_zero]
     rw [a1] at k2 k5 k7
     have hnh:=dead_not_held hA g1 (b:=b) (fun b' c' e=>by rw [hp] at e; injection e with e; injection e with e1 e2; exact .inl e1) (fun e=>by rw [hp] at e; cases e) (p:=ρ id)
     rw [rput_self] at hnh
     refine slO_of_row (S:=S) ?_ k6 k2 k5 k3 k4 (k7.mono s1.view s1.ref) (allTree_spec c4)
     rw [View.of_not hnh (fun hh=>by have:=hA.hid _ hh; omega)]
     exact k1
    ·have he:o.es=[]:=List.length_eq_zero_iff.1 (by omega)
     rw [he]
     exact .slON _
   ·exact fun _ _=>hx
  ·exact fun _ _=>hx
 | _=>exact hx
theorem frzL_ok (f:AV→Mem→AV×Mem) (hf:∀ (M:Mem) x v,MR S B w M ρ→RV S B w M ρ x v→FrzOk S B w M ρ (f x M) v) :
  ∀ (cs:List AV) (vs:List Value) (M:Mem),MR S B w M ρ→cs.length=vs.length→(∀ (i:Nat) x v,cs[i]? = some x→vs[i]? = some v→RV S B w M ρ x v) →
   Step w M ρ w (frzL f cs M).2 ρ∧MR S B w (frzL f cs M).2 ρ∧(frzL f cs M).1.length=vs.length∧∀ (i:Nat) x v,(frzL f cs M).1[i]? = some x→vs[i]? = some v→RV S B w (frzL f cs M).2 ρ x v
 | [],vs,M,hA,hl,h=>⟨Step.refl w M ρ,hA,hl,h⟩
 | c::cs,[],M,_,hl,_=>by simp at hl
 | c::cs,u::vs,M,hA,hl,h=>by
  obtain ⟨t1,t2,t3⟩:=hf M c u hA (h 0 c u rfl rfl)
  obtain ⟨u1,u2,u3,u4⟩:=frzL_ok f hf cs vs (f c M).2 t2 (by simpa using hl) (fun i x v h1 h2=>t1.rv (h (i + 1) x v (by simpa using h1) (by simpa using h2)))
  refine ⟨t1.trans u1,u2,by simp [frzL,u3],fun i x v h1 h2=>?_⟩
  cases i with
  | zero=>
   simp [frzL] at h1 h2
   subst h1 h2
   exact u1.rv t3
  | succ i=>exact u4 i x v (by simpa [frzL] using h1) (by simpa using h2)
theorem frz2_ok (hA:MR S B w M ρ) {x:AV} {v:Value} (hx:RV S B w M ρ x v):FrzOk S B w M ρ (frz2 x M) v:=by
 by_cases hag:∃ cs,x = .agg cs
 ·obtain ⟨cs,rfl⟩:=hag
  cases hx with
  | agg _ vs hl h=>
   obtain ⟨h1,h2,h3,h4⟩:=frzL_ok (S:=S) (B:=B) (w:=w) (ρ:=ρ) frz1 (fun M x v hA hx=>frz1_ok hA hx) cs vs.toList M hA (by simpa using hl) (fun i x v g1 g2=>h i x v g1 (by simpa using g2))
   exact ⟨h1,h2,.agg _ vs (by simpa using h3) (fun i x v g1 g2=>h4 i x v g1 (by simpa using g2))⟩
 ·have e:frz2 x M=frz1 x M:=by
   unfold frz2
   split
   ·rename_i cs; exact absurd ⟨cs,rfl⟩ hag
   ·rfl
  rw [e]
  exact frz1_ok hA hx
theorem frz_ok (hA:MR S B w M ρ) {x:AV} {v:Value} (hx:RV S B w M ρ x v):FrzOk S B w M ρ (frz x M) v:=by
 by_cases hag:∃ cs,x = .tup cs
 ·obtain ⟨cs,rfl⟩:=hag
  cases hx with
  | tup _ vs hl h=>
   obtain ⟨h1,h2,h3,h4⟩:=frzL_ok (S:=S) (B:=B) (w:=w) (ρ:=ρ) frz2 (fun M x v hA hx=>frz2_ok hA hx) cs vs.toList M hA (by simpa using hl) (fun i x v g1 g2=>h i x v g1 (by simpa using g2))
   exact ⟨h1,h2,.tup _ vs (by simpa using h3) (fun i x v g1 g2=>h4 i x v g1 (by simpa using g2))⟩
 ·have e:frz x M=frz2 x M:=by
   unfold frz
   split
   ·rename_i cs; exact absurd ⟨cs,rfl⟩ hag
   ·rfl
  rw [e]
  exact frz2_ok hA hx
theorem frz1_box {id:Nat} {o:Ob} {x:AV} (h:M[id]? = some (.live o)) (hk:o.kn = .box):(frz1 x M).2[id]? = some (.live o):=by
 unfold frz1
 split
 ·rename_i id' L off n
  split
  ·rename_i o' ho
   split
   ·rename_i hc
    obtain ⟨g1,_⟩:=getOb_some ho
    have hne:id'≠id:=by
     intro e
     subst e
     rw [h] at g1
     cases g1
     rw [hk] at hc
     cases hc.1
    show (M.set id' .dead)[id]? = _
    rw [List.getElem?_set_ne hne]
    exact h
   ·exact h
  ·exact h
 ·exact h
theorem frzL_box {id:Nat} {o:Ob} (hk:o.kn = .box):∀ (cs:List AV) (M:Mem),M[id]? = some (.live o)→(frzL frz1 cs M).2[id]? = some (.live o)
 | [],_,h=>h
 | c::cs,M,h=>frzL_box hk cs _ (frz1_box h hk)
theorem frzL_len:∀ (cs:List AV) (M:Mem),(frzL frz1 cs M).1.length=cs.length
 | [],_=>rfl
 | c::cs,M=>by simp [frzL,frzL_len cs]
theorem frz1_cell {x:AV} (h:cellOk x=true):cellOk (frz1 x M).1=true:=by
 unfold frz1
 split
 ·split
  ·split
   ·rfl
   ·exact h
  ·exact h
 ·exact h
theorem frzL_cell:∀ (cs:List AV) (M:Mem),(∀ x ∈ cs,cellOk x=true)→∀ x ∈ (frzL frz1 cs M).1,cellOk x=true
 | [],_,_,x,hx=>by simp [frzL] at hx
 | c::cs,M,h,x,hx=>by
  simp only [frzL,List.mem_cons] at hx
  rcases hx with rfl | hx
  ·exact frz1_cell (h c (List.mem_cons_self ..))
  ·exact frzL_cell cs _ (fun y hy=>h y (List.mem_cons_of_mem _ hy)) x hx
theorem stripC_cell {x:AV} (h:cellOk x=true):cellOk (stripC x)=true:=by cases x <;> first | rfl | exact h
theorem frzBox_ok (hA:MR S B w M ρ) (x:AV):Step w M ρ w (frzBox x M) ρ∧MR S B w (frzBox x M) ρ:=by
 have stay:Step w M ρ w M ρ∧MR S B w M ρ:=⟨Step.refl _ _ _,hA⟩
 unfold frzBox
 split
 ·rename_i id
  split
  ·rename_i o ho
   split
   ·rename_i cs hkn hes
    obtain ⟨g1,_⟩:=getOb_some ho
    obtain ⟨a1,a2,a3,a4,a5⟩:=hA.obj id o g1
    obtain ⟨t1,t2⟩:=frzL_step cs M hA
    have g2:=frzL_box hkn cs M g1
    have hg:w.grownBy w (Pl.block (ρ id)):=⟨rfl,rfl,rfl,Nat.le_refl _,fun _ _ _=>rfl⟩
    have hcs:cs ∈ o.es:=by rw [hes]; simp
    have hen:(Ent.live { o with es:=[(frzL frz1 cs M).1.map stripC] }) = .dead∨∃ es',(Ent.live { o with es:=[(frzL frz1 cs M).1.map stripC] }) = .live { o with es:=es' }∧((o.kn = .grow∧o.es.length < es'.length)∨(es'.length=o.es.length∧ρ id=ρ id)):=.inr ⟨_,rfl,.inr ⟨by rw [hes]; rfl,rfl⟩⟩
    have hpp:∀ b c,ρ id=some (b,c)→Pl.block (ρ id)=some b∨w.heap.size≤b:=fun b c e=>.inl (by rw [e]; rfl)
    have s1:=row_step t2 g2 hg hen hpp
    have s2:=row_mr t2 g2 hg hen hpp (fun hst ob hob=>by
     injection hob with hob
     subst hob
     refine ⟨a1,a2,fun e he=>?_,fun e he y hy=>?_,?_⟩
     ·rw [List.mem_singleton.1 he,List.length_map,frzL_len]; exact a3 cs hcs
     ·rw [List.mem_singleton.1 he] at hy
      obtain ⟨z,hz,rfl⟩:=List.mem_map.1 hy
      exact stripC_cell (frzL_cell cs M (a4 cs hcs) z hz)
     ·cases hp:ρ id with
      | none=>exact fun hk=>by rw [show o.kn=Kn.grow from hk] at hkn; cases hkn
      | some p=>
       obtain ⟨b,cap⟩:=p
       rw [hp] at a5
       obtain ⟨cells,f,k1,k2,k3,k4,k5,k6,k7⟩:=a5
       have hl:cs.length=o.s:=a3 cs hcs
       obtain ⟨_,_,q3,q4⟩:=frzL_ok (S:=S) (B:=B) (w:=w) (ρ:=ρ) frz1 (fun M x v hA hx=>frz1_ok hA hx) cs ((List.range cs.length).map (f 0)) M hA (by simp) (fun i x v h1 h2=>by
        rw [List.getElem?_map] at h2
        obtain ⟨j,h3,rfl⟩:=Option.map_eq_some_iff.1 h2
        have hj:=(List.getElem?_eq_some_iff.1 h3)
        obtain ⟨hj1,hj2⟩:=hj
        rw [List.getElem_range] at hj2
        subst hj2
        exact k7 0 i cs x (by rw [hes]; rfl) h1)
       refine ⟨cells,f,k1,k2,by rw [hes] at k3; exact k3,k4,fun hb=>⟨rfl,(k5 hkn).2⟩,fun i j hi hj=>?_,fun i j e x he hx=>?_⟩
       ·have hi0:i=0:=by simpa using hi
        subst hi0
        exact k6 0 j (by rw [hes]; simp) hj
       ·cases i with
        | succ i=>simp at he
        | zero=>
         simp only [List.getElem?_cons_zero,Option.some.injEq] at he
         subst he
         rw [List.getElem?_map] at hx
         obtain ⟨z,hz,rfl⟩:=Option.map_eq_some_iff.1 hx
         have hjl:=(List.getElem?_eq_some_iff.1 hz).1
         rw [frzL_len] at hjl
         rw [hp] at hst
         exact hst.rv (strip_rc (q4 j z (f 0 j) hz (by simp [hjl]))))
    rw [rput_self] at s1 s2
    exact ⟨t1.trans s1,s2⟩
   ·exact stay
  ·exact stay
 ·exact stay
theorem frzAll_ok {e:Env}:∀ (l:List Nat) (M:Mem),MR S B w M ρ→Step w M ρ w (frzAll e l M) ρ∧MR S B w (frzAll e l M) ρ
 | [],M,hA=>⟨Step.refl w M ρ,hA⟩
 | t::l,M,hA=>by
  obtain ⟨h1,h2⟩:=frzBox_ok hA (eget e t)
  obtain ⟨h3,h4⟩:=frzAll_ok (e:=e) l _ h2
  exact ⟨h1.trans h3,h4⟩
theorem wk1_rc {x:AV} {v:Value} (h:RC S V B R' x v):RC S V B R' (wk1 x) v:=by
 cases x with
 | nils=>cases h; exact .slN none 0 (fun _=>rfl)
 | sl o es=>exact strip_rc h
 | lit t es=>exact strip_rc h
 | _=>exact h
theorem wk2_rc {x:AV} {v:Value} (h:RC S V B R' x v):RC S V B R' (wk2 x) v:=by
 by_cases hag:∃ cs,x = .agg cs
 ·obtain ⟨cs,rfl⟩:=hag
  cases h with
  | agg _ vs hl h=>
   refine .agg _ vs (by simpa using hl) (fun i x v h3 h4=>?_)
   rw [List.getElem?_map] at h3
   obtain ⟨x0,h5,rfl⟩:=Option.map_eq_some_iff.1 h3
   exact wk1_rc (h i x0 v h5 h4)
 ·have e:wk2 x=wk1 x:=by
   unfold wk2
   split
   ·rename_i cs; exact absurd ⟨cs,rfl⟩ hag
   ·rfl
  rw [e]
  exact wk1_rc h
theorem wkR_rc {x:AV} {v:Value} (h:RC S V B R' x v):RC S V B R' (wkR x) v:=by
 by_cases hag:∃ cs,x = .tup cs
 ·obtain ⟨cs,rfl⟩:=hag
  cases h with
  | tup _ vs hl h=>
   refine .tup _ vs (by simpa using hl) (fun i x v h3 h4=>?_)
   rw [List.getElem?_map] at h3
   obtain ⟨x0,h5,rfl⟩:=Option.map_eq_some_iff.1 h3
   exact wk2_rc (h i x0 v h5 h4)
 ·have e:wkR x=wk2 x:=by
   unfold wkR
   split
   ·rename_i cs; exact absurd ⟨cs,rfl⟩ hag
   ·rfl
  rw [e]
  exact wk2_rc h
theorem call_rc {call:CallF} (hcall:CallOk P call) (hm:MExt M A) (hA:MR P.cellsOf B w A ρ) {rw_ wk_:Nat→Bool} {th:Bool} {n f:Nat} {args:List AV} {y:AV} {eff:Eff} (h:aCall P.cellsOf rw_ wk_ call th n f args M=some (y,eff)) (hr:Rdy M A n eff)
  {vals:Array Value} (hl:args.length=vals.size) (hv:∀ (i:Nat) x v,args[i]? = some x→vals[i]? = some v→RV P.cellsOf B w A ρ x v)
  (o:Oper) (a:Act) (K:Act→World→Prop) (Q:Exit→Act→World→Prop)
  (hK:∀ v w' ρ',Step w A ρ w' (effP A n eff) ρ'→MR P.cellsOf B w' (effP A n eff) ρ'→RV P.cellsOf B w' (effP A n eff) ρ' y v→K (a.put o.dst v) w'):o.upon P a K Q ((callFunc f vals).run P w):=by
 unfold aCall at h
 split at h
 ·obtain ⟨p,hp,h⟩:=Option.map_eq_some_iff.1 h
  split at h
  ·injection h with e1 e2
   subst e1
   subst e2
   have hAM:A=M:=hr
   subst hAM
   exact hcall f args A p.1 p.2 hp B w ρ vals hA hl hv o a K Q (fun v w' ρ' s1 s2 s3=>by
    obtain ⟨t1,t2,t3⟩:=frz_ok s2 s3
    exact hK v w' ρ' (s1.trans t1) t2 t3)
  ·injection h with e1 e2
   subst e1
   subst e2
   have hAM:A=M:=hr
   subst hAM
   exact hcall f args A p.1 p.2 hp B w ρ vals hA hl hv o a K Q hK
 ·obtain ⟨p,hp,h⟩:=Option.bind_eq_some_iff.1 h
  split at h
  rotate_left
  ·cases h
  rename_i hown
  have hidlt:∀ b,ρ.hid b→b < w.heap.size:=fun b hb=>Nat.lt_of_lt_of_le (hA.hid b hb) hA.lo.1
  have key:∀ H:Nat→Prop,(∀ b,H b→b < w.heap.size)→(∀ b,H b→Held A ρ b∨ρ.hid b)→(∀ b,ρ.hid b→H b)→(args.any hasRef=true→∀ b,Held A ρ b→¬ H b)→(args.any hasRef=false→∀ b,Held A ρ b→H b) →
    o.upon P a K Q ((callFunc f vals).run P w):=by
   intro H hH1 hH2 hH3 hH4 hH5
   have hM0:MR P.cellsOf w.heap.size w [] ⟨fun _=>none,H⟩:=⟨fun id o h=>by simp at h,fun id id' o o' b c c' h=>by simp at h,hH1,⟨Nat.le_refl _,fun id o b c h=>by simp at h⟩,hA.fx.mono hA.lo.1 fun _ _=>rfl⟩
   have hnh:∀ (ρ0:Pm) b,¬ Held [] ρ0 b:=by rintro ρ0 b ⟨id,o,c,h,_⟩; simp at h
   have hV0:∀ b,¬ H b→View w [] ⟨fun _=>none,H⟩ b=w.heap[b]? := fun b hb=>View.of_not (hnh _ b) hb
   have hV1:VLe (View w A ρ) (View w [] ⟨fun _=>none,H⟩):=by
    intro b ob hb
    obtain ⟨g1,g2⟩:=View.some hb
    have g3:=View.nhid hb
    rw [hV0 b (fun hh=>(hH2 b hh).elim g1 g3)]
    exact g2
   refine hcall f (args.map (rArg M)) [] p.1 p.2 hp w.heap.size w ⟨fun _=>none,H⟩ vals hM0 (by simpa using hl) (fun i x v h1 h2=>?_) o a K Q (fun v w' ρ' s1 s2 s3=>?_)
   ·rw [List.getElem?_map] at h1
    obtain ⟨x0,h3,rfl⟩:=Option.map_eq_some_iff.1 h1
    refine rArg_rc hm hA hV1 (fun href b hb=>?_) (hv i x0 v h3 h2)
    exact hV0 b (hH4 (List.any_eq_true.2 ⟨x0,List.mem_of_getElem? h3,href⟩) b hb)
   ·have hbel:Below w.heap.size w w':=⟨s1.os,s1.tape,s1.output,s1.size,fun b hb=>s1.block b hb (hnh _ b)⟩
    have hV3:∀ b,w.heap.size≤b→View w' A ρ b=w'.heap[b]? := fun b hb=>View.of_not (fun hh=>by have:=held_lt hA hh; omega) (fun hh=>by have:=hidlt b hh; omega)
    have hV1':VLe (View w' p.2 ρ') (View w' A ρ)∨ownAll (rRes p.2 p.1)=true:=by
     cases hq:args.any hasRef with
     | true=>exact .inr (hown hq)
     | false=>
      refine .inl (fun b ob hb=>?_)
      have g3:=View.nhid hb
      rw [s1.hid] at g3
      rw [View.of_not (fun hh=>g3 (hH5 hq b hh)) (fun hh=>g3 (hH3 b hh))]
      exact (View.some hb).2
    have hres:=rRes_rc (R':=Ref A ρ) s2 hA.lo.1 hV3 hV1' s3
    split at h
    ·rename_i hth
     unfold thawed at h
     split at h
     rotate_left
     ·cases h
     rename_i hc
     simp only [Option.some.injEq,Prod.mk.injEq] at h
     obtain ⟨e1,e2⟩:=h
     subst e1
     subst e2
     have hres2:=rRes_rc (B:=w.heap.size) (V:=View w' A ρ) (R':=Ref A ρ) s2 (Nat.le_refl _) hV3 (.inr hc.1) s3
     have hok:=thaw_ok (w:=w') (fun b o hb=>(View.some hb).2) B n hc.1 hres2
     obtain ⟨ρ2,t1,t2,t3⟩:=thaw_step hA hbel hr hok hc.2.1 hc.2.2
     exact hK v w' ρ2 t1 t2 t3
    ·simp only [Option.some.injEq,Prod.mk.injEq] at h
     obtain ⟨e1,e2⟩:=h
     subst e1
     subst e2
     obtain ⟨t1,t2⟩:=kept_step hA hbel
     refine hK v w' ρ t1 t2 ?_
     split
     ·exact wkR_rc hres
     ·exact hres
  cases hq:args.any hasRef with
  | true=>
   refine key ρ.hid hidlt (fun b hb=>.inr hb) (fun b hb=>hb) (fun _ b hb hh=>?_) (fun h=>by rw [hq] at h; cases h)
   obtain ⟨id,o',c,g1,g2⟩:=hb
   have:=hA.lo.2 id o' b c g1 g2
   have:=hA.hid b hh
   omega
  | false=>exact key (fun b=>Held A ρ b∨ρ.hid b) (fun b hb=>hb.elim (held_lt hA) (hidlt b)) (fun b hb=>hb) (fun b hb=>.inr hb) (fun h=>by rw [hq] at h; cases h) (fun _ b hb=>.inl hb)
end
end Go.Ab
