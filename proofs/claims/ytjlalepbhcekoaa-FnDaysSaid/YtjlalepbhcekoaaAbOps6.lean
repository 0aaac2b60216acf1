/- Operations that make blocks: variables, literals, make; structs put together. -/
import Derived.Test.YtjlalepbhcekoaaAbOps5
import Derived.Deep.OwnRows
set_option linter.unusedVariables false
set_option linter.unusedSimpArgs false
namespace Go.Ab
open Go Go.RowKit
def Done (S:TypeId→Nat) (B:Nat) (w:World) (A:Mem) (ρ:Pm) (r:Result Value) (A':Mem) (y:AV):Prop:=
 ∃ u w' ρ',r = .ok u w'∧Step w A ρ w' A' ρ'∧MR S B w' A' ρ'∧RV S B w' A' ρ' y u
section
variable {P:Program} {S:TypeId→Nat} {B:Nat} {w:World} {M A:Mem} {ρ:Pm}
theorem alloc_imm (hA:MR S B w A ρ) (cs:Array Value) (t:TypeId) :
  Step w A ρ (w.alloc (.cells cs t)) A ρ∧MR S B (w.alloc (.cells cs t)) A ρ∧∀ k,cellV (View (w.alloc (.cells cs t)) A ρ) w.heap.size k=cs[k]? := by
 obtain ⟨h1,h2⟩:=kept_step hA (below_alloc1 w (.cells cs t))
 exact ⟨h1,h2,fun k=>by simp [cellV,view_new hA]⟩
theorem f_of {cs:List AV} {vs:Array Value} {Q:AV→Value→Prop} (hl:vs.size=cs.length) (h:∀ (i:Nat) a b,cs[i]? = some a→vs[i]? = some b→Q a b) :
  ∃ f:Nat→Value,(∀ j,j < cs.length→vs[j]? = some (f j))∧∀ (j:Nat) x,cs[j]? = some x→Q x (f j):=by
 refine ⟨fun j=>vs.getD j Go.undef,fun j hj=>?_,fun j x hx=>?_⟩
 ·have:j < vs.size:=by omega
  simp [Array.getD,this]
 ·have hj:=(List.getElem?_eq_some_iff.1 hx).1
  have:j < vs.size:=by omega
  exact h j x _ hx (by simp [Array.getD,this])
theorem box_rc (hm:MExt M A) (hA:MR P.cellsOf B w A ρ) {t:TypeId} {x y:AV} {v:Value} (h:aBox (P.cellsOf t) x M=some y) (hx:RV P.cellsOf B w A ρ x v) :
  Done P.cellsOf B w A ρ ((Instr.box t v).run P w) A y:=by
 unfold aBox at h
 split at h
 ·rename_i hc
  obtain ⟨h1,h2,h3⟩:=hc
  obtain rfl:=Option.some.inj h
  obtain ⟨c1,c2,c3⟩:=cells_rc hm (treeOk_all h2) hx
  obtain ⟨s1,s2,s3⟩:=alloc_imm hA v.cells t
  obtain ⟨f,f1,f2⟩:=f_of c1 c3
  refine ⟨.pointer (some ⟨w.heap.size,0,none⟩),_,ρ,?_,s1,s2,.ptB _ _ 0 f (by intro e; rw [e] at h1; simp at h1; omega) (fun j hj=>?_) (fun j a ha=>s1.rv (f2 j a ha)) (List.all_eq_true.1 h2)⟩
  ·simp [Instr.box,newVar,newRow,Sem.run_bind]
  ·rw [Nat.zero_add,s3]; exact f1 j hj
 ·cases h
theorem maxLen_one:1≤maxLen:=by unfold maxLen; omega
theorem push_row (hA:MR S B w A ρ) {n:Nat} (hn:A[n]? = some .pend) (kn:Kn) (t:TypeId) (es:List (List AV)) (vs:Array Value) (w':World) (hk:Below w.heap.size w w') (b cap:Nat) (hb:w.heap.size≤b) (hw:w'.heap[b]? = some (.cells vs t (0,0)))
  (hs:0 < S t) (hz:vs.size=cap * S t) (hl:es.length≤cap) (hm:cap≤maxLen) (hbox:kn = .box→es.length=1∧cap=1) (hes:∀ e ∈ es,e.length=S t) (hok:∀ e ∈ es,∀ x ∈ e,cellOk x=true)
  (hc:∀ (i j:Nat) e x v,es[i]? = some e→e[j]? = some x→vs[i * S t + j]? = some v→RV S B w A ρ x v) :
  Step w A ρ w' (A.set n (.live ⟨kn,t,S t,es⟩)) (rput ρ n (some (b,cap)))∧MR S B w' (A.set n (.live ⟨kn,t,S t,es⟩)) (rput ρ n (some (b,cap))):=by
 refine push_one hA hk hn _ _ (fun b' cap' e=>by injection e with e; injection e with e1 e2; omega) (fun hst=>⟨rfl,hs,hes,hok,vs,fun i j=>vs.getD (i * S t + j) Go.undef,hw,hz,hl,hm,hbox,fun i j hi hj=>?_,fun i j e x he hx=>?_⟩)
 ·have hi':i < es.length:=hi
  have hj':j < S t:=hj
  have:i * S t + j < vs.size:=by
   rw [hz]
   calc i * S t + j < i * S t + S t:=by omega
    _=(i + 1) * S t:=by rw [Nat.succ_mul]
    _≤cap * S t:=Nat.mul_le_mul_right _ (by omega)
  simp [Array.getD,this]
 ·have hi':=(List.getElem?_eq_some_iff.1 he).1
  have hj':=(List.getElem?_eq_some_iff.1 hx).1
  have hel:e.length=S t:=hes e (List.mem_of_getElem? he)
  have hi'':i < es.length:=hi'
  have:i * S t + j < vs.size:=by
   rw [hz]
   calc i * S t + j < i * S t + S t:=by omega
    _=(i + 1) * S t:=by rw [Nat.succ_mul]
    _≤cap * S t:=Nat.mul_le_mul_right _ (by omega)
  exact hst.rv (hc i j e x _ he hx (by simp [Array.getD,this]))
theorem ref_new {A:Mem} {ρ:Pm} {n:Nat} {ob:Ob} {p:Pl} (hn:n < A.length) (hk:ob.kn = .box→p≠none):Ref (A.set n (.live ob)) (rput ρ n p) n ob.es.length=some (some (p,ob.s)):=by
 simpa [Ref,rput,hn] using hk
theorem loc_new {w':World} {n b:Nat} {ob:Ob} (hn:A[n]? = some .pend) (hl:ob.es.length=1):RV S B w' (A.set n (.live ob)) (rput ρ n (some (b,1))) (.loc n 1 0 0) (.pointer (some ⟨b,0,none⟩)):=by
 have:=ref_new (A:=A) (ρ:=ρ) (ob:=ob) (p:=some (b,1)) (List.getElem?_eq_some_iff.1 hn).1 (fun _ h=>by cases h)
 rw [hl] at this
 have h2:=RC.locV (S:=S) (V:=View w' (A.set n (.live ob)) (rput ρ n (some (b,1)))) (B:=B) n 1 0 0 b 1 ob.s this (by omega)
 simpa using h2
theorem lsl_new {w':World} {n b cap:Nat} {ob:Ob} (hn:A[n]? = some .pend):RV S B w' (A.set n (.live ob)) (rput ρ n (some (b,cap))) (.lsl n ob.es.length 0 ob.es.length) (.slice (some ⟨b,0,none⟩) ob.es.length cap):=by
 have:=ref_new (A:=A) (ρ:=ρ) (ob:=ob) (p:=some (b,cap)) (List.getElem?_eq_some_iff.1 hn).1 (fun _ h=>by cases h)
 have h2:=RC.lslV (S:=S) (V:=View w' (A.set n (.live ob)) (rput ρ n (some (b,cap)))) (B:=B) n ob.es.length 0 ob.es.length b cap ob.s this (by omega)
 simpa using h2
theorem lsl_nil {w':World} {n:Nat} {ob:Ob} (hn:A[n]? = some .pend) (hk:ob.kn = .grow) (he:ob.es=[]):RV S B w' (A.set n (.live ob)) (rput ρ n none) (.lsl n ob.es.length 0 ob.es.length) (.slice none 0 0):=by
 have:=ref_new (A:=A) (ρ:=ρ) (ob:=ob) (p:=none) (List.getElem?_eq_some_iff.1 hn).1 (fun h=>by rw [hk] at h; cases h)
 rw [he] at this ⊢
 exact RC.lslN n ob.s this
def fillP (A:Mem):Nat→List Ob→Mem
 | _,[]=>A
 | n,o::r=>fillP (A.set n (.live o)) (n + 1) r
def effP (A:Mem) (n:Nat):Eff→Mem
 | .keep=>A
 | .push l=>fillP A n l
 | .put M=>M
theorem boxO_rc (hm:MExt M A) (hA:MR P.cellsOf B w A ρ) {n:Nat} (hn:A[n]? = some .pend) {t:TypeId} {x y:AV} {v:Value} {eff:Eff} (h:aBoxO n t (P.cellsOf t) x M=some (y,eff)) (hx:RV P.cellsOf B w A ρ x v) :
  Done P.cellsOf B w A ρ ((Instr.box t v).run P w) (effP A n eff) y:=by
 unfold aBoxO at h
 split at h
 ·rename_i hc
  obtain ⟨h1,h2,h3⟩:=hc
  injection h with h
  injection h with e1 e2
  subst e1; subst e2
  obtain ⟨c1,c2,c3⟩:=cells_rc hm h2 hx
  obtain ⟨s1,s2⟩:=push_row hA hn .box t [vcells x] v.cells _ (below_alloc1 w (.cells v.cells t)) w.heap.size 1 (Nat.le_refl _) (heap_alloc_new w _) h3 (by rw [c1,h1,Nat.one_mul]) (by simp) maxLen_one (fun _=>⟨rfl,rfl⟩) (by simp [h1])
   (by simp only [List.mem_singleton,forall_eq]; intro a ha; exact okC_cellOk (List.all_eq_true.1 h2 a ha))
   (fun i j e a u he ha hu=>by
    cases i with
    | zero=>
     have he':vcells x=e:=by simpa using he
     subst he'
     exact c3 j a u ha (by simpa using hu)
    | succ i=>simp at he)
  exact ⟨.pointer (some ⟨w.heap.size,0,none⟩),_,_,by simp [Instr.box,newVar,newRow,Sem.run_bind],s1,s2,loc_new hn rfl⟩
 ·cases h
theorem zeroOf_rc {V:Nat→Option Obj} {R:RefF} {t:TypeId} {i:TypeInfo} {z:Value} (hi:P.info? t=some i) (hz:i.zero=some z) :
  zeroOf P t=z.cells.toList.map cval∧∀ (j:Nat) a b,(zeroOf P t)[j]? = some a→z.cells[j]? = some b→RC S V B R a b:=by
 have e:zeroOf P t=z.cells.toList.map cval:=by simp [zeroOf,hi,hz]
 refine ⟨e,fun j a b ha hb=>?_⟩
 rw [e,List.getElem?_map] at ha
 have:z.cells.toList[j]? = some b:=by simpa using hb
 rw [this] at ha
 obtain rfl:cval b=a:=by simpa using ha
 exact cval_rc b
theorem alloc_rc (hA:MR P.cellsOf B w A ρ) {n:Nat} (hn:A[n]? = some .pend) {t:TypeId} (hk:okT P t=true) (hz0:((P.info? t).bind (·.zero)).isSome=true) (h1:(zeroOf P t).length=P.cellsOf t) (h2:(zeroOf P t).all cellOk=true) :
  Done P.cellsOf B w A ρ ((Instr.alloc t true (.tuple #[])).run P w) (effP A n (.push [⟨.box,t,P.cellsOf t,[zeroOf P t]⟩])) (.loc n 1 0 0):=by
 obtain ⟨d,i,hd,hi,hz,h0⟩:=okT_spec hk
 rw [hi] at hz0
 obtain ⟨z,hzz⟩:=Option.isSome_iff_exists.1 hz0
 have hzz':i.zero=some z:=by simpa using hzz
 obtain ⟨e1,e2⟩:=zeroOf_rc (S:=P.cellsOf) (B:=B) (V:=View w A ρ) (R:=Ref A ρ) hi hzz'
 have hsz:z.cells.size=P.cellsOf t:=by rw [← h1,e1]; simp
 obtain ⟨s1,s2⟩:=push_row hA hn .box t [zeroOf P t] z.cells _ (below_alloc1 w (.cells z.cells t)) w.heap.size 1 (Nat.le_refl _) (heap_alloc_new w _) (by omega) (by rw [hsz,Nat.one_mul]) (by simp) maxLen_one (fun _=>⟨rfl,rfl⟩) (by simp [h1])
  (by simp only [List.mem_singleton,forall_eq]; intro a ha; exact List.all_eq_true.1 h2 a ha)
  (fun i j e a u he ha hu=>by
   cases i with
   | zero=>
    have he':zeroOf P t=e:=by simpa using he
    subst he'
    exact e2 j a u ha (by simpa using hu)
   | succ i=>simp at he)
 exact ⟨.pointer (some ⟨w.heap.size,0,none⟩),_,_,by simp [Instr.alloc,zeroValue,typeInfo,hi,hzz',newVar,newRow,Sem.run_bind],s1,s2,loc_new hn rfl⟩
theorem fold_set:∀ (vs:List Value) (off k:Nat) (cs:Array Value),off + k + vs.length≤cs.size →
  ((vs.zipIdx k).foldl (fun cs p=>cs.setIfInBounds (off + p.2) p.1) cs).toList=cs.toList.take (off + k)++vs++cs.toList.drop (off + k + vs.length)
 | [],off,k,cs,_=>by simp
 | v::vs,off,k,cs,h=>by
  simp only [List.zipIdx_cons,List.foldl_cons]
  have h':off + (k + 1) + vs.length≤(cs.setIfInBounds (off + k) v).size:=by simp only [List.length_cons] at h; simp; omega
  rw [fold_set vs off (k + 1) _ h']
  have hlt:off + k < cs.toList.length:=by simp only [List.length_cons] at h; simp; omega
  rw [Array.toList_setIfInBounds,List.length_cons,show off + (k + 1) + vs.length=off + k + (vs.length + 1) by omega]
  have e1:(cs.toList.set (off + k) v).take (off + (k + 1))=cs.toList.take (off + k)++[v]:=by
   rw [show off + (k + 1)=(off + k) + 1 by omega,List.take_set,List.take_succ_eq_append_getElem hlt,List.set_append_right _ _ (by simp; omega)]
   have hz:(cs.toList.take (off + k)).length=off + k:=List.length_take_of_le (by simp only [List.length_cons] at h; simp; omega)
   simp [hz]
  have e2:(cs.toList.set (off + k) v).drop (off + k + (vs.length + 1))=cs.toList.drop (off + k + (vs.length + 1)):=by
   rw [List.drop_set_of_lt (by omega)]
  rw [e1,e2]
  simp [List.append_assoc]
theorem fill_cons (place:Nat→Option (Nat×Nat)) (cells:Array Value) (i off size:Nat) (v:Value) (rest:List (Nat×Value)) (hp:place i=some (off,size)) (h1:v.cells.size=size) (h2:off + size≤cells.size) :
  Instr.fill place cells ((i,v)::rest)=Instr.fill place (cells.toList.take off++v.cells.toList++cells.toList.drop (off + size)).toArray rest:=by
 rw [Instr.fill,hp]
 simp only
 have hc:¬ (v.cells.size≠size || off + v.cells.size > cells.size)=true:=by simp [h1]; omega
 rw [if_neg (by simpa using hc)]
 congr 1
 apply Array.ext'
 have:=fold_set v.cells.toList off 0 cells (by simp; omega)
 simp only [Nat.add_zero,Array.length_toList,h1] at this
 rw [← this,← Array.foldl_toList]
 simp [Array.toList_zipIdx]
theorem aFill_rc (hm:MExt M A) (place:Nat→Option (Nat×Nat)):∀ (ps:List (Nat×AV)) (pv:List (Nat×Value)) (cs ds:List AV) (cells:Array Value),
  ps.length=pv.length→(∀ (k:Nat) p q,ps[k]? = some p→pv[k]? = some q→p.1=q.1∧RV S B w A ρ p.2 q.2) →
  (∀ p ∈ ps,(place p.1).isSome=true)→aFill M cs (ps.map fun p=>(((place p.1).getD (0,0)).1,((place p.1).getD (0,0)).2,p.2))=some ds →
  cells.size=cs.length→(∀ (j:Nat) a b,cs[j]? = some a→cells[j]? = some b→RV S B w A ρ a b) →
  ∃ out,Instr.fill place cells pv=some out∧out.size=ds.length∧∀ (j:Nat) a b,ds[j]? = some a→out[j]? = some b→RV S B w A ρ a b
 | [],[],cs,ds,cells,_,_,_,h,hz,hc=>by
  simp only [List.map_nil,aFill,Option.some.injEq] at h
  subst h
  exact ⟨cells,rfl,hz,hc⟩
 | [],_::_,_,_,_,hl,_,_,_,_,_=>by simp at hl
 | _::_,[],_,_,_,hl,_,_,_,_,_=>by simp at hl
 | (i,x)::ps,(i',v)::pv,cs,ds,cells,hl,hr,hp,h,hz,hc=>by
  obtain ⟨e1,e2⟩:=hr 0 (i,x) (i',v) rfl rfl
  simp only at e1 e2
  subst e1
  obtain ⟨⟨off,size⟩,hpl⟩:=Option.isSome_iff_exists.1 (hp (i,x) (by simp))
  simp only at hpl
  simp only [List.map_cons,hpl,Option.getD_some,aFill] at h
  split at h
  ·rename_i hk
   obtain ⟨k1,k2,k3⟩:=hk
   obtain ⟨c1,c2,c3⟩:=cells0_rc hm k3 e2
   rw [fill_cons place cells i off size v pv hpl (by omega) (by omega)]
   refine aFill_rc hm place ps pv _ ds _ (by simpa using hl) (fun k p q a b=>hr (k + 1) p q a b) (fun p hp'=>hp p (by simp [hp'])) h (by simp; omega) (fun j a b ha hb=>?_)
   simp only [List.getElem?_toArray] at hb
   by_cases hj1:j < off
   ·rw [List.getElem?_append_left (by simp; omega),List.getElem?_append_left (by simp; omega),List.getElem?_take_of_lt hj1] at ha
    rw [List.getElem?_append_left (by simp; omega),List.getElem?_append_left (by simp; omega),List.getElem?_take_of_lt hj1] at hb
    exact hc j a b ha (by simpa using hb)
   ·by_cases hj2:j < off + size
    ·rw [List.getElem?_append_left (by simp; omega),List.getElem?_append_right (by simp; omega)] at ha hb
     have g1:(cs.take off).length=off:=by simp; omega
     have g2:(cells.toList.take off).length=off:=by simp; omega
     rw [g1] at ha
     rw [g2] at hb
     exact c3 (j - off) a b ha (by simpa using hb)
    ·rw [List.getElem?_append_right (by simp; omega),List.getElem?_drop] at ha hb
     have g1:(cs.take off++vcells0 x).length=off + size:=by simp; omega
     have g2:(cells.toList.take off++v.cells.toList).length=off + size:=by simp; omega
     rw [g1] at ha
     rw [g2] at hb
     exact hc _ a b ha (by simpa using hb)
  ·cases h
theorem mapM_some_all {α β:Type} {f:α→Option β}:∀ {l:List α} {r:List β},l.mapM f=some r→(∀ a ∈ l,(f a).isSome=true)∧∀ d,r=l.map fun a=>(f a).getD d
 | [],r,h=>by simp at h; subst h; simp
 | a::l,r,h=>by
  rw [List.mapM_cons] at h
  simp only [bind,Option.bind_eq_some_iff,pure,Option.some.injEq] at h
  obtain ⟨b,hb,s,hs,rfl⟩:=h
  obtain ⟨g1,g2⟩:=mapM_some_all hs
  refine ⟨fun c hc=>?_,fun d=>?_⟩
  ·rcases List.mem_cons.1 hc with rfl | hc
   ·simp [hb]
   ·exact g1 c hc
  ·simp [hb,← g2 d]
theorem build_rc (hm:MExt M A) (hA:MR S B w A ρ) {t:TypeId} (hk:okT P t=true) (hz0:((P.info? t).bind (·.zero)).isSome=true) {ps:List (Nat×AV)} {parts:Array (Nat×Value)} {y:AV}
  (h:((placesOf P t ps).bind fun q=>aBuild (zeroOf P t) q M)=some y) (hl:ps.length=parts.size) (hr:∀ (k:Nat) p q,ps[k]? = some p→parts[k]? = some q→p.1=q.1∧RV S B w A ρ p.2 q.2) :
  ∃ u,(Instr.build t parts).run P w = .ok u w∧RV S B w A ρ y u:=by
 obtain ⟨d,i,hd,hi,hz,h0⟩:=okT_spec hk
 rw [hi] at hz0
 obtain ⟨z,hzz⟩:=Option.isSome_iff_exists.1 hz0
 have hzz':i.zero=some z:=by simpa using hzz
 obtain ⟨e1,e2⟩:=zeroOf_rc (S:=S) (B:=B) (V:=View w A ρ) (R:=Ref A ρ) hi hzz'
 obtain ⟨q,hq,h⟩:=Option.bind_eq_some_iff.1 h
 unfold aBuild at h
 obtain ⟨ds,hds,rfl⟩:=Option.map_eq_some_iff.1 h
 unfold placesOf at hq
 rw [hd] at hq
 have fin:∀ place:Nat→Option (Nat×Nat),P.built t parts.toList=Instr.fill place z.cells parts.toList→(∀ p ∈ ps,(place p.1).isSome=true)→q=ps.map (fun p=>(((place p.1).getD (0,0)).1,((place p.1).getD (0,0)).2,p.2)) →
   ∃ u,(Instr.build t parts).run P w = .ok u w∧RV S B w A ρ (.agg ds) u:=by
  intro place hb hp hq'
  rw [hq'] at hds
  obtain ⟨out,o1,o2,o3⟩:=aFill_rc hm place ps parts.toList (zeroOf P t) ds z.cells (by simpa using hl) (fun k p q a b=>hr k p q a (by simpa using b)) hp hds (by rw [e1]; simp) e2
  exact ⟨.agg out,run_build w t parts out (by rw [hb,o1]),.agg _ _ o2.symm (fun j a b=>o3 j a b)⟩
 cases d with
 | struct fs=>
  simp only at hq
  split at hq
  ·rename_i hall
   obtain ⟨g1,g2⟩:=mapM_some_all hq
   have hpl:fs.toList.mapM (fun f=>(P.info? f.type).map fun i=>(f.offset,i.size))=some (fs.toList.map fun f=>(f.offset,P.cellsOf f.type)):=by
    have:∀ l:List Field,(∀ f ∈ l,okT P f.type=true)→l.mapM (fun f=>(P.info? f.type).map fun i=>(f.offset,i.size))=some (l.map fun f=>(f.offset,P.cellsOf f.type)):=by
     intro l hl
     induction l with
     | nil=>rfl
     | cons f r ih=>
      obtain ⟨d',i',_,hi',hz',_⟩:=okT_spec (hl f (by simp))
      rw [List.mapM_cons,hi',ih (fun g hg=>hl g (by simp [hg]))]
      simp [hz']
    exact this _ (fun f hf=>by simpa using List.all_eq_true.1 hall f hf)
   refine fin (fun k=>(fs[k]?).map fun f=>(f.offset,P.cellsOf f.type)) ?_ (fun p hp=>?_) ?_
   ·simp only [Program.built,hi,hd,hzz',hpl]
    congr 1
    funext k
    simp
   ·have:=g1 p hp
    simpa using this
   ·rw [g2 (0,0,p0)]
    refine List.map_congr_left (fun p hp=>?_)
    have:=g1 p hp
    cases hf:fs[p.1]? with
    | none=>simp [hf] at this
    | some f=>simp
  ·cases hq
 | array n e=>
  simp only at hq
  split at hq
  ·rename_i hke
   obtain ⟨d',i',_,hi',hz',_⟩:=okT_spec hke
   obtain rfl:=Option.some.inj hq
   refine fin (fun k=>some (k * P.cellsOf e,P.cellsOf e)) ?_ (fun _ _=>rfl) rfl
   simp [Program.built,hi,hd,hzz',hi',hz']
  ·cases hq
 | _=>simp at hq
where p0:AV:=.undef
theorem aParts_spec {kp:Bool}:∀ {vs:List AV} {es:List (List AV)} {sz:Nat},aParts kp M sz vs=some es→es=vs.map (kcells kp)∧(∀ v ∈ vs,(kcells kp v).length=sz∧(kcells kp v).all (okC M)=true)
 | [],es,sz,h=>by simp [aParts] at h; subst h; simp
 | v::vs,es,sz,h=>by
  simp only [aParts] at h
  split at h
  ·rename_i hc
   obtain ⟨q,hq,rfl⟩:=Option.map_eq_some_iff.1 h
   obtain ⟨rfl,g⟩:=aParts_spec hq
   refine ⟨rfl,fun x hx=>?_⟩
   rcases List.mem_cons.1 hx with rfl | hx
   ·exact hc
   ·exact g x hx
  ·cases h
theorem inOrder_spec:∀ {ps:List (Nat×AV)} {vs:List AV} {n:Nat},inOrder n ps=some vs→vs=ps.map (·.2)∧∀ (k:Nat) p,ps[k]? = some p→p.1=n + k
 | [],vs,n,h=>by simp [inOrder] at h; subst h; simp
 | (i,v)::ps,vs,n,h=>by
  simp only [inOrder] at h
  split at h
  ·rename_i hi
   obtain ⟨q,hq,rfl⟩:=Option.map_eq_some_iff.1 h
   obtain ⟨rfl,g⟩:=inOrder_spec hq
   refine ⟨rfl,fun k p hk=>?_⟩
   cases k with
   | zero=>simp at hk; subst hk; simpa using hi
   | succ k=>have:=g k p (by simpa using hk); omega
  ·cases h
theorem fill_all (size:Nat):∀ (pv:List (Nat×Value)) (n:Nat) (cells:Array Value),(∀ (k:Nat) p,pv[k]? = some p→p.1=n + k∧p.2.cells.size=size)→cells.size=(n + pv.length) * size →
  Instr.fill (fun i=>some (i * size,size)) cells pv=some (cells.toList.take (n * size)++(pv.map fun p=>p.2.cells.toList).flatten).toArray
 | [],n,cells,_,hz=>by
  have:cells.toList.take (n * size)=cells.toList:=List.take_of_length_le (by simp at hz ⊢; omega)
  simp [Instr.fill,this]
 | (i,v)::pv,n,cells,h,hz=>by
  obtain ⟨h1,h2⟩:=h 0 (i,v) rfl
  simp only [Nat.add_zero] at h1 h2
  subst h1
  have hmul:(i + (pv.length + 1)) * size=i * size + (size + pv.length * size):=by rw [Nat.add_mul,Nat.succ_mul]; omega
  have hz':cells.size=i * size + (size + pv.length * size):=by rw [← hmul]; exact hz
  have hsm:(i + 1) * size=i * size + size:=Nat.succ_mul i size
  rw [fill_cons _ cells i (i * size) size v pv rfl h2 (by omega)]
  rw [fill_all size pv (i + 1) _ (fun k p hk=>by have:=h (k + 1) p (by simpa using hk); exact ⟨by omega,this.2⟩) (by
   have:(i + 1 + pv.length) * size=i * size + (size + pv.length * size):=by rw [Nat.add_mul,Nat.succ_mul]; omega
   rw [this]; simp; omega)]
  congr 1
  have:(cells.toList.take (i * size)++v.cells.toList++cells.toList.drop (i * size + size)).take ((i + 1) * size)=cells.toList.take (i * size)++v.cells.toList:=by
   rw [List.take_append_of_le_length (by simp; omega)]
   exact List.take_of_length_le (by simp; omega)
  show (((cells.toList.take (i * size)++v.cells.toList++cells.toList.drop (i * size + size)).take ((i + 1) * size))++(pv.map fun p=>p.2.cells.toList).flatten).toArray=_
  rw [this]
  simp only [List.map_cons,List.flatten_cons,List.append_assoc]
end
end Go.Ab
