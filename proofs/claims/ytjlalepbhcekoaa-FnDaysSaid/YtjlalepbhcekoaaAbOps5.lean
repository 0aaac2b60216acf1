/- New blocks: how the store grows; parts put together; boxes, literals, make. -/
import Derived.Test.YtjlalepbhcekoaaAbOps4
import Derived.Great.BuildSlice
import Derived.Below
set_option linter.unusedVariables false
set_option linter.unusedSimpArgs false
namespace Go.Ab
open Go Go.RowKit
section
variable {S:TypeId→Nat} {B:Nat} {w w':World} {M A A':Mem} {ρ ρ':Pm}
theorem held_lt (hA:MR S B w A ρ) {b:Nat} (h:Held A ρ b):b < w.heap.size:=by
 obtain ⟨id,o,c,h1,h2⟩:=h
 obtain ⟨cs,k1,_⟩:=obj_lie hA h1 h2
 exact (Array.getElem?_eq_some_iff.1 k1).1
theorem grow_step (hA:MR S B w A ρ) (hk:Below w.heap.size w w') (hhid:ρ'.hid=ρ.hid)
  (hid:∀ id,(A'[id]? = A[id]?∧ρ' id=ρ id)∨(A[id]? = some .pend∧∃ ob,A'[id]? = some (.live ob)∧∀ b cap,ρ' id=some (b,cap)→w.heap.size≤b)):Step w A ρ w' A' ρ':=by
 refine ⟨hk.os,hk.tape,hk.output,hk.size,fun b hb _=>hk.block b hb,fun id L=>?_,fun b hb hh=>?_,hhid,fun id ⟨o,g1,g2,g3⟩=>by
  rcases hid id with ⟨h1,h2⟩ | ⟨h1,_⟩
  ·exact .inl ⟨o,by rw [h1]; exact g1,g2,by rw [h2]; exact g3⟩
  ·rw [h1] at g1; cases g1⟩
 ·rcases hid id with ⟨h1,h2⟩ | ⟨h1,_⟩
  ·have:Ref A' ρ' id L=Ref A ρ id L:=by simp [Ref,h1,h2]
   rw [this]
   exact ⟨fun e=>e,fun x e=>.inr e⟩
  ·have:Ref A ρ id L=none:=by simp [Ref,h1]
   rw [this]
   exact ⟨fun e=>(by cases e),fun x e=>(by cases e)⟩
 ·obtain ⟨id,o,c,h1,h2⟩:=hh
  rcases hid id with ⟨h3,h4⟩ | ⟨h3,ob,h4,h5⟩
  ·exact ⟨id,o,c,by rw [← h3]; exact h1,by rw [← h4]; exact h2⟩
  ·have:=h5 b c h2
   omega
theorem grow_mr (hA:MR S B w A ρ) (hk:Below w.heap.size w w') (hhid:ρ'.hid=ρ.hid)
  (hid:∀ id,(A'[id]? = A[id]?∧ρ' id=ρ id)∨(A[id]? = some .pend∧∃ ob,A'[id]? = some (.live ob)∧∀ b cap,ρ' id=some (b,cap)→w.heap.size≤b))
  (hob:∀ id ob,A[id]? = some .pend→A'[id]? = some (.live ob)→ObR S w' (View w' A' ρ') B (Ref A' ρ') ob (ρ' id))
  (hin:∀ (id id':Nat) b c c',A[id]? = some .pend→A[id']? = some .pend→ρ' id=some (b,c)→ρ' id'=some (b,c')→(∃ o,A'[id]? = some (.live o))→(∃ o,A'[id']? = some (.live o))→id=id'):MR S B w' A' ρ':=by
 have hst:=grow_step hA hk hhid hid
 have old:∀ id o,A'[id]? = some (.live o)→A'[id]? = A[id]?→∀ b c,ρ' id=some (b,c)→ρ' id=ρ id→b < w.heap.size:=by
  intro id o h1 h2 b c h3 h4
  exact held_lt hA ⟨id,o,c,by rw [← h2]; exact h1,by rw [← h4]; exact h3⟩
 refine ⟨fun id o h=>?_,fun id id' o o' b c c' h1 h2 h3 h4=>?_,fun b hb=>hA.hid b (by rw [hhid] at hb; exact hb),⟨Nat.le_trans hA.lo.1 hk.size,fun id o b c h1 h2=>?_⟩,hA.fx.mono (Nat.le_refl _) fun b hb=>hk.block b (Nat.lt_of_lt_of_le hb hA.lo.1)⟩
 ·rcases hid id with ⟨e1,e2⟩ | ⟨e1,_⟩
  ·have h':A[id]? = some (.live o):=by rw [← e1]; exact h
   obtain ⟨g1,g2,g3,g4,g5⟩:=hA.obj id o h'
   refine ⟨g1,g2,g3,g4,?_⟩
   rw [e2]
   cases hp:ρ id with
   | none=>rw [hp] at g5; exact g5
   | some p=>
    obtain ⟨b,cap⟩:=p
    rw [hp] at g5
    obtain ⟨cs,f,k1,k2,k3,k4,k5,k6,k7⟩:=g5
    have hlt:=(Array.getElem?_eq_some_iff.1 k1).1
    exact ⟨cs,f,by rw [hk.block b hlt]; exact k1,k2,k3,k4,k5,k6,fun i j e x he hx=>hst.rv (k7 i j e x he hx)⟩
  ·exact hob id o e1 h
 ·rcases hid id with ⟨e1,e2⟩ | ⟨e1,ob,e2,e3⟩ <;> rcases hid id' with ⟨f1,f2⟩ | ⟨f1,ob',f2,f3⟩
  ·exact hA.inj id id' o o' b c c' (by rw [← e1]; exact h1) (by rw [← f1]; exact h2) (by rw [← e2]; exact h3) (by rw [← f2]; exact h4)
  ·have:=old id o h1 e1 b c h3 e2
   have:=f3 b c' h4
   omega
  ·have:=old id' o' h2 f1 b c' h4 f2
   have:=e3 b c h3
   omega
  ·exact hin id id' b c c' e1 f1 h3 h4 ⟨o,h1⟩ ⟨o',h2⟩
 ·rcases hid id with ⟨e1,e2⟩ | ⟨e1,ob,e2,e3⟩
  ·exact hA.lo.2 id o b c (by rw [← e1]; exact h1) (by rw [← e2]; exact h2)
  ·exact Nat.le_trans hA.lo.1 (e3 b c h2)
def rput (ρ:Pm) (n:Nat) (p:Pl):Pm:=⟨fun i=>if i=n then p else ρ i,ρ.hid⟩
theorem push_one (hA:MR S B w A ρ) (hk:Below w.heap.size w w') {n:Nat} (hn:A[n]? = some .pend) (ob:Ob) (p:Pl) (hp:∀ b cap,p=some (b,cap)→w.heap.size≤b)
  (hob:Step w A ρ w' (A.set n (.live ob)) (rput ρ n p)→ObR S w' (View w' (A.set n (.live ob)) (rput ρ n p)) B (Ref (A.set n (.live ob)) (rput ρ n p)) ob p) :
  Step w A ρ w' (A.set n (.live ob)) (rput ρ n p)∧MR S B w' (A.set n (.live ob)) (rput ρ n p):=by
 have hlt:=(List.getElem?_eq_some_iff.1 hn).1
 have hid:∀ id,((A.set n (.live ob))[id]? = A[id]?∧rput ρ n p id=ρ id)∨(A[id]? = some .pend∧∃ ob',(A.set n (.live ob))[id]? = some (.live ob')∧∀ b cap,rput ρ n p id=some (b,cap)→w.heap.size≤b):=by
  intro id
  by_cases h:id=n
  ·subst h
   exact .inr ⟨hn,ob,by simp [hlt],fun b cap hb=>hp b cap (by simpa [rput] using hb)⟩
  ·exact .inl ⟨by rw [List.getElem?_set_ne (Ne.symm h)],by simp [rput,h]⟩
 have hst:=grow_step (ρ':=rput ρ n p) hA hk rfl hid
 refine ⟨hst,grow_mr hA hk rfl hid (fun id ob' h1 h2=>?_) (fun id id' b c c' h1 h2 h3 h4 h5 h6=>?_)⟩
 ·by_cases h:id=n
  ·subst h
   have:ob=ob':=by simpa [hlt] using h2
   subst this
   simpa [rput] using hob hst
  ·rw [List.getElem?_set_ne (Ne.symm h),h1] at h2
   cases h2
 ·by_cases h:id=n <;> by_cases h':id'=n
  ·omega
  ·obtain ⟨o,ho⟩:=h6
   rw [List.getElem?_set_ne (Ne.symm h'),h2] at ho
   cases ho
  ·obtain ⟨o,ho⟩:=h5
   rw [List.getElem?_set_ne (Ne.symm h),h1] at ho
   cases ho
  ·obtain ⟨o,ho⟩:=h6
   rw [List.getElem?_set_ne (Ne.symm h'),h2] at ho
   cases ho
theorem kept_step (hA:MR S B w A ρ) (hk:Below w.heap.size w w'):Step w A ρ w' A ρ∧MR S B w' A ρ:=by
 have hid:∀ id,(A[id]? = A[id]?∧ρ id=ρ id)∨(A[id]? = some .pend∧∃ ob,A[id]? = some (.live ob)∧∀ b cap,ρ id=some (b,cap)→w.heap.size≤b):=fun id=>.inl ⟨rfl,rfl⟩
 exact ⟨grow_step hA hk rfl hid,grow_mr hA hk rfl hid (fun id ob h1 h2=>by rw [h1] at h2; cases h2) (fun id id' b c c' h1 h2 h3 h4 h5 h6=>by obtain ⟨o,ho⟩:=h5; rw [h1] at ho; cases ho)⟩
theorem view_new (hA:MR S B w A ρ) (o:Obj):View (w.alloc o) A ρ w.heap.size=some o:=by
 rw [View.of_not (fun h=>by have:=held_lt hA h; omega) (fun h=>by have:=hA.hid _ h; have:=hA.lo.1; omega)]
 exact heap_alloc_new w o
theorem below_alloc1 (w:World) (o:Obj):Below w.heap.size w (w.alloc o):=(Below.refl _ _).alloc (Nat.le_refl _) o
theorem treeOk_okC {M:Mem} {x:AV} (h:treeOk x=true):okC M x=true:=by cases x <;> first | rfl | simp [treeOk] at h
theorem treeOk_cellOk {x:AV} (h:treeOk x=true):cellOk x=true:=by cases x <;> first | rfl | simp [treeOk] at h
theorem treeOk_all {M:Mem} {l:List AV} (h:l.all treeOk=true):l.all (okC M)=true:=by
 rw [List.all_eq_true] at h ⊢
 exact fun x hx=>treeOk_okC (h x hx)
theorem okC_cellOk {M:Mem} {x:AV} (h:okC M x=true):cellOk x=true:=by
 unfold okC at h
 split at h
 ·rfl
 ·rfl
 ·exact h
theorem cell_one (hm:MExt M A) {x:AV} {v:Value} (h:okC M x=true) (hx:RV S B w A ρ x v):v.oneCell'=true∧v.cells = #[v]:=by
 cases x with
 | lsl id L off n=>
  obtain ⟨ob,ho⟩:=okRef_spec (by simpa [okC] using h)
  rcases lsl_inv hm hx ho with ⟨b,cap,_,_,rfl⟩ | ⟨_,_,_,_,rfl⟩ <;> exact ⟨rfl,rfl⟩
 | loc id L i j=>
  obtain ⟨ob,ho⟩:=okRef_spec (by simpa [okC] using h)
  obtain ⟨b,cap,_,_,rfl⟩:=loc_inv hm hx ho
  exact ⟨rfl,rfl⟩
 | _=>simp [okC,cellOk] at h <;> cases hx <;> exact ⟨rfl,rfl⟩
theorem strip_rc {V:Nat→Option Obj} {R:RefF} {x:AV} {v:Value} (hx:RC S V B R x v):RC S V B R (stripC x) v:=by
 cases hx with
 | slON t=>exact .slN none 0 (fun _=>rfl)
 | slO t es b cap cs f hb hB hz hs hl hm hes hc h htr=>
  by_cases he:es=[]
  ·subst he; exact .slN _ _ (fun h=>by cases h)
  ·exact .slB es b 0 cap (S t) f he hs hes (fun i j hi hj=>by simp only [cellV,hb,Nat.zero_add]; exact hc i j hi hj) h hl htr
 | lit t es b cs f hb hB hz hs hm hes hc h htr=>
  by_cases he:es=[]
  ·subst he; exact .slN _ _ (fun h=>by cases h)
  ·exact .slB es b 0 es.length (S t) f he hs hes (fun i j hi hj=>by simp only [cellV,hb,Nat.zero_add]; exact hc i j hi hj) h (Nat.le_refl _) htr
 | ptO t cs b c f hb hB hz hl hs hc h htr=>
  exact .ptB cs b 0 f (by intro e; subst e; simp at hl; omega) (fun j hj=>by simp only [cellV,hb,Nat.zero_add]; exact hc j hj) h htr
 | undef v=>exact .undef v
 | un=>exact .un
 | int k n=>exact .int k n
 | bool b=>exact .bool b
 | ub b=>exact .ub b
 | str s b h=>exact .str s b h
 | agg cs vs hl h=>exact .agg cs vs hl h
 | nils=>exact .nils
 | nilp=>exact .nilp
 | slN a c h=>exact .slN a c h
 | sle a c=>exact .sle a c
 | slB es b off c s f he hs hes hc h hcap htr=>exact .slB es b off c s f he hs hes hc h hcap htr
 | ptB cs b off f he hc h htr=>exact .ptB cs b off f he hc h htr
 | nslO t es b cap cs f hb hB hz hs hl hm hes hc h=>exact .nslO t es b cap cs f hb hB hz hs hl hm hes hc h
 | nptB cs b off f hc h=>exact .nptB cs b off f hc h
 | locS id L i j v h=>exact .locS id L i j v h
 | locV id L i j b cap s h hi=>exact .locV id L i j b cap s h hi
 | lslS id L off n v h=>exact .lslS id L off n v h
 | lslV id L off n b cap s h hn=>exact .lslV id L off n b cap s h hn
 | lslN id s h=>exact .lslN id s h
 | fn f cap vs hl h=>exact .fn f cap vs hl h
 | tup cs vs hl h=>exact .tup cs vs hl h
theorem strip_ok {M:Mem} {x:AV}:okC M (stripC x)=okC M x:=by cases x <;> rfl
theorem cells0_rc (hm:MExt M A) {x:AV} {v:Value} (hc:(vcells0 x).all (okC M)=true) (hx:RV S B w A ρ x v) :
  v.cells.size=(vcells0 x).length∧(∀ u ∈ v.cells.toList,u.oneCell'=true)∧∀ (i:Nat) a b,(vcells0 x)[i]? = some a→v.cells[i]? = some b→RV S B w A ρ a b:=by
 have agg:∀ cs,x = .agg cs→v.cells.size=(vcells0 x).length∧(∀ u ∈ v.cells.toList,u.oneCell'=true)∧∀ (i:Nat) a b,(vcells0 x)[i]? = some a→v.cells[i]? = some b→RV S B w A ρ a b:=by
  intro cs he
  subst he
  cases hx with
  | agg _ vs hl h=>
   refine ⟨hl.symm,fun u hu=>?_,h⟩
   obtain ⟨i,hi⟩:=List.getElem?_of_mem (show u ∈ vs.toList from hu)
   have hi':vs[i]? = some u:=by simpa using hi
   have hlt:i < vs.size:=(Array.getElem?_eq_some_iff.1 hi').1
   have hx':=h i cs[i] u (by simp [show i < cs.length by omega]) hi'
   have hk:=List.all_eq_true.1 hc cs[i] (by simp [vcells0])
   exact (cell_one hm hk hx').1
 by_cases ha:∃ cs,x = .agg cs
 ·obtain ⟨cs,he⟩:=ha
  exact agg cs he
 ·have hv:vcells0 x=[x]:=by
   cases x <;> first | rfl | exact absurd ⟨_,rfl⟩ ha
  rw [hv] at hc ⊢
  have hk:okC M x=true:=by simpa using hc
  obtain ⟨h1,h2⟩:=cell_one hm hk hx
  rw [h2]
  refine ⟨rfl,by simpa using h1,fun i a b h3 h4=>?_⟩
  cases i with
  | zero=>simp at h3 h4; subst h3; subst h4; exact hx
  | succ i=>simp at h3
theorem cells_rc (hm:MExt M A) {x:AV} {v:Value} (hc:(vcells x).all (okC M)=true) (hx:RV S B w A ρ x v) :
  v.cells.size=(vcells x).length∧(∀ u ∈ v.cells.toList,u.oneCell'=true)∧∀ (i:Nat) a b,(vcells x)[i]? = some a→v.cells[i]? = some b→RV S B w A ρ a b:=by
 have hc0:(vcells0 x).all (okC M)=true:=by
  rw [List.all_eq_true] at hc ⊢
  intro y hy
  have:=hc (stripC y) (by simp only [vcells,List.mem_map]; exact ⟨y,hy,rfl⟩)
  rwa [strip_ok] at this
 obtain ⟨h1,h2,h3⟩:=cells0_rc hm hc0 hx
 refine ⟨by simpa [vcells] using h1,h2,fun i a b ha hb=>?_⟩
 simp only [vcells,List.getElem?_map] at ha
 obtain ⟨y,hy,rfl⟩:=Option.map_eq_some_iff.1 ha
 exact strip_rc (h3 i y b hy hb)
theorem stripL_rc {V:Nat→Option Obj} {R:RefF} {x:AV} {v:Value} (hx:RC S V B R x v):RC S V B R (stripL x) v:=by
 cases x with
 | lit t es=>cases hx with
  | lit t es b cs f hb hB hz hs hm hes hc h htr=>exact .slO t es b es.length cs f hb hB hz hs (Nat.le_refl _) hm hes hc h htr
 | pt t es=>exact strip_rc hx
 | _=>exact hx
theorem stripL_ok {M:Mem} {x:AV}:okC M (stripL x)=okC M x:=by cases x <;> rfl
theorem kcells_rc (hm:MExt M A) {kp:Bool} {x:AV} {v:Value} (hc:(kcells kp x).all (okC M)=true) (hx:RV S B w A ρ x v) :
  v.cells.size=(kcells kp x).length∧(∀ u ∈ v.cells.toList,u.oneCell'=true)∧∀ (i:Nat) a b,(kcells kp x)[i]? = some a→v.cells[i]? = some b→RV S B w A ρ a b:=by
 cases kp with
 | false=>exact cells_rc hm hc hx
 | true=>
  have hc0:(vcells0 x).all (okC M)=true:=by
   rw [List.all_eq_true] at hc ⊢
   intro y hy
   have:=hc (stripL y) (by simp only [kcells,List.mem_map]; exact ⟨y,hy,rfl⟩)
   rwa [stripL_ok] at this
  obtain ⟨h1,h2,h3⟩:=cells0_rc hm hc0 hx
  refine ⟨by simpa [kcells] using h1,h2,fun i a b ha hb=>?_⟩
  simp only [kcells,List.getElem?_map] at ha
  obtain ⟨y,hy,rfl⟩:=Option.map_eq_some_iff.1 ha
  exact stripL_rc (h3 i y b hy hb)
end
end Go.Ab
