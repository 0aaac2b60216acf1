/- Rows that are written or grow: how the store follows. -/
import Derived.Test.YtjlalepbhcekoaaAbOps7
import Derived.Laws.OwnMore
set_option linter.unusedVariables false
set_option linter.unusedSimpArgs false
namespace Go.Ab
open Go Go.RowKit
def Row (S:TypeId→Nat) (V:Nat→Option Obj) (B:Nat) (R:RefF) (s:Nat) (es:List (List AV)) (xs:List Value):Prop:=
 xs.length=es.length * s∧(∀ e ∈ es,e.length=s)∧∀ (i j:Nat) e x v,es[i]? = some e→e[j]? = some x→xs[i * s + j]? = some v→RC S V B R x v
section
variable {S:TypeId→Nat} {V V':Nat→Option Obj} {B:Nat} {R R':RefF} {s:Nat} {es es':List (List AV)} {xs xs':List Value}
theorem Row.nil:Row S V B R s [] []:=⟨by simp,by simp,by simp⟩
theorem Row.mono (hV:VLe V V') (hR:RefLe R R') (h:Row S V B R s es xs):Row S V' B R' s es xs:=
 ⟨h.1,h.2.1,fun i j e x v h1 h2 h3=>(h.2.2 i j e x v h1 h2 h3).mono hV (Nat.le_refl _) hR⟩
theorem Row.append (h:Row S V B R s es xs) (h':Row S V B R s es' xs'):Row S V B R s (es++es') (xs++xs'):=by
 refine ⟨by simp [h.1,h'.1,Nat.add_mul],fun e he=>?_,fun i j e x v h1 h2 h3=>?_⟩
 ·rcases List.mem_append.1 he with he | he
  ·exact h.2.1 e he
  ·exact h'.2.1 e he
 ·have hel:e.length=s:=by
   rcases List.mem_append.1 (List.mem_of_getElem? h1) with he | he
   ·exact h.2.1 e he
   ·exact h'.2.1 e he
  have hj:j < s:=by have:=(List.getElem?_eq_some_iff.1 h2).1; omega
  by_cases hi:i < es.length
  ·have hlt:i * s + j < xs.length:=by
    rw [h.1]
    calc i * s + j < i * s + s:=by omega
     _=(i + 1) * s:=by rw [Nat.succ_mul]
     _≤es.length * s:=Nat.mul_le_mul_right _ hi
   rw [List.getElem?_append_left hi] at h1
   rw [List.getElem?_append_left hlt] at h3
   exact h.2.2 i j e x v h1 h2 h3
  ·obtain ⟨k,rfl⟩:∃ k,i=es.length + k:=⟨i - es.length,by omega⟩
   have e3:(es.length + k) * s + j=xs.length + (k * s + j):=by rw [Nat.add_mul,h.1]; omega
   rw [e3] at h3
   rw [List.getElem?_append_right (by omega)] at h1 h3
   exact h'.2.2 k j e x v (by simpa using h1) h2 (by simpa using h3)
theorem Row.take (h:Row S V B R s es xs) {n:Nat} (hn:n≤es.length):Row S V B R s (es.take n) (xs.take (n * s)):=by
 refine ⟨?_,fun e he=>h.2.1 e (List.mem_of_mem_take he),fun i j e x v h1 h2 h3=>?_⟩
 ·have:n * s≤es.length * s:=Nat.mul_le_mul_right _ hn
  have:=h.1
  simp only [List.length_take,Nat.min_eq_left hn]
  omega
 ·rw [List.getElem?_take] at h1 h3
  split at h1 <;> split at h3 <;> first | exact h.2.2 i j e x v h1 h2 h3 | cases h1 | cases h3
theorem Row.drop (h:Row S V B R s es xs) {n:Nat} (hn:n≤es.length):Row S V B R s (es.drop n) (xs.drop (n * s)):=by
 refine ⟨?_,fun e he=>h.2.1 e (List.mem_of_mem_drop he),fun i j e x v h1 h2 h3=>?_⟩
 ·simp only [List.length_drop,h.1,Nat.sub_mul]
 ·rw [List.getElem?_drop] at h1 h3
  exact h.2.2 (n + i) j e x v h1 h2 (by rw [show (n + i) * s + j=n * s + (i * s + j) by rw [Nat.add_mul]; omega]; exact h3)
theorem Row.of_lie (h:Lie S V B R (fun k=>xs[k]?) s es):Row S V B R s es (xs.take (es.length * s)):=by
 obtain ⟨h1,h2,f,h3,h4⟩:=h
 refine ⟨?_,h2,fun i j e x v g1 g2 g3=>?_⟩
 ·rw [List.length_take,Nat.min_eq_left]
  by_cases h0:es.length=0
  ·simp [h0]
  ·have:=h3 (es.length - 1) (s - 1) (by omega) (by omega)
   have hlt:=(List.getElem?_eq_some_iff.1 this).1
   have:es.length * s=(es.length - 1) * s + s:=by
    obtain ⟨k,hk⟩:∃ k,es.length=k + 1:=⟨es.length - 1,by omega⟩
    rw [hk,Nat.succ_mul]; simp
   omega
 ·rw [List.getElem?_take] at g3
  split at g3
  ·have hi:=(List.getElem?_eq_some_iff.1 g1).1
   have hj:=(List.getElem?_eq_some_iff.1 g2).1
   rw [h2 e (List.mem_of_getElem? g1)] at hj
   have:=h3 i j hi hj
   simp only at this
   rw [this] at g3
   obtain rfl:=Option.some.inj g3
   exact h4 i j e x g1 g2
  ·cases g3
theorem Row.cell (h:Row S V B R s es xs) {i j:Nat} (hi:i < es.length) (hj:j < s):xs[i * s + j]? = some (xs.getD (i * s + j) Go.undef):=by
 refine getD_some _ ?_
 rw [h.1]
 calc i * s + j < i * s + s:=by omega
  _=(i + 1) * s:=by rw [Nat.succ_mul]
  _≤es.length * s:=Nat.mul_le_mul_right _ hi
end
section
variable {P:Program} {S:TypeId→Nat} {B:Nat} {w w':World} {M A A':Mem} {ρ ρ':Pm}
theorem obj_row (hA:MR S B w A ρ) {id b cap:Nat} {o:Ob} (h:A[id]? = some (.live o)) (hp:ρ id=some (b,cap)) :
  ∃ cs,w.heap[b]? = some (.cells cs o.t (0,0))∧cs.size=cap * o.s∧o.es.length≤cap∧cap≤maxLen∧0 < o.s∧B≤b∧Row S (View w A ρ) B (Ref A ρ) o.s o.es (cs.toList.take (o.es.length * o.s)):=by
 obtain ⟨cs,k1,k2,k3,k4,k5⟩:=obj_lie hA h hp
 exact ⟨cs,k1,k2,k3,k4,k5.1,hA.lo.2 id o b cap h hp,Row.of_lie (by simpa using k5)⟩
def Pl.block (p:Pl):Option Nat:=p.map (·.1)
theorem row_step (hA:MR S B w A ρ) {id:Nat} {o:Ob} (h:A[id]? = some (.live o)) (hg:w.grownBy w' (Pl.block (ρ id))) {en:Ent} {p:Pl}
  (hen:en = .dead∨∃ es',en = .live { o with es:=es' }∧((o.kn = .grow∧o.es.length < es'.length)∨(es'.length=o.es.length∧p=ρ id)))
  (hp:∀ b c,p=some (b,c)→Pl.block (ρ id)=some b∨w.heap.size≤b):Step w A ρ w' (A.set id en) (rput ρ id p):=by
 have hlt:=(List.getElem?_eq_some_iff.1 h).1
 refine ⟨hg.os,hg.tape,hg.output,hg.size,fun b hb hn=>hg.block b hb (fun e=>hn ?_),fun id' L=>?_,fun b hb hh=>?_,rfl,fun id' ⟨o',g1,g2,g3⟩=>by
  by_cases he:id'=id
  ·subst he
   rw [h] at g1
   cases g1
   rcases hen with rfl | ⟨es',rfl,hl⟩
   ·exact .inr (by rw [List.getElem?_set_self hlt])
   ·rcases hl with ⟨k3,_⟩ | ⟨_,k3⟩
    ·rw [g2] at k3; cases k3
    ·exact .inl ⟨{ o with es:=es' },by rw [List.getElem?_set_self hlt],g2,by simp only [rput,if_true]; rw [k3]; exact g3⟩
  ·exact .inl ⟨o',by rw [List.getElem?_set_ne (Ne.symm he)]; exact g1,g2,by simp only [rput,if_neg he]; exact g3⟩⟩
 ·cases hq:ρ id with
  | none=>rw [hq] at e; simp [Pl.block] at e
  | some q=>
   obtain ⟨b',c⟩:=q
   rw [hq] at e
   simp only [Pl.block,Option.map_some,Option.some.injEq] at e
   subst e
   exact ⟨id,o,c,h,hq⟩
 ·by_cases he:id'=id
  ·subst he
   rcases hen with rfl | ⟨es',rfl,hl⟩
   ·have:Ref (A.set id' Ent.dead) (rput ρ id' p) id' L=some none:=by simp [Ref,hlt]
    rw [this]
    exact ⟨fun _=>rfl,fun _ _=>.inl rfl⟩
   ·by_cases hph:o.kn = .box∧ρ id'=none
    ·rw [Ref.ph ⟨o,h,hph.1,hph.2⟩]
     exact ⟨fun e=>(by cases e),fun x e=>(by cases e)⟩
    have hph2:¬ (o.kn = .box∧p=none):=by
     rintro ⟨k1,k2⟩
     rcases hl with ⟨k3,_⟩ | ⟨_,k3⟩
     ·rw [k1] at k3; cases k3
     ·exact hph ⟨k1,by rw [← k3]; exact k2⟩
    have e1:Ref A ρ id' L=(if o.es.length=L then some (some (ρ id',o.s)) else if L < o.es.length then some none else none):=by simp only [Ref,h]; rw [if_neg hph]
    have e2:Ref (A.set id' (Ent.live { o with es:=es' })) (rput ρ id' p) id' L=(if es'.length=L then some (some (p,o.s)) else if L < es'.length then some none else none):=by
     simp only [Ref,List.getElem?_set_self hlt,rput,if_true]; rw [if_neg hph2]
    replace hl:o.es.length < es'.length∨(es'.length=o.es.length∧p=ρ id'):=hl.imp (fun h=>h.2) id
    rw [e1,e2]
    constructor
    ·intro e
     split at e
     ·cases e
     ·split at e
      ·rw [if_neg (by omega),if_pos (by omega)]
      ·cases e
    ·intro x e
     split at e
     ·rename_i hL
      obtain rfl:=Option.some.inj (Option.some.inj e)
      rcases hl with hl | ⟨hl,rfl⟩
      ·exact .inl (by rw [if_neg (by omega),if_pos (by omega)])
      ·exact .inr (by rw [if_pos (by omega)])
     ·split at e <;> cases e
  ·have:Ref (A.set id en) (rput ρ id p) id' L=Ref A ρ id' L:=by simp [Ref,List.getElem?_set_ne (Ne.symm he),rput,he]
   rw [this]
   exact ⟨fun e=>e,fun x e=>.inr e⟩
 ·obtain ⟨id',o',c,h1,h2⟩:=hh
  by_cases he:id'=id
  ·subst he
   simp only [rput,if_true] at h2
   rcases hp b c h2 with hb' | hb'
   ·cases hq:ρ id' with
    | none=>rw [hq] at hb'; simp [Pl.block] at hb'
    | some q=>
     obtain ⟨b',c'⟩:=q
     rw [hq] at hb'
     simp only [Pl.block,Option.map_some,Option.some.injEq] at hb'
     subst hb'
     exact ⟨id',o,c',h,hq⟩
   ·omega
  ·rw [List.getElem?_set_ne (Ne.symm he)] at h1
   simp only [rput,if_neg he] at h2
   exact ⟨id',o',c,h1,h2⟩
theorem row_mr (hA:MR S B w A ρ) {id:Nat} {o:Ob} (h:A[id]? = some (.live o)) (hg:w.grownBy w' (Pl.block (ρ id))) {en:Ent} {p:Pl}
  (hen:en = .dead∨∃ es',en = .live { o with es:=es' }∧((o.kn = .grow∧o.es.length < es'.length)∨(es'.length=o.es.length∧p=ρ id)))
  (hp:∀ b c,p=some (b,c)→Pl.block (ρ id)=some b∨w.heap.size≤b)
  (hob:Step w A ρ w' (A.set id en) (rput ρ id p)→∀ ob,en = .live ob→ObR S w' (View w' (A.set id en) (rput ρ id p)) B (Ref (A.set id en) (rput ρ id p)) ob p):MR S B w' (A.set id en) (rput ρ id p):=by
 have hst:=row_step hA h hg hen hp
 have hlt:=(List.getElem?_eq_some_iff.1 h).1
 have other:∀ id' o',id'≠id→(A.set id en)[id']? = some (.live o')→A[id']? = some (.live o')∧∀ b c,ρ id'=some (b,c)→some b≠Pl.block (ρ id)∧b < w.heap.size:=by
  intro id' o' hne h1
  rw [List.getElem?_set_ne (Ne.symm hne)] at h1
  refine ⟨h1,fun b c hb=>⟨fun e=>?_,held_lt hA ⟨id',o',c,h1,hb⟩⟩⟩
  cases hq:ρ id with
  | none=>rw [hq] at e; simp [Pl.block] at e
  | some q=>
   obtain ⟨b',c'⟩:=q
   rw [hq] at e
   simp only [Pl.block,Option.map_some,Option.some.injEq] at e
   subst e
   exact hne (hA.inj id' id o' o b c c' h1 h hb hq)
 have self:∀ o',(A.set id en)[id]? = some (.live o')→en = .live o':=by
  intro o' h1
  rw [List.getElem?_set_self hlt] at h1
  exact Option.some.inj h1
 refine ⟨fun id' o' h1=>?_,fun id1 id2 o1 o2 b c c' h1 h2 h3 h4=>?_,hA.hid,⟨Nat.le_trans hA.lo.1 hg.size,fun id' o' b c h1 h2=>?_⟩,hA.fx.mono (Nat.le_refl _) fun b hb=>hg.block b (Nat.lt_of_lt_of_le hb hA.lo.1) fun e=>by
  cases hq:ρ id with
  | none=>rw [hq] at e; simp [Pl.block] at e
  | some q=>
   obtain ⟨b',c'⟩:=q
   rw [hq] at e
   simp only [Pl.block,Option.map_some,Option.some.injEq] at e
   subst e
   have:=hA.lo.2 id o _ _ h hq
   omega⟩
 ·by_cases he:id'=id
  ·subst he
   have:=hob hst o' (self o' h1)
   simpa [rput] using this
  ·obtain ⟨g1,g2⟩:=other id' o' he h1
   obtain ⟨a1,a2,a3,a4,a5⟩:=hA.obj id' o' g1
   refine ⟨a1,a2,a3,a4,?_⟩
   simp only [rput,if_neg he]
   cases hq:ρ id' with
   | none=>rw [hq] at a5; exact a5
   | some q=>
    obtain ⟨b,cap⟩:=q
    rw [hq] at a5
    obtain ⟨cs,f,k1,k2,k3,k4,k5,k6,k7⟩:=a5
    exact ⟨cs,f,by rw [hg.block b (g2 b cap hq).2 (g2 b cap hq).1]; exact k1,k2,k3,k4,k5,k6,fun i j e x he hx=>hst.rv (k7 i j e x he hx)⟩
 ·by_cases e1:id1=id <;> by_cases e2:id2=id
  ·omega
  ·subst e1
   obtain ⟨g1,g2⟩:=other id2 o2 e2 h2
   simp only [rput,if_true] at h3
   simp only [rput,if_neg e2] at h4
   rcases hp b c h3 with k | k
   ·exact absurd k.symm (g2 b c' h4).1
   ·have:=(g2 b c' h4).2; omega
  ·subst e2
   obtain ⟨g1,g2⟩:=other id1 o1 e1 h1
   simp only [rput,if_true] at h4
   simp only [rput,if_neg e1] at h3
   rcases hp b c' h4 with k | k
   ·exact absurd k.symm (g2 b c h3).1
   ·have:=(g2 b c h3).2; omega
  ·simp only [rput,if_neg e1] at h3
   simp only [rput,if_neg e2] at h4
   exact hA.inj id1 id2 o1 o2 b c c' (other id1 o1 e1 h1).1 (other id2 o2 e2 h2).1 h3 h4
 ·by_cases he:id'=id
  ·subst he
   simp only [rput,if_true] at h2
   rcases hp b c h2 with k | k
   ·cases hq:ρ id' with
    | none=>rw [hq] at k; simp [Pl.block] at k
    | some q=>
     obtain ⟨b',c'⟩:=q
     rw [hq] at k
     simp only [Pl.block,Option.map_some,Option.some.injEq] at k
     subst k
     exact hA.lo.2 id' o b' c' h hq
   ·exact Nat.le_trans hA.lo.1 k
  ·simp only [rput,if_neg he] at h2
   exact hA.lo.2 id' o' b c (other id' o' he h1).1 h2
theorem obr_of_row {V:Nat→Option Obj} {R:RefF} {ob:Ob} {b cap:Nat} {cs:Array Value} (h1:ob.s=S ob.t) (h2:0 < ob.s) (h4:∀ e ∈ ob.es,∀ x ∈ e,cellOk x=true) (hw:w.heap[b]? = some (.cells cs ob.t (0,0)))
  (hz:cs.size=cap * ob.s) (hl:ob.es.length≤cap) (hm:cap≤maxLen) (hbox:ob.kn = .box→ob.es.length=1∧cap=1) (hr:Row S V B R ob.s ob.es (cs.toList.take (ob.es.length * ob.s))):ObR S w V B R ob (some (b,cap)):=by
 refine ⟨h1,h2,hr.2.1,h4,cs,fun i j=>(cs.toList.take (ob.es.length * ob.s)).getD (i * ob.s + j) Go.undef,hw,hz,hl,hm,hbox,fun i j hi hj=>?_,fun i j e x he hx=>?_⟩
 ·have:=hr.cell hi hj
  have h3:=this
  rw [List.getElem?_take] at h3
  split at h3
  ·rw [← this,List.getElem?_take,if_pos (by assumption)]; simp
  ·cases h3
 ·have hi:=(List.getElem?_eq_some_iff.1 he).1
  have hj:=(List.getElem?_eq_some_iff.1 hx).1
  rw [hr.2.1 e (List.mem_of_getElem? he)] at hj
  exact hr.2.2 i j e x _ he hx (hr.cell hi hj)
theorem set_row_grown (w:World) (g:Nat) (cs:Array Value):w.grownBy (w.setRow g cs) (some g):=
 ⟨rfl,rfl,rfl,by simp,fun k _ hk=>setRow_other w g k cs (fun e=>hk (by rw [e]))⟩
end
end Go.Ab
