/- New blocks: how the store grows; parts put together; boxes, literals, make. -/
import Derived.Test.YtkdinadmheomfaaGreatAbOps4
import Derived.Great.BuildSlice
import Derived.Below
set_option linter.unusedVariables false
set_option linter.unusedSimpArgs false
namespace Go.Ab
open Go Go.RowKit
section
variable {S:TypeId->Nat} {B:Nat} {w w':World} {M A A':bs} {ρ ρ':Pm}
theorem qI (hA:MR S B w A ρ) {b:Nat} (h:oQ A ρ b):b < w.heap.size:=by
 obtain ⟨id,o,c,D,F⟩:=h
 obtain ⟨cs,G,_⟩:=uq hA D F
 exact (Array.getElem?_eq_some_iff.1 G).1
theorem uu (hA:MR S B w A ρ) (G:Below w.heap.size w w') (aa:ρ'.hid=ρ.hid)
  (hid:∀ id,(A'[id]? = A[id]?/\ρ' id=ρ id)∨(A[id]? = some .pend/\∃ ob,A'[id]? = some (.live ob)/\∀ b cap,ρ' id=some (b,cap)->w.heap.size<=b)):Step w A ρ w' A' ρ':=by
 refine ⟨G.os,G.tape,G.output,G.size,fun b O _=>G.block b O,fun id L=>?_,fun b O Z=>?_,aa,fun id ⟨o,I,U,X⟩=>by
  rcases hid id with ⟨D,F⟩ | ⟨D,_⟩
  ·exact .inl ⟨o,by rw [D]; exact I,U,by rw [F]; exact X⟩
  ·rw [D] at I; cases I⟩
 ·rcases hid id with ⟨D,F⟩ | ⟨D,_⟩
  ·have:jK A' ρ' id L=jK A ρ id L:=by simp [jK,D,F]
   rw [this]
   exact ⟨fun e=>e,fun x e=>.inr e⟩
  ·have:jK A ρ id L=none:=by simp [jK,D]
   rw [this]
   exact ⟨fun e=>(by cases e),fun x e=>(by cases e)⟩
 ·obtain ⟨id,o,c,D,F⟩:=Z
  rcases hid id with ⟨J,N⟩ | ⟨J,ob,N,Y⟩
  ·exact ⟨id,o,c,by rw [<- J]; exact D,by rw [<- N]; exact F⟩
  ·have:=Y b c F
   omega
theorem BY (hA:MR S B w A ρ) (aa:Below w.heap.size w w') (ae:ρ'.hid=ρ.hid)
  (hid:∀ id,(A'[id]? = A[id]?/\ρ' id=ρ id)∨(A[id]? = some .pend/\∃ ob,A'[id]? = some (.live ob)/\∀ b cap,ρ' id=some (b,cap)->w.heap.size<=b))
  (ar:∀ id ob,A[id]? = some .pend->A'[id]? = some (.live ob)->NZ S w' (dc w' A' ρ') B (jK A' ρ') ob (ρ' id))
  (ap:∀ (id F:Nat) b c N,A[id]? = some .pend->A[F]? = some .pend->ρ' id=some (b,c)->ρ' F=some (b,N)->(∃ o,A'[id]? = some (.live o))->(∃ o,A'[F]? = some (.live o))->id=F):MR S B w' A' ρ':=by
 have au:=uu hA aa ae hid
 have ah:∀ id o,A'[id]? = some (.live o)->A'[id]? = A[id]?->∀ b c,ρ' id=some (b,c)->ρ' id=ρ id->b < w.heap.size:=by
  intro id o J I b c O U
  exact qI hA ⟨id,o,c,by rw [<- I]; exact J,by rw [<- U]; exact O⟩
 refine ⟨fun id o h=>?_,fun id F o ad b c N J I O U=>?_,fun b Z=>hA.hid b (by rw [ae] at Z; exact Z),⟨Nat.le_trans hA.lo.1 aa.size,fun id o b c J I=>?_⟩,hA.fx.mono (Nat.le_refl _) fun b Z=>aa.block b (Nat.lt_of_lt_of_le Z hA.lo.1)⟩
 ·rcases hid id with ⟨D,G⟩ | ⟨D,_⟩
  ·have an:A[id]? = some (.live o):=by rw [<- D]; exact h
   obtain ⟨ai,aj,ak,am,Y⟩:=hA.obj id o an
   refine ⟨ai,aj,ak,am,?_⟩
   rw [G]
   cases hp:ρ id with
   | none=>rw [hp] at Y; exact Y
   | some p=>
    obtain ⟨b,cap⟩:=p
    rw [hp] at Y
    obtain ⟨cs,f,af,aw,ax,ay,az,aA,aB⟩:=Y
    have aq:=(Array.getElem?_eq_some_iff.1 af).1
    exact ⟨cs,f,by rw [aa.block b aq]; exact af,aw,ax,ay,az,aA,fun i j e x ao av=>au.rv (aB i j e x ao av)⟩
  ·exact ar id o D h
 ·rcases hid id with ⟨D,G⟩ | ⟨D,ob,G,ab⟩ <;> rcases hid F with ⟨X,ac⟩ | ⟨X,aC,ac,f3⟩
  ·exact hA.inj id F o ad b c N (by rw [<- D]; exact J) (by rw [<- X]; exact I) (by rw [<- G]; exact O) (by rw [<- ac]; exact U)
  ·have:=ah id o J D b c O G
   have:=f3 b N U
   omega
  ·have:=ah F ad I X b N U ac
   have:=ab b c O
   omega
  ·exact ap id F b c N D X O U ⟨o,J⟩ ⟨ad,I⟩
 ·rcases hid id with ⟨D,G⟩ | ⟨D,ob,G,ab⟩
  ·exact hA.lo.2 id o b c (by rw [<- D]; exact J) (by rw [<- G]; exact I)
  ·exact Nat.le_trans hA.lo.1 (ab b c I)
def fJ (ρ:Pm) (n:Nat) (p:Pl):Pm:=⟨fun i=>if i=n then p else ρ i,ρ.hid⟩
theorem zm (hA:MR S B w A ρ) (O:Below w.heap.size w w') {n:Nat} (X:A[n]? = some .pend) (ob:Ob) (p:Pl) (ac:∀ b cap,p=some (b,cap)->w.heap.size<=b)
  (ab:Step w A ρ w' (A.set n (.live ob)) (fJ ρ n p)->NZ S w' (dc w' (A.set n (.live ob)) (fJ ρ n p)) B (jK (A.set n (.live ob)) (fJ ρ n p)) ob p) :
  Step w A ρ w' (A.set n (.live ob)) (fJ ρ n p)/\MR S B w' (A.set n (.live ob)) (fJ ρ n p):=by
 have U:=(List.getElem?_eq_some_iff.1 X).1
 have N:∀ id,((A.set n (.live ob))[id]? = A[id]?/\fJ ρ n p id=ρ id)∨(A[id]? = some .pend/\∃ I,(A.set n (.live ob))[id]? = some (.live I)/\∀ b cap,fJ ρ n p id=some (b,cap)->w.heap.size<=b):=by
  intro id
  by_cases h:id=n
  ·subst h
   exact .inr ⟨X,ob,by simp [U],fun b cap aa=>ac b cap (by simpa [fJ] using aa)⟩
  ·exact .inl ⟨by rw [List.getElem?_set_ne (Ne.symm h)],by simp [fJ,h]⟩
 have Y:=uu (ρ':=fJ ρ n p) hA O rfl N
 refine ⟨Y,BY hA O rfl N (fun id I G F=>?_) (fun id ad b c ae G F af ah Z J=>?_)⟩
 ·by_cases h:id=n
  ·subst h
   have:ob=I:=by simpa [U] using F
   subst this
   simpa [fJ] using ab Y
  ·rw [List.getElem?_set_ne (Ne.symm h),G] at F
   cases F
 ·by_cases h:id=n <;> by_cases h':ad=n
  ·omega
  ·obtain ⟨o,D⟩:=J
   rw [List.getElem?_set_ne (Ne.symm h'),F] at D
   cases D
  ·obtain ⟨o,D⟩:=Z
   rw [List.getElem?_set_ne (Ne.symm h),G] at D
   cases D
  ·obtain ⟨o,D⟩:=J
   rw [List.getElem?_set_ne (Ne.symm h'),F] at D
   cases D
theorem rM (hA:MR S B w A ρ) (I:Below w.heap.size w w'):Step w A ρ w' A ρ/\MR S B w' A ρ:=by
 have G:∀ id,(A[id]? = A[id]?/\ρ id=ρ id)∨(A[id]? = some .pend/\∃ ob,A[id]? = some (.live ob)/\∀ b cap,ρ id=some (b,cap)->w.heap.size<=b):=fun id=>.inl ⟨rfl,rfl⟩
 exact ⟨uu hA I rfl G,BY hA I rfl G (fun id ob D F=>by rw [D] at F; cases F) (fun id Z b c O D F U X N Y=>by obtain ⟨o,J⟩:=N; rw [D] at J; cases J)⟩
theorem Da (hA:MR S B w A ρ) (o:Obj):dc (w.alloc o) A ρ w.heap.size=some o:=by
 rw [dc.of_not (fun h=>by have:=qI hA h; omega) (fun h=>by have:=hA.hid _ h; have:=hA.lo.1; omega)]
 exact heap_alloc_new w o
theorem m6 (w:World) (o:Obj):Below w.heap.size w (w.alloc o):=(Below.refl _ _).alloc (Nat.le_refl _) o
theorem DI {M:bs} {x:AV} (h:cG x=true):okC M x=true:=by cases x <;> first | rfl | simp [cG] at h
theorem Al {x:AV} (h:cG x=true):gB x=true:=by cases x <;> first | rfl | simp [cG] at h
theorem DZ {M:bs} {l:List AV} (h:l.all cG=true):l.all (okC M)=true:=by
 rw [List.all_eq_true] at h ⊢
 exact fun x D=>DI (h x D)
theorem mq {M:bs} {x:AV} (h:okC M x=true):gB x=true:=by
 unfold okC at h
 split at h
 ·rfl
 ·rfl
 ·exact h
theorem z7 (G:fN M A) {x:AV} {v:Value} (h:okC M x=true) (F:RV S B w A ρ x v):v.oneCell'=true/\v.cells = #[v]:=by
 cases x with
 | lsl id L off n=>
  obtain ⟨ob,D⟩:=kR (by simpa [okC] using h)
  rcases jO G F D with ⟨b,cap,_,_,rfl⟩ | ⟨_,_,_,_,rfl⟩ <;> exact ⟨rfl,rfl⟩
 | loc id L i j=>
  obtain ⟨ob,D⟩:=kR (by simpa [okC] using h)
  obtain ⟨b,cap,_,_,rfl⟩:=qG G F D
  exact ⟨rfl,rfl⟩
 | _=>simp [okC,gB] at h <;> cases F <;> exact ⟨rfl,rfl⟩
theorem lN {V:Nat->Option Obj} {R:gC} {x:AV} {v:Value} (ad:RC S V B R x v):RC S V B R (so x) v:=by
 cases ad with
 | slON t=>exact .slN none 0 (fun _=>rfl)
 | slO t es b cap cs f N Y Z J F aa O D h I=>
  by_cases G:es=[]
  ·subst G; exact .slN _ _ (fun h=>by cases h)
  ·exact .slB es b 0 cap (S t) f G J O (fun i j U X=>by simp only [jJ,N,Nat.zero_add]; exact D i j U X) h F I
 | lit t es b cs f N Y Z J aa O D h I=>
  by_cases G:es=[]
  ·subst G; exact .slN _ _ (fun h=>by cases h)
  ·exact .slB es b 0 es.length (S t) f G J O (fun i j U X=>by simp only [jJ,N,Nat.zero_add]; exact D i j U X) h (Nat.le_refl _) I
 | ptO t cs b c f N Y Z F J D h I=>
  exact .ptB cs b 0 f (by intro e; subst e; simp at F; omega) (fun j X=>by simp only [jJ,N,Nat.zero_add]; exact D j X) h I
 | undef v=>exact .undef v
 | un=>exact .un
 | int k n=>exact .int k n
 | bool b=>exact .bool b
 | ub b=>exact .ub b
 | str s b h=>exact .str s b h
 | agg cs vs F h=>exact .agg cs vs F h
 | nils=>exact .nils
 | nilp=>exact .nilp
 | slN a c h=>exact .slN a c h
 | sle a c=>exact .sle a c
 | slB es b off c s f G J O D h ab I=>exact .slB es b off c s f G J O D h ab I
 | ptB cs b off f G D h I=>exact .ptB cs b off f G D h I
 | nslO t es b cap cs f N Y Z J F aa O D h=>exact .nslO t es b cap cs f N Y Z J F aa O D h
 | nptB cs b off f D h=>exact .nptB cs b off f D h
 | locS id L i j v h=>exact .locS id L i j v h
 | locV id L i j b cap s h U=>exact .locV id L i j b cap s h U
 | lslS id L off n v h=>exact .lslS id L off n v h
 | lslV id L off n b cap s h ac=>exact .lslV id L off n b cap s h ac
 | lslN id s h=>exact .lslN id s h
 | fn f cap vs F h=>exact .fn f cap vs F h
 | tup cs vs F h=>exact .tup cs vs F h
theorem IB {M:bs} {x:AV}:okC M (so x)=okC M x:=by cases x <;> rfl
theorem xj (U:fN M A) {x:AV} {v:Value} (F:(im x).all (okC M)=true) (J:RV S B w A ρ x v) :
  v.cells.size=(im x).length/\(∀ u ∈ v.cells.toList,u.oneCell'=true)/\∀ (i:Nat) a b,(im x)[i]? = some a->v.cells[i]? = some b->RV S B w A ρ a b:=by
 have agg:∀ cs,x = .agg cs->v.cells.size=(im x).length/\(∀ u ∈ v.cells.toList,u.oneCell'=true)/\∀ (i:Nat) a b,(im x)[i]? = some a->v.cells[i]? = some b->RV S B w A ρ a b:=by
  intro cs G
  subst G
  cases J with
  | agg _ vs aa h=>
   refine ⟨aa.symm,fun u ab=>?_,h⟩
   obtain ⟨i,Z⟩:=List.getElem?_of_mem (show u ∈ vs.toList from ab)
   have O:vs[i]? = some u:=by simpa using Z
   have ae:i < vs.size:=(Array.getElem?_eq_some_iff.1 O).1
   have ad:=h i cs[i] u (by simp [show i < cs.length by omega]) O
   have I:=List.all_eq_true.1 F cs[i] (by simp [im])
   exact (z7 U I ad).1
 by_cases ha:∃ cs,x = .agg cs
 ·obtain ⟨cs,G⟩:=ha
  exact agg cs G
 ·have ac:im x=[x]:=by
   cases x <;> first | rfl | exact absurd ⟨_,rfl⟩ ha
  rw [ac] at F ⊢
  have I:okC M x=true:=by simpa using F
  obtain ⟨X,Y⟩:=z7 U I J
  rw [Y]
  refine ⟨rfl,by simpa using X,fun i a b D N=>?_⟩
  cases i with
  | zero=>simp at D N; subst D; subst N; exact J
  | succ i=>simp at D
theorem zR (X:fN M A) {x:AV} {v:Value} (G:(fV x).all (okC M)=true) (Y:RV S B w A ρ x v) :
  v.cells.size=(fV x).length/\(∀ u ∈ v.cells.toList,u.oneCell'=true)/\∀ (i:Nat) a b,(fV x)[i]? = some a->v.cells[i]? = some b->RV S B w A ρ a b:=by
 have U:(im x).all (okC M)=true:=by
  rw [List.all_eq_true] at G ⊢
  intro y D
  have:=G (so y) (by simp only [fV,List.mem_map]; exact ⟨y,D,rfl⟩)
  rwa [IB] at this
 obtain ⟨I,J,N⟩:=xj X U Y
 refine ⟨by simpa [fV] using I,J,fun i a b F O=>?_⟩
 simp only [fV,List.getElem?_map] at F
 obtain ⟨y,D,rfl⟩:=Option.map_eq_some_iff.1 F
 exact lN (N i y b D O)
theorem Gr {V:Nat->Option Obj} {R:gC} {x:AV} {v:Value} (D:RC S V B R x v):RC S V B R (Br x) v:=by
 cases x with
 | lit t es=>cases D with
  | lit t es b cs f G F X O N J I h U=>exact .slO t es b es.length cs f G F X O (Nat.le_refl _) N J I h U
 | pt t es=>exact lN D
 | _=>exact D
theorem Gn {M:bs} {x:AV}:okC M (Br x)=okC M x:=by cases x <;> rfl
theorem Bf (I:fN M A) {kp:Bool} {x:AV} {v:Value} (D:(ec kp x).all (okC M)=true) (J:RV S B w A ρ x v) :
  v.cells.size=(ec kp x).length/\(∀ u ∈ v.cells.toList,u.oneCell'=true)/\∀ (i:Nat) a b,(ec kp x)[i]? = some a->v.cells[i]? = some b->RV S B w A ρ a b:=by
 cases kp with
 | false=>exact zR I D J
 | true=>
  have Y:(im x).all (okC M)=true:=by
   rw [List.all_eq_true] at D ⊢
   intro y F
   have:=D (Br y) (by simp only [ec,List.mem_map]; exact ⟨y,F,rfl⟩)
   rwa [Gn] at this
  obtain ⟨N,O,U⟩:=xj I Y J
  refine ⟨by simpa [ec] using N,O,fun i a b G X=>?_⟩
  simp only [ec,List.getElem?_map] at G
  obtain ⟨y,F,rfl⟩:=Option.map_eq_some_iff.1 G
  exact Gr (U i y b F X)
end
end Go.Ab
