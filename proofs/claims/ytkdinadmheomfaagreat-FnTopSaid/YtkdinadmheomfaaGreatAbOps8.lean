/- Rows that are written or grow: how the store follows. -/
import Derived.Test.YtkdinadmheomfaaGreatAbOps7
import Derived.Laws.OwnMore
set_option linter.unusedVariables false
set_option linter.unusedSimpArgs false
namespace Go.Ab
open Go Go.RowKit
def se (S:TypeId->Nat) (V:Nat->Option Obj) (B:Nat) (R:gC) (s:Nat) (es:List (List AV)) (xs:List Value):Prop:=
 xs.length=es.length * s/\(∀ e ∈ es,e.length=s)/\∀ (i j:Nat) e x v,es[i]? = some e->e[j]? = some x->xs[i * s + j]? = some v->RC S V B R x v
section
variable {S:TypeId->Nat} {V V':Nat->Option Obj} {B:Nat} {R R':gC} {s:Nat} {es es':List (List AV)} {xs xs':List Value}
theorem se.nil:se S V B R s [] []:=⟨by simp,by simp,by simp⟩
theorem se.mono (hV:zb V V') (I:rk R R') (h:se S V B R s es xs):se S V' B R' s es xs:=
 ⟨h.1,h.2.1,fun i j e x v D F G=>(h.2.2 i j e x v D F G).mono hV (Nat.le_refl _) I⟩
theorem se.append (h:se S V B R s es xs) (I:se S V B R s es' xs'):se S V B R s (es++es') (xs++xs'):=by
 refine ⟨by simp [h.1,I.1,Nat.add_mul],fun e D=>?_,fun i j e x v F J G=>?_⟩
 ·rcases List.mem_append.1 D with D | D
  ·exact h.2.1 e D
  ·exact I.2.1 e D
 ·have U:e.length=s:=by
   rcases List.mem_append.1 (List.mem_of_getElem? F) with D | D
   ·exact h.2.1 e D
   ·exact I.2.1 e D
  have X:j < s:=by have:=(List.getElem?_eq_some_iff.1 J).1; omega
  by_cases hi:i < es.length
  ·have O:i * s + j < xs.length:=by
    rw [h.1]
    calc i * s + j < i * s + s:=by omega
     _=(i + 1) * s:=by rw [Nat.succ_mul]
     _<=es.length * s:=Nat.mul_le_mul_right _ hi
   rw [List.getElem?_append_left hi] at F
   rw [List.getElem?_append_left O] at G
   exact h.2.2 i j e x v F J G
  ·obtain ⟨k,rfl⟩:∃ k,i=es.length + k:=⟨i - es.length,by omega⟩
   have N:(es.length + k) * s + j=xs.length + (k * s + j):=by rw [Nat.add_mul,h.1]; omega
   rw [N] at G
   rw [List.getElem?_append_right (by omega)] at F G
   exact I.2.2 k j e x v (by simpa using F) J (by simpa using G)
theorem se.take (h:se S V B R s es xs) {n:Nat} (G:n<=es.length):se S V B R s (es.take n) (xs.take (n * s)):=by
 refine ⟨?_,fun e J=>h.2.1 e (List.mem_of_mem_take J),fun i j e x v D I F=>?_⟩
 ·have:n * s<=es.length * s:=Nat.mul_le_mul_right _ G
  have:=h.1
  simp only [List.length_take,Nat.min_eq_left G]
  omega
 ·rw [List.getElem?_take] at D F
  split at D <;> split at F <;> first | exact h.2.2 i j e x v D I F | cases D | cases F
theorem se.drop (h:se S V B R s es xs) {n:Nat} (J:n<=es.length):se S V B R s (es.drop n) (xs.drop (n * s)):=by
 refine ⟨?_,fun e I=>h.2.1 e (List.mem_of_mem_drop I),fun i j e x v D G F=>?_⟩
 ·simp only [List.length_drop,h.1,Nat.sub_mul]
 ·rw [List.getElem?_drop] at D F
  exact h.2.2 (n + i) j e x v D G (by rw [show (n + i) * s + j=n * s + (i * s + j) by rw [Nat.add_mul]; omega]; exact F)
theorem se.of_lie (h:FZ S V B R (fun k=>xs[k]?) s es):se S V B R s es (xs.take (es.length * s)):=by
 obtain ⟨Y,I,f,J,O⟩:=h
 refine ⟨?_,I,fun i j e x v F G D=>?_⟩
 ·rw [List.length_take,Nat.min_eq_left]
  by_cases h0:es.length=0
  ·simp [h0]
  ·have:=J (es.length - 1) (s - 1) (by omega) (by omega)
   have Z:=(List.getElem?_eq_some_iff.1 this).1
   have:es.length * s=(es.length - 1) * s + s:=by
    obtain ⟨k,X⟩:∃ k,es.length=k + 1:=⟨es.length - 1,by omega⟩
    rw [X,Nat.succ_mul]; simp
   omega
 ·rw [List.getElem?_take] at D
  split at D
  ·have U:=(List.getElem?_eq_some_iff.1 F).1
   have N:=(List.getElem?_eq_some_iff.1 G).1
   rw [I e (List.mem_of_getElem? F)] at N
   have:=J i j U N
   simp only at this
   rw [this] at D
   obtain rfl:=Option.some.inj D
   exact O i j e x F G
  ·cases D
theorem se.cell (h:se S V B R s es xs) {i j:Nat} (D:i < es.length) (F:j < s):xs[i * s + j]? = some (xs.getD (i * s + j) Go.undef):=by
 refine getD_some _ ?_
 rw [h.1]
 calc i * s + j < i * s + s:=by omega
  _=(i + 1) * s:=by rw [Nat.succ_mul]
  _<=es.length * s:=Nat.mul_le_mul_right _ D
end
section
variable {P:Program} {S:TypeId->Nat} {B:Nat} {w w':World} {M A A':bs} {ρ ρ':Pm}
theorem po (hA:MR S B w A ρ) {id b cap:Nat} {o:Ob} (h:A[id]? = some (.live o)) (D:ρ id=some (b,cap)) :
  ∃ cs,w.heap[b]? = some (.cells cs o.t (0,0))/\cs.size=cap * o.s/\o.es.length<=cap/\cap<=maxLen/\0 < o.s/\B<=b/\se S (dc w A ρ) B (jK A ρ) o.s o.es (cs.toList.take (o.es.length * o.s)):=by
 obtain ⟨cs,G,I,J,N,F⟩:=uq hA h D
 exact ⟨cs,G,I,J,N,F.1,hA.lo.2 id o b cap h D,se.of_lie (by simpa using F)⟩
def Pl.block (p:Pl):Option Nat:=p.map (·.1)
theorem lP (hA:MR S B w A ρ) {id:Nat} {o:Ob} (h:A[id]? = some (.live o)) (I:w.grownBy w' (Pl.block (ρ id))) {J:Ent} {p:Pl}
  (ac:J = .dead∨∃ es',J = .live { o with es:=es' }/\((o.kn = .grow/\o.es.length < es'.length)∨(es'.length=o.es.length/\p=ρ id)))
  (am:∀ b c,p=some (b,c)->Pl.block (ρ id)=some b∨w.heap.size<=b):Step w A ρ w' (A.set id J) (fJ ρ id p):=by
 have O:=(List.getElem?_eq_some_iff.1 h).1
 refine ⟨I.os,I.tape,I.output,I.size,fun b ab ak=>I.block b ab (fun e=>ak ?_),fun D L=>?_,fun b ab aj=>?_,rfl,fun D ⟨Y,U,X,Z⟩=>by
  by_cases he:D=id
  ·subst he
   rw [h] at U
   cases U
   rcases ac with rfl | ⟨es',rfl,G⟩
   ·exact .inr (by rw [List.getElem?_set_self O])
   ·rcases G with ⟨F,_⟩ | ⟨_,F⟩
    ·rw [X] at F; cases F
    ·exact .inl ⟨{ o with es:=es' },by rw [List.getElem?_set_self O],X,by simp only [fJ,if_true]; rw [F]; exact Z⟩
  ·exact .inl ⟨Y,by rw [List.getElem?_set_ne (Ne.symm he)]; exact U,X,by simp only [fJ,if_neg he]; exact Z⟩⟩
 ·cases hq:ρ id with
  | none=>rw [hq] at e; simp [Pl.block] at e
  | some q=>
   obtain ⟨ae,c⟩:=q
   rw [hq] at e
   simp only [Pl.block,Option.map_some,Option.some.injEq] at e
   subst e
   exact ⟨id,o,c,h,hq⟩
 ·by_cases he:D=id
  ·subst he
   rcases ac with rfl | ⟨es',rfl,G⟩
   ·have:jK (A.set D Ent.dead) (fJ ρ D p) D L=some none:=by simp [jK,O]
    rw [this]
    exact ⟨fun _=>rfl,fun _ _=>.inl rfl⟩
   ·by_cases hph:o.kn = .box/\ρ D=none
    ·rw [jK.ph ⟨o,h,hph.1,hph.2⟩]
     exact ⟨fun e=>(by cases e),fun x e=>(by cases e)⟩
    have an:¬ (o.kn = .box/\p=none):=by
     rintro ⟨ad,ao⟩
     rcases G with ⟨F,_⟩ | ⟨_,F⟩
     ·rw [ad] at F; cases F
     ·exact hph ⟨ad,by rw [<- F]; exact ao⟩
    have ah:jK A ρ D L=(if o.es.length=L then some (some (ρ D,o.s)) else if L < o.es.length then some none else none):=by simp only [jK,h]; rw [if_neg hph]
    have ai:jK (A.set D (Ent.live { o with es:=es' })) (fJ ρ D p) D L=(if es'.length=L then some (some (p,o.s)) else if L < es'.length then some none else none):=by
     simp only [jK,List.getElem?_set_self O,fJ,if_true]; rw [if_neg an]
    replace G:o.es.length < es'.length∨(es'.length=o.es.length/\p=ρ D):=G.imp (fun h=>h.2) id
    rw [ah,ai]
    constructor
    ·intro e
     split at e
     ·cases e
     ·split at e
      ·rw [if_neg (by omega),if_pos (by omega)]
      ·cases e
    ·intro x e
     split at e
     ·rename_i ap
      obtain rfl:=Option.some.inj (Option.some.inj e)
      rcases G with G | ⟨G,rfl⟩
      ·exact .inl (by rw [if_neg (by omega),if_pos (by omega)])
      ·exact .inr (by rw [if_pos (by omega)])
     ·split at e <;> cases e
  ·have:jK (A.set id J) (fJ ρ id p) D L=jK A ρ D L:=by simp [jK,List.getElem?_set_ne (Ne.symm he),fJ,he]
   rw [this]
   exact ⟨fun e=>e,fun x e=>.inr e⟩
 ·obtain ⟨D,Y,c,aa,N⟩:=aj
  by_cases he:D=id
  ·subst he
   simp only [fJ,if_true] at N
   rcases am b c N with hb' | hb'
   ·cases hq:ρ D with
    | none=>rw [hq] at hb'; simp [Pl.block] at hb'
    | some q=>
     obtain ⟨ae,af⟩:=q
     rw [hq] at hb'
     simp only [Pl.block,Option.map_some,Option.some.injEq] at hb'
     subst hb'
     exact ⟨D,o,af,h,hq⟩
   ·omega
  ·rw [List.getElem?_set_ne (Ne.symm he)] at aa
   simp only [fJ,if_neg he] at N
   exact ⟨D,Y,c,aa,N⟩
theorem sk (hA:MR S B w A ρ) {id:Nat} {o:Ob} (h:A[id]? = some (.live o)) (ac:w.grownBy w' (Pl.block (ρ id))) {I:Ent} {p:Pl}
  (ar:I = .dead∨∃ es',I = .live { o with es:=es' }/\((o.kn = .grow/\o.es.length < es'.length)∨(es'.length=o.es.length/\p=ρ id)))
  (ad:∀ b c,p=some (b,c)->Pl.block (ρ id)=some b∨w.heap.size<=b)
  (av:Step w A ρ w' (A.set id I) (fJ ρ id p)->∀ ob,I = .live ob->NZ S w' (dc w' (A.set id I) (fJ ρ id p)) B (jK (A.set id I) (fJ ρ id p)) ob p):MR S B w' (A.set id I) (fJ ρ id p):=by
 have am:=lP hA h ac ar ad
 have au:=(List.getElem?_eq_some_iff.1 h).1
 have Z:∀ D F,D≠id->(A.set id I)[D]? = some (.live F)->A[D]? = some (.live F)/\∀ b c,ρ D=some (b,c)->some b≠Pl.block (ρ id)/\b < w.heap.size:=by
  intro D F ak G
  rw [List.getElem?_set_ne (Ne.symm ak)] at G
  refine ⟨G,fun b c ab=>⟨fun e=>?_,qI hA ⟨D,F,c,G,ab⟩⟩⟩
  cases hq:ρ id with
  | none=>rw [hq] at e; simp [Pl.block] at e
  | some q=>
   obtain ⟨ah,J⟩:=q
   rw [hq] at e
   simp only [Pl.block,Option.map_some,Option.some.injEq] at e
   subst e
   exact ak (hA.inj D id F o b c J G h ab hq)
 have aE:∀ F,(A.set id I)[id]? = some (.live F)->I = .live F:=by
  intro F G
  rw [List.getElem?_set_self au] at G
  exact Option.some.inj G
 refine ⟨fun D F G=>?_,fun ae af aj o2 b c J G U X Y=>?_,hA.hid,⟨Nat.le_trans hA.lo.1 ac.size,fun D F b c G U=>?_⟩,hA.fx.mono (Nat.le_refl _) fun b ab=>ac.block b (Nat.lt_of_lt_of_le ab hA.lo.1) fun e=>by
  cases hq:ρ id with
  | none=>rw [hq] at e; simp [Pl.block] at e
  | some q=>
   obtain ⟨ah,J⟩:=q
   rw [hq] at e
   simp only [Pl.block,Option.map_some,Option.some.injEq] at e
   subst e
   have:=hA.lo.2 id o _ _ h hq
   omega⟩
 ·by_cases N:D=id
  ·subst N
   have:=av am F (aE F G)
   simpa [fJ] using this
  ·obtain ⟨ai,O⟩:=Z D F N G
   obtain ⟨an,ao,ap,aq,aa⟩:=hA.obj D F ai
   refine ⟨an,ao,ap,aq,?_⟩
   simp only [fJ,if_neg N]
   cases hq:ρ D with
   | none=>rw [hq] at aa; exact aa
   | some q=>
    obtain ⟨b,cap⟩:=q
    rw [hq] at aa
    obtain ⟨cs,f,ax,ay,az,aA,aB,aC,aD⟩:=aa
    exact ⟨cs,f,by rw [ac.block b (O b cap hq).2 (O b cap hq).1]; exact ax,ay,az,aA,aB,aC,fun i j e x N aw=>am.rv (aD i j e x N aw)⟩
 ·by_cases e1:ae=id <;> by_cases e2:af=id
  ·omega
  ·subst e1
   obtain ⟨ai,O⟩:=Z af o2 e2 U
   simp only [fJ,if_true] at X
   simp only [fJ,if_neg e2] at Y
   rcases ad b c X with k | k
   ·exact absurd k.symm (O b J Y).1
   ·have:=(O b J Y).2; omega
  ·subst e2
   obtain ⟨ai,O⟩:=Z ae aj e1 G
   simp only [fJ,if_true] at Y
   simp only [fJ,if_neg e1] at X
   rcases ad b J Y with k | k
   ·exact absurd k.symm (O b c X).1
   ·have:=(O b c X).2; omega
  ·simp only [fJ,if_neg e1] at X
   simp only [fJ,if_neg e2] at Y
   exact hA.inj ae af aj o2 b c J (Z ae aj e1 G).1 (Z af o2 e2 U).1 X Y
 ·by_cases N:D=id
  ·subst N
   simp only [fJ,if_true] at U
   rcases ad b c U with k | k
   ·cases hq:ρ D with
    | none=>rw [hq] at k; simp [Pl.block] at k
    | some q=>
     obtain ⟨ah,J⟩:=q
     rw [hq] at k
     simp only [Pl.block,Option.map_some,Option.some.injEq] at k
     subst k
     exact hA.lo.2 D o ah J h hq
   ·exact Nat.le_trans hA.lo.1 k
  ·simp only [fJ,if_neg N] at U
   exact hA.lo.2 D F b c (Z D F N G).1 U
theorem sT {V:Nat->Option Obj} {R:gC} {ob:Ob} {b cap:Nat} {cs:Array Value} (O:ob.s=S ob.t) (U:0 < ob.s) (X:∀ e ∈ ob.es,∀ x ∈ e,gB x=true) (ab:w.heap[b]? = some (.cells cs ob.t (0,0)))
  (ac:cs.size=cap * ob.s) (Z:ob.es.length<=cap) (aa:cap<=maxLen) (Y:ob.kn = .box->ob.es.length=1/\cap=1) (D:se S V B R ob.s ob.es (cs.toList.take (ob.es.length * ob.s))):NZ S w V B R ob (some (b,cap)):=by
 refine ⟨O,U,D.2.1,X,cs,fun i j=>(cs.toList.take (ob.es.length * ob.s)).getD (i * ob.s + j) Go.undef,ab,ac,Z,aa,Y,fun i j J F=>?_,fun i j e x I N=>?_⟩
 ·have:=D.cell J F
  have G:=this
  rw [List.getElem?_take] at G
  split at G
  ·rw [<- this,List.getElem?_take,if_pos (by assumption)]; simp
  ·cases G
 ·have J:=(List.getElem?_eq_some_iff.1 I).1
  have F:=(List.getElem?_eq_some_iff.1 N).1
  rw [D.2.1 e (List.mem_of_getElem? I)] at F
  exact D.2.2 i j e x _ I N (D.cell J F)
theorem qT (w:World) (g:Nat) (cs:Array Value):w.grownBy (w.setRow g cs) (some g):=
 ⟨rfl,rfl,rfl,by simp,fun k _ D=>setRow_other w g k cs (fun e=>D (by rw [e]))⟩
end
end Go.Ab
