/- Loops on plain data: plain laws. -/
import Derived.Test.YtkdinadmheomfaaGreatAbLaw
import Derived.IntWalk
set_option linter.unusedVariables false
namespace Go.Ab
open Go
theorem lg {n:Int} (h : -9223372036854775808<=n/\n<=9223372036854775807):IntKind.i64.wrap n=n:=IntWalk.i64_in n h
theorem kF {i n:Nat} (h:i < n) (D:n<=4611686018427387904):IntKind.i64.wrap ((i:Int) + 1)=((i + 1:Nat):Int):=by rw [lg (by omega)]; rfl
theorem cS {τ:Type} (xs:List τ) (i:Nat):rd xs (i:Int)=xs[i]? := by simp [rd]
theorem GO {τ:Type} {xs:List τ} {n:Int} (D:0<=n) (h:n < xs.length):rd xs n=some (xs[n.toNat]'(by omega)):=by
 unfold rd; rw [if_pos D,List.getElem?_eq_getElem]
section
variable {S R:Type} {tb:S->Option (S⊕R)}
theorem g7 (D:Nat->S) (n:Nat) {r:R} (h:∀ i,i < n->tb (D i)=some (.inl (D (i + 1)))) (F:tb (D n)=some (.inr r)):Lw tb (D 0)=some r:=by
 induction n generalizing D with
 | zero=>exact fm F
 | succ n G=>
  rw [e9 (h 0 (by omega))]
  exact G (fun i=>D (i + 1)) (fun i I=>h (i + 1) (by omega)) F
theorem sf (D:S->Nat) (F:S->Prop) (Q:R->Prop) (h:∀ s,F s->(∃ s',tb s=some (.inl s')/\F s'/\D s' < D s)∨∃ r,tb s=some (.inr r)/\Q r):∀ (n:Nat) (s:S),D s=n->F s->∃ r,Lw tb s=some r/\Q r:=by
 intro n
 induction n using Nat.strongRecOn with
 | _ n U=>
  intro s Y O
  rcases h s O with ⟨s',G,I,X⟩ | ⟨r,G,I⟩
  ·obtain ⟨r,J,N⟩:=U (D s') (by omega) s' rfl I
   exact ⟨r,by rw [e9 G]; exact J,N⟩
  ·exact ⟨r,fm G,I⟩
theorem BI {G Y:Type} {tb2:G->Option (G⊕Y)} (J:S->Nat) (N:S->G->Prop) (Q:R->Y->Prop)
  (h:∀ s F,N s F->(∃ s' I,tb s=some (.inl s')/\tb2 F=some (.inl I)/\N s' I/\J s' < J s)∨∃ r D,tb s=some (.inr r)/\tb2 F=some (.inr D)/\Q r D) :
  ∀ (n:Nat) (s:S) (F:G),J s=n->N s F->∃ r D,Lw tb s=some r/\Lw tb2 F=some D/\Q r D:=by
 intro n
 induction n using Nat.strongRecOn with
 | _ n ad=>
  intro s F af ac
  rcases h s F ac with ⟨s',I,O,U,X,ae⟩ | ⟨r,D,O,U,X⟩
  ·obtain ⟨r,D,Z,aa,ab⟩:=ad (J s') (by omega) s' I rfl X
   exact ⟨r,D,by rw [e9 O]; exact Z,by rw [e9 U]; exact aa,ab⟩
  ·exact ⟨r,D,fm O,fm U,X⟩
end
theorem Ld {A B:Type} {tb:Int->Option (Int⊕(A⊕B))} (n:Nat) (O:n<=4611686018427387904) (p:Nat->Bool) (a:Nat->A) (b:B)
  (I:∀ i:Nat,i < n->tb (i:Int)=some (if p i=true then .inl (IntKind.i64.wrap ((i:Int) + 1)) else .inr (.inl (a i)))) (U:tb (n:Int)=some (.inr (.inr b))) :
  (∃ m,m < n/\p m=false/\(∀ i,i < m->p i=true)/\Lw tb 0=some (.inl (a m)))∨((∀ i,i < n->p i=true)/\Lw tb 0=some (.inr b)):=by
 by_cases h:∃ m,m < n/\p m=false
 ·obtain ⟨m,G,J⟩:=Cr h
  refine .inl ⟨m,G.1,G.2,fun i D=>?_,?_⟩
  ·cases F:p i with
   | true=>rfl
   | false=>have:=J i ⟨by omega,F⟩; omega
  ·refine g7 (fun i=>(i:Int)) m (fun i D=>?_) ?_
   ·have F:p i=true:=by
     cases F:p i with
     | true=>rfl
     | false=>have:=J i ⟨by omega,F⟩; omega
    rw [I i (by omega),if_pos F,kF (show i < n by omega) O]
   ·rw [I m G.1,if_neg (by rw [G.2]; simp)]
 ·have N:∀ i,i < n->p i=true:=fun i D=>by
   cases F:p i with
   | true=>rfl
   | false=>exact absurd ⟨i,D,F⟩ h
  refine .inr ⟨N,g7 (fun i=>(i:Int)) n (fun i D=>?_) U⟩
  rw [I i D,if_pos (N i D),kF D O]
theorem iK {A B:Type} {tb:Int->Option (Int⊕(A⊕B))} (n:Nat) (N:n<=4611686018427387904) (p:Nat->Bool) (a:A) (b:B)
  (O:∀ i:Nat,i < n->tb (i:Int)=some (if p i=true then .inl (IntKind.i64.wrap ((i:Int) + 1)) else .inr (.inl a))) (I:tb (n:Int)=some (.inr (.inr b))) :
  Lw tb 0=some (if (List.range n).all p=true then .inr b else .inl a):=by
 rcases Ld n N p (fun _=>a) b O I with ⟨m,F,D,_,G⟩ | ⟨F,D⟩
 ·rw [G,if_neg]
  rw [List.all_eq_true]
  intro h
  rw [h m (by simpa using F)] at D
  cases D
 ·rw [D,if_pos]
  rw [List.all_eq_true]
  intro i J
  exact F i (by simpa using J)
theorem BQ {S R:Type} {tb:S->Option (S⊕R)} (G:Nat->S) (n:Nat) (p:Nat->Bool) (O U:R)
  (N:∀ i:Nat,i < n->(∀ j,j < i->p j=true)->tb (G i)=some (if p i=true then .inl (G (i + 1)) else .inr O)) (Y:(∀ j,j < n->p j=true)->tb (G n)=some (.inr U)) :
  Lw tb (G 0)=some (if (List.range n).all p=true then U else O):=by
 by_cases h:∃ m,m < n/\p m=false
 ·obtain ⟨m,I,X⟩:=Cr h
  have F:∀ i,i < m->p i=true:=fun i D=>by
   cases F:p i with
   | true=>rfl
   | false=>have:=X i ⟨by omega,F⟩; omega
  rw [if_neg]
  ·refine g7 G m (fun i D=>?_) ?_
   ·rw [N i (by omega) (fun j Z=>F j (by omega)),if_pos (F i D)]
   ·rw [N m I.1 F,if_neg (by rw [I.2]; simp)]
  ·rw [List.all_eq_true]
   intro h
   have:=h m (by simpa using I.1)
   rw [I.2] at this; cases this
 ·have J:∀ i,i < n->p i=true:=fun i D=>by
   cases F:p i with
   | true=>rfl
   | false=>exact absurd ⟨i,D,F⟩ h
  rw [if_pos]
  ·refine g7 G n (fun i D=>?_) (Y J)
   rw [N i D (fun j Z=>J j (by omega)),if_pos (J i D)]
  ·rw [List.all_eq_true]
   intro i D
   exact J i (by simpa using D)
theorem sV {τ:Type} (q:τ->Bool) (xs:List τ):(List.range xs.length).all (fun i=>(xs[i]?).all q)=xs.all q:=by
 rw [Bool.eq_iff_iff,List.all_eq_true,List.all_eq_true]
 constructor
 ·intro h x G
  obtain ⟨i,D⟩:=List.getElem?_of_mem G
  have F:=(List.getElem?_eq_some_iff.1 D).1
  have:=h i (by simpa using F)
  rw [D] at this
  simpa using this
 ·intro h i D
  have F:i < xs.length:=by simpa using D
  rw [List.getElem?_eq_getElem F]
  simpa using h _ (List.getElem_mem F)
theorem MH {τ:Type} [DecidableEq τ] {xs ys:List τ} (D:xs.length=ys.length):((List.range xs.length).all fun i=>decide (xs[i]? = ys[i]?))=decide (xs=ys):=by
 rw [Bool.eq_iff_iff,List.all_eq_true,decide_eq_true_eq]
 constructor
 ·intro h
  refine List.ext_getElem? fun i=>?_
  by_cases hi:i < xs.length
  ·simpa using h i (by simpa using hi)
  ·rw [List.getElem?_eq_none (by omega),List.getElem?_eq_none (by omega)]
 ·rintro rfl i _; simp
theorem GC {τ:Type} {D:Nat} {z:τ} {n:Nat} (h:n * D<=140737488351232) (F:0 < D):NG D z (n:Int)=some (List.replicate n z):=by
 have G:n<=n * D:=Nat.le_mul_of_pos_right n F
 unfold NG
 rw [if_pos ⟨by omega,by simp; omega,by omega⟩]; simp
theorem fL {τ:Type} {D:Nat} {xs ys:List τ} (h:(xs.length + ys.length) * D<=140737488355328) (F:0 < D):qB D xs ys=some (xs++ys):=by
 have G:=Nat.le_mul_of_pos_right (xs.length + ys.length) F
 unfold qB
 rw [if_pos ⟨h,by omega⟩]
end Go.Ab
