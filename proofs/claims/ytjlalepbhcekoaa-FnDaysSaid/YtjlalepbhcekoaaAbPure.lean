/- Loops on plain data: plain laws. -/
import Derived.Test.YtjlalepbhcekoaaAbLaw
import Derived.IntWalk
set_option linter.unusedVariables false
namespace Go.Ab
open Go
theorem w64 {n:Int} (h : -9223372036854775808≤n∧n≤9223372036854775807):IntKind.i64.wrap n=n:=IntWalk.i64_in n h
theorem w64s {i n:Nat} (h:i < n) (hn:n≤4611686018427387904):IntKind.i64.wrap ((i:Int) + 1)=((i + 1:Nat):Int):=by rw [w64 (by omega)]; rfl
theorem rd_coe {τ:Type} (xs:List τ) (i:Nat):rd xs (i:Int)=xs[i]? := by simp [rd]
theorem rd_in {τ:Type} {xs:List τ} {n:Int} (h0:0≤n) (h:n < xs.length):rd xs n=some (xs[n.toNat]'(by omega)):=by
 unfold rd; rw [if_pos h0,List.getElem?_eq_getElem]
section
variable {S R:Type} {tb:S→Option (S⊕R)}
theorem Lw_run (st:Nat→S) (n:Nat) {r:R} (h:∀ i,i < n→tb (st i)=some (.inl (st (i + 1)))) (he:tb (st n)=some (.inr r)):Lw tb (st 0)=some r:=by
 induction n generalizing st with
 | zero=>exact Lw_stop he
 | succ n ih=>
  rw [Lw_step (h 0 (by omega))]
  exact ih (fun i=>st (i + 1)) (fun i hi=>h (i + 1) (by omega)) he
theorem Lw_meas (μ:S→Nat) (I:S→Prop) (Q:R→Prop) (h:∀ s,I s→(∃ s',tb s=some (.inl s')∧I s'∧μ s' < μ s)∨∃ r,tb s=some (.inr r)∧Q r):∀ (n:Nat) (s:S),μ s=n→I s→∃ r,Lw tb s=some r∧Q r:=by
 intro n
 induction n using Nat.strongRecOn with
 | _ n ih=>
  intro s hs hi
  rcases h s hi with ⟨s',h1,h2,h3⟩ | ⟨r,h1,h2⟩
  ·obtain ⟨r,g1,g2⟩:=ih (μ s') (by omega) s' rfl h2
   exact ⟨r,by rw [Lw_step h1]; exact g1,g2⟩
  ·exact ⟨r,Lw_stop h1,h2⟩
theorem Lw_sim {S2 R2:Type} {tb2:S2→Option (S2⊕R2)} (μ:S→Nat) (I:S→S2→Prop) (Q:R→R2→Prop)
  (h:∀ s s2,I s s2→(∃ s' s2',tb s=some (.inl s')∧tb2 s2=some (.inl s2')∧I s' s2'∧μ s' < μ s)∨∃ r r2,tb s=some (.inr r)∧tb2 s2=some (.inr r2)∧Q r r2) :
  ∀ (n:Nat) (s:S) (s2:S2),μ s=n→I s s2→∃ r r2,Lw tb s=some r∧Lw tb2 s2=some r2∧Q r r2:=by
 intro n
 induction n using Nat.strongRecOn with
 | _ n ih=>
  intro s s2 hs hi
  rcases h s s2 hi with ⟨s',s2',h1,h2,h3,h4⟩ | ⟨r,r2,h1,h2,h3⟩
  ·obtain ⟨r,r2,g1,g2,g3⟩:=ih (μ s') (by omega) s' s2' rfl h3
   exact ⟨r,r2,by rw [Lw_step h1]; exact g1,by rw [Lw_step h2]; exact g2,g3⟩
  ·exact ⟨r,r2,Lw_stop h1,Lw_stop h2,h3⟩
end
theorem scan_at {A B:Type} {tb:Int→Option (Int⊕(A⊕B))} (n:Nat) (hn:n≤4611686018427387904) (p:Nat→Bool) (a:Nat→A) (b:B)
  (hs:∀ i:Nat,i < n→tb (i:Int)=some (if p i=true then .inl (IntKind.i64.wrap ((i:Int) + 1)) else .inr (.inl (a i)))) (he:tb (n:Int)=some (.inr (.inr b))) :
  (∃ m,m < n∧p m=false∧(∀ i,i < m→p i=true)∧Lw tb 0=some (.inl (a m)))∨((∀ i,i < n→p i=true)∧Lw tb 0=some (.inr b)):=by
 by_cases h:∃ m,m < n∧p m=false
 ·obtain ⟨m,h1,h2⟩:=least h
  refine .inl ⟨m,h1.1,h1.2,fun i hi=>?_,?_⟩
  ·cases hp:p i with
   | true=>rfl
   | false=>have:=h2 i ⟨by omega,hp⟩; omega
  ·refine Lw_run (fun i=>(i:Int)) m (fun i hi=>?_) ?_
   ·have hp:p i=true:=by
     cases hp:p i with
     | true=>rfl
     | false=>have:=h2 i ⟨by omega,hp⟩; omega
    rw [hs i (by omega),if_pos hp,w64s (show i < n by omega) hn]
   ·rw [hs m h1.1,if_neg (by rw [h1.2]; simp)]
 ·have hall:∀ i,i < n→p i=true:=fun i hi=>by
   cases hp:p i with
   | true=>rfl
   | false=>exact absurd ⟨i,hi,hp⟩ h
  refine .inr ⟨hall,Lw_run (fun i=>(i:Int)) n (fun i hi=>?_) he⟩
  rw [hs i hi,if_pos (hall i hi),w64s hi hn]
theorem scan_all {A B:Type} {tb:Int→Option (Int⊕(A⊕B))} (n:Nat) (hn:n≤4611686018427387904) (p:Nat→Bool) (a:A) (b:B)
  (hs:∀ i:Nat,i < n→tb (i:Int)=some (if p i=true then .inl (IntKind.i64.wrap ((i:Int) + 1)) else .inr (.inl a))) (he:tb (n:Int)=some (.inr (.inr b))) :
  Lw tb 0=some (if (List.range n).all p=true then .inr b else .inl a):=by
 rcases scan_at n hn p (fun _=>a) b hs he with ⟨m,h1,h2,_,h3⟩ | ⟨h1,h2⟩
 ·rw [h3,if_neg]
  rw [List.all_eq_true]
  intro h
  rw [h m (by simpa using h1)] at h2
  cases h2
 ·rw [h2,if_pos]
  rw [List.all_eq_true]
  intro i hi
  exact h1 i (by simpa using hi)
theorem scan_st {S R:Type} {tb:S→Option (S⊕R)} (st:Nat→S) (n:Nat) (p:Nat→Bool) (ra rb:R)
  (hs:∀ i:Nat,i < n→(∀ j,j < i→p j=true)→tb (st i)=some (if p i=true then .inl (st (i + 1)) else .inr ra)) (he:(∀ j,j < n→p j=true)→tb (st n)=some (.inr rb)) :
  Lw tb (st 0)=some (if (List.range n).all p=true then rb else ra):=by
 by_cases h:∃ m,m < n∧p m=false
 ·obtain ⟨m,h1,h2⟩:=least h
  have hp:∀ i,i < m→p i=true:=fun i hi=>by
   cases hp:p i with
   | true=>rfl
   | false=>have:=h2 i ⟨by omega,hp⟩; omega
  rw [if_neg]
  ·refine Lw_run st m (fun i hi=>?_) ?_
   ·rw [hs i (by omega) (fun j hj=>hp j (by omega)),if_pos (hp i hi)]
   ·rw [hs m h1.1 hp,if_neg (by rw [h1.2]; simp)]
  ·rw [List.all_eq_true]
   intro h
   have:=h m (by simpa using h1.1)
   rw [h1.2] at this; cases this
 ·have hall:∀ i,i < n→p i=true:=fun i hi=>by
   cases hp:p i with
   | true=>rfl
   | false=>exact absurd ⟨i,hi,hp⟩ h
  rw [if_pos]
  ·refine Lw_run st n (fun i hi=>?_) (he hall)
   rw [hs i hi (fun j hj=>hall j (by omega)),if_pos (hall i hi)]
  ·rw [List.all_eq_true]
   intro i hi
   exact hall i (by simpa using hi)
theorem all_get {τ:Type} (q:τ→Bool) (xs:List τ):(List.range xs.length).all (fun i=>(xs[i]?).all q)=xs.all q:=by
 rw [Bool.eq_iff_iff,List.all_eq_true,List.all_eq_true]
 constructor
 ·intro h x hx
  obtain ⟨i,hi⟩:=List.getElem?_of_mem hx
  have hlt:=(List.getElem?_eq_some_iff.1 hi).1
  have:=h i (by simpa using hlt)
  rw [hi] at this
  simpa using this
 ·intro h i hi
  have hlt:i < xs.length:=by simpa using hi
  rw [List.getElem?_eq_getElem hlt]
  simpa using h _ (List.getElem_mem hlt)
theorem app_some {τ:Type} {by_:Nat} {xs ys:List τ} (h:(xs.length + ys.length) * by_≤140737488355328) (hb:0 < by_):app by_ xs ys=some (xs++ys):=by
 have h1:=Nat.le_mul_of_pos_right (xs.length + ys.length) hb
 unfold app
 rw [if_pos ⟨h,by omega⟩]
end Go.Ab
