/- A law's arguments as plain data, and its word. -/
import Derived.Test.YtkdinadmheomfaaGreatAbCallL2
set_option linter.unusedVariables false
namespace Go.Ab
open Go Go.RowKit Go.ChangeShapes Go.WideShapes
def Ly (k:IntKind) (n:Int):Prop:=(Lit.int k n).wf=true
def Hk {τ:Type} (D:Nat) (ok:τ->Prop) (xs:List τ):Prop:=xs.length<=9223372036854775807/\xs.length * D<=140737488351232/\∀ x ∈ xs,ok x
section
variable {P:Program} {t e:TypeId} {k:IntKind} {τ:Type} {c:τ->List AV} {ok:τ->Prop}
theorem Ni (D:P.underlying t=some (.int k)):∀ d xs,Ty P d t xs->∃ n,xs=cI k n/\Ly k n
 | 0,xs,h=>h.elim
 | d + 1,xs,h=>by simp only [Ty,D] at h; exact h
theorem AG {Q:List AV->Prop} (D:∀ xs:List AV,Q xs->∃ x:τ,xs=c x/\ok x):∀ es:List (List AV),(∀ r ∈ es,Q r)->∃ l:List τ,es=l.map c/\∀ x ∈ l,ok x
 | [],_=>⟨[],rfl,by simp⟩
 | r::es,h=>by
  obtain ⟨x,F,G⟩:=D r (h r (by simp))
  obtain ⟨l,I,J⟩:=AG D es (fun r N=>h r (by simp [N]))
  exact ⟨x::l,by simp [F,I],by simp [G]; exact J⟩
theorem NW {b:Nat} (O:P.underlying t=some (.slice e)) (J:P.bytesOf e=b) (N:∀ d xs,Ty P d e xs->∃ x:τ,xs=c x/\ok x):∀ d xs,Ty P d t xs->∃ l,xs=cL c l/\Hk b ok l
 | 0,xs,h=>h.elim
 | d + 1,xs,h=>by
  simp only [Ty,O] at h
  obtain ⟨es,rfl,D,F,G⟩:=h
  obtain ⟨l,rfl,I⟩:=AG (N d) es G
  subst J
  exact ⟨l,rfl,by simpa [maxLen] using D,by simpa [reachBytes] using F,I⟩
theorem Eu {d:Nat} {y:AV} (h:Nu P d t y) (D:Program.cellsAgg P t=false) (F:∀ d xs,Ty P d t xs->∃ x:τ,xs=c x/\ok x):∃ x:τ,[y]=c x/\ok x:=by
 unfold Nu at h
 rw [if_neg (by rw [D]; simp)] at h
 exact F d [y] h
theorem FU {M:bs} {v:AV} {b:Bool} (h:cp M v = .bool b):v = .bool b:=by
 have D:∀ d (v:AV),ls M d v = .bool b->v = .bool b:=by
  intro d v h
  cases d with
  | zero=>cases h
  | succ d=>
   cases v with
   | lsl id L off n=>
    simp only [ls] at h
    split at h
    ·split at h
     ·cases h
     ·unfold z0 at h; split at h <;> cases h
    ·cases h
   | _=>first | exact h | cases h
 have F:∀ v:AV,mb M v = .bool b->v = .bool b:=by
  intro v h
  cases v with
  | lsl id L off n=>
   simp only [mb] at h
   split at h
   ·split at h
    ·cases h
    ·split at h
     ·cases h
     ·exact absurd (D _ _ h) (by simp)
   ·cases h
  | loc id L i j=>
   simp only [mb] at h
   split at h
   ·split at h
    ·split at h <;> cases h
    ·cases h
   ·cases h
  | sl o es=>cases o with
   | none=>exact absurd (D _ _ h) (by simp)
   | some t=>cases h
  | lit t es=>cases h
  | pt o cs=>cases o with
   | none=>exact absurd (D _ _ h) (by simp)
   | some t=>cases h
  | _=>exact D _ _ h
 cases v with
 | tup vs=>cases h
 | agg cs=>cases h
 | _=>exact F _ h
theorem HT {H:Type} {P:Program} {ts:List TypeId} {D:List (DataW H)} (h:(DataW.weightsEach P ts D).all (·<=reachBytes)=true) (j:Nat) {t:TypeId} {d:DataW H} (F:ts[j]? = some t) (G:D[j]? = some d):∀ n ∈ d.weights P t,n<=reachBytes:=fun n I=>by
 have:=List.all_eq_true.1 h n (DataW.weights_mem_each (j:=j) F G n I)
 simpa using this
end
end Go.Ab
