/- A law's arguments as plain data, and its word. -/
import Derived.Test.YtjlalepbhcekoaaAbCallL2
set_option linter.unusedVariables false
namespace Go.Ab
open Go Go.RowKit Go.ChangeShapes Go.WideShapes
def InR (k:IntKind) (n:Int):Prop:=(Lit.int k n).wf=true
def okLs {τ:Type} (by_:Nat) (ok:τ→Prop) (xs:List τ):Prop:=xs.length≤9223372036854775807∧xs.length * by_≤140737488351232∧∀ x ∈ xs,ok x
section
variable {P:Program} {t e:TypeId} {k:IntKind} {τ:Type} {c:τ→List AV} {ok:τ→Prop}
theorem ty_int (hu:P.underlying t=some (.int k)):∀ d xs,Ty P d t xs→∃ n,xs=cI k n∧InR k n
 | 0,xs,h=>h.elim
 | d + 1,xs,h=>by simp only [Ty,hu] at h; exact h
theorem lift_rows {Q:List AV→Prop} (he:∀ xs:List AV,Q xs→∃ x:τ,xs=c x∧ok x):∀ es:List (List AV),(∀ r ∈ es,Q r)→∃ l:List τ,es=l.map c∧∀ x ∈ l,ok x
 | [],_=>⟨[],rfl,by simp⟩
 | r::es,h=>by
  obtain ⟨x,h1,h2⟩:=he r (h r (by simp))
  obtain ⟨l,h3,h4⟩:=lift_rows he es (fun r hr=>h r (by simp [hr]))
  exact ⟨x::l,by simp [h1,h3],by simp [h2]; exact h4⟩
theorem ty_sl {b:Nat} (hu:P.underlying t=some (.slice e)) (hb:P.bytesOf e=b) (he:∀ d xs,Ty P d e xs→∃ x:τ,xs=c x∧ok x):∀ d xs,Ty P d t xs→∃ l,xs=cL c l∧okLs b ok l
 | 0,xs,h=>h.elim
 | d + 1,xs,h=>by
  simp only [Ty,hu] at h
  obtain ⟨es,rfl,h1,h2,h3⟩:=h
  obtain ⟨l,rfl,h4⟩:=lift_rows (he d) es h3
  subst hb
  exact ⟨l,rfl,by simpa [maxLen] using h1,by simpa [reachBytes] using h2,h4⟩
theorem tyV_one {d:Nat} {y:AV} (h:TyV P d t y) (ha:Program.cellsAgg P t=false) (he:∀ d xs,Ty P d t xs→∃ x:τ,xs=c x∧ok x):∃ x:τ,[y]=c x∧ok x:=by
 unfold TyV at h
 rw [if_neg (by rw [ha]; simp)] at h
 exact he d [y] h
theorem rRes_bool {M:Mem} {v:AV} {b:Bool} (h:rRes M v = .bool b):v = .bool b:=by
 have one:∀ d (v:AV),rCell M d v = .bool b→v = .bool b:=by
  intro d v h
  cases d with
  | zero=>cases h
  | succ d=>
   cases v with
   | lsl id L off n=>
    simp only [rCell] at h
    split at h
    ·split at h
     ·cases h
     ·unfold treeSl at h; split at h <;> cases h
    ·cases h
   | _=>first | exact h | cases h
 have one1:∀ v:AV,rRes1 M v = .bool b→v = .bool b:=by
  intro v h
  cases v with
  | lsl id L off n=>
   simp only [rRes1] at h
   split at h
   ·split at h
    ·cases h
    ·split at h
     ·cases h
     ·exact absurd (one _ _ h) (by simp)
   ·cases h
  | loc id L i j=>
   simp only [rRes1] at h
   split at h
   ·split at h
    ·split at h <;> cases h
    ·cases h
   ·cases h
  | sl o es=>cases o with
   | none=>exact absurd (one _ _ h) (by simp)
   | some t=>cases h
  | lit t es=>cases h
  | pt o cs=>cases o with
   | none=>exact absurd (one _ _ h) (by simp)
   | some t=>cases h
  | _=>exact one _ _ h
 cases v with
 | tup vs=>cases h
 | agg cs=>cases h
 | _=>exact one1 _ h
theorem sz_arg {H:Type} {P:Program} {ts:List TypeId} {ds:List (DataW H)} (h:(DataW.weightsEach P ts ds).all (·≤reachBytes)=true) (j:Nat) {t:TypeId} {d:DataW H} (h1:ts[j]? = some t) (h2:ds[j]? = some d):∀ n ∈ d.weights P t,n≤reachBytes:=fun n hn=>by
 have:=List.all_eq_true.1 h n (DataW.weights_mem_each (j:=j) h1 h2 n hn)
 simpa using this
end
end Go.Ab
