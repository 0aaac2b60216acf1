/- Nil slices in a new object: rules. -/
import Derived.Test.YtjlalepbhcekoaaAbUnr
set_option linter.unusedVariables false
namespace Go.Ab
open Go
section
variable {S:TypeId→Nat} {P:Program} {n t sz e k:Nat} {r r' cs cs':List AV} {ts ts':List Nat} {gs:List Ob} {x v:AV} {kn:Kn}
def isNils:AV→Bool
 | .nils=>true
 | _=>false
theorem ghz:ghRow S n [] ts=([],[]):=rfl
theorem ghc (hx:isNils x=false) (h:ghRow S n r ts.tail=(r',gs)):ghRow S n (x::r) ts=(x::r',gs):=by
 rw [ghRow_cons]
 split
 ·simp [isNils] at hx
 ·rw [h]
theorem ghn (h:ghRow S (n + 1) r ts'=(r',gs)) (hs:S e=k):ghRow S n (.nils::r) ((e + 1)::ts')=(.lsl n 0 0 0::r',⟨.grow,e,k,[]⟩::gs):=by
 rw [ghRow_cons]
 simp only [h,hs]
theorem gho_one {o:Option (AV×Eff)} (h:o=some (v,.push [⟨kn,t,sz,[cs]⟩])) (hn:nilTys P 6 t=ts) (hg:ghRow P.cellsOf (n + 1) cs ts=(cs',gs)) (hp:(gs.all fun q=>decide (0 < q.s))=true) :
  gho P true n o=some (v,.push (⟨kn,t,sz,[cs']⟩::gs)):=by
 subst h
 simp only [gho,if_true,Option.bind_some,ghE,ghRows,hn,hg,List.append_nil,hp]
theorem stG {M Mg:Mem} {y:AV} {kp:Bool} {q:AV×Eff} (hM:Mg=M++gs.map .live) (hy:y = .agg cs) (hn:nilTys P 6 t=ts) (hg:ghRow P.cellsOf M.length cs ts=(cs',gs)) (hp:(gs.all fun q=>decide (0 < q.s))=true)
  (hst:(aStore kp sz x (.agg cs') Mg).map (fun M'=>(AV.un,Eff.put M'))=some q):oStoreG P t kp sz x y M=some q:=by
 subst hM hy
 unfold oStoreG aStoreG
 simp only [hn,hg,hp,if_true]
 exact hst
end
end Go.Ab
