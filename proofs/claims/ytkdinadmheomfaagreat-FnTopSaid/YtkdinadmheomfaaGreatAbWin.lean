/- Windows of rows: a slice that leads to the beginning of its row. -/
import Derived.Test.YtkdinadmheomfaaGreatAbArr
set_option linter.unusedVariables false
namespace Go.Ab
open Go
section
variable {τ:Type} {c:τ->List AV} {xs ys zs:List τ} {n m:Nat} {M:bs} {id L t s sz:Nat} {kn:Kn} {x y d src:AV} {k:IntKind} {h:Int} {u:τ}
end
end Go.Ab
