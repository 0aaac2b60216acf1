/- Arrays. -/
import Derived.Test.YtjlalepbhcekoaaAbShort
set_option linter.unusedVariables false
namespace Go.Ab
open Go
structure Ar (n:Nat) (τ:Type) where
 l:List τ
 h:l.length=n
 deriving DecidableEq
section
variable {n:Nat} {τ:Type} {c:τ→List AV} {z:τ} {g:Ar n τ} {u u':τ} {i:Int} {sz m j L r id:Nat} {k kk:IntKind} {x y v:AV} {M:Mem} {o:Ob} {cs pre post:List AV} {K:τ→AV}
def Ar.get (g:Ar n τ) (z:τ) (j:Nat):τ:=g.l.getD j z
def Ar.set (g:Ar n τ) (j:Nat) (x:τ):Ar n τ:=⟨g.l.set j x,by simp [g.h]⟩
end
theorem rz {τ:Type} {c:τ→List AV} {xs:List τ} {n:Int} {u:τ} (h:rd xs n=some u):(xs.map c)[0 + n.toNat]? = some (c u):=by rw [Nat.zero_add]; exact mapg (rd_get h).2
theorem rz2 {τ:Type} {xs:List τ} {n:Int} {u:τ} (h:rd xs n=some u):xs[0 + n.toNat]? = some u:=by rw [Nat.zero_add]; exact (rd_get h).2
theorem si {α:Type} {a b:α} (h:some a=some b):a=b:=Option.some.inj h
end Go.Ab
