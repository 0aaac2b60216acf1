/- Rows whose cells hold rows of their own. -/
import Derived.Test.YtjlalepbhcekoaaAbWin
set_option linter.unusedVariables false
namespace Go.Ab
open Go
section
variable {τ:Type} {c:τ→List AV} {xs ys zs:List τ} {M:Mem} {id L t s sz:Nat} {x y d src:AV} {k:IntKind} {n:Int} {u:τ} {cs:List AV} {P:Program} {ty el:TypeId}
def FlC {τ:Type} (c:τ→List AV) (sz:Nat):Prop:=∀ x,(c x).length=sz∧(c x).all cellOk=true∧(c x).all nOk=true∧(c x).all treeOk=false
theorem cellOk_okC {M:Mem} {x:AV} (h:nOk x=true):okC M x=true:=by
 cases x <;> first | rfl | simp [nOk,treeOk] at h
theorem FlC.fits (h:FlC c sz) (M:Mem) {by_ n:Nat} (ys:List τ) (hs:0 < sz) (h1:(n + ys.length) * by_≤140737488355328) (h2:n + ys.length≤140737488355328):fits M sz by_ n (ys.map c)=true:=by
 unfold Go.Ab.fits
 simp only [Bool.and_eq_true,List.all_eq_true,List.mem_map,decide_eq_true_eq,List.length_map,beq_iff_eq]
 refine ⟨⟨⟨?_,hs⟩,h1⟩,h2⟩
 rintro r ⟨x,_,rfl⟩
 exact ⟨(h x).1,fun y hy=>cellOk_okC (List.all_eq_true.1 (h x).2.2.1 y hy)⟩
end
end Go.Ab
