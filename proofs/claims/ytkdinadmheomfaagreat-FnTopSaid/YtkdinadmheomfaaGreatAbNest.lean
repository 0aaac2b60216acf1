/- Rows whose cells hold rows of their own. -/
import Derived.Test.YtkdinadmheomfaaGreatAbWin
set_option linter.unusedVariables false
namespace Go.Ab
open Go
section
variable {τ:Type} {c:τ->List AV} {xs ys zs:List τ} {M:bs} {id L t s sz:Nat} {x y d src:AV} {k:IntKind} {n:Int} {u:τ} {cs:List AV} {P:Program} {ty el:TypeId}
def OR {τ:Type} (c:τ->List AV) (sz:Nat):Prop:=∀ x,(c x).length=sz/\(c x).all gB=true/\(c x).all NX=true/\(c x).all cG=false
theorem DK {M:bs} {x:AV} (h:NX x=true):okC M x=true:=by
 cases x <;> first | rfl | simp [NX,cG] at h
theorem OR.fits (h:OR c sz) (M:bs) {D n:Nat} (ys:List τ) (I:0 < sz) (F:(n + ys.length) * D<=140737488355328) (G:n + ys.length<=140737488355328):fits M sz D n (ys.map c)=true:=by
 unfold Go.Ab.fits
 simp only [Bool.and_eq_true,List.all_eq_true,List.mem_map,decide_eq_true_eq,List.length_map,beq_iff_eq]
 refine ⟨⟨⟨?_,I⟩,F⟩,G⟩
 rintro r ⟨x,_,rfl⟩
 exact ⟨(h x).1,fun y J=>DK (List.all_eq_true.1 (h x).2.2.1 y J)⟩
end
end Go.Ab
