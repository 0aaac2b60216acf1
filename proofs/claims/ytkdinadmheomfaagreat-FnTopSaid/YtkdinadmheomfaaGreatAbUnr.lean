/- Loops whose rounds are told one by one; rows of places. -/
import Derived.Test.YtkdinadmheomfaaGreatAbNest
set_option linter.unusedVariables false
set_option linter.unusedSimpArgs false
namespace Go.Ab
open Go
section
variable {β:Type} {K:Nat->oZ->Option β} {Q:β->Prop} {e:b4} {M:bs} {a:Nat->St} {l:List Nat} {n:Nat}
end
theorem Nf.call {W W':List Nat} {M0 M:bs} {id:Nat} (h:Fr W M0 M) (G:Nf W' M id) (I:∀ j ∈ W',j≠id):Nf W M0 id:=fun i y F D=>by
 by_cases hm:i ∈ W'
 ·exact I i hm
 ·exact G i y hm (h i y F D)
section
variable {τ:Type} {c:τ->List AV} {xs:List τ} {M M' M'':bs} {id L t s sz:Nat} {v v':AV} {r r' cs cs' vs vs':List AV} {f:AV->bs->AV×bs}
theorem t7 (G:M[id]? = some (.live ⟨.grow,t,s,xs.map c⟩)) (D:L=xs.length) (F:Fl c sz):li (.lsl id L 0 L) M=(.sl (some t) (xs.map c),M.set id .dead):=by
 subst D
 simp only [li,gU G (by simp:_=xs.length)]
 rw [if_pos ⟨trivial,trivial,trivial,yf F⟩]
theorem OC {x:AV} {y:AV} {D:bs} (F:D=M.set id .dead) (h:li x M=(y,M.set id .dead)):li x M=(y,D):=by rw [F]; exact h
theorem Gx:kY f [] M=([],M):=rfl
theorem AN (h:f v M=(v',M')) (D:kY f r M'=(r',M'')):kY f (v::r) M=(v'::r',M''):=by simp only [kY,h,D]
end
end Go.Ab
