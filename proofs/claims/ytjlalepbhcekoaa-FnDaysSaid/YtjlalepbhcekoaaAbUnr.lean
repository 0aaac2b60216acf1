/- Loops whose rounds are told one by one; rows of places. -/
import Derived.Test.YtjlalepbhcekoaaAbNest
set_option linter.unusedVariables false
set_option linter.unusedSimpArgs false
namespace Go.Ab
open Go
section
variable {β:Type} {K:Nat→Out→Option β} {Q:β→Prop} {e:Env} {M:Mem} {a:Nat→St} {l:List Nat} {n:Nat}
end
theorem Nf.call {W W':List Nat} {M0 M:Mem} {id:Nat} (h:Fr W M0 M) (hn:Nf W' M id) (hw:∀ j ∈ W',j≠id):Nf W M0 id:=fun i y hi h0=>by
 by_cases hm:i ∈ W'
 ·exact hw i hm
 ·exact hn i y hm (h i y hi h0)
section
variable {τ:Type} {c:τ→List AV} {xs:List τ} {M M' M'':Mem} {id L t s sz:Nat} {v v':AV} {r r' cs cs' vs vs':List AV} {f:AV→Mem→AV×Mem}
theorem frz1_row (ho:M[id]? = some (.live ⟨.grow,t,s,xs.map c⟩)) (hL:L=xs.length) (hf:Fl c sz):frz1 (.lsl id L 0 L) M=(.sl (some t) (xs.map c),M.set id .dead):=by
 subst hL
 simp only [frz1,getOb_of ho (by simp:_=xs.length)]
 rw [if_pos ⟨trivial,trivial,trivial,allTree_map hf⟩]
theorem fz0:frzL f [] M=([],M):=rfl
theorem fz1 (h:f v M=(v',M')) (hr:frzL f r M'=(r',M'')):frzL f (v::r) M=(v'::r',M''):=by simp only [frzL,h,hr]
end
end Go.Ab
