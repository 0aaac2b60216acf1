/- More rules. -/
import Derived.Test.YtjlalepbhcekoaaAbCallL
set_option linter.unusedVariables false
namespace Go.Ab
open Go
theorem ite_some {α:Type} {b:Bool} {x y:Option α} {r:α} (h:(if b=true then x else y)=some r):(b=true∧x=some r)∨(b=false∧y=some r):=by
 cases b
 ·exact .inr ⟨rfl,by simpa using h⟩
 ·exact .inl ⟨rfl,by simpa using h⟩
theorem bnd1 {d n:Int} {x:AV} {k:IntKind} (h:x = .int k n):bound d (some x)=some n:=by subst h; rfl
theorem lslL {x:AV} {id L L':Nat} (h:x = .lsl id L 0 L) (hL:L=L'):x = .lsl id L' 0 L':=by subst hL; exact h
def bQ {S R:Type} (RS:S→Env→Mem→Prop) (RR:R→Ex→Env→Mem→Prop) (r:S⊕R):Out→Prop:=fun q=>match r with | .inl s'=>q.1 = .nrm∧RS s' q.2.1 q.2.2 | .inr r'=>q.1≠.nrm∧RR r' q.1 q.2.1 q.2.2
theorem bQ_n {S R:Type} {RS:S→Env→Mem→Prop} {RR:R→Ex→Env→Mem→Prop} {s:S} {e:Env} {M:Mem} (h:RS s e M):bQ RS RR (.inl s) (.nrm,e,M):=⟨rfl,h⟩
theorem bQ_x {S R:Type} {RS:S→Env→Mem→Prop} {RR:R→Ex→Env→Mem→Prop} {r:R} {x:Ex} {e:Env} {M:Mem} (hx:x≠.nrm) (h:RR r x e M):bQ RS RR (.inr r) (x,e,M):=⟨hx,h⟩
inductive GS (α:Type) where
 | nil | own (l:List α) | tree (l:List α)
def GS.list {α:Type}:GS α→List α
 | .nil=>[]
 | .own l=>l
 | .tree l=>l
section
variable {τ:Type} {c:τ→List AV} {xs:List τ} {n t sz:Nat} {S:TypeId→Nat}
theorem th_gen {v v':AV} {l:List Ob} (ho:ownAll v=true) (ht:thaw S n v=(v',l)) (ha:apartT l=true) (hs:(l.all fun o=>decide (0 < o.s))=true):thawed S n v=some (v',.push l):=by
 unfold thawed
 rw [ht,if_pos ⟨ho,ha,hs⟩]
theorem own_agg {cs:List AV} (h:cs.all own1=true):ownAll (.agg cs)=true:=h
theorem own2_agg {cs:List AV} (h:cs.all own1=true):own2 (.agg cs)=true:=h
theorem own_tup {vs:List AV} (h:vs.all own2=true):ownAll (.tup vs)=true:=h
theorem own1_row' {oo:TypeId} (h:FlF c):own1 (.sl (some oo) (xs.map c))=true:=h.rows xs
theorem own2_row {oo:TypeId} (h:FlF c):own2 (.sl (some oo) (xs.map c))=true:=h.rows xs
theorem oa0 {f:AV→Bool}:([]:List AV).all f=true:=rfl
theorem oa1 {f:AV→Bool} {x:AV} {r:List AV} (h:f x=true) (hr:r.all f=true):(x::r).all f=true:=by rw [List.all_cons,h,hr]; rfl
end
end Go.Ab
