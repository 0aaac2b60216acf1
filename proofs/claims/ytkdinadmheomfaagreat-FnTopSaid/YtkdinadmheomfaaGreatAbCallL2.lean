/- More rules. -/
import Derived.Test.YtkdinadmheomfaaGreatAbCallL
set_option linter.unusedVariables false
namespace Go.Ab
open Go
theorem aj {α:Type} {b:Bool} {x y:Option α} {r:α} (h:(if b=true then x else y)=some r):(b=true/\x=some r)∨(b=false/\y=some r):=by
 cases b
 ·exact .inr ⟨rfl,by simpa using h⟩
 ·exact .inl ⟨rfl,by simpa using h⟩
theorem Od {d n:Int} {x:AV} {k:IntKind} (h:x = .int k n):z4 d (some x)=some n:=by subst h; rfl
theorem D1 {x:AV} {id L L':Nat} (h:x = .lsl id L 0 L) (D:L=L'):x = .lsl id L' 0 L':=by subst D; exact h
def bQ {S R:Type} (RS:S->b4->bs->Prop) (RR:R->Ex->b4->bs->Prop) (r:S⊕R):oZ->Prop:=fun q=>match r with | .inl s'=>q.1 = .nrm/\RS s' q.2.1 q.2.2 | .inr r'=>q.1≠.nrm/\RR r' q.1 q.2.1 q.2.2
theorem OB {S R:Type} {RS:S->b4->bs->Prop} {RR:R->Ex->b4->bs->Prop} {s:S} {e:b4} {M:bs} (h:RS s e M):bQ RS RR (.inl s) (.nrm,e,M):=⟨rfl,h⟩
theorem NM {S R:Type} {RS:S->b4->bs->Prop} {RR:R->Ex->b4->bs->Prop} {r:R} {x:Ex} {e:b4} {M:bs} (D:x≠.nrm) (h:RR r x e M):bQ RS RR (.inr r) (x,e,M):=⟨D,h⟩
inductive GS (α:Type) where
 | nil | own (l:List α) | tree (l:List α)
def GS.list {α:Type}:GS α->List α
 | .nil=>[]
 | .own l=>l
 | .tree l=>l
section
variable {τ:Type} {c:τ->List AV} {xs:List τ} {n t sz:Nat} {S:TypeId->Nat}
theorem Bh {v v':AV} {l:List Ob} (F:iu v=true) (I:yE S n v=(v',l)) (D:xQ l=true) (G:(l.all fun o=>decide (0 < o.s))=true):xz S n v=some (v',.push l):=by
 unfold xz
 rw [I,if_pos ⟨F,D,G⟩]
theorem Bm {cs:List AV} (h:cs.all q9=true):iu (.agg cs)=true:=h
theorem rP {cs:List AV} (h:cs.all q9=true):zS (.agg cs)=true:=h
theorem dL {vs:List AV} (h:vs.all zS=true):iu (.tup vs)=true:=h
theorem iB {D:TypeId} (h:JP c):q9 (.sl (some D) (xs.map c))=true:=h.rows xs
theorem iR {D:TypeId} (h:JP c):zS (.sl (some D) (xs.map c))=true:=h.rows xs
theorem JB {D:TypeId} (h:JP c):iu (.sl (some D) (xs.map c))=true:=h.rows xs
theorem sL {f:AV->Bool}:([]:List AV).all f=true:=rfl
theorem hM {f:AV->Bool} {x:AV} {r:List AV} (h:f x=true) (D:r.all f=true):(x::r).all f=true:=by rw [List.all_cons,h,D]; rfl
end
end Go.Ab
