/- Loops over a list are folds. -/
import Derived.Test.YtkdinadmheomfaaGreatAbNil
set_option linter.unusedVariables false
namespace Go.Ab
open Go
section
variable {S R τ σ:Type} {tb:S->Option (S⊕R)}
theorem HM (xs:List τ) (f:σ->τ->σ) (G:σ->Nat->S) (N:σ->R) (F:σ->Nat->Prop)
  (O:∀ (i:Nat) (I:i < xs.length) (a:σ),F a i->tb (G a i)=some (.inl (G (f a xs[i]) (i + 1)))/\F (f a xs[i]) (i + 1)) (Y:∀ a,F a xs.length->tb (G a xs.length)=some (.inr (N a))) (D:σ) (X:F D 0) :
  Lw tb (G D 0)=some (N (xs.foldl f D))/\F (xs.foldl f D) xs.length:=by
 have U:∀ i,i<=xs.length->F ((xs.take i).foldl f D) i:=by
  intro i
  induction i with
  | zero=>intro _; simpa using X
  | succ i Z=>
   intro I
   have:=(O i (by omega) _ (Z (by omega))).2
   rw [List.take_succ_eq_append_getElem (by omega),List.foldl_append]
   exact this
 have J:=U xs.length (Nat.le_refl _)
 rw [List.take_length] at J
 refine ⟨?_,J⟩
 have:=g7 (tb:=tb) (fun i=>G ((xs.take i).foldl f D) i) xs.length (r:=N (xs.foldl f D)) (fun i I=>?_) ?_
 ·simpa using this
 ·rw [(O i I _ (U i (by omega))).1,List.take_succ_eq_append_getElem I,List.foldl_append]; rfl
 ·rw [List.take_length,Y _ J]
theorem KW (xs:List τ) (f:σ->τ->σ) (D:σ->Nat->S) (G:σ->R)
  (N:∀ (i:Nat) (I:i < xs.length) (a:σ),tb (D a i)=some (.inl (D (f a xs[i]) (i + 1)))) (J:∀ a,tb (D a xs.length)=some (.inr (G a))) (F:σ) :
  Lw tb (D F 0)=some (G (xs.foldl f F)):=
 (HM xs f D G (fun _ _=>True) (fun i I a _=>⟨N i I a,trivial⟩) (fun a _=>J a) F trivial).1
end
section
variable {τ:Type}
end
section
variable {β:Type} {K:Nat->b4×List Ob->Option β} {Q:β->Prop} {e:b4} {C:List Ob} {op:Option (AV×Eff)} {v:AV} {d:Option Nat} {cont:Nat->b4->List Ob->Option (b4×List Ob)}
theorem Ev.nfpushE {l:List Ob} (F:op=some (v,.push l)) (h:Ev (fun k=>(cont k (put e d v) (C++l)).bind (K k)) Q):Ev (fun k=>(nf op d false e C (cont k)).bind (K k)) Q:=
 Ev.nfpush F (fun G D=>by subst D; exact h)
theorem CE {M M':bs} {C:List Ob} (h:M'=M++C.map .live) (l:List Ob) (D:C=l):M'=M++l.map .live:=by subst D; exact h
end
theorem nC {τ:Type} {xs:List τ} {n:Int} {u u':τ} (h:rd xs n=some u):rd (xs.set n.toNat u') n=some u':=by
 obtain ⟨D,G⟩:=oI h
 unfold rd at h ⊢
 split at h
 ·rename_i F
  rw [if_pos F,List.getElem?_set_self D]
 ·cases h
end Go.Ab
