/- Loops over a list are folds. -/
import Derived.Test.YtjlalepbhcekoaaAbNil
set_option linter.unusedVariables false
namespace Go.Ab
open Go
section
variable {S R τ σ:Type} {tb:S→Option (S⊕R)}
theorem Lw_foldI (xs:List τ) (f:σ→τ→σ) (mk:σ→Nat→S) (out:σ→R) (I:σ→Nat→Prop)
  (hs:∀ (i:Nat) (hi:i < xs.length) (a:σ),I a i→tb (mk a i)=some (.inl (mk (f a xs[i]) (i + 1)))∧I (f a xs[i]) (i + 1)) (he:∀ a,I a xs.length→tb (mk a xs.length)=some (.inr (out a))) (a0:σ) (h0:I a0 0) :
  Lw tb (mk a0 0)=some (out (xs.foldl f a0))∧I (xs.foldl f a0) xs.length:=by
 have key:∀ i,i≤xs.length→I ((xs.take i).foldl f a0) i:=by
  intro i
  induction i with
  | zero=>intro _; simpa using h0
  | succ i ih=>
   intro hi
   have:=(hs i (by omega) _ (ih (by omega))).2
   rw [List.take_succ_eq_append_getElem (by omega),List.foldl_append]
   exact this
 have hlast:=key xs.length (Nat.le_refl _)
 rw [List.take_length] at hlast
 refine ⟨?_,hlast⟩
 have:=Lw_run (tb:=tb) (fun i=>mk ((xs.take i).foldl f a0) i) xs.length (r:=out (xs.foldl f a0)) (fun i hi=>?_) ?_
 ·simpa using this
 ·rw [(hs i hi _ (key i (by omega))).1,List.take_succ_eq_append_getElem hi,List.foldl_append]; rfl
 ·rw [List.take_length,he _ hlast]
theorem Lw_fold (xs:List τ) (f:σ→τ→σ) (mk:σ→Nat→S) (out:σ→R)
  (hs:∀ (i:Nat) (hi:i < xs.length) (a:σ),tb (mk a i)=some (.inl (mk (f a xs[i]) (i + 1)))) (he:∀ a,tb (mk a xs.length)=some (.inr (out a))) (a0:σ) :
  Lw tb (mk a0 0)=some (out (xs.foldl f a0)):=
 (Lw_foldI xs f mk out (fun _ _=>True) (fun i hi a _=>⟨hs i hi a,trivial⟩) (fun a _=>he a) a0 trivial).1
end
section
variable {τ:Type}
end
section
variable {β:Type} {K:Nat→Env×List Ob→Option β} {Q:β→Prop} {e:Env} {C:List Ob} {op:Option (AV×Eff)} {v:AV} {d:Option Nat} {cont:Nat→Env→List Ob→Option (Env×List Ob)}
theorem Ev.nfpushE {l:List Ob} (hop:op=some (v,.push l)) (h:Ev (fun k=>(cont k (put e d v) (C++l)).bind (K k)) Q):Ev (fun k=>(nf op d false e C (cont k)).bind (K k)) Q:=
 Ev.nfpush hop (fun C' hC=>by subst hC; exact h)
theorem fendM {M M':Mem} {C:List Ob} (h:M'=M++C.map .live) (l:List Ob) (hl:C=l):M'=M++l.map .live:=by subst hl; exact h
end
theorem rd_set {τ:Type} {xs:List τ} {n:Int} {u u':τ} (h:rd xs n=some u):rd (xs.set n.toNat u') n=some u':=by
 obtain ⟨h0,h1⟩:=rd_lt h
 unfold rd at h ⊢
 split at h
 ·rename_i hn
  rw [if_pos hn,List.getElem?_set_self h0]
 ·cases h
end Go.Ab
