/- Calls that write the caller's store. -/
import Derived.Test.YtkdinadmheomfaaGreatAbPure
set_option linter.unusedVariables false
namespace Go.Ab
open Go
def Fr (W:List Nat) (M0 M:bs):Prop:=∀ i y,i ∉ W->M0[i]? = some y->M[i]? = some y
def Nf (W:List Nat) (M0:bs) (id:Nat):Prop:=∀ i y,i ∉ W->M0[i]? = some y->i≠id
section
variable {W W':List Nat} {M0 M M':bs} {id:Nat} {y:Ent} {l:List Ent}
theorem Fr.refl:Fr W M M:=fun _ _ _ h=>h
theorem Fr.push (h:Fr W M0 M) (F:M'=M++l):Fr W M0 M':=fun i z G D=>bS F (h i z G D)
theorem Fr.setIn (h:Fr W M0 M) (G:M'=M.set id y) (I:id ∈ W):Fr W M0 M':=fun i z D F=>a9 G (fun e=>D (e ▸ I)) (h i z D F)
theorem Fr.setNew (h:Fr W M0 M) (G:M'=M.set id y) (I:Nf W M0 id):Fr W M0 M':=fun i z F D=>a9 G (I i z F D) (h i z F D)
theorem Nf.mk (h:Fr W M0 M):Nf W M0 M.length:=fun i z F D=>b6 (h i z F D)
theorem Nf.mkAt (h:Fr W M0 M) (j:Nat):Nf W M0 (M.length + j):=fun i z F D=>by have:=cv (h i z F D); omega
theorem Fr.call (h:Fr W M0 M) (G:Fr W' M M') (J:∀ j ∈ W',j ∈ W∨Nf W M0 j):Fr W M0 M':=fun i z D F=>G i z (fun I=>(J i I).elim (fun a=>D a) (fun a=>a i z D F rfl)) (h i z D F)
theorem y2:∀ j ∈ ([]:List Nat),j ∈ W∨Nf W M0 j:=fun j h=>by cases h
theorem y4 (h:id ∈ W) (F:∀ j ∈ W',j ∈ W∨Nf W M0 j):∀ j ∈ id::W',j ∈ W∨Nf W M0 j:=fun j D=>(List.mem_cons.1 D).elim (fun e=>.inl (e ▸ h)) (F j)
theorem OT (h:Nf W M0 id) (F:∀ j ∈ W',j ∈ W∨Nf W M0 j):∀ j ∈ id::W',j ∈ W∨Nf W M0 j:=fun j D=>(List.mem_cons.1 D).elim (fun e=>.inr (e ▸ h)) (F j)
theorem pg {i:Nat}:i ∉ ([]:List Nat):=fun h=>by cases h
theorem oR {i j:Nat} (h:i≠j) (F:i ∉ W):i ∉ j::W:=fun D=>(List.mem_cons.1 D).elim h F
end
theorem Ev.nxw {β:Type} {K:Nat->b4×bs->Option β} {Q:β->Prop} {e:b4} {M:bs} {d:Option Nat} {cont:Nat->b4->bs->Option (b4×bs)} {D:Nat->Option (AV×Eff)} {R:AV×bs->Prop} (J:Ev D (fun p=>∃ M',R (p.1,M')/\p.2 = .put M')) (h:∀ v M',R (v,M')->Ev (fun k=>(cont k (put e d v) M').bind (K k)) Q):Ev (fun k=>(nx (D k) d e M (cont k)).bind (K k)) Q:=
 Ev.nxc J (fun v N I=>by obtain ⟨M',F,G⟩:=I; subst G; exact h v M' F)
theorem Ev.cut {β:Type} {K:Nat->oZ->Option β} {Q:β->Prop} {e:b4} {M:bs} {a:Nat->St} {Q1:oZ->Prop} (F:Ev (fun k=>(a k e M).bind fun q=>some q) Q1) (G:∀ x D M',Q1 (x,D,M')->Ev (fun k=>K k (x,D,M')) Q):Ev (fun k=>(a k e M).bind (K k)) Q:=by
 have I:Ev (fun k=>a k e M) Q1:=Ev.congr (fun k=>by cases a k e M <;> rfl) F
 exact Ev.bind I (fun q J=>by obtain ⟨x,D,M'⟩:=q; exact G x D M' J)
end Go.Ab
