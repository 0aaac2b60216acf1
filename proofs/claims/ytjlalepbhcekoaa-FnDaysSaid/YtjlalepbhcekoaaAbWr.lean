/- Calls that write the caller's store. -/
import Derived.Test.YtjlalepbhcekoaaAbPure
set_option linter.unusedVariables false
namespace Go.Ab
open Go
def Fr (W:List Nat) (M0 M:Mem):Prop:=∀ i y,i ∉ W→M0[i]? = some y→M[i]? = some y
def Nf (W:List Nat) (M0:Mem) (id:Nat):Prop:=∀ i y,i ∉ W→M0[i]? = some y→i≠id
section
variable {W W':List Nat} {M0 M M':Mem} {id:Nat} {y:Ent} {l:List Ent}
theorem Fr.refl:Fr W M M:=fun _ _ _ h=>h
theorem Fr.push (h:Fr W M0 M) (hM:M'=M++l):Fr W M0 M':=fun i z hi h0=>push_old hM (h i z hi h0)
theorem Fr.setIn (h:Fr W M0 M) (hM:M'=M.set id y) (hid:id ∈ W):Fr W M0 M':=fun i z hi h0=>set_ne hM (fun e=>hi (e ▸ hid)) (h i z hi h0)
theorem Fr.setNew (h:Fr W M0 M) (hM:M'=M.set id y) (hn:Nf W M0 id):Fr W M0 M':=fun i z hi h0=>set_ne hM (hn i z hi h0) (h i z hi h0)
theorem Nf.mk (h:Fr W M0 M):Nf W M0 M.length:=fun i z hi h0=>ne_new (h i z hi h0)
theorem Nf.mkAt (h:Fr W M0 M) (j:Nat):Nf W M0 (M.length + j):=fun i z hi h0=>by have:=lt_of_get (h i z hi h0); omega
theorem Fr.call (h:Fr W M0 M) (hc:Fr W' M M') (hw:∀ j ∈ W',j ∈ W∨Nf W M0 j):Fr W M0 M':=fun i z hi h0=>hc i z (fun hj=>(hw i hj).elim (fun a=>hi a) (fun a=>a i z hi h0 rfl)) (h i z hi h0)
theorem fwN:∀ j ∈ ([]:List Nat),j ∈ W∨Nf W M0 j:=fun j h=>by cases h
theorem fwI (h:id ∈ W) (hr:∀ j ∈ W',j ∈ W∨Nf W M0 j):∀ j ∈ id::W',j ∈ W∨Nf W M0 j:=fun j hj=>(List.mem_cons.1 hj).elim (fun e=>.inl (e ▸ h)) (hr j)
theorem fwO (h:Nf W M0 id) (hr:∀ j ∈ W',j ∈ W∨Nf W M0 j):∀ j ∈ id::W',j ∈ W∨Nf W M0 j:=fun j hj=>(List.mem_cons.1 hj).elim (fun e=>.inr (e ▸ h)) (hr j)
theorem niN {i:Nat}:i ∉ ([]:List Nat):=fun h=>by cases h
theorem niC {i j:Nat} (h:i≠j) (hr:i ∉ W):i ∉ j::W:=fun hj=>(List.mem_cons.1 hj).elim h hr
end
theorem Ev.nxw {β:Type} {K:Nat→Env×Mem→Option β} {Q:β→Prop} {e:Env} {M:Mem} {d:Option Nat} {cont:Nat→Env→Mem→Option (Env×Mem)} {opk:Nat→Option (AV×Eff)} {R:AV×Mem→Prop} (hop:Ev opk (fun p=>∃ M',R (p.1,M')∧p.2 = .put M')) (h:∀ v M',R (v,M')→Ev (fun k=>(cont k (put e d v) M').bind (K k)) Q):Ev (fun k=>(nx (opk k) d e M (cont k)).bind (K k)) Q:=
 Ev.nxc hop (fun v eff he=>by obtain ⟨M',h1,h2⟩:=he; subst h2; exact h v M' h1)
theorem Ev.cut {β:Type} {K:Nat→Out→Option β} {Q:β→Prop} {e:Env} {M:Mem} {a:Nat→St} {Q1:Out→Prop} (h1:Ev (fun k=>(a k e M).bind fun q=>some q) Q1) (h2:∀ x e' M',Q1 (x,e',M')→Ev (fun k=>K k (x,e',M')) Q):Ev (fun k=>(a k e M).bind (K k)) Q:=by
 have h3:Ev (fun k=>a k e M) Q1:=Ev.congr (fun k=>by cases a k e M <;> rfl) h1
 exact Ev.bind h3 (fun q hq=>by obtain ⟨x,e',M'⟩:=q; exact h2 x e' M' hq)
end Go.Ab
