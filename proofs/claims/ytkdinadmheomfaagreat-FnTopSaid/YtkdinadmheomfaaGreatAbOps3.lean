/- Slices of slices, binary operations, bytes to text, parts put together. -/
import Derived.Test.YtkdinadmheomfaaGreatAbEq
import Derived.Laws.Cover3
import Derived.Laws.BytesArg
set_option linter.unusedVariables false
set_option linter.unusedSimpArgs false
namespace Go.Ab
open Go Go.RowKit
theorem IU {S:TypeId->Nat} {V:Nat->Option Obj} {B:Nat} {R:gC} {x y:AV} {v u:Value} {q:Bool} (h:D2 x y=some q) (D:RC S V B R x v) (F:RC S V B R y u):wI v u=some q:=by
 unfold D2 at h
 split at h
 ·cases D; cases F; exact h
 ·cases D; cases F; exact h
 ·cases D with
  | str _ a G=>cases F with
   | str _ b I=>simp only [wI,G,I]; exact h
 ·cases h
theorem Be {S:TypeId->Nat} {V:Nat->Option Obj} {B:Nat} {R:gC}:∀ (x y:List AV) (v u:List Value) {q:Bool},pq x y=some q->x.length=v.length->y.length=u.length ->
  (∀ (i:Nat) a b,x[i]? = some a->v[i]? = some b->RC S V B R a b)->(∀ (i:Nat) a b,y[i]? = some a->u[i]? = some b->RC S V B R a b)->fS v u=some q
 | [],[],v,u,q,h,hv,hu,_,_=>by
  obtain rfl:v=[]:=List.eq_nil_of_length_eq_zero hv.symm
  obtain rfl:u=[]:=List.eq_nil_of_length_eq_zero hu.symm
  exact h
 | [],_::_,_,_,_,h,_,_,_,_=>by simp [pq] at h
 | _::_,[],_,_,_,h,_,_,_,_=>by simp [pq] at h
 | a::x,b::y,[],u,q,h,hv,hu,_,_=>by simp at hv
 | a::x,b::y,_::_,[],q,h,hv,hu,_,_=>by simp at hu
 | a::x,b::y,c::v,d::u,q,h,hv,hu,hx,hy=>by
  simp only [pq] at h
  obtain ⟨p,D,h⟩:=Option.bind_eq_some_iff.1 h
  obtain ⟨r,h,J⟩:=Option.map_eq_some_iff.1 h
  have G:=IU D (hx 0 a c rfl rfl) (hy 0 b d rfl rfl)
  have I:=Be x y v u h (by simpa using hv) (by simpa using hu) (fun i a b D F=>hx (i + 1) a b D F) (fun i a b D F=>hy (i + 1) a b D F)
  simp [fS,G,I,J]
theorem Gq {S:TypeId->Nat} {V:Nat->Option Obj} {B:Nat} {R:gC} {x:AV} {v:Value} {n:Nat} (h:ET x=n) (F:n < 3) (D:RC S V B R x v):i6 v=n:=by
 unfold ET at h
 split at h
 ·cases D; exact h
 ·cases D; exact h
 ·cases D; exact h
 ·omega
theorem wh {S:TypeId->Nat} {V:Nat->Option Obj} {B:Nat} {R:gC}:∀ (x:List AV) (l:List Nat) (v:List Value),uG x l=true->(∀ n ∈ l,n < 3)->x.length=v.length ->
  (∀ (i:Nat) a b,x[i]? = some a->v[i]? = some b->RC S V B R a b)->v.map i6=l
 | [],[],v,_,_,hv,_=>by
  obtain rfl:v=[]:=List.eq_nil_of_length_eq_zero hv.symm
  rfl
 | [],_::_,_,h,_,_,_=>by simp [uG] at h
 | _::_,[],_,h,_,_,_=>by simp [uG] at h
 | a::x,n::l,[],_,_,hv,_=>by simp at hv
 | a::x,n::l,c::v,h,hl,hv,hx=>by
  simp only [uG,Bool.and_eq_true] at h
  have D:=Gq (x:=a) (by simpa using h.1) (hl n (by simp)) (hx 0 a c rfl rfl)
  have F:=wh x l v h.2 (fun m J=>hl m (by simp [J])) (by simpa using hv) (fun i a b G I=>hx (i + 1) a b G I)
  simp [D,F]
theorem xn (P:Program):∀ (d:Nat) (t:TypeId),∀ n ∈ ek P d t,n < 3
 | 0,_=>by simp [ek]
 | d + 1,t=>by
  unfold ek
  split
  ·simp
  ·simp
  ·simp
  ·intro n D
   obtain ⟨f,_,F⟩:=List.mem_flatMap.1 D
   exact xn P d f.type n F
  ·intro n D
   obtain ⟨l,G,D⟩:=List.mem_flatten.1 D
   rw [List.eq_of_mem_replicate G] at D
   exact xn P d _ n D
  ·simp
section
variable {S:TypeId->Nat} {B:Nat} {w:World} {M A:bs} {ρ:Pm}
theorem Dc (I:fN M A) {x:AV} {v:Value} {q:Bool} (h:vG M x=some q) (D:RV S B w A ρ x v):∃ a n c,v = .slice a n c/\a.isNone=q:=by
 unfold vG at h
 cases x with
 | nils=>obtain rfl:=Option.some.inj h; cases D; exact ⟨_,_,_,rfl,rfl⟩
 | sle=>obtain rfl:=Option.some.inj h; cases D; exact ⟨_,_,_,rfl,rfl⟩
 | sl o es=>
  simp only at h
  split at h
  ·rename_i F
   obtain rfl:=Option.some.inj h
   cases D with
   | slN=>simp at F
   | slB=>exact ⟨_,_,_,rfl,rfl⟩
   | slON=>simp at F
   | slO=>exact ⟨_,_,_,rfl,rfl⟩
  ·cases h
 | lit t es=>obtain rfl:=Option.some.inj h; cases D; exact ⟨_,_,_,rfl,rfl⟩
 | lsl id L off n=>
  simp only at h
  split at h
  ·rename_i G
   obtain rfl:=Option.some.inj h
   obtain ⟨ob,J⟩:=kR G.2
   rcases jO I D J with ⟨b,cap,_,_,rfl⟩ | ⟨_,_,_,rfl,_⟩
   ·exact ⟨_,_,_,rfl,rfl⟩
   ·omega
  ·cases h
 | _=>simp at h
theorem yh (F:fN M A) {x:AV} {v:Value} (h:w6 M x=true) (D:RV S B w A ρ x v):∃ a n c,v = .slice a n c:=by
 unfold w6 at h
 cases x with
 | nils=>cases D; exact ⟨_,_,_,rfl⟩
 | sl o es=>cases D <;> exact ⟨_,_,_,rfl⟩
 | lit t es=>cases D; exact ⟨_,_,_,rfl⟩
 | lsl id L off n=>
  obtain ⟨ob,G⟩:=kR h
  rcases jO F D G with ⟨b,cap,_,_,rfl⟩ | hh
  ·exact ⟨_,_,_,rfl⟩
  ·exact ⟨_,_,_,hh.2.2.2.2⟩
 | _=>simp at h
theorem LA {P:Program} (aj:fN M A) {op:BinOp} {t:TypeId} {x y z:AV} {X an:Value} (O U:Operand) (N:k9 P t x y=true) (h:qU op x y M=some z) (I:RV S B w A ρ x X) (ae:RV S B w A ρ y an) (W:World) :
  ∃ u,(do eqGuard op t O U X an; binOp op t X an:Sem Value).run P W = .ok u W/\RV S B w A ρ z u:=by
 unfold qU at h
 split at h
 ·rename_i k a k' b
  cases I; cases ae
  have D:(eqGuard op t O U (.int k a) (.int k' b)).run P W = .ok () W:=by cases op <;> simp [eqGuard]
  split at h
  ·unfold BF at h
   split at h
   ·cases h
   ·rename_i F
    simp only at h
    obtain rfl:=Option.some.inj h
    exact ⟨_,by simp [Sem.run_bind,D,binOp,Op.shift,F],.int _ _⟩
  ·unfold BF at h
   split at h
   ·cases h
   ·rename_i F
    simp only at h
    obtain rfl:=Option.some.inj h
    exact ⟨_,by simp [Sem.run_bind,D,binOp,Op.shift,F],.int _ _⟩
  ·split at h
   ·rename_i ad
    subst ad
    unfold kv at h
    cases op <;> simp only [Option.some.injEq] at h
    case quo=>
     split at h
     ·cases h
     ·rename_i F
      obtain rfl:=Option.some.inj h
      exact ⟨_,by simp [Sem.run_bind,D,binOp,Op.intDiv,F],.int _ _⟩
    case rem=>
     split at h
     ·cases h
     ·rename_i F
      obtain rfl:=Option.some.inj h
      exact ⟨_,by simp [Sem.run_bind,D,binOp,Op.intDiv,F],.int _ _⟩
    case and=>subst h; exact ⟨_,by simp only [Sem.run_bind,D,Result.andThen_ok,binOp,Op.intBits,ne_eq,not_true_eq_false,if_false]; rfl,.int _ _⟩
    case or=>subst h; exact ⟨_,by simp only [Sem.run_bind,D,Result.andThen_ok,binOp,Op.intBits,ne_eq,not_true_eq_false,if_false]; rfl,.int _ _⟩
    case xor=>subst h; exact ⟨_,by simp only [Sem.run_bind,D,Result.andThen_ok,binOp,Op.intBits,ne_eq,not_true_eq_false,if_false]; rfl,.int _ _⟩
    all_goals first
     | (subst h; exact ⟨_,by simp [Sem.run_bind,D,binOp,Op.intArith],.int _ _⟩)
     | (subst h; exact ⟨_,by simp [Sem.run_bind,D,binOp,Op.intCmp],.bool _⟩)
     | cases h
   ·cases h
 ·rename_i a b
  cases I with
  | str _ af am=>cases ae with
   | str _ ah F=>
    have D:(eqGuard op t O U (.string af) (.string ah)).run P W = .ok () W:=by cases op <;> simp [eqGuard]
    unfold FA at h
    have aw:af.toList=a:=by rw [uw,am]
    have ax:ah.toList=b:=by rw [uw,F]
    have ay:af.size=a.length:=by rw [ur,am]
    have az:ah.size=b.length:=by rw [ur,F]
    cases op <;> simp only [Option.some.injEq] at h
    case add=>
     split at h
     ·cases h
     ·rename_i aA
      obtain rfl:=Option.some.inj h
      have aB:¬ (((af.size + ah.size:Nat):Int) > IntKind.i64.max):=by rw [ay,az]; exact aA
      refine ⟨.string (af++ah),?_,.str _ _ ?_⟩
      ·simp only [Sem.run_bind,D,binOp,Op.stringOp,Result.andThen_ok,if_neg aB]
       rfl
      ·rw [ByteArray.data_append,Array.toList_append,am,F]
    all_goals first
     | (subst h; exact ⟨_,by simp [Sem.run_bind,D,binOp,Op.stringOp,aw,ax],.bool _⟩)
     | cases h
 ·rename_i a b
  cases I; cases ae
  have G:P.underlying t=some .bool:=by
   unfold k9 at N
   cases G:P.underlying t with
   | none=>simp [G] at N
   | some d=>rw [G] at N; cases d <;> simp at N; rfl
  have D:(eqGuard op t O U (.bool a) (.bool b)).run P W = .ok () W:=by cases op <;> simp [eqGuard]
  have ac:=run_equal_bool (P:=P) W t a b G
  cases op <;> simp only [Option.some.injEq] at h
  case eql=>subst h; exact ⟨_,by simp [Sem.run_bind,D,binOp,ac],.bool _⟩
  case neq=>subst h; exact ⟨_,by simp [Sem.run_bind,D,binOp,ac],.bool _⟩
  all_goals cases h
 ·rename_i a b
  cases I with
  | agg _ Z ao ap=>cases ae with
   | agg _ ai aC aD=>
    simp only [k9,Bool.and_eq_true] at N
    obtain ⟨⟨⟨⟨av,aG⟩,t3⟩,t4⟩,t5⟩:=N
    have aH:P.eqGuardType P.depth t=false:=by simpa using aG
    have D:(eqGuard op t O U (.agg Z) (.agg ai)).run P W = .ok () W:=by cases op <;> simp [eqGuard,Sem.run_bind,program,Sem.run,Result.andThen,aH]
    have au:∀ q,pq a b=some q->(Op.equalIn 10000 t (.agg Z) (.agg ai)).run P W = .ok q W:=by
     intro q J
     have ar:=Be a b Z.toList ai.toList J (by simpa using ao) (by simpa using aC) (fun i x y aa ab=>ap i x y aa (by simpa using ab)) (fun i x y aa ab=>aD i x y aa (by simpa using ab))
     have aq:=wh a (ek P 8 t) Z.toList t5 (xn P 8 t) (by simpa using ao) (fun i x y aa ab=>ap i x y aa (by simpa using ab))
     have aI:=(og av).1
     have aE:Z.size=P.cellsOf t:=by
      have:=congrArg List.length aq
      simp at this
      omega
     have aF:ai.size=P.cellsOf t:=by
      have:=zl _ _ ar
      simp at this
      omega
     exact q8 9992 8 t av t4 W (.agg Z) (.agg ai) q ⟨aE,by rw [if_pos t3]; exact ⟨_,rfl⟩⟩ ⟨aF,by rw [if_pos t3]; exact ⟨_,rfl⟩⟩ aq ar
    cases op <;> simp only at h
    case eql=>
     obtain ⟨q,J,rfl⟩:=Option.map_eq_some_iff.1 h
     exact ⟨_,by simp [Sem.run_bind,D,run_eql_struct,au q J],.bool _⟩
    case neq=>
     obtain ⟨q,J,rfl⟩:=Option.map_eq_some_iff.1 h
     exact ⟨_,by simp [Sem.run_bind,D,run_neq_struct,au q J],.bool _⟩
    all_goals cases h
 ·cases ae
  have ak:∀ a n c,X = .slice a n c->(do eqGuard op t O U X (.slice none 0 0); binOp .eql t X (.slice none 0 0):Sem Value).run P W = .ok (.bool a.isNone) W/\(do eqGuard op t O U X (.slice none 0 0); binOp .neq t X (.slice none 0 0):Sem Value).run P W = .ok (.bool (!a.isNone)) W:=by
   rintro a n c rfl
   have G:∃ e,P.underlying t=some (.slice e):=by
    unfold k9 at N
    cases G:P.underlying t with
    | none=>cases x <;> simp [G] at N <;> (cases I)
    | some d=>cases x <;> cases d <;> simp [G] at N <;> first | exact ⟨_,rfl⟩ | (cases I)
   obtain ⟨e,G⟩:=G
   have D:(eqGuard op t O U (.slice a n c) (.slice none 0 0)).run P W = .ok () W:=by cases op <;> simp [eqGuard]
   have ac:=run_equal_slice_nil (P:=P) W t e a n c G
   exact ⟨by simp [Sem.run_bind,D,binOp,ac],by simp [Sem.run_bind,D,binOp,ac]⟩
  cases op <;> simp only at h
  case eql=>
   split at h
   ·rename_i q J
    obtain ⟨a,n,c,Y,rfl⟩:=Dc aj J I
    cases h
    exact ⟨_,(ak a n c Y).1,.bool _⟩
   ·split at h
    ·rename_i ad
     obtain ⟨a,n,c,Y⟩:=yh aj ad I
     cases h
     exact ⟨_,(ak a n c Y).1,.ub _⟩
    ·cases h
  case neq=>
   split at h
   ·rename_i q J
    obtain ⟨a,n,c,Y,rfl⟩:=Dc aj J I
    cases h
    exact ⟨_,(ak a n c Y).2,.bool _⟩
   ·split at h
    ·rename_i ad
     obtain ⟨a,n,c,Y⟩:=yh aj ad I
     cases h
     exact ⟨_,(ak a n c Y).2,.ub _⟩
    ·cases h
  all_goals cases h
 ·cases h
end
end Go.Ab
