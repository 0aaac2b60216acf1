/- Slices of slices, binary operations, bytes to text, parts put together. -/
import Derived.Test.YtjlalepbhcekoaaAbEq
import Derived.Laws.Cover3
import Derived.Laws.BytesArg
set_option linter.unusedVariables false
set_option linter.unusedSimpArgs false
namespace Go.Ab
open Go Go.RowKit
theorem cell_val {S:TypeId→Nat} {V:Nat→Option Obj} {B:Nat} {R:RefF} {x y:AV} {v u:Value} {q:Bool} (h:cellEq x y=some q) (hx:RC S V B R x v) (hy:RC S V B R y u):valEq v u=some q:=by
 unfold cellEq at h
 split at h
 ·cases hx; cases hy; exact h
 ·cases hx; cases hy; exact h
 ·cases hx with
  | str _ a ha=>cases hy with
   | str _ b hb=>simp only [valEq,ha,hb]; exact h
 ·cases h
theorem cells_val {S:TypeId→Nat} {V:Nat→Option Obj} {B:Nat} {R:RefF}:∀ (x y:List AV) (v u:List Value) {q:Bool},cellsEq x y=some q→x.length=v.length→y.length=u.length →
  (∀ (i:Nat) a b,x[i]? = some a→v[i]? = some b→RC S V B R a b)→(∀ (i:Nat) a b,y[i]? = some a→u[i]? = some b→RC S V B R a b)→valsEq v u=some q
 | [],[],v,u,q,h,hv,hu,_,_=>by
  obtain rfl:v=[]:=List.eq_nil_of_length_eq_zero hv.symm
  obtain rfl:u=[]:=List.eq_nil_of_length_eq_zero hu.symm
  exact h
 | [],_::_,_,_,_,h,_,_,_,_=>by simp [cellsEq] at h
 | _::_,[],_,_,_,h,_,_,_,_=>by simp [cellsEq] at h
 | a::x,b::y,[],u,q,h,hv,hu,_,_=>by simp at hv
 | a::x,b::y,_::_,[],q,h,hv,hu,_,_=>by simp at hu
 | a::x,b::y,c::v,d::u,q,h,hv,hu,hx,hy=>by
  simp only [cellsEq] at h
  obtain ⟨p,h1,h⟩:=Option.bind_eq_some_iff.1 h
  obtain ⟨r,h,hr⟩:=Option.map_eq_some_iff.1 h
  have e1:=cell_val h1 (hx 0 a c rfl rfl) (hy 0 b d rfl rfl)
  have e2:=cells_val x y v u h (by simpa using hv) (by simpa using hu) (fun i a b h1 h2=>hx (i + 1) a b h1 h2) (fun i a b h1 h2=>hy (i + 1) a b h1 h2)
  simp [valsEq,e1,e2,hr]
theorem shape_val {S:TypeId→Nat} {V:Nat→Option Obj} {B:Nat} {R:RefF} {x:AV} {v:Value} {n:Nat} (h:shape x=n) (hn:n < 3) (hx:RC S V B R x v):vshape v=n:=by
 unfold shape at h
 split at h
 ·cases hx; exact h
 ·cases hx; exact h
 ·cases hx; exact h
 ·omega
theorem eqShape_vals {S:TypeId→Nat} {V:Nat→Option Obj} {B:Nat} {R:RefF}:∀ (x:List AV) (l:List Nat) (v:List Value),eqShape x l=true→(∀ n ∈ l,n < 3)→x.length=v.length →
  (∀ (i:Nat) a b,x[i]? = some a→v[i]? = some b→RC S V B R a b)→v.map vshape=l
 | [],[],v,_,_,hv,_=>by
  obtain rfl:v=[]:=List.eq_nil_of_length_eq_zero hv.symm
  rfl
 | [],_::_,_,h,_,_,_=>by simp [eqShape] at h
 | _::_,[],_,h,_,_,_=>by simp [eqShape] at h
 | a::x,n::l,[],_,_,hv,_=>by simp at hv
 | a::x,n::l,c::v,h,hl,hv,hx=>by
  simp only [eqShape,Bool.and_eq_true] at h
  have e1:=shape_val (x:=a) (by simpa using h.1) (hl n (by simp)) (hx 0 a c rfl rfl)
  have e2:=eqShape_vals x l v h.2 (fun m hm=>hl m (by simp [hm])) (by simpa using hv) (fun i a b h1 h2=>hx (i + 1) a b h1 h2)
  simp [e1,e2]
theorem flatTy_lt (P:Program):∀ (d:Nat) (t:TypeId),∀ n ∈ flatTy P d t,n < 3
 | 0,_=>by simp [flatTy]
 | d + 1,t=>by
  unfold flatTy
  split
  ·simp
  ·simp
  ·simp
  ·intro n hn
   obtain ⟨f,_,hf⟩:=List.mem_flatMap.1 hn
   exact flatTy_lt P d f.type n hf
  ·intro n hn
   obtain ⟨l,hl,hn⟩:=List.mem_flatten.1 hn
   rw [List.eq_of_mem_replicate hl] at hn
   exact flatTy_lt P d _ n hn
  ·simp
section
variable {S:TypeId→Nat} {B:Nat} {w:World} {M A:Mem} {ρ:Pm}
theorem isNil_rc (hm:MExt M A) {x:AV} {v:Value} {q:Bool} (h:aIsNil M x=some q) (hx:RV S B w A ρ x v):∃ a n c,v = .slice a n c∧a.isNone=q:=by
 unfold aIsNil at h
 cases x with
 | nils=>obtain rfl:=Option.some.inj h; cases hx; exact ⟨_,_,_,rfl,rfl⟩
 | sle=>obtain rfl:=Option.some.inj h; cases hx; exact ⟨_,_,_,rfl,rfl⟩
 | sl o es=>
  simp only at h
  split at h
  ·rename_i hl
   obtain rfl:=Option.some.inj h
   cases hx with
   | slN=>simp at hl
   | slB=>exact ⟨_,_,_,rfl,rfl⟩
   | slON=>simp at hl
   | slO=>exact ⟨_,_,_,rfl,rfl⟩
  ·cases h
 | lit t es=>obtain rfl:=Option.some.inj h; cases hx; exact ⟨_,_,_,rfl,rfl⟩
 | lsl id L off n=>
  simp only at h
  split at h
  ·rename_i hk
   obtain rfl:=Option.some.inj h
   obtain ⟨ob,ho⟩:=okRef_spec hk.2
   rcases lsl_inv hm hx ho with ⟨b,cap,_,_,rfl⟩ | ⟨_,_,_,rfl,_⟩
   ·exact ⟨_,_,_,rfl,rfl⟩
   ·omega
  ·cases h
 | _=>simp at h
theorem maybeNil_rc (hm:MExt M A) {x:AV} {v:Value} (h:maybeNil M x=true) (hx:RV S B w A ρ x v):∃ a n c,v = .slice a n c:=by
 unfold maybeNil at h
 cases x with
 | nils=>cases hx; exact ⟨_,_,_,rfl⟩
 | sl o es=>cases hx <;> exact ⟨_,_,_,rfl⟩
 | lit t es=>cases hx; exact ⟨_,_,_,rfl⟩
 | lsl id L off n=>
  obtain ⟨ob,ho⟩:=okRef_spec h
  rcases lsl_inv hm hx ho with ⟨b,cap,_,_,rfl⟩ | hh
  ·exact ⟨_,_,_,rfl⟩
  ·exact ⟨_,_,_,hh.2.2.2.2⟩
 | _=>simp at h
theorem bin_rc {P:Program} (hm:MExt M A) {op:BinOp} {t:TypeId} {x y z:AV} {vx vy:Value} (ox oy:Operand) (ht:binTy P t x y=true) (h:aBin op x y M=some z) (hx:RV S B w A ρ x vx) (hy:RV S B w A ρ y vy) (W:World) :
  ∃ u,(do eqGuard op t ox oy vx vy; binOp op t vx vy:Sem Value).run P W = .ok u W∧RV S B w A ρ z u:=by
 unfold aBin at h
 split at h
 ·rename_i k a k' b
  cases hx; cases hy
  have hg:(eqGuard op t ox oy (.int k a) (.int k' b)).run P W = .ok () W:=by cases op <;> simp [eqGuard]
  split at h
  ·unfold aShift at h
   split at h
   ·cases h
   ·rename_i hb
    simp only at h
    obtain rfl:=Option.some.inj h
    exact ⟨_,by simp [Sem.run_bind,hg,binOp,Op.shift,hb],.int _ _⟩
  ·unfold aShift at h
   split at h
   ·cases h
   ·rename_i hb
    simp only at h
    obtain rfl:=Option.some.inj h
    exact ⟨_,by simp [Sem.run_bind,hg,binOp,Op.shift,hb],.int _ _⟩
  ·split at h
   ·rename_i hk
    subst hk
    unfold aIntBin at h
    cases op <;> simp only [Option.some.injEq] at h
    case quo=>
     split at h
     ·cases h
     ·rename_i hb
      obtain rfl:=Option.some.inj h
      exact ⟨_,by simp [Sem.run_bind,hg,binOp,Op.intDiv,hb],.int _ _⟩
    case rem=>
     split at h
     ·cases h
     ·rename_i hb
      obtain rfl:=Option.some.inj h
      exact ⟨_,by simp [Sem.run_bind,hg,binOp,Op.intDiv,hb],.int _ _⟩
    case and=>subst h; exact ⟨_,by simp only [Sem.run_bind,hg,Result.andThen_ok,binOp,Op.intBits,ne_eq,not_true_eq_false,if_false]; rfl,.int _ _⟩
    case or=>subst h; exact ⟨_,by simp only [Sem.run_bind,hg,Result.andThen_ok,binOp,Op.intBits,ne_eq,not_true_eq_false,if_false]; rfl,.int _ _⟩
    case xor=>subst h; exact ⟨_,by simp only [Sem.run_bind,hg,Result.andThen_ok,binOp,Op.intBits,ne_eq,not_true_eq_false,if_false]; rfl,.int _ _⟩
    all_goals first
     | (subst h; exact ⟨_,by simp [Sem.run_bind,hg,binOp,Op.intArith],.int _ _⟩)
     | (subst h; exact ⟨_,by simp [Sem.run_bind,hg,binOp,Op.intCmp],.bool _⟩)
     | cases h
   ·cases h
 ·rename_i a b
  cases hx with
  | str _ sa ha=>cases hy with
   | str _ sb hb=>
    have hg:(eqGuard op t ox oy (.string sa) (.string sb)).run P W = .ok () W:=by cases op <;> simp [eqGuard]
    unfold aStrBin at h
    have e1:sa.toList=a:=by rw [ba_toList,ha]
    have e2:sb.toList=b:=by rw [ba_toList,hb]
    have e3:sa.size=a.length:=by rw [ba_size,ha]
    have e4:sb.size=b.length:=by rw [ba_size,hb]
    cases op <;> simp only [Option.some.injEq] at h
    case add=>
     split at h
     ·cases h
     ·rename_i hc
      obtain rfl:=Option.some.inj h
      have hc':¬ (((sa.size + sb.size:Nat):Int) > IntKind.i64.max):=by rw [e3,e4]; exact hc
      refine ⟨.string (sa++sb),?_,.str _ _ ?_⟩
      ·simp only [Sem.run_bind,hg,binOp,Op.stringOp,Result.andThen_ok,if_neg hc']
       rfl
      ·rw [ByteArray.data_append,Array.toList_append,ha,hb]
    all_goals first
     | (subst h; exact ⟨_,by simp [Sem.run_bind,hg,binOp,Op.stringOp,e1,e2],.bool _⟩)
     | cases h
 ·rename_i a b
  cases hx; cases hy
  have hd:P.underlying t=some .bool:=by
   unfold binTy at ht
   cases hd:P.underlying t with
   | none=>simp [hd] at ht
   | some d=>rw [hd] at ht; cases d <;> simp at ht; rfl
  have hg:(eqGuard op t ox oy (.bool a) (.bool b)).run P W = .ok () W:=by cases op <;> simp [eqGuard]
  have he:=run_equal_bool (P:=P) W t a b hd
  cases op <;> simp only [Option.some.injEq] at h
  case eql=>subst h; exact ⟨_,by simp [Sem.run_bind,hg,binOp,he],.bool _⟩
  case neq=>subst h; exact ⟨_,by simp [Sem.run_bind,hg,binOp,he],.bool _⟩
  all_goals cases h
 ·rename_i a b
  cases hx with
  | agg _ va hla hra=>cases hy with
   | agg _ vb hlb hrb=>
    simp only [binTy,Bool.and_eq_true] at ht
    obtain ⟨⟨⟨⟨t1,t2⟩,t3⟩,t4⟩,t5⟩:=ht
    have t2':P.eqGuardType P.depth t=false:=by simpa using t2
    have hg:(eqGuard op t ox oy (.agg va) (.agg vb)).run P W = .ok () W:=by cases op <;> simp [eqGuard,Sem.run_bind,program,Sem.run,Result.andThen,t2']
    have key:∀ q,cellsEq a b=some q→(Op.equalIn 10000 t (.agg va) (.agg vb)).run P W = .ok q W:=by
     intro q hq
     have hvq:=cells_val a b va.toList vb.toList hq (by simpa using hla) (by simpa using hlb) (fun i x y h1 h2=>hra i x y h1 (by simpa using h2)) (fun i x y h1 h2=>hrb i x y h1 (by simpa using h2))
     have hsh:=eqShape_vals a (flatTy P 8 t) va.toList t5 (flatTy_lt P 8 t) (by simpa using hla) (fun i x y h1 h2=>hra i x y h1 (by simpa using h2))
     have hfl:=(plain_size t1).1
     have hza:va.size=P.cellsOf t:=by
      have:=congrArg List.length hsh
      simp at this
      omega
     have hzb:vb.size=P.cellsOf t:=by
      have:=valsEq_len _ _ hvq
      simp at this
      omega
     exact equalIn_plain 9992 8 t t1 t4 W (.agg va) (.agg vb) q ⟨hza,by rw [if_pos t3]; exact ⟨_,rfl⟩⟩ ⟨hzb,by rw [if_pos t3]; exact ⟨_,rfl⟩⟩ hsh hvq
    cases op <;> simp only at h
    case eql=>
     obtain ⟨q,hq,rfl⟩:=Option.map_eq_some_iff.1 h
     exact ⟨_,by simp [Sem.run_bind,hg,run_eql_struct,key q hq],.bool _⟩
    case neq=>
     obtain ⟨q,hq,rfl⟩:=Option.map_eq_some_iff.1 h
     exact ⟨_,by simp [Sem.run_bind,hg,run_neq_struct,key q hq],.bool _⟩
    all_goals cases h
 ·cases hy
  have hnil:∀ a n c,vx = .slice a n c→(do eqGuard op t ox oy vx (.slice none 0 0); binOp .eql t vx (.slice none 0 0):Sem Value).run P W = .ok (.bool a.isNone) W∧(do eqGuard op t ox oy vx (.slice none 0 0); binOp .neq t vx (.slice none 0 0):Sem Value).run P W = .ok (.bool (!a.isNone)) W:=by
   rintro a n c rfl
   have hd:∃ e,P.underlying t=some (.slice e):=by
    unfold binTy at ht
    cases hd:P.underlying t with
    | none=>cases x <;> simp [hd] at ht <;> (cases hx)
    | some d=>cases x <;> cases d <;> simp [hd] at ht <;> first | exact ⟨_,rfl⟩ | (cases hx)
   obtain ⟨e,hd⟩:=hd
   have hg:(eqGuard op t ox oy (.slice a n c) (.slice none 0 0)).run P W = .ok () W:=by cases op <;> simp [eqGuard]
   have he:=run_equal_slice_nil (P:=P) W t e a n c hd
   exact ⟨by simp [Sem.run_bind,hg,binOp,he],by simp [Sem.run_bind,hg,binOp,he]⟩
  cases op <;> simp only at h
  case eql=>
   split at h
   ·rename_i q hq
    obtain ⟨a,n,c,hv,rfl⟩:=isNil_rc hm hq hx
    cases h
    exact ⟨_,(hnil a n c hv).1,.bool _⟩
   ·split at h
    ·rename_i hk
     obtain ⟨a,n,c,hv⟩:=maybeNil_rc hm hk hx
     cases h
     exact ⟨_,(hnil a n c hv).1,.ub _⟩
    ·cases h
  case neq=>
   split at h
   ·rename_i q hq
    obtain ⟨a,n,c,hv,rfl⟩:=isNil_rc hm hq hx
    cases h
    exact ⟨_,(hnil a n c hv).2,.bool _⟩
   ·split at h
    ·rename_i hk
     obtain ⟨a,n,c,hv⟩:=maybeNil_rc hm hk hx
     cases h
     exact ⟨_,(hnil a n c hv).2,.ub _⟩
    ·cases h
  all_goals cases h
 ·cases h
end
end Go.Ab
