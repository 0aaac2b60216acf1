/- Regions whose operations come in any order: the trace of the evaluation, and what the order leaves alone. -/
import Derived.Test.YtjlalepbhcekoaaAbReg
import Derived.Orders
set_option linter.unusedVariables false
set_option linter.unusedSimpArgs false
namespace Go.Ab
open Go Go.RowKit
theorem blt_spec {a b:Nat} (h:Nat.blt a b=true):a < b:=Nat.le_of_ble_eq_true (by simpa only [Nat.blt] using h)
theorem has_spec {l:List Nat} {i:Nat}:has l i=true↔i ∈ l:=by
 unfold has
 rw [List.any_eq_true]
 constructor
 ·rintro ⟨j,h1,h2⟩; rw [← Nat.eq_of_beq_eq_true h2]; exact h1
 ·intro h; exact ⟨i,h,by simp⟩
structure Tr where
 i:Nat
 o:Oper
 e:Env
 M:Mem
 n:Nat
 y:AV
 eff:Eff
def TrOk (c:Cx) (call:CallF) (ob th:List Nat) (ops:Array Oper) (t:Tr):Prop:=
 aGuard (guardVal ops t.e t.o) (evalOp c call (has ob t.i) (has th t.i) t.n t.o (prune (rds t.o) t.e) t.M)=some (t.y,t.eff)
def envA (e:Env) (l:List Tr):Env:=l.foldl (fun e t=>put e t.o.dst t.y) e
def memA (M:Mem) (l:List Tr):Mem:=l.foldl (fun M t=>t.eff.on M) M
def obsOf (t:Tr):List Ob:=match t.eff with | .push l=>l | _=>[]
theorem front_trace {c:Cx} {call:CallF} {ob th calm:List Nat} {ops:Array Oper} {M:Mem}:∀ (l:List (Nat×Oper)) (e:Env) (C:List Ob) (e':Env) (C':List Ob),evalFront c call ob th calm ops M l e C=some (e',C') →
  ∃ tr:List Tr,tr.map (fun t=>(t.i,t.o))=l∧e'=envA e tr∧C'=C++tr.flatMap obsOf∧∀ (q:Nat) t,tr[q]? = some t→TrOk c call ob th ops t∧t.e=envA e (tr.take q)∧t.n=M.length + (C++(tr.take q).flatMap obsOf).length ∧
   t.M=(if has calm t.i=true then [] else M)∧(has calm t.i=true→t.eff = .keep)∧(t.eff = .keep∨∃ l,t.eff = .push l)
 | [],e,C,e',C',h=>by
  simp only [evalFront,Option.some.injEq,Prod.mk.injEq] at h
  obtain ⟨rfl,rfl⟩:=h
  exact ⟨[],rfl,rfl,by simp,by simp⟩
 | (i,o)::l,e,C,e',C',h=>by
  simp only [evalFront] at h
  obtain ⟨⟨y,eff⟩,hp,h⟩:=Option.bind_eq_some_iff.1 h
  have main:∀ C1,C1=C++obsOf ⟨i,o,e,(if has calm i=true then [] else M),M.length + C.length,y,eff⟩→(has calm i=true→eff = .keep)→(eff = .keep∨∃ l,eff = .push l)→evalFront c call ob th calm ops M l (put e o.dst y) C1=some (e',C') →
    ∃ tr:List Tr,tr.map (fun t=>(t.i,t.o))=(i,o)::l∧e'=envA e tr∧C'=C++tr.flatMap obsOf∧∀ (q:Nat) t,tr[q]? = some t→TrOk c call ob th ops t∧t.e=envA e (tr.take q)∧t.n=M.length + (C++(tr.take q).flatMap obsOf).length ∧
     t.M=(if has calm t.i=true then [] else M)∧(has calm t.i=true→t.eff = .keep)∧(t.eff = .keep∨∃ l,t.eff = .push l):=by
   intro C1 hC1 hcalm hkp h
   obtain ⟨tr,g1,g2,g3,g4⟩:=front_trace l _ C1 e' C' h
   refine ⟨⟨i,o,e,(if has calm i=true then [] else M),M.length + C.length,y,eff⟩::tr,by simp [g1],by rw [g2]; rfl,by rw [g3,hC1]; simp,fun q t hq=>?_⟩
   cases q with
   | zero=>
    simp only [List.getElem?_cons_zero,Option.some.injEq] at hq
    subst hq
    exact ⟨hp,rfl,by simp,rfl,hcalm,hkp⟩
   | succ q=>
    rw [List.getElem?_cons_succ] at hq
    obtain ⟨k1,k2,k3,k4⟩:=g4 q t hq
    exact ⟨k1,by rw [k2]; rfl,by rw [k3,hC1]; simp,k4⟩
  replace h:=Option.bind_eq_some_iff.1 h
  obtain ⟨C1,hC1,h⟩:=h
  cases eff with
  | keep=>
   obtain rfl:=Option.some.inj hC1
   exact main C (by simp [obsOf]) (fun _=>rfl) (.inl rfl) h
  | push l'=>
   simp only [frontEff] at hC1
   split at hC1
   ·cases hC1
   ·rename_i hnc
    obtain rfl:=Option.some.inj hC1
    exact main (C++l') (by simp [obsOf]) (fun hc=>absurd hc hnc) (.inr ⟨l',rfl⟩) h
  | put M'=>cases hC1
theorem back_trace {c:Cx} {call:CallF} {ob th:List Nat} {ops:Array Oper}:∀ (l:List (Nat×Oper)) (e:Env) (M:Mem) (e':Env) (M':Mem),evalBack c call ob th ops l e M=some (e',M') →
  ∃ tr:List Tr,tr.map (fun t=>(t.i,t.o))=l∧e'=envA e tr∧M'=memA M tr∧∀ (q:Nat) t,tr[q]? = some t→TrOk c call ob th ops t∧t.e=envA e (tr.take q)∧t.M=memA M (tr.take q)∧t.n=t.M.length
 | [],e,M,e',M',h=>by
  simp only [evalBack,Option.some.injEq,Prod.mk.injEq] at h
  obtain ⟨rfl,rfl⟩:=h
  exact ⟨[],rfl,rfl,rfl,by simp⟩
 | (i,o)::l,e,M,e',M',h=>by
  simp only [evalBack] at h
  obtain ⟨⟨y,eff⟩,hp,h⟩:=Option.bind_eq_some_iff.1 h
  obtain ⟨tr,g1,g2,g3,g4⟩:=back_trace l _ _ e' M' h
  refine ⟨⟨i,o,e,M,M.length,y,eff⟩::tr,by simp [g1],by rw [g2]; rfl,by rw [g3]; rfl,fun q t hq=>?_⟩
  cases q with
  | zero=>
   simp only [List.getElem?_cons_zero,Option.some.injEq] at hq
   subst hq
   exact ⟨hp,rfl,rfl,rfl⟩
  | succ q=>
   rw [List.getElem?_cons_succ] at hq
   obtain ⟨k1,k2,k3,k4⟩:=g4 q t hq
   exact ⟨k1,by rw [k2]; rfl,by rw [k3]; rfl,k4⟩
def StyC (c:Cx) (call:CallF) (ob th calm std:List Nat) (ops:Array Oper) (t:Tr) (M:Mem):Prop:=
 (has std t.i=true→TrOk c call ob th ops { t with M:=M })∧(has std t.i=false→has calm t.i=true→∀ l,t.eff = .push l→lives M t.n l)
theorem styOf_chk {c:Cx} {call:CallF} {ob th calm std:List Nat} {ops:Array Oper} {t:Tr} {D:List Nat} {S:Sty} {M:Mem}
  (h:chk D (styOf (has calm t.i) (has std t.i) t.i t.n (fun M'=>aGuard (guardVal ops t.e t.o) (evalOp c call (has ob t.i) (has th t.i) t.n t.o (prune (rds t.o) t.e) M')) (t.y,t.eff) S) M) :
  chk D S M∧(has D t.i=true∨StyC c call ob th calm std ops t M):=by
 unfold styOf at h
 cases h1:has std t.i with
 | true=>
  simp only [h1,if_true] at h
  refine ⟨fun p hp=>h p (List.mem_cons_of_mem _ hp),(h _ (List.mem_cons_self ..)).imp id (fun h2=>⟨fun _=>h2,fun e=>(by rw [h1] at e; cases e)⟩)⟩
 | false=>
  simp only [h1,Bool.false_eq_true,if_false] at h
  cases h2:has calm t.i with
  | false=>
   simp only [h2,Bool.false_eq_true,if_false] at h
   exact ⟨h,.inr ⟨fun e=>(by rw [h1] at e; cases e),fun _ e=>(by rw [h2] at e; cases e)⟩⟩
  | true=>
   simp only [h2,if_true] at h
   cases he:t.eff with
   | push l=>
    simp only [he] at h
    refine ⟨fun p hp=>h p (List.mem_cons_of_mem _ hp),(h _ (List.mem_cons_self ..)).imp id (fun h3=>⟨fun e=>(by rw [h1] at e; cases e),fun _ _ l' e=>?_⟩)⟩
    rw [he] at e
    cases e
    exact h3
   | keep=>rw [he] at h; exact ⟨h,.inr ⟨fun e=>(by rw [h1] at e; cases e),fun _ _ l' e=>(by rw [he] at e; cases e)⟩⟩
   | put M1=>rw [he] at h; exact ⟨h,.inr ⟨fun e=>(by rw [h1] at e; cases e),fun _ _ l' e=>(by rw [he] at e; cases e)⟩⟩
theorem front_traceS {c:Cx} {call:CallF} {ob th calm std:List Nat} {ops:Array Oper} {M:Mem}:∀ (l:List (Nat×Oper)) (e:Env) (C:List Ob) (S:Sty) (e':Env) (C':List Ob) (S':Sty),evalFrontS c call ob th calm std ops M l e C S=some (e',C',S') →
  ∃ tr:List Tr,tr.map (fun t=>(t.i,t.o))=l∧e'=envA e tr∧C'=C++tr.flatMap obsOf∧(∀ (q:Nat) t,tr[q]? = some t→TrOk c call ob th ops t∧t.e=envA e (tr.take q)∧t.n=M.length + (C++(tr.take q).flatMap obsOf).length ∧
   t.M=(if has calm t.i=true then [] else M)∧(has calm t.i=true→t.eff = .keep∨isAl th t.i t.o=true)∧(has std t.i=true→t.eff = .keep)∧(t.eff = .keep∨∃ l,t.eff = .push l)) ∧
   ∀ D M',chk D S' M'→chk D S M'∧∀ t ∈ tr,has D t.i=true∨StyC c call ob th calm std ops t M'
 | [],e,C,S,e',C',S',h=>by
  simp only [evalFrontS,Option.some.injEq,Prod.mk.injEq] at h
  obtain ⟨rfl,rfl,rfl⟩:=h
  exact ⟨[],rfl,rfl,by simp,by simp,fun D M' h=>⟨h,by simp⟩⟩
 | (i,o)::l,e,C,S,e',C',S',h=>by
  simp only [evalFrontS] at h
  obtain ⟨⟨y,eff⟩,hp,h⟩:=Option.bind_eq_some_iff.1 h
  obtain ⟨C1,hC1,h⟩:=Option.bind_eq_some_iff.1 h
  obtain ⟨tr,g1,g2,g3,g4,g5⟩:=front_traceS l _ C1 _ e' C' S' h
  have k1:C1=C++obsOf ⟨i,o,e,(if has calm i=true then [] else M),M.length + C.length,y,eff⟩∧(has calm i=true→eff = .keep∨isAl th i o=true)∧(has std i=true→eff = .keep)∧(eff = .keep∨∃ l,eff = .push l):=by
   cases eff with
   | keep=>exact ⟨by simp only [frontEffS] at hC1; rw [← Option.some.inj hC1]; simp [obsOf],fun _=>.inl rfl,fun _=>rfl,.inl rfl⟩
   | put M'=>simp [frontEffS] at hC1
   | push l'=>
    simp only [frontEffS] at hC1
    split at hC1
    ·cases hC1
    ·rename_i hs
     split at hC1
     ·split at hC1
      ·rename_i ha
       exact ⟨(Option.some.inj hC1).symm,fun _=>.inr ha,fun e=>absurd e hs,.inr ⟨_,rfl⟩⟩
      ·cases hC1
     ·rename_i hc
      exact ⟨(Option.some.inj hC1).symm,fun e=>absurd e hc,fun e=>absurd e hs,.inr ⟨_,rfl⟩⟩
  obtain ⟨k1,k2,k3,k4⟩:=k1
  refine ⟨⟨i,o,e,(if has calm i=true then [] else M),M.length + C.length,y,eff⟩::tr,by simp [g1],by rw [g2]; rfl,by rw [g3,k1]; simp,fun q t hq=>?_,fun D M' hc=>?_⟩
  ·cases q with
   | zero=>
    simp only [List.getElem?_cons_zero,Option.some.injEq] at hq
    subst hq
    exact ⟨hp,rfl,by simp,rfl,k2,k3,k4⟩
   | succ q=>
    rw [List.getElem?_cons_succ] at hq
    obtain ⟨q1,q2,q3,q4⟩:=g4 q t hq
    exact ⟨q1,by rw [q2]; rfl,by rw [q3,k1]; simp,q4⟩
  ·obtain ⟨h1,h2⟩:=g5 D M' hc
   obtain ⟨h3,h4⟩:=styOf_chk (t:=⟨i,o,e,(if has calm i=true then [] else M),M.length + C.length,y,eff⟩) h1
   refine ⟨h3,fun t ht=>?_⟩
   rcases List.mem_cons.1 ht with rfl | ht
   ·exact h4
   ·exact h2 t ht
theorem back_traceS {c:Cx} {call:CallF} {ob th:List Nat} {ops:Array Oper} {S:Sty}:∀ (l:List (Nat×Oper)) (e:Env) (M:Mem) (e':Env) (M':Mem),evalBackS c call ob th ops S l e M=some (e',M') →
  ∃ tr:List Tr,tr.map (fun t=>(t.i,t.o))=l∧e'=envA e tr∧M'=memA M tr∧(∀ (q:Nat) t,tr[q]? = some t→TrOk c call ob th ops t∧t.e=envA e (tr.take q)∧t.M=memA M (tr.take q)∧t.n=t.M.length) ∧
   ∀ (q:Nat) t,tr[q]? = some t→chk (depl ops t.i) S (memA M (tr.take (q + 1)))
 | [],e,M,e',M',h=>by
  simp only [evalBackS,Option.some.injEq,Prod.mk.injEq] at h
  obtain ⟨rfl,rfl⟩:=h
  exact ⟨[],rfl,rfl,rfl,by simp,by simp⟩
 | (i,o)::l,e,M,e',M',h=>by
  simp only [evalBackS] at h
  obtain ⟨⟨y,eff⟩,hp,h⟩:=Option.bind_eq_some_iff.1 h
  unfold chkO at h
  split at h
  rotate_left
  ·cases h
  rename_i hc
  obtain ⟨tr,g1,g2,g3,g4,g5⟩:=back_traceS l _ _ e' M' h
  refine ⟨⟨i,o,e,M,M.length,y,eff⟩::tr,by simp [g1],by rw [g2]; rfl,by rw [g3]; rfl,fun q t hq=>?_,fun q t hq=>?_⟩
  ·cases q with
   | zero=>
    simp only [List.getElem?_cons_zero,Option.some.injEq] at hq
    subst hq
    exact ⟨hp,rfl,rfl,rfl⟩
   | succ q=>
    rw [List.getElem?_cons_succ] at hq
    obtain ⟨k1,k2,k3,k4⟩:=g4 q t hq
    exact ⟨k1,by rw [k2]; rfl,by rw [k3]; rfl,k4⟩
  ·cases q with
   | zero=>
    simp only [List.getElem?_cons_zero,Option.some.injEq] at hq
    subst hq
    exact hc
   | succ q=>
    rw [List.getElem?_cons_succ] at hq
    exact g5 q t hq
theorem envA_get (x:Nat):∀ (l:List Tr) (e:Env),(∃ t ∈ l,t.o.dst=some x∧eget (envA e l) x=t.y)∨((∀ t ∈ l,t.o.dst≠some x)∧eget (envA e l) x=eget e x)
 | [],e=>.inr ⟨by simp,rfl⟩
 | t::l,e=>by
  rcases envA_get x l (put e t.o.dst t.y) with ⟨t',h1,h2,h3⟩ | ⟨h1,h2⟩
  ·exact .inl ⟨t',List.mem_cons_of_mem _ h1,h2,h3⟩
  ·by_cases hd:t.o.dst=some x
   ·exact .inl ⟨t,by simp,hd,by show eget (envA (put e t.o.dst t.y) l) x=_; rw [h2,put_get,if_pos hd]⟩
   ·refine .inr ⟨fun t' ht=>?_,by show eget (envA (put e t.o.dst t.y) l) x=_; rw [h2,put_get,if_neg hd]⟩
    rcases List.mem_cons.1 ht with rfl | ht
    ·exact hd
    ·exact h1 t' ht
theorem envA_append (e:Env) (l l':List Tr):envA e (l++l')=envA (envA e l) l':=List.foldl_append
theorem memA_take {M:Mem} {l:List Tr} {s:Nat} {t:Tr} (h:l[s]? = some t):memA M (l.take (s + 1))=t.eff.on (memA M (l.take s)):=by
 obtain ⟨hlt,rfl⟩:=List.getElem?_eq_some_iff.1 h
 rw [List.take_succ_eq_append_getElem hlt]
 unfold memA
 rw [List.foldl_append]
 rfl
theorem numbered_get:∀ (l:List Oper) (i k:Nat),(numbered i l)[k]? = (l[k]?).map fun o=>(i + k,o)
 | [],i,k=>by simp [numbered]
 | o::l,i,k=>by
  cases k with
  | zero=>simp [numbered]
  | succ k=>rw [numbered,List.getElem?_cons_succ,numbered_get l (i + 1) k,List.getElem?_cons_succ]; congr 1; funext o; congr 1; omega
theorem numbered_pw:∀ (l:List Oper) (i:Nat),(numbered i l).Pairwise fun p q=>p.1 < q.1
 | [],i=>by simp [numbered]
 | o::l,i=>by
  simp only [numbered,List.pairwise_cons]
  refine ⟨fun p hp=>?_,numbered_pw l (i + 1)⟩
  obtain ⟨k,hk⟩:=List.getElem?_of_mem hp
  rw [numbered_get] at hk
  obtain ⟨o',_,rfl⟩:=Option.map_eq_some_iff.1 hk
  simp only; omega
theorem numbered_mem {ops:Array Oper} {i:Nat} {o:Oper}:(i,o) ∈ numbered 0 ops.toList↔ops[i]? = some o:=by
 constructor
 ·intro h
  obtain ⟨k,hk⟩:=List.getElem?_of_mem h
  rw [numbered_get] at hk
  obtain ⟨o',h1,h2⟩:=Option.map_eq_some_iff.1 hk
  simp only [Nat.zero_add,Prod.mk.injEq] at h2
  obtain ⟨rfl,rfl⟩:=h2
  simpa using h1
 ·intro h
  refine List.mem_of_getElem? (i:=i) ?_
  rw [numbered_get]
  have:ops.toList[i]? = some o:=by simpa using h
  rw [this]; simp
theorem fold_bits (f:Nat→Nat):∀ (l:List Nat) (s i:Nat),(l.foldl (fun s j=>s ||| (1 <<< j) ||| f j) s).testBit i=true→s.testBit i=true∨∃ j ∈ l,i=j∨(f j).testBit i=true
 | [],s,i,h=>.inl h
 | j::l,s,i,h=>by
  rcases fold_bits f l _ i h with h | ⟨j',h1,h2⟩
  ·rw [Nat.testBit_or,Nat.testBit_or,Bool.or_eq_true,Bool.or_eq_true] at h
   rcases h with (h | h) | h
   ·exact .inl h
   ·rw [Nat.one_shiftLeft,Nat.testBit_two_pow] at h
    exact .inr ⟨j,by simp,.inl (of_decide_eq_true h).symm⟩
   ·exact .inr ⟨j,by simp,.inr h⟩
  ·exact .inr ⟨j',List.mem_cons_of_mem _ h1,h2⟩
theorem masks_spec:∀ (l:List Oper) (ms:List Nat),∃ tl:List Nat,masks ms l=ms++tl∧tl.length=l.length∧∀ k o,l[k]? = some o→(masks ms l)[ms.length + k]? = some (maskOf ((masks ms l).take (ms.length + k)) o)
 | [],ms=>⟨[],by simp [masks],rfl,by simp⟩
 | o::l,ms=>by
  obtain ⟨tl,h1,h2,h3⟩:=masks_spec l (ms++[maskOf ms o])
  refine ⟨maskOf ms o::tl,by simp [masks,h1],by simp [h2],fun k o' hk=>?_⟩
  cases k with
  | zero=>
   simp at hk
   subst hk
   simp only [masks,h1,Nat.add_zero]
   rw [List.append_assoc,List.getElem?_append_right (Nat.le_refl _),Nat.sub_self,List.take_left]
   rfl
  | succ k=>
   rw [List.getElem?_cons_succ] at hk
   have:=h3 k o' hk
   simp only [List.length_append,List.length_singleton] at this
   simp only [masks]
   rw [show ms.length + (k + 1)=ms.length + 1 + k by omega]
   exact this
theorem clos {ops:Array Oper} {In:Nat→Prop} (hd:∀ k o,ops[k]? = some o→In k→∀ j ∈ edgesOf o,In j):∀ (k i:Nat),In k→((masks [] ops.toList).getD k 0).testBit i=true→In i:=by
 intro k
 induction k using Nat.strongRecOn with
 | _ k ih=>
  intro i hk hb
  obtain ⟨tl,h1,h2,h3⟩:=masks_spec ops.toList []
  cases ho:ops[k]? with
  | none=>
   have hlen:(masks [] ops.toList).length≤k:=by
    rw [h1]; simp [h2]
    exact Array.getElem?_eq_none_iff.1 ho
   rw [List.getD_eq_getElem?_getD,List.getElem?_eq_none hlen] at hb
   simp at hb
  | some o=>
   have:=h3 k o (by simpa using ho)
   simp only [List.length_nil,Nat.zero_add] at this
   rw [List.getD_eq_getElem?_getD,this] at hb
   simp only [Option.getD_some,maskOf] at hb
   rcases fold_bits _ _ 0 i hb with h | ⟨j,h4,h5⟩
   ·simp at h
   ·have hj:=hd k o ho hk j h4
    rcases h5 with rfl | h5
    ·exact hj
    ·by_cases hjk:j < k
     ·rw [List.getD_eq_getElem?_getD,List.getElem?_take,if_pos hjk,← List.getD_eq_getElem?_getD] at h5
      exact ih j hjk i hj h5
     ·rw [List.getD_eq_getElem?_getD,List.getElem?_take,if_neg hjk] at h5
      simp at h5
end Go.Ab
