/- Regions whose operations come in any order: the trace of the evaluation, and what the order leaves alone. -/
import Derived.Test.YtkdinadmheomfaaGreatAbReg
import Derived.Orders
set_option linter.unusedVariables false
set_option linter.unusedSimpArgs false
namespace Go.Ab
open Go Go.RowKit
theorem wL {a b:Nat} (h:Nat.blt a b=true):a < b:=Nat.le_of_ble_eq_true (by simpa only [Nat.blt] using h)
theorem gn {l:List Nat} {i:Nat}:fg l i=true↔i ∈ l:=by
 unfold fg
 rw [List.any_eq_true]
 constructor
 ·rintro ⟨j,D,F⟩; rw [<- Nat.eq_of_beq_eq_true F]; exact D
 ·intro h; exact ⟨i,h,by simp⟩
structure Tr where
 i:Nat
 o:Oper
 e:b4
 M:bs
 n:Nat
 y:AV
 eff:Eff
def wo (c:Cx) (call:bh) (ob th:List Nat) (ops:Array Oper) (t:Tr):Prop:=
 gL (j4 ops t.e t.o) (mv c call (fg ob t.i) (fg th t.i) t.n t.o (prune (rds t.o) t.e) t.M)=some (t.y,t.eff)
def o4 (e:b4) (l:List Tr):b4:=l.foldl (fun e t=>put e t.o.dst t.y) e
def pA (M:bs) (l:List Tr):bs:=l.foldl (fun M t=>t.eff.on M) M
def cH (t:Tr):List Ob:=match t.eff with | .push l=>l | _=>[]
theorem yi {c:Cx} {call:bh} {ob th calm:List Nat} {ops:Array Oper} {M:bs}:∀ (l:List (Nat×Oper)) (e:b4) (C:List Ob) (I:b4) (G:List Ob),px c call ob th calm ops M l e C=some (I,G) ->
  ∃ D:List Tr,D.map (fun t=>(t.i,t.o))=l/\I=o4 e D/\G=C++D.flatMap cH/\∀ (q:Nat) t,D[q]? = some t->wo c call ob th ops t/\t.e=o4 e (D.take q)/\t.n=M.length + (C++(D.take q).flatMap cH).length /\
   t.M=(if fg calm t.i=true then [] else M)/\(fg calm t.i=true->t.eff = .keep)/\(t.eff = .keep∨∃ l,t.eff = .push l)
 | [],e,C,I,G,h=>by
  simp only [px,Option.some.injEq,Prod.mk.injEq] at h
  obtain ⟨rfl,rfl⟩:=h
  exact ⟨[],rfl,rfl,by simp,by simp⟩
 | (i,o)::l,e,C,I,G,h=>by
  simp only [px] at h
  obtain ⟨⟨y,eff⟩,hp,h⟩:=Option.bind_eq_some_iff.1 h
  have U:∀ J,J=C++cH ⟨i,o,e,(if fg calm i=true then [] else M),M.length + C.length,y,eff⟩->(fg calm i=true->eff = .keep)->(eff = .keep∨∃ l,eff = .push l)->px c call ob th calm ops M l (put e o.dst y) J=some (I,G) ->
    ∃ D:List Tr,D.map (fun t=>(t.i,t.o))=(i,o)::l/\I=o4 e D/\G=C++D.flatMap cH/\∀ (q:Nat) t,D[q]? = some t->wo c call ob th ops t/\t.e=o4 e (D.take q)/\t.n=M.length + (C++(D.take q).flatMap cH).length /\
     t.M=(if fg calm t.i=true then [] else M)/\(fg calm t.i=true->t.eff = .keep)/\(t.eff = .keep∨∃ l,t.eff = .push l):=by
   intro J F ac ad h
   obtain ⟨D,X,Y,Z,aa⟩:=yi l _ J I G h
   refine ⟨⟨i,o,e,(if fg calm i=true then [] else M),M.length + C.length,y,eff⟩::D,by simp [X],by rw [Y]; rfl,by rw [Z,F]; simp,fun q t N=>?_⟩
   cases q with
   | zero=>
    simp only [List.getElem?_cons_zero,Option.some.injEq] at N
    subst N
    exact ⟨hp,rfl,by simp,rfl,ac,ad⟩
   | succ q=>
    rw [List.getElem?_cons_succ] at N
    obtain ⟨af,ah,ai,aj⟩:=aa q t N
    exact ⟨af,by rw [ah]; rfl,by rw [ai,F]; simp,aj⟩
  replace h:=Option.bind_eq_some_iff.1 h
  obtain ⟨J,F,h⟩:=h
  cases eff with
  | keep=>
   obtain rfl:=Option.some.inj F
   exact U C (by simp [cH]) (fun _=>rfl) (.inl rfl) h
  | push O=>
   simp only [wT] at F
   split at F
   ·cases F
   ·rename_i ae
    obtain rfl:=Option.some.inj F
    exact U (C++O) (by simp [cH]) (fun ab=>absurd ab ae) (.inr ⟨O,rfl⟩) h
  | put M'=>cases F
theorem zT {c:Cx} {call:bh} {ob th:List Nat} {ops:Array Oper}:∀ (l:List (Nat×Oper)) (e:b4) (M:bs) (F:b4) (M':bs),mZ c call ob th ops l e M=some (F,M') ->
  ∃ D:List Tr,D.map (fun t=>(t.i,t.o))=l/\F=o4 e D/\M'=pA M D/\∀ (q:Nat) t,D[q]? = some t->wo c call ob th ops t/\t.e=o4 e (D.take q)/\t.M=pA M (D.take q)/\t.n=t.M.length
 | [],e,M,F,M',h=>by
  simp only [mZ,Option.some.injEq,Prod.mk.injEq] at h
  obtain ⟨rfl,rfl⟩:=h
  exact ⟨[],rfl,rfl,rfl,by simp⟩
 | (i,o)::l,e,M,F,M',h=>by
  simp only [mZ] at h
  obtain ⟨⟨y,I⟩,hp,h⟩:=Option.bind_eq_some_iff.1 h
  obtain ⟨D,J,N,O,U⟩:=zT l _ _ F M' h
  refine ⟨⟨i,o,e,M,M.length,y,I⟩::D,by simp [J],by rw [N]; rfl,by rw [O]; rfl,fun q t G=>?_⟩
  cases q with
  | zero=>
   simp only [List.getElem?_cons_zero,Option.some.injEq] at G
   subst G
   exact ⟨hp,rfl,rfl,rfl⟩
  | succ q=>
   rw [List.getElem?_cons_succ] at G
   obtain ⟨X,Y,Z,aa⟩:=U q t G
   exact ⟨X,by rw [Y]; rfl,by rw [Z]; rfl,aa⟩
def Kt (c:Cx) (call:bh) (ob th calm std:List Nat) (ops:Array Oper) (t:Tr) (M:bs):Prop:=
 (fg std t.i=true->wo c call ob th ops { t with M:=M })/\(fg std t.i=false->fg calm t.i=true->∀ l,t.eff = .push l->AO M t.n l)
theorem FO {c:Cx} {call:bh} {ob th calm std:List Nat} {ops:Array Oper} {t:Tr} {F:List Nat} {S:w5} {M:bs}
  (h:Fp F (EJ (fg calm t.i) (fg std t.i) t.i t.n (fun M'=>gL (j4 ops t.e t.o) (mv c call (fg ob t.i) (fg th t.i) t.n t.o (prune (rds t.o) t.e) M')) (t.y,t.eff) S) M) :
  Fp F S M/\(fg F t.i=true∨Kt c call ob th calm std ops t M):=by
 unfold EJ at h
 cases h1:fg std t.i with
 | true=>
  simp only [h1,if_true] at h
  refine ⟨fun p G=>h p (List.mem_cons_of_mem _ G),(h _ (List.mem_cons_self ..)).imp id (fun D=>⟨fun _=>D,fun e=>(by rw [h1] at e; cases e)⟩)⟩
 | false=>
  simp only [h1,Bool.false_eq_true,if_false] at h
  cases D:fg calm t.i with
  | false=>
   simp only [D,Bool.false_eq_true,if_false] at h
   exact ⟨h,.inr ⟨fun e=>(by rw [h1] at e; cases e),fun _ e=>(by rw [D] at e; cases e)⟩⟩
  | true=>
   simp only [D,if_true] at h
   cases he:t.eff with
   | push l=>
    simp only [he] at h
    refine ⟨fun p G=>h p (List.mem_cons_of_mem _ G),(h _ (List.mem_cons_self ..)).imp id (fun J=>⟨fun e=>(by rw [h1] at e; cases e),fun _ _ I e=>?_⟩)⟩
    rw [he] at e
    cases e
    exact J
   | keep=>rw [he] at h; exact ⟨h,.inr ⟨fun e=>(by rw [h1] at e; cases e),fun _ _ I e=>(by rw [he] at e; cases e)⟩⟩
   | put N=>rw [he] at h; exact ⟨h,.inr ⟨fun e=>(by rw [h1] at e; cases e),fun _ _ I e=>(by rw [he] at e; cases e)⟩⟩
theorem wu {c:Cx} {call:bh} {ob th calm std:List Nat} {ops:Array Oper} {M:bs}:∀ (l:List (Nat×Oper)) (e:b4) (C:List Ob) (S:w5) (N:b4) (I:List Ob) (J:w5),pW c call ob th calm std ops M l e C S=some (N,I,J) ->
  ∃ F:List Tr,F.map (fun t=>(t.i,t.o))=l/\N=o4 e F/\I=C++F.flatMap cH/\(∀ (q:Nat) t,F[q]? = some t->wo c call ob th ops t/\t.e=o4 e (F.take q)/\t.n=M.length + (C++(F.take q).flatMap cH).length /\
   t.M=(if fg calm t.i=true then [] else M)/\(fg calm t.i=true->t.eff = .keep∨BR th t.i t.o=true)/\(fg std t.i=true->t.eff = .keep)/\(t.eff = .keep∨∃ l,t.eff = .push l)) /\
   ∀ G M',Fp G J M'->Fp G S M'/\∀ t ∈ F,fg G t.i=true∨Kt c call ob th calm std ops t M'
 | [],e,C,S,N,I,J,h=>by
  simp only [pW,Option.some.injEq,Prod.mk.injEq] at h
  obtain ⟨rfl,rfl,rfl⟩:=h
  exact ⟨[],rfl,rfl,by simp,by simp,fun G M' h=>⟨h,by simp⟩⟩
 | (i,o)::l,e,C,S,N,I,J,h=>by
  simp only [pW] at h
  obtain ⟨⟨y,eff⟩,hp,h⟩:=Option.bind_eq_some_iff.1 h
  obtain ⟨Z,D,h⟩:=Option.bind_eq_some_iff.1 h
  obtain ⟨F,ab,ac,ad,ae,af⟩:=wu l _ Z _ N I J h
  have U:Z=C++cH ⟨i,o,e,(if fg calm i=true then [] else M),M.length + C.length,y,eff⟩/\(fg calm i=true->eff = .keep∨BR th i o=true)/\(fg std i=true->eff = .keep)/\(eff = .keep∨∃ l,eff = .push l):=by
   cases eff with
   | keep=>exact ⟨by simp only [rL] at D; rw [<- Option.some.inj D]; simp [cH],fun _=>.inl rfl,fun _=>rfl,.inl rfl⟩
   | put M'=>simp [rL] at D
   | push aw=>
    simp only [rL] at D
    split at D
    ·cases D
    ·rename_i aa
     split at D
     ·split at D
      ·rename_i am
       exact ⟨(Option.some.inj D).symm,fun _=>.inr am,fun e=>absurd e aa,.inr ⟨_,rfl⟩⟩
      ·cases D
     ·rename_i X
      exact ⟨(Option.some.inj D).symm,fun e=>absurd e X,fun e=>absurd e aa,.inr ⟨_,rfl⟩⟩
  obtain ⟨U,an,ao,ap⟩:=U
  refine ⟨⟨i,o,e,(if fg calm i=true then [] else M),M.length + C.length,y,eff⟩::F,by simp [ab],by rw [ac]; rfl,by rw [ad,U]; simp,fun q t O=>?_,fun G M' X=>?_⟩
  ·cases q with
   | zero=>
    simp only [List.getElem?_cons_zero,Option.some.injEq] at O
    subst O
    exact ⟨hp,rfl,by simp,rfl,an,ao,ap⟩
   | succ q=>
    rw [List.getElem?_cons_succ] at O
    obtain ⟨aq,ar,au,av⟩:=ae q t O
    exact ⟨aq,by rw [ar]; rfl,by rw [au,U]; simp,av⟩
  ·obtain ⟨ah,ai⟩:=af G M' X
   obtain ⟨aj,ak⟩:=FO (t:=⟨i,o,e,(if fg calm i=true then [] else M),M.length + C.length,y,eff⟩) ah
   refine ⟨aj,fun t Y=>?_⟩
   rcases List.mem_cons.1 Y with rfl | Y
   ·exact ak
   ·exact ai t Y
theorem yp {c:Cx} {call:bh} {ob th:List Nat} {ops:Array Oper} {S:w5}:∀ (l:List (Nat×Oper)) (e:b4) (M:bs) (G:b4) (M':bs),rH c call ob th ops S l e M=some (G,M') ->
  ∃ D:List Tr,D.map (fun t=>(t.i,t.o))=l/\G=o4 e D/\M'=pA M D/\(∀ (q:Nat) t,D[q]? = some t->wo c call ob th ops t/\t.e=o4 e (D.take q)/\t.M=pA M (D.take q)/\t.n=t.M.length) /\
   ∀ (q:Nat) t,D[q]? = some t->Fp (NO ops t.i) S (pA M (D.take (q + 1)))
 | [],e,M,G,M',h=>by
  simp only [rH,Option.some.injEq,Prod.mk.injEq] at h
  obtain ⟨rfl,rfl⟩:=h
  exact ⟨[],rfl,rfl,rfl,by simp,by simp⟩
 | (i,o)::l,e,M,G,M',h=>by
  simp only [rH] at h
  obtain ⟨⟨y,I⟩,hp,h⟩:=Option.bind_eq_some_iff.1 h
  unfold Hp at h
  split at h
  rotate_left
  ·cases h
  rename_i Y
  obtain ⟨D,J,N,O,U,X⟩:=yp l _ _ G M' h
  refine ⟨⟨i,o,e,M,M.length,y,I⟩::D,by simp [J],by rw [N]; rfl,by rw [O]; rfl,fun q t F=>?_,fun q t F=>?_⟩
  ·cases q with
   | zero=>
    simp only [List.getElem?_cons_zero,Option.some.injEq] at F
    subst F
    exact ⟨hp,rfl,rfl,rfl⟩
   | succ q=>
    rw [List.getElem?_cons_succ] at F
    obtain ⟨Z,aa,ab,ac⟩:=U q t F
    exact ⟨Z,by rw [aa]; rfl,by rw [ab]; rfl,ac⟩
  ·cases q with
   | zero=>
    simp only [List.getElem?_cons_zero,Option.some.injEq] at F
    subst F
    exact Y
   | succ q=>
    rw [List.getElem?_cons_succ] at F
    exact X q t F
theorem Aa (x:Nat):∀ (l:List Tr) (e:b4),(∃ t ∈ l,t.o.dst=some x/\a3 (o4 e l) x=t.y)∨((∀ t ∈ l,t.o.dst≠some x)/\a3 (o4 e l) x=a3 e x)
 | [],e=>.inr ⟨by simp,rfl⟩
 | t::l,e=>by
  rcases Aa x l (put e t.o.dst t.y) with ⟨I,F,D,J⟩ | ⟨F,D⟩
  ·exact .inl ⟨I,List.mem_cons_of_mem _ F,D,J⟩
  ·by_cases hd:t.o.dst=some x
   ·exact .inl ⟨t,by simp,hd,by show a3 (o4 (put e t.o.dst t.y) l) x=_; rw [D,Bp,if_pos hd]⟩
   ·refine .inr ⟨fun I G=>?_,by show a3 (o4 (put e t.o.dst t.y) l) x=_; rw [D,Bp,if_neg hd]⟩
    rcases List.mem_cons.1 G with rfl | G
    ·exact hd
    ·exact F I G
theorem yo (e:b4) (l D:List Tr):o4 e (l++D)=o4 (o4 e l) D:=List.foldl_append
theorem AZ {M:bs} {l:List Tr} {s:Nat} {t:Tr} (h:l[s]? = some t):pA M (l.take (s + 1))=t.eff.on (pA M (l.take s)):=by
 obtain ⟨D,rfl⟩:=List.getElem?_eq_some_iff.1 h
 rw [List.take_succ_eq_append_getElem D]
 unfold pA
 rw [List.foldl_append]
 rfl
theorem pm:∀ (l:List Oper) (i k:Nat),(dV i l)[k]? = (l[k]?).map fun o=>(i + k,o)
 | [],i,k=>by simp [dV]
 | o::l,i,k=>by
  cases k with
  | zero=>simp [dV]
  | succ k=>rw [dV,List.getElem?_cons_succ,pm l (i + 1) k,List.getElem?_cons_succ]; congr 1; funext o; congr 1; omega
theorem yk:∀ (l:List Oper) (i:Nat),(dV i l).Pairwise fun p q=>p.1 < q.1
 | [],i=>by simp [dV]
 | o::l,i=>by
  simp only [dV,List.pairwise_cons]
  refine ⟨fun p F=>?_,yk l (i + 1)⟩
  obtain ⟨k,D⟩:=List.getElem?_of_mem F
  rw [pm] at D
  obtain ⟨G,_,rfl⟩:=Option.map_eq_some_iff.1 D
  simp only; omega
theorem gd {ops:Array Oper} {i:Nat} {o:Oper}:(i,o) ∈ dV 0 ops.toList↔ops[i]? = some o:=by
 constructor
 ·intro h
  obtain ⟨k,F⟩:=List.getElem?_of_mem h
  rw [pm] at F
  obtain ⟨I,G,D⟩:=Option.map_eq_some_iff.1 F
  simp only [Nat.zero_add,Prod.mk.injEq] at D
  obtain ⟨rfl,rfl⟩:=D
  simpa using G
 ·intro h
  refine List.mem_of_getElem? (i:=i) ?_
  rw [pm]
  have:ops.toList[i]? = some o:=by simpa using h
  rw [this]; simp
theorem AD (f:Nat->Nat):∀ (l:List Nat) (s i:Nat),(l.foldl (fun s j=>s ||| (1 <<< j) ||| f j) s).testBit i=true->s.testBit i=true∨∃ j ∈ l,i=j∨(f j).testBit i=true
 | [],s,i,h=>.inl h
 | j::l,s,i,h=>by
  rcases AD f l _ i h with h | ⟨G,D,F⟩
  ·rw [Nat.testBit_or,Nat.testBit_or,Bool.or_eq_true,Bool.or_eq_true] at h
   rcases h with (h | h) | h
   ·exact .inl h
   ·rw [Nat.one_shiftLeft,Nat.testBit_two_pow] at h
    exact .inr ⟨j,by simp,.inl (of_decide_eq_true h).symm⟩
   ·exact .inr ⟨j,by simp,.inr h⟩
  ·exact .inr ⟨G,List.mem_cons_of_mem _ D,F⟩
theorem zN:∀ (l:List Oper) (D:List Nat),∃ G:List Nat,oC D l=D++G/\G.length=l.length/\∀ k o,l[k]? = some o->(oC D l)[D.length + k]? = some (zi ((oC D l).take (D.length + k)) o)
 | [],D=>⟨[],by simp [oC],rfl,by simp⟩
 | o::l,D=>by
  obtain ⟨G,I,J,N⟩:=zN l (D++[zi D o])
  refine ⟨zi D o::G,by simp [oC,I],by simp [J],fun k O F=>?_⟩
  cases k with
  | zero=>
   simp at F
   subst F
   simp only [oC,I,Nat.add_zero]
   rw [List.append_assoc,List.getElem?_append_right (Nat.le_refl _),Nat.sub_self,List.take_left]
   rfl
  | succ k=>
   rw [List.getElem?_cons_succ] at F
   have:=N k O F
   simp only [List.length_append,List.length_singleton] at this
   simp only [oC]
   rw [show D.length + (k + 1)=D.length + 1 + k by omega]
   exact this
theorem MX {ops:Array Oper} {In:Nat->Prop} (U:∀ k o,ops[k]? = some o->In k->∀ j ∈ iX o,In j):∀ (k i:Nat),In k->((oC [] ops.toList).getD k 0).testBit i=true->In i:=by
 intro k
 induction k using Nat.strongRecOn with
 | _ k Z=>
  intro i X F
  obtain ⟨aa,I,J,N⟩:=zN ops.toList []
  cases ho:ops[k]? with
  | none=>
   have Y:(oC [] ops.toList).length<=k:=by
    rw [I]; simp [J]
    exact Array.getElem?_eq_none_iff.1 ho
   rw [List.getD_eq_getElem?_getD,List.getElem?_eq_none Y] at F
   simp at F
  | some o=>
   have:=N k o (by simpa using ho)
   simp only [List.length_nil,Nat.zero_add] at this
   rw [List.getD_eq_getElem?_getD,this] at F
   simp only [Option.getD_some,zi] at F
   rcases AD _ _ 0 i F with h | ⟨j,O,D⟩
   ·simp at h
   ·have G:=U k o ho X j O
    rcases D with rfl | D
    ·exact G
    ·by_cases hjk:j < k
     ·rw [List.getD_eq_getElem?_getD,List.getElem?_take,if_pos hjk,<- List.getD_eq_getElem?_getD] at D
      exact Z j hjk i G D
     ·rw [List.getD_eq_getElem?_getD,List.getElem?_take,if_neg hjk] at D
      simp at D
end Go.Ab
