/- Regions in any order: the state in between, and that it leads where the evaluator says. -/
import Derived.Test.YtkdinadmheomfaaGreatAbDraw
set_option linter.unusedVariables false
set_option linter.unusedSimpArgs false
namespace Go.Ab
open Go Go.RowKit
def Ot (suf:List Nat) (a b:Tr):Prop:=(fg suf a.i=false/\fg suf b.i=true)∨(fg suf a.i=fg suf b.i/\a.i < b.i)
def nH (In:Nat->Bool) (t:Tr):bs:=match t.eff with | .push l=>if In t.i=true then l.map .live else List.replicate l.length .pend | _=>[]
theorem Kj (In:Nat->Bool) (t:Tr):(nH In t).length=(cH t).length:=by
 unfold nH cH
 cases t.eff <;> simp
 split <;> simp
theorem C0 (In:Nat->Bool):∀ l:List Tr,(l.flatMap (nH In)).length=(l.flatMap cH).length
 | []=>rfl
 | t::l=>by simp only [List.flatMap_cons,List.length_append,Kj,C0 In l]
theorem A1:∀ (l:List Ob) (D W:bs),nv (D++List.replicate l.length Ent.pend++W) D.length l=D++l.map .live++W
 | [],D,W=>by simp [nv]
 | o::l,D,W=>by
  have e:(D++List.replicate (l.length + 1) Ent.pend++W).set D.length (.live o)=(D++[.live o])++List.replicate l.length Ent.pend++W:=by
   rw [List.append_assoc,List.set_append_right _ _ (Nat.le_refl _),Nat.sub_self,List.replicate_succ]
   simp
  simp only [nv,List.length_cons]
  rw [e,show D.length + 1=(D++[Ent.live o]).length by simp]
  refine Eq.trans (A1 l (D++[Ent.live o]) W) ?_
  simp
theorem FM {In In':Nat->Bool} {FT:List Tr} {q:Nat} {t:Tr} (ai:FT[q]? = some t) (ae:In t.i=false) (af:In' t.i=true) (ah:∀ D ∈ FT,D.i≠t.i->In' D.i=In D.i) (Y:∀ ab D,FT[ab]? = some D->D.i=t.i->ab=q) (M0:bs) :
  (∀ l,t.eff = .push l->nv (M0++FT.flatMap (nH In)) (M0.length + ((FT.take q).flatMap cH).length) l=M0++FT.flatMap (nH In') /\
   ∀ k,k < l.length->(M0++FT.flatMap (nH In))[M0.length + ((FT.take q).flatMap cH).length + k]? = some .pend) /\
  (t.eff = .keep->M0++FT.flatMap (nH In)=M0++FT.flatMap (nH In')):=by
 obtain ⟨ad,aj⟩:=List.getElem?_eq_some_iff.1 ai
 have aa:FT=FT.take q++t::FT.drop (q + 1):=by
  rw [<- aj,<- List.drop_eq_getElem_cons ad,List.take_append_drop]
 have ac:∀ l:List Tr,(∀ D ∈ l,D ∈ FT/\D.i≠t.i)->l.flatMap (nH In)=l.flatMap (nH In'):=by
  intro l Z
  induction l with
  | nil=>rfl
  | cons D l an=>
   simp only [List.flatMap_cons]
   obtain ⟨I,J⟩:=Z D (by simp)
   rw [an (fun x am=>Z x (List.mem_cons_of_mem _ am))]
   congr 1
   unfold nH
   rw [ah D I J]
 have I:(FT.take q).flatMap (nH In)=(FT.take q).flatMap (nH In'):=ac _ (fun D h=>⟨List.mem_of_mem_take h,fun e=>by
  obtain ⟨k,F⟩:=List.getElem?_of_mem h
  rw [List.getElem?_take] at F
  split at F
  ·have:=Y k D F e; omega
  ·cases F⟩)
 have J:(FT.drop (q + 1)).flatMap (nH In)=(FT.drop (q + 1)).flatMap (nH In'):=ac _ (fun D h=>⟨List.mem_of_mem_drop h,fun e=>by
  obtain ⟨k,F⟩:=List.getElem?_of_mem h
  rw [List.getElem?_drop] at F
  have:=Y _ D F e; omega⟩)
 have U:FT.flatMap (nH In)=(FT.take q).flatMap (nH In)++(nH In t++(FT.drop (q + 1)).flatMap (nH In)):=by
  conv=>lhs; rw [aa]
  simp
 have X:FT.flatMap (nH In')=(FT.take q).flatMap (nH In)++(nH In' t++(FT.drop (q + 1)).flatMap (nH In)):=by
  conv=>lhs; rw [aa]
  simp [<- I,<- J]
 have ak:(M0++(FT.take q).flatMap (nH In)).length=M0.length + ((FT.take q).flatMap cH).length:=by rw [List.length_append,C0]
 refine ⟨fun l G=>?_,fun G=>?_⟩
 ·have N:nH In t=List.replicate l.length Ent.pend:=by unfold nH; rw [G]; simp [ae]
  have O:nH In' t=l.map .live:=by unfold nH; rw [G]; simp [af]
  rw [U,X,N,O,<- List.append_assoc,<- List.append_assoc,<- ak]
  refine ⟨?_,fun k F=>?_⟩
  ·refine Eq.trans (A1 l _ _) ?_
   simp
  ·rw [List.append_assoc,List.getElem?_append_right (by omega),Nat.add_sub_cancel_left,List.getElem?_append_left (by simpa using F),List.getElem?_replicate,if_pos F]
 ·have N:nH In t=[]:=by unfold nH; rw [G]
  have O:nH In' t=[]:=by unfold nH; rw [G]
  rw [U,X,N,O]
theorem Dk {In:Nat->Bool}:∀ {FT:List Tr},(∀ t ∈ FT,In t.i=true∨t.eff = .keep)->FT.flatMap (nH In)=(FT.flatMap cH).map .live
 | [],_=>rfl
 | t::FT,h=>by
  simp only [List.flatMap_cons,List.map_append]
  rw [Dk (fun F D=>h F (List.mem_cons_of_mem _ D))]
  congr 1
  unfold nH cH
  rcases h t (by simp) with h | h
  ·cases t.eff <;> simp [h]
  ·rw [h]; rfl
section
variable {c:Cx} {call:bh} {ob th calm std suf:List Nat} {ops:Array Oper} {B nt:Nat} {M0:bs} {e0:b4} {FT BT:List Tr}
structure Told (c:Cx) (call:bh) (ob th calm std suf:List Nat) (ops:Array Oper) (nt:Nat) (M0:bs) (e0:b4) (FT BT:List Tr):Prop where
 hcall:o5 c.P call
 dst:∀ o ∈ ops.toList,Di nt o=true
 ok:vz ops (calm++std) suf=true
 fl:FT.map (fun t=>(t.i,t.o))=wJ suf (dV 0 ops.toList)
 bl:BT.map (fun t=>(t.i,t.o))=zW suf (dV 0 ops.toList)
 fr:∀ (q:Nat) t,FT[q]? = some t->wo c call ob th ops t/\t.e=o4 e0 (FT.take q)/\t.n=M0.length + ([]++(FT.take q).flatMap cH).length /\
   t.M=(if fg calm t.i=true then [] else M0)/\(fg calm t.i=true->t.eff = .keep∨BR th t.i t.o=true)/\(fg std t.i=true->t.eff = .keep)/\(t.eff = .keep∨∃ l,t.eff = .push l)
 br:∀ (q:Nat) t,BT[q]? = some t->wo c call ob th ops t/\t.e=o4 (o4 e0 FT) (BT.take q)/\t.M=pA (M0++(FT.flatMap cH).map .live) (BT.take q)/\t.n=t.M.length
 sd:∀ (q:Nat) b,BT[q]? = some b->∀ t ∈ FT,fg (calm++std) t.i=true->((oC [] ops.toList).getD b.i 0).testBit t.i=true∨Kt c call ob th calm std ops t (pA (M0++(FT.flatMap cH).map .live) (BT.take (q + 1)))
section
variable (T:Told c call ob th calm std suf ops nt M0 e0 FT BT)
include T
theorem Told.front {t:Tr} (h:t ∈ FT):ops[t.i]? = some t.o/\fg suf t.i=false:=by
 have:(t.i,t.o) ∈ wJ suf (dV 0 ops.toList):=by rw [<- T.fl]; exact List.mem_map.2 ⟨t,h,rfl⟩
 obtain ⟨D,F⟩:=List.mem_filter.1 this
 exact ⟨gd.1 D,by simpa using F⟩
theorem Told.back {t:Tr} (h:t ∈ BT):ops[t.i]? = some t.o/\fg suf t.i=true:=by
 have:(t.i,t.o) ∈ zW suf (dV 0 ops.toList):=by rw [<- T.bl]; exact List.mem_map.2 ⟨t,h,rfl⟩
 obtain ⟨D,F⟩:=List.mem_filter.1 this
 exact ⟨gd.1 D,by simpa using F⟩
theorem Told.at_ {t:Tr} (h:t ∈ FT++BT):ops[t.i]? = some t.o:=by
 rcases List.mem_append.1 h with h | h
 ·exact (T.front h).1
 ·exact (T.back h).1
theorem Told.all {i:Nat} {o:Oper} (h:ops[i]? = some o):∃ t ∈ FT++BT,t.i=i/\t.o=o:=by
 have G:=gd.2 h
 cases hs:fg suf i with
 | false=>
  have:(i,o) ∈ wJ suf (dV 0 ops.toList):=List.mem_filter.2 ⟨G,by simp [hs]⟩
  rw [<- T.fl] at this
  obtain ⟨t,D,F⟩:=List.mem_map.1 this
  injection F with h3 h4
  exact ⟨t,List.mem_append_left _ D,h3,h4⟩
 | true=>
  have:(i,o) ∈ zW suf (dV 0 ops.toList):=List.mem_filter.2 ⟨G,by simp [hs]⟩
  rw [<- T.bl] at this
  obtain ⟨t,D,F⟩:=List.mem_map.1 this
  injection F with h3 h4
  exact ⟨t,List.mem_append_right _ D,h3,h4⟩
theorem Told.pw:(FT++BT).Pairwise (Ot suf):=by
 have I:=yk ops.toList 0
 have J:FT.Pairwise fun a b=>a.i < b.i:=by
  have G:=I.filter (fun p=>!fg suf p.1)
  have:(FT.map (fun t=>(t.i,t.o))).Pairwise fun p q=>p.1 < q.1:=by rw [T.fl]; exact G
  exact (List.pairwise_map (f:=fun t:Tr=>(t.i,t.o)) (R:=fun p q=>p.1 < q.1)).1 this
 have D:BT.Pairwise fun a b=>a.i < b.i:=by
  have G:=I.filter (fun p=>fg suf p.1)
  have:(BT.map (fun t=>(t.i,t.o))).Pairwise fun p q=>p.1 < q.1:=by rw [T.bl]; exact G
  exact (List.pairwise_map (f:=fun t:Tr=>(t.i,t.o)) (R:=fun p q=>p.1 < q.1)).1 this
 refine List.pairwise_append.2 ⟨?_,?_,fun a F b D=>.inl ⟨(T.front F).2,(T.back D).2⟩⟩
 ·refine J.imp_of_mem (fun {a b} F D h=>.inr ⟨?_,h⟩)
  rw [(T.front F).2,(T.front D).2]
 ·refine D.imp_of_mem (fun {a b} F D h=>.inr ⟨?_,h⟩)
  rw [(T.back F).2,(T.back D).2]
theorem Told.lt_of {p q:Nat} {a b:Tr} (G:(FT++BT)[p]? = some a) (I:(FT++BT)[q]? = some b) (h:p < q):Ot suf a b:=by
 obtain ⟨D,rfl⟩:=List.getElem?_eq_some_iff.1 G
 obtain ⟨F,rfl⟩:=List.getElem?_eq_some_iff.1 I
 exact List.pairwise_iff_getElem.1 T.pw p q D F h
theorem Told.pos {p q:Nat} {a b:Tr} (N:(FT++BT)[p]? = some a) (J:(FT++BT)[q]? = some b) (h:Ot suf a b):p < q:=by
 rcases Nat.lt_trichotomy p q with h1 | h1 | h1
 ·exact h1
 ·subst h1
  rw [N] at J
  obtain rfl:=Option.some.inj J
  rcases h with ⟨D,F⟩ | ⟨_,F⟩
  ·rw [D] at F; cases F
  ·omega
 ·have:=T.lt_of J N h1
  rcases h with ⟨D,F⟩ | ⟨D,F⟩ <;> rcases this with ⟨G,I⟩ | ⟨G,I⟩
  ·rw [D] at I; cases I
  ·rw [D,F] at G; cases G
  ·rw [G,I] at D; cases D
  ·omega
theorem Told.inj {p q:Nat} {a b:Tr} (G:(FT++BT)[p]? = some a) (I:(FT++BT)[q]? = some b) (h:a.i=b.i):p=q:=by
 rcases Nat.lt_trichotomy p q with h1 | h1 | h1
 ·have:=T.lt_of G I h1
  rcases this with ⟨D,F⟩ | ⟨D,F⟩
  ·rw [h,F] at D; cases D
  ·omega
 ·exact h1
 ·have:=T.lt_of I G h1
  rcases this with ⟨D,F⟩ | ⟨D,F⟩
  ·rw [<- h,F] at D; cases D
  ·omega
theorem Told.env {q:Nat} {t:Tr} (D:(FT++BT)[q]? = some t):t.e=o4 e0 ((FT++BT).take q):=by
 by_cases h:q < FT.length
 ·rw [List.getElem?_append_left h] at D
  rw [(T.fr q t D).2.1,List.take_append_of_le_length (Nat.le_of_lt h)]
 ·rw [List.getElem?_append_right (by omega)] at D
  rw [(T.br _ t D).2.1,List.take_append,List.take_of_length_le (l:=FT) (by omega),yo]
theorem Told.tr {q:Nat} {t:Tr} (D:(FT++BT)[q]? = some t):wo c call ob th ops t:=by
 by_cases h:q < FT.length
 ·rw [List.getElem?_append_left h] at D
  exact (T.fr q t D).1
 ·rw [List.getElem?_append_right (by omega)] at D
  exact (T.br _ t D).1
theorem Told.deps {a b:Tr} (F:a ∈ FT++BT) (G:b ∈ FT++BT) {x:Nat} (J:x ∈ rds a.o++Of ops a.o) (I:b.o.dst=some x):a.i=b.i∨(b.i ∈ iX a.o/\b.i < a.i/\(fg suf a.i=true∨fg suf b.i=false)) ∨
  (((oC [] ops.toList).getD b.i 0).testBit a.i=true/\a.i < b.i/\(fg suf a.i=false∨fg suf b.i=true)):=by
 have h:=T.ok
 unfold vz at h
 simp only [Bool.and_eq_true,List.all_eq_true] at h
 have D:=h.1.1.1 (a.i,a.o) (gd.2 (T.at_ F)) (b.i,b.o) (gd.2 (T.at_ G)) x J
 simp only [y9,I,Bool.or_eq_true,Bool.and_eq_true,Bool.not_eq_true'] at D
 rcases D with ((D | D) | D) | D
 ·rw [Nat.beq_refl] at D; cases D
 ·exact .inl (Nat.eq_of_beq_eq_true D)
 ·exact .inr (.inl ⟨gn.1 D.1.1,wL D.1.2,D.2⟩)
 ·exact .inr (.inr ⟨D.1.1,wL D.1.2,D.2⟩)
theorem Told.one {a b:Tr} (F:a ∈ FT++BT) (G:b ∈ FT++BT) {x:Nat} (I:a.o.dst=some x) (J:b.o.dst=some x):a.i=b.i:=by
 have h:=T.ok
 unfold vz at h
 simp only [Bool.and_eq_true,List.all_eq_true] at h
 have D:=h.1.1.2 (a.i,a.o) (gd.2 (T.at_ F)) (b.i,b.o) (gd.2 (T.at_ G))
 simp only [I,y9,J,Nat.beq_refl,Bool.or_eq_true,Bool.not_true,Bool.false_eq_true,or_false] at D
 exact Nat.eq_of_beq_eq_true D
theorem Told.edge {i:Nat} {o:Oper} (h:ops[i]? = some o) {k:Nat} (F:k ∈ iX o):k < i:=by
 have D:=T.ok
 unfold vz at D
 simp only [Bool.and_eq_true,List.all_eq_true] at D
 exact wL (D.1.2 (i,o) (gd.2 h) k F)
theorem Told.suffix {a b:Tr} (N:a ∈ BT) (I:b ∈ FT++BT) (O:a.i≠b.i) (U:rp a.o=false):(fg suf b.i=true->rp b.o=false->a.i < b.i∨((oC [] ops.toList).getD a.i 0).testBit b.i=true) /\
  (fg suf b.i=false->fg (calm++std) b.i=true∨((oC [] ops.toList).getD a.i 0).testBit b.i=true):=by
 have G:=T.ok
 unfold vz at G
 simp only [Bool.and_eq_true,List.all_eq_true] at G
 have F:=G.2 (a.i,a.o) (gd.2 (T.back N).1)
 rw [Bool.or_eq_true,Bool.or_eq_true] at F
 rcases F with (F | F) | F
 ·simp only [(T.back N).2] at F; cases F
 ·simp only [U] at F; cases F
 ·rw [List.all_eq_true] at F
  have D:=F (b.i,b.o) (gd.2 (T.at_ I))
  simp only [Bool.or_eq_true] at D
  rcases D with D | D
  ·exact absurd (Nat.eq_of_beq_eq_true D) O
  ·refine ⟨fun J I=>?_,fun J=>?_⟩
   ·rw [if_pos J,Bool.or_eq_true,Bool.or_eq_true,I] at D
    rcases D with (D | D) | D
    ·cases D
    ·exact .inl (wL D)
    ·exact .inr D
   ·rw [if_neg (by rw [J]; simp),Bool.or_eq_true] at D
    exact D
theorem Told.pu {t:Tr} (Z:t ∈ FT++BT) (D:rp t.o=true):t.eff = .keep/\∀ n M,gL (j4 ops t.e t.o) (mv c call (fg ob t.i) (fg th t.i) n t.o (prune (rds t.o) t.e) M)=some (t.y,.keep):=by
 obtain ⟨q,Y⟩:=List.getElem?_of_mem Z
 have h:=T.tr Y
 unfold wo at h
 unfold rp at D
 split at D
 ·rename_i x k I J
  have G:∀ n M,mv c call (fg ob t.i) (fg th t.i) n t.o (prune (rds t.o) t.e) M=keep (oD k (eH (prune (rds t.o) t.e) x)):=fun n M=>by
   unfold mv; rw [I]
  rw [G] at h
  have X:j4 ops t.e t.o=none:=by unfold j4; rw [J]
  rw [X] at h ⊢
  have F:keep (oD k (eH (prune (rds t.o) t.e) x))=some (t.y,t.eff):=h
  unfold keep at F
  obtain ⟨v,N,O⟩:=Option.map_eq_some_iff.1 F
  obtain ⟨rfl,U⟩:=Prod.mk.inj O
  refine ⟨U.symm,fun n M=>?_⟩
  rw [G]
  show keep _=_
  rw [N]; rfl
 ·cases D
theorem Told.puM {s q:Nat} (N:s<=q) (h:∀ k t,s<=k->k < q->BT[k]? = some t->rp t.o=true) (M:bs):pA M (BT.take q)=pA M (BT.take s):=by
 induction q with
 | zero=>rw [show s=0 by omega]
 | succ q I=>
  by_cases e:s=q + 1
  ·rw [e]
  ·have D:=I (by omega) (fun k t F J=>h k t F (by omega))
   cases hb:BT[q]? with
   | none=>
    have G:=List.getElem?_eq_none_iff.1 hb
    rw [<- D,List.take_of_length_le (by omega),List.take_of_length_le G]
   | some t=>
    rw [AZ hb,(T.pu (List.mem_append_right _ (List.mem_of_getElem? hb)) (h q t (by omega) (by omega) hb)).1]
    exact D
end
end
end Go.Ab
