/- Regions in any order: the state in between, and that it leads where the evaluator says. -/
import Derived.Test.YtjlalepbhcekoaaAbDraw
set_option linter.unusedVariables false
set_option linter.unusedSimpArgs false
namespace Go.Ab
open Go Go.RowKit
def bef (suf:List Nat) (a b:Tr):Prop:=(has suf a.i=false∧has suf b.i=true)∨(has suf a.i=has suf b.i∧a.i < b.i)
def seg (In:Nat→Bool) (t:Tr):Mem:=match t.eff with | .push l=>if In t.i=true then l.map .live else List.replicate l.length .pend | _=>[]
theorem seg_len (In:Nat→Bool) (t:Tr):(seg In t).length=(obsOf t).length:=by
 unfold seg obsOf
 cases t.eff <;> simp
 split <;> simp
theorem segs_len (In:Nat→Bool):∀ l:List Tr,(l.flatMap (seg In)).length=(l.flatMap obsOf).length
 | []=>rfl
 | t::l=>by simp only [List.flatMap_cons,List.length_append,seg_len,segs_len In l]
theorem fillP_mid:∀ (l:List Ob) (U W:Mem),fillP (U++List.replicate l.length Ent.pend++W) U.length l=U++l.map .live++W
 | [],U,W=>by simp [fillP]
 | o::l,U,W=>by
  have e:(U++List.replicate (l.length + 1) Ent.pend++W).set U.length (.live o)=(U++[.live o])++List.replicate l.length Ent.pend++W:=by
   rw [List.append_assoc,List.set_append_right _ _ (Nat.le_refl _),Nat.sub_self,List.replicate_succ]
   simp
  simp only [fillP,List.length_cons]
  rw [e,show U.length + 1=(U++[Ent.live o]).length by simp]
  refine Eq.trans (fillP_mid l (U++[Ent.live o]) W) ?_
  simp
theorem segs_step {In In':Nat→Bool} {FT:List Tr} {q:Nat} {t:Tr} (hq:FT[q]? = some t) (hn:In t.i=false) (hn':In' t.i=true) (ho:∀ t' ∈ FT,t'.i≠t.i→In' t'.i=In t'.i) (hd:∀ q' t',FT[q']? = some t'→t'.i=t.i→q'=q) (M0:Mem) :
  (∀ l,t.eff = .push l→fillP (M0++FT.flatMap (seg In)) (M0.length + ((FT.take q).flatMap obsOf).length) l=M0++FT.flatMap (seg In') ∧
   ∀ k,k < l.length→(M0++FT.flatMap (seg In))[M0.length + ((FT.take q).flatMap obsOf).length + k]? = some .pend) ∧
  (t.eff = .keep→M0++FT.flatMap (seg In)=M0++FT.flatMap (seg In')):=by
 obtain ⟨hlt,ht⟩:=List.getElem?_eq_some_iff.1 hq
 have hsplit:FT=FT.take q++t::FT.drop (q + 1):=by
  rw [← ht,← List.drop_eq_getElem_cons hlt,List.take_append_drop]
 have same:∀ l:List Tr,(∀ t' ∈ l,t' ∈ FT∧t'.i≠t.i)→l.flatMap (seg In)=l.flatMap (seg In'):=by
  intro l hl
  induction l with
  | nil=>rfl
  | cons t' l ih=>
   simp only [List.flatMap_cons]
   obtain ⟨h1,h2⟩:=hl t' (by simp)
   rw [ih (fun x hx=>hl x (List.mem_cons_of_mem _ hx))]
   congr 1
   unfold seg
   rw [ho t' h1 h2]
 have h1:(FT.take q).flatMap (seg In)=(FT.take q).flatMap (seg In'):=same _ (fun t' h=>⟨List.mem_of_mem_take h,fun e=>by
  obtain ⟨k,hk⟩:=List.getElem?_of_mem h
  rw [List.getElem?_take] at hk
  split at hk
  ·have:=hd k t' hk e; omega
  ·cases hk⟩)
 have h2:(FT.drop (q + 1)).flatMap (seg In)=(FT.drop (q + 1)).flatMap (seg In'):=same _ (fun t' h=>⟨List.mem_of_mem_drop h,fun e=>by
  obtain ⟨k,hk⟩:=List.getElem?_of_mem h
  rw [List.getElem?_drop] at hk
  have:=hd _ t' hk e; omega⟩)
 have e1:FT.flatMap (seg In)=(FT.take q).flatMap (seg In)++(seg In t++(FT.drop (q + 1)).flatMap (seg In)):=by
  conv=>lhs; rw [hsplit]
  simp
 have e2:FT.flatMap (seg In')=(FT.take q).flatMap (seg In)++(seg In' t++(FT.drop (q + 1)).flatMap (seg In)):=by
  conv=>lhs; rw [hsplit]
  simp [← h1,← h2]
 have hul:(M0++(FT.take q).flatMap (seg In)).length=M0.length + ((FT.take q).flatMap obsOf).length:=by rw [List.length_append,segs_len]
 refine ⟨fun l he=>?_,fun he=>?_⟩
 ·have s1:seg In t=List.replicate l.length Ent.pend:=by unfold seg; rw [he]; simp [hn]
  have s2:seg In' t=l.map .live:=by unfold seg; rw [he]; simp [hn']
  rw [e1,e2,s1,s2,← List.append_assoc,← List.append_assoc,← hul]
  refine ⟨?_,fun k hk=>?_⟩
  ·refine Eq.trans (fillP_mid l _ _) ?_
   simp
  ·rw [List.append_assoc,List.getElem?_append_right (by omega),Nat.add_sub_cancel_left,List.getElem?_append_left (by simpa using hk),List.getElem?_replicate,if_pos hk]
 ·have s1:seg In t=[]:=by unfold seg; rw [he]
  have s2:seg In' t=[]:=by unfold seg; rw [he]
  rw [e1,e2,s1,s2]
theorem segs_all {In:Nat→Bool}:∀ {FT:List Tr},(∀ t ∈ FT,In t.i=true∨t.eff = .keep)→FT.flatMap (seg In)=(FT.flatMap obsOf).map .live
 | [],_=>rfl
 | t::FT,h=>by
  simp only [List.flatMap_cons,List.map_append]
  rw [segs_all (fun t' ht=>h t' (List.mem_cons_of_mem _ ht))]
  congr 1
  unfold seg obsOf
  rcases h t (by simp) with h | h
  ·cases t.eff <;> simp [h]
  ·rw [h]; rfl
section
variable {c:Cx} {call:CallF} {ob th calm std suf:List Nat} {ops:Array Oper} {B nt:Nat} {M0:Mem} {e0:Env} {FT BT:List Tr}
structure Told (c:Cx) (call:CallF) (ob th calm std suf:List Nat) (ops:Array Oper) (nt:Nat) (M0:Mem) (e0:Env) (FT BT:List Tr):Prop where
 hcall:CallOk c.P call
 dst:∀ o ∈ ops.toList,dstOk nt o=true
 ok:drawOk ops (calm++std) suf=true
 fl:FT.map (fun t=>(t.i,t.o))=frontOf suf (numbered 0 ops.toList)
 bl:BT.map (fun t=>(t.i,t.o))=backOf suf (numbered 0 ops.toList)
 fr:∀ (q:Nat) t,FT[q]? = some t→TrOk c call ob th ops t∧t.e=envA e0 (FT.take q)∧t.n=M0.length + ([]++(FT.take q).flatMap obsOf).length ∧
   t.M=(if has calm t.i=true then [] else M0)∧(has calm t.i=true→t.eff = .keep∨isAl th t.i t.o=true)∧(has std t.i=true→t.eff = .keep)∧(t.eff = .keep∨∃ l,t.eff = .push l)
 br:∀ (q:Nat) t,BT[q]? = some t→TrOk c call ob th ops t∧t.e=envA (envA e0 FT) (BT.take q)∧t.M=memA (M0++(FT.flatMap obsOf).map .live) (BT.take q)∧t.n=t.M.length
 sd:∀ (q:Nat) b,BT[q]? = some b→∀ t ∈ FT,has (calm++std) t.i=true→((masks [] ops.toList).getD b.i 0).testBit t.i=true∨StyC c call ob th calm std ops t (memA (M0++(FT.flatMap obsOf).map .live) (BT.take (q + 1)))
section
variable (T:Told c call ob th calm std suf ops nt M0 e0 FT BT)
include T
theorem Told.front {t:Tr} (h:t ∈ FT):ops[t.i]? = some t.o∧has suf t.i=false:=by
 have:(t.i,t.o) ∈ frontOf suf (numbered 0 ops.toList):=by rw [← T.fl]; exact List.mem_map.2 ⟨t,h,rfl⟩
 obtain ⟨h1,h2⟩:=List.mem_filter.1 this
 exact ⟨numbered_mem.1 h1,by simpa using h2⟩
theorem Told.back {t:Tr} (h:t ∈ BT):ops[t.i]? = some t.o∧has suf t.i=true:=by
 have:(t.i,t.o) ∈ backOf suf (numbered 0 ops.toList):=by rw [← T.bl]; exact List.mem_map.2 ⟨t,h,rfl⟩
 obtain ⟨h1,h2⟩:=List.mem_filter.1 this
 exact ⟨numbered_mem.1 h1,by simpa using h2⟩
theorem Told.at_ {t:Tr} (h:t ∈ FT++BT):ops[t.i]? = some t.o:=by
 rcases List.mem_append.1 h with h | h
 ·exact (T.front h).1
 ·exact (T.back h).1
theorem Told.all {i:Nat} {o:Oper} (h:ops[i]? = some o):∃ t ∈ FT++BT,t.i=i∧t.o=o:=by
 have hm:=numbered_mem.2 h
 cases hs:has suf i with
 | false=>
  have:(i,o) ∈ frontOf suf (numbered 0 ops.toList):=List.mem_filter.2 ⟨hm,by simp [hs]⟩
  rw [← T.fl] at this
  obtain ⟨t,h1,h2⟩:=List.mem_map.1 this
  injection h2 with h3 h4
  exact ⟨t,List.mem_append_left _ h1,h3,h4⟩
 | true=>
  have:(i,o) ∈ backOf suf (numbered 0 ops.toList):=List.mem_filter.2 ⟨hm,by simp [hs]⟩
  rw [← T.bl] at this
  obtain ⟨t,h1,h2⟩:=List.mem_map.1 this
  injection h2 with h3 h4
  exact ⟨t,List.mem_append_right _ h1,h3,h4⟩
theorem Told.pw:(FT++BT).Pairwise (bef suf):=by
 have hn:=numbered_pw ops.toList 0
 have hf:FT.Pairwise fun a b=>a.i < b.i:=by
  have h1:=hn.filter (fun p=>!has suf p.1)
  have:(FT.map (fun t=>(t.i,t.o))).Pairwise fun p q=>p.1 < q.1:=by rw [T.fl]; exact h1
  exact (List.pairwise_map (f:=fun t:Tr=>(t.i,t.o)) (R:=fun p q=>p.1 < q.1)).1 this
 have hb:BT.Pairwise fun a b=>a.i < b.i:=by
  have h1:=hn.filter (fun p=>has suf p.1)
  have:(BT.map (fun t=>(t.i,t.o))).Pairwise fun p q=>p.1 < q.1:=by rw [T.bl]; exact h1
  exact (List.pairwise_map (f:=fun t:Tr=>(t.i,t.o)) (R:=fun p q=>p.1 < q.1)).1 this
 refine List.pairwise_append.2 ⟨?_,?_,fun a ha b hb=>.inl ⟨(T.front ha).2,(T.back hb).2⟩⟩
 ·refine hf.imp_of_mem (fun {a b} ha hb h=>.inr ⟨?_,h⟩)
  rw [(T.front ha).2,(T.front hb).2]
 ·refine hb.imp_of_mem (fun {a b} ha hb h=>.inr ⟨?_,h⟩)
  rw [(T.back ha).2,(T.back hb).2]
theorem Told.lt_of {p q:Nat} {a b:Tr} (hp:(FT++BT)[p]? = some a) (hq:(FT++BT)[q]? = some b) (h:p < q):bef suf a b:=by
 obtain ⟨h1,rfl⟩:=List.getElem?_eq_some_iff.1 hp
 obtain ⟨h2,rfl⟩:=List.getElem?_eq_some_iff.1 hq
 exact List.pairwise_iff_getElem.1 T.pw p q h1 h2 h
theorem Told.pos {p q:Nat} {a b:Tr} (hp:(FT++BT)[p]? = some a) (hq:(FT++BT)[q]? = some b) (h:bef suf a b):p < q:=by
 rcases Nat.lt_trichotomy p q with h1 | h1 | h1
 ·exact h1
 ·subst h1
  rw [hp] at hq
  obtain rfl:=Option.some.inj hq
  rcases h with ⟨k1,k2⟩ | ⟨_,k2⟩
  ·rw [k1] at k2; cases k2
  ·omega
 ·have:=T.lt_of hq hp h1
  rcases h with ⟨k1,k2⟩ | ⟨k1,k2⟩ <;> rcases this with ⟨k3,k4⟩ | ⟨k3,k4⟩
  ·rw [k1] at k4; cases k4
  ·rw [k1,k2] at k3; cases k3
  ·rw [k3,k4] at k1; cases k1
  ·omega
theorem Told.inj {p q:Nat} {a b:Tr} (hp:(FT++BT)[p]? = some a) (hq:(FT++BT)[q]? = some b) (h:a.i=b.i):p=q:=by
 rcases Nat.lt_trichotomy p q with h1 | h1 | h1
 ·have:=T.lt_of hp hq h1
  rcases this with ⟨k3,k4⟩ | ⟨k3,k4⟩
  ·rw [h,k4] at k3; cases k3
  ·omega
 ·exact h1
 ·have:=T.lt_of hq hp h1
  rcases this with ⟨k3,k4⟩ | ⟨k3,k4⟩
  ·rw [← h,k4] at k3; cases k3
  ·omega
theorem Told.env {q:Nat} {t:Tr} (hq:(FT++BT)[q]? = some t):t.e=envA e0 ((FT++BT).take q):=by
 by_cases h:q < FT.length
 ·rw [List.getElem?_append_left h] at hq
  rw [(T.fr q t hq).2.1,List.take_append_of_le_length (Nat.le_of_lt h)]
 ·rw [List.getElem?_append_right (by omega)] at hq
  rw [(T.br _ t hq).2.1,List.take_append,List.take_of_length_le (l:=FT) (by omega),envA_append]
theorem Told.tr {q:Nat} {t:Tr} (hq:(FT++BT)[q]? = some t):TrOk c call ob th ops t:=by
 by_cases h:q < FT.length
 ·rw [List.getElem?_append_left h] at hq
  exact (T.fr q t hq).1
 ·rw [List.getElem?_append_right (by omega)] at hq
  exact (T.br _ t hq).1
theorem Told.deps {a b:Tr} (ha:a ∈ FT++BT) (hb:b ∈ FT++BT) {x:Nat} (hx:x ∈ rds a.o++gds ops a.o) (hd:b.o.dst=some x):a.i=b.i∨(b.i ∈ edgesOf a.o∧b.i < a.i∧(has suf a.i=true∨has suf b.i=false)) ∨
  (((masks [] ops.toList).getD b.i 0).testBit a.i=true∧a.i < b.i∧(has suf a.i=false∨has suf b.i=true)):=by
 have h:=T.ok
 unfold drawOk at h
 simp only [Bool.and_eq_true,List.all_eq_true] at h
 have h1:=h.1.1.1 (a.i,a.o) (numbered_mem.2 (T.at_ ha)) (b.i,b.o) (numbered_mem.2 (T.at_ hb)) x hx
 simp only [sameDst,hd,Bool.or_eq_true,Bool.and_eq_true,Bool.not_eq_true'] at h1
 rcases h1 with ((h1 | h1) | h1) | h1
 ·rw [Nat.beq_refl] at h1; cases h1
 ·exact .inl (Nat.eq_of_beq_eq_true h1)
 ·exact .inr (.inl ⟨has_spec.1 h1.1.1,blt_spec h1.1.2,h1.2⟩)
 ·exact .inr (.inr ⟨h1.1.1,blt_spec h1.1.2,h1.2⟩)
theorem Told.one {a b:Tr} (ha:a ∈ FT++BT) (hb:b ∈ FT++BT) {x:Nat} (hd:a.o.dst=some x) (hd':b.o.dst=some x):a.i=b.i:=by
 have h:=T.ok
 unfold drawOk at h
 simp only [Bool.and_eq_true,List.all_eq_true] at h
 have h1:=h.1.1.2 (a.i,a.o) (numbered_mem.2 (T.at_ ha)) (b.i,b.o) (numbered_mem.2 (T.at_ hb))
 simp only [hd,sameDst,hd',Nat.beq_refl,Bool.or_eq_true,Bool.not_true,Bool.false_eq_true,or_false] at h1
 exact Nat.eq_of_beq_eq_true h1
theorem Told.edge {i:Nat} {o:Oper} (h:ops[i]? = some o) {k:Nat} (hk:k ∈ edgesOf o):k < i:=by
 have h0:=T.ok
 unfold drawOk at h0
 simp only [Bool.and_eq_true,List.all_eq_true] at h0
 exact blt_spec (h0.1.2 (i,o) (numbered_mem.2 h) k hk)
theorem Told.suffix {a b:Tr} (ha:a ∈ BT) (hb:b ∈ FT++BT) (hne:a.i≠b.i) (hpu:isPu a.o=false):(has suf b.i=true→isPu b.o=false→a.i < b.i∨((masks [] ops.toList).getD a.i 0).testBit b.i=true) ∧
  (has suf b.i=false→has (calm++std) b.i=true∨((masks [] ops.toList).getD a.i 0).testBit b.i=true):=by
 have h0:=T.ok
 unfold drawOk at h0
 simp only [Bool.and_eq_true,List.all_eq_true] at h0
 have h1:=h0.2 (a.i,a.o) (numbered_mem.2 (T.back ha).1)
 rw [Bool.or_eq_true,Bool.or_eq_true] at h1
 rcases h1 with (h1 | h1) | h1
 ·simp only [(T.back ha).2] at h1; cases h1
 ·simp only [hpu] at h1; cases h1
 ·rw [List.all_eq_true] at h1
  have h2:=h1 (b.i,b.o) (numbered_mem.2 (T.at_ hb))
  simp only [Bool.or_eq_true] at h2
  rcases h2 with h2 | h2
  ·exact absurd (Nat.eq_of_beq_eq_true h2) hne
  ·refine ⟨fun hs hb=>?_,fun hs=>?_⟩
   ·rw [if_pos hs,Bool.or_eq_true,Bool.or_eq_true,hb] at h2
    rcases h2 with (h2 | h2) | h2
    ·cases h2
    ·exact .inl (blt_spec h2)
    ·exact .inr h2
   ·rw [if_neg (by rw [hs]; simp),Bool.or_eq_true] at h2
    exact h2
theorem Told.pu {t:Tr} (ht:t ∈ FT++BT) (hp:isPu t.o=true):t.eff = .keep∧∀ n M,aGuard (guardVal ops t.e t.o) (evalOp c call (has ob t.i) (has th t.i) n t.o (prune (rds t.o) t.e) M)=some (t.y,.keep):=by
 obtain ⟨q,hq⟩:=List.getElem?_of_mem ht
 have h:=T.tr hq
 unfold TrOk at h
 unfold isPu at hp
 split at hp
 ·rename_i x k e1 e2
  have key:∀ n M,evalOp c call (has ob t.i) (has th t.i) n t.o (prune (rds t.o) t.e) M=keep (aExtract k (oval (prune (rds t.o) t.e) x)):=fun n M=>by
   unfold evalOp; rw [e1]
  rw [key] at h
  have hg:guardVal ops t.e t.o=none:=by unfold guardVal; rw [e2]
  rw [hg] at h ⊢
  have h':keep (aExtract k (oval (prune (rds t.o) t.e) x))=some (t.y,t.eff):=h
  unfold keep at h'
  obtain ⟨v,h1,h2⟩:=Option.map_eq_some_iff.1 h'
  obtain ⟨rfl,h3⟩:=Prod.mk.inj h2
  refine ⟨h3.symm,fun n M=>?_⟩
  rw [key]
  show keep _=_
  rw [h1]; rfl
 ·cases hp
theorem Told.puM {s q:Nat} (hsq:s≤q) (h:∀ k t,s≤k→k < q→BT[k]? = some t→isPu t.o=true) (M:Mem):memA M (BT.take q)=memA M (BT.take s):=by
 induction q with
 | zero=>rw [show s=0 by omega]
 | succ q ih=>
  by_cases e:s=q + 1
  ·rw [e]
  ·have ih':=ih (by omega) (fun k t h1 h2=>h k t h1 (by omega))
   cases hb:BT[q]? with
   | none=>
    have hl:=List.getElem?_eq_none_iff.1 hb
    rw [← ih',List.take_of_length_le (by omega),List.take_of_length_le hl]
   | some t=>
    rw [memA_take hb,(T.pu (List.mem_append_right _ (List.mem_of_getElem? hb)) (h q t (by omega) (by omega) hb)).1]
    exact ih'
end
end
end Go.Ab
