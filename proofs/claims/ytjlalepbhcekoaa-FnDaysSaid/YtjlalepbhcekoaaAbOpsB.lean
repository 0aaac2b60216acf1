/- Appends whose outcome is a row of the store. -/
import Derived.Test.YtjlalepbhcekoaaAbOpsA
set_option linter.unusedVariables false
set_option linter.unusedSimpArgs false
namespace Go.Ab
open Go Go.RowKit
section
variable {P:Program} {S:TypeId→Nat} {B:Nat} {w w':World} {M A A':Mem} {ρ ρ':Pm}
theorem take_splice {α:Type} {l v:List α} {a K:Nat} (h1:a + v.length≤K) (h2:K≤l.length) :
  (l.take a++v++l.drop (a + v.length)).take K=(l.take K).take a++v++(l.take K).drop (a + v.length):=by
 apply List.ext_getElem?
 intro k
 rw [splice_get (l:=l.take K) rfl (by simp; omega),List.getElem?_take,splice_get rfl (by omega),List.getElem?_take]
 by_cases h:k < K
 ·simp [h]
 ·rw [if_neg h,if_neg h,if_neg (by omega),if_neg (by omega)]
theorem appO_push (hm:MExt M A) (hA:MR P.cellsOf B w A ρ) {n0:Nat} (hn:A[n0]? = some .pend) {t ty el:TypeId} (ht:P.underlying t=some (.slice el)) (hk:okT P el=true) (hz0:((P.info? el).bind (·.zero)).isSome=true) (hzl:(zeroOf P el).length=P.cellsOf el)
  {x s y:AV} {vx vs:Value} {l:List Ob} (h:aAppO n0 el (P.cellsOf el) (P.bytesOf el) x s M=some (y,.push l)) (hx:RV P.cellsOf B w A ρ x vx) (hs:RV P.cellsOf B w A ρ s vs) :
  Done P.cellsOf B w A ρ ((Builtin.append_ #[t,t] ty #[vx,vs]).run P w) (effP A n0 (.push l)) y:=by
 unfold aAppO at h
 obtain ⟨src,hsrc,h⟩:=Option.bind_eq_some_iff.1 h
 cases x with
 | nils=>
  simp only at h
  split at h
  rotate_left
  ·cases h
  rename_i hf
  simp only [Option.some.injEq,Prod.mk.injEq,Eff.push.injEq] at h
  obtain ⟨e1,e2⟩:=h
  subst e1
  subst e2
  obtain ⟨f1,f2,f3,f4⟩:=fits_spec hf
  obtain ⟨a,c,news,rfl,hh,hr,h1⟩:=src_rc hm hA f2 hsrc hs f1
  cases hx
  have hok:∀ e ∈ src,∀ x ∈ e,cellOk x=true:=fun e he x hx=>okC_cellOk ((f1 e he).2 x hx)
  by_cases he:src=[]
  ·subst he
   obtain ⟨s1,s2⟩:=push_one hA (Below.refl _ w) hn ⟨.grow,el,P.cellsOf el,[]⟩ none (fun _ _ e=>by cases e) (fun _=>⟨rfl,f2,by simp,by simp,fun _=>rfl⟩)
   exact ⟨_,w,_,run_app_zero ht hk none 0 0 (Nat.le_refl _) a c,s1,s2,lsl_nil (ob:=⟨.grow,el,P.cellsOf el,[]⟩) hn rfl rfl⟩
  ·obtain ⟨ad,rfl,hcell⟩:=hh.resolve_left he
   have h0:0 < src.length:=List.length_pos_iff.2 he
   rw [Nat.zero_add] at f3 f4
   obtain ⟨cap',cur',w',r1,r2,r3,r4,r5,r6,r7⟩:=run_app_nil (ty:=ty) (w:=w) ht hk hz0 hzl ad src.length c news h0 hr.1 hcell f4 f3
   obtain ⟨s1,s2⟩:=push_row hA hn .grow el src cur' w' r7 w.heap.size cap' (Nat.le_refl _) r2 f2 r5 r3 r4 (by simp) hr.2.1 hok (fun i j e x v g1 g2 g3=>hr.2.2 i j e x v g1 g2 (by
    have hi:=(List.getElem?_eq_some_iff.1 g1).1
    have hj:=(List.getElem?_eq_some_iff.1 g2).1
    rw [hr.2.1 e (List.mem_of_getElem? g1)] at hj
    have hmul:=Nat.mul_le_mul_right (P.cellsOf el) (show i + 1≤src.length by omega)
    rw [Nat.succ_mul] at hmul
    rw [← r6,List.getElem?_take,if_pos (by omega)]; simpa using g3))
   exact ⟨_,w',_,r1,s1,s2,lsl_new (ob:=⟨.grow,el,P.cellsOf el,src⟩) hn⟩
 | lit t' es=>
  simp only at h
  split at h
  rotate_left
  ·cases h
  rename_i hc
  obtain ⟨he0,rfl,hpos,hf⟩:=hc
  have hl0:es.length=0:=by simpa using he0
  simp only [Option.some.injEq,Prod.mk.injEq,Eff.push.injEq] at h
  obtain ⟨e1,e2⟩:=h
  subst e1
  subst e2
  obtain ⟨f1,f2,f3,f4⟩:=fits_spec hf
  obtain ⟨a,c,news,rfl,hh,hr,h1⟩:=src_rc hm hA f2 hsrc hs f1
  have hok:∀ e ∈ src,∀ x ∈ e,cellOk x=true:=fun e he x hx=>okC_cellOk ((f1 e he).2 x hx)
  have he:src≠[]:=List.length_pos_iff.1 hpos
  obtain ⟨ad,rfl,hcell⟩:=hh.resolve_left he
  cases hx with
  | lit _ _ b cs f hb hB hz hs' hmx hes hc hre htr'=>
   obtain ⟨hnh,hbw⟩:=View.some hb
   obtain ⟨g',cap',cur',w',r1,r2,r3,r4,r5,r6,r7,r8⟩:=run_app (ty:=ty) (w:=w) ht hk hz0 hzl b es.length es.length cs hbw (Nat.le_refl _) hmx hz ad src.length c news hr.1 hcell h1 (by rw [hl0]; exact f4) (by rw [hl0]; exact f3)
   obtain ⟨r8,r9⟩:=r8.resolve_left (fun h=>by omega)
   have hbel:Below w.heap.size w w':=⟨r7.os,r7.tape,r7.output,r7.size,fun k hk=>by
    by_cases e:k=b
    ·rw [e]; exact r9
    ·exact r7.block k hk (fun h=>e (Option.some.inj h))⟩
   rw [show es.length + src.length=src.length by omega] at r1 r3 r6
   rw [hl0,Nat.zero_mul,List.take_zero,List.nil_append] at r6
   obtain ⟨s1,s2⟩:=push_row hA hn .grow t' src cur' w' hbel g' cap' r8 r2 f2 r5 r3 r4 (by simp) hr.2.1 hok (fun i j e x v g1 g2 g3=>hr.2.2 i j e x v g1 g2 (by
    have hi:=(List.getElem?_eq_some_iff.1 g1).1
    have hj:=(List.getElem?_eq_some_iff.1 g2).1
    rw [hr.2.1 e (List.mem_of_getElem? g1)] at hj
    have hmul:=Nat.mul_le_mul_right (P.cellsOf t') (show i + 1≤src.length by omega)
    rw [Nat.succ_mul] at hmul
    rw [← r6,List.getElem?_take,if_pos (by omega)]; simpa using g3))
   exact ⟨_,w',_,r1,s1,s2,lsl_new (ob:=⟨.grow,t',P.cellsOf t',src⟩) hn⟩
 | lsl id L off n=>
  simp only at h
  obtain ⟨o,ho,h⟩:=Option.bind_eq_some_iff.1 h
  split at h
  ·split at h
   ·split at h <;> simp at h
   ·split at h <;> simp at h
  ·cases h
 | _=>simp at h
theorem appO_put (hA:MR P.cellsOf B w M ρ) {n0:Nat} {t ty el:TypeId} (ht:P.underlying t=some (.slice el)) (hk:okT P el=true) (hz0:((P.info? el).bind (·.zero)).isSome=true) (hzl:(zeroOf P el).length=P.cellsOf el)
  {x s y:AV} {vx vs:Value} {M':Mem} (h:aAppO n0 el (P.cellsOf el) (P.bytesOf el) x s M=some (y,.put M')) (hx:RV P.cellsOf B w M ρ x vx) (hs:RV P.cellsOf B w M ρ s vs) :
  Done P.cellsOf B w M ρ ((Builtin.append_ #[t,t] ty #[vx,vs]).run P w) M' y:=by
 have hm:=MExt.refl M
 unfold aAppO at h
 obtain ⟨src,hsrc,h⟩:=Option.bind_eq_some_iff.1 h
 cases x with
 | nils=>
  simp only at h
  split at h
  ·simp at h
  ·cases h
 | lit t' es=>
  simp only at h
  split at h
  ·simp at h
  ·cases h
 | lsl id L off n=>
  simp only at h
  obtain ⟨o,ho,h⟩:=Option.bind_eq_some_iff.1 h
  split at h
  rotate_left
  ·cases h
  rename_i hc
  obtain ⟨c1,c2,c3,c4⟩:=hc
  obtain ⟨g1,g2⟩:=getOb_some ho
  have hlt:=(List.getElem?_eq_some_iff.1 g1).1
  obtain ⟨a1,a2,a3,a4,a5⟩:=hA.obj id o g1
  split at h
  ·rename_i hnL
   split at h
   rotate_left
   ·cases h
   rename_i hf
   simp only [Option.some.injEq,Prod.mk.injEq,Eff.put.injEq] at h
   obtain ⟨e1,e2⟩:=h
   subst e1
   subst e2
   obtain ⟨f1,f2,f3,f4⟩:=fits_spec hf
   obtain ⟨a,c,news,rfl,hh,hr,h1⟩:=src_rc hm hA f2 hsrc hs f1
   have hok:∀ e ∈ o.es++src,∀ x ∈ e,cellOk x=true:=fun e he=>(List.mem_append.1 he).elim (a4 e) (fun he x hx=>okC_cellOk ((f1 e he).2 x hx))
   subst c4
   subst hnL
   subst g2
   by_cases he:src=[]
   ·subst he
    have hes:({ o with es:=o.es++[] }:Ob)=o:=by simp
    rw [hes,List.length_nil,Nat.add_zero]
    have hset:M.set id (.live o)=M:=by
     apply List.ext_getElem?
     intro k
     by_cases hk':k=id
     ·subst hk'; rw [List.getElem?_set_self hlt,g1]
     ·rw [List.getElem?_set_ne (Ne.symm hk')]
    rw [hset]
    rcases lsl_inv hm hx ho with ⟨b,cap,hp,hle,rfl⟩ | ⟨hp,h0,_,_,rfl⟩
    ·obtain ⟨cells,k1,k2,k3,k4,k5,k6,k7⟩:=obj_row hA g1 hp
     exact ⟨_,w,ρ,run_app_zero ht hk _ _ _ (by omega) a c,Step.refl _ _ _,hA,hx⟩
    ·rw [h0] at hx ⊢
     exact ⟨_,w,ρ,run_app_zero ht hk _ 0 0 (Nat.le_refl _) a c,Step.refl _ _ _,hA,hx⟩
   ·obtain ⟨ad,rfl,hcell⟩:=hh.resolve_left he
    have h0:0 < src.length:=List.length_pos_iff.2 he
    have hgrow:o.es.length < (o.es++src).length:=by simp; omega
    subst c2
    have fin:∀ (b cap:Nat) (cur:Array Value) (w':World) (hg:w.grownBy w' (Pl.block (ρ id))) (hp:Pl.block (ρ id)=some b∨w.heap.size≤b) (r2:w'.heap[b]? = some (.cells cur o.t (0,0))) (r3:o.es.length + src.length≤cap) (r4:cap≤maxLen) (r5:cur.size=cap * P.cellsOf o.t)
      (olds:List Value) (hro:Row P.cellsOf (View w M ρ) B (Ref M ρ) (P.cellsOf o.t) o.es olds) (r6:cur.toList.take ((o.es.length + src.length) * P.cellsOf o.t)=olds++news),
      Step w M ρ w' (M.set id (.live { o with es:=o.es++src })) (rput ρ id (some (b,cap)))∧MR P.cellsOf B w' (M.set id (.live { o with es:=o.es++src })) (rput ρ id (some (b,cap))) ∧
       RV P.cellsOf B w' (M.set id (.live { o with es:=o.es++src })) (rput ρ id (some (b,cap))) (.lsl id (o.es.length + src.length) 0 (o.es.length + src.length)) (.slice (some ⟨b,0,none⟩) (o.es.length + src.length) cap):=by
     intro b cap cur w' hg hp r2 r3 r4 r5 olds hro r6
     have hpp:∀ b' c,(some (b,cap):Pl)=some (b',c)→Pl.block (ρ id)=some b'∨w.heap.size≤b':=fun b' c' e=>by injection e with e; injection e with e1 e2; subst e1; exact hp
     have hen:(Ent.live { o with es:=o.es++src }) = .dead∨∃ es',(Ent.live { o with es:=o.es++src }) = .live { o with es:=es' }∧((o.kn = .grow∧o.es.length < es'.length)∨(es'.length=o.es.length∧(some (b,cap):Pl)=ρ id)):=.inr ⟨_,rfl,.inl ⟨c1,hgrow⟩⟩
     have s1:=row_step hA g1 hg hen hpp
     have s2:=row_mr hA g1 hg hen hpp (fun hst ob hob=>by
      injection hob with hob
      subst hob
      exact obr_of_row a1 a2 hok r2 (by rw [c3]; exact r5) (by simpa using r3) r4 (fun hb=>by rw [c1] at hb; cases hb) (by
       have q:=(hro.append hr).mono hst.view hst.ref
       rw [← r6,← c3] at q
       simpa only [List.length_append] using q))
     have:=ref_new (A:=M) (ρ:=ρ) (ob:={ o with es:=o.es++src }) (p:=some (b,cap)) hlt (fun _ h=>by cases h)
     rw [List.length_append] at this
     have h2:=RC.lslV (S:=P.cellsOf) (V:=View w' (M.set id (.live { o with es:=o.es++src })) (rput ρ id (some (b,cap)))) (B:=B) id (o.es.length + src.length) 0 (o.es.length + src.length) b cap o.s this (by omega)
     rw [Nat.zero_mul,Nat.sub_zero] at h2
     exact ⟨s1,s2,h2⟩
    rcases lsl_inv hm hx ho with ⟨b,cap,hp,hle,rfl⟩ | ⟨hp,h0',_,_,rfl⟩
    ·obtain ⟨cells,k1,k2,k3,k4,k5,k6,k7⟩:=obj_row hA g1 hp
     rw [c3] at k2 k7
     rw [Nat.zero_mul,Nat.sub_zero]
     obtain ⟨g',cap',cur',w',r1,r2,r3,r4,r5,r6,r7,r8⟩:=run_app (ty:=ty) (w:=w) ht hk hz0 hzl b o.es.length cap cells k1 k3 k4 k2 ad src.length c news hr.1 hcell h1 f4 f3
     obtain ⟨s1,s2,s3⟩:=fin g' cap' cur' w' (by rw [hp]; exact r7) (by rcases r8 with ⟨rfl,_⟩ | ⟨r8,_⟩; exact .inl (by rw [hp]; rfl); exact .inr r8) r2 r3 r4 r5 _ k7 r6
     exact ⟨_,w',_,r1,s1,s2,s3⟩
    ·have hoe:o.es=[]:=List.length_eq_zero_iff.1 h0'
     obtain ⟨cap',cur',w',r1,r2,r3,r4,r5,r6,r7⟩:=run_app_nil (ty:=ty) (w:=w) ht hk hz0 hzl ad src.length c news h0 hr.1 hcell (by omega) (by rw [h0'] at f3; simpa using f3)
     obtain ⟨s1,s2,s3⟩:=fin w.heap.size cap' cur' w' ⟨r7.os,r7.tape,r7.output,r7.size,fun k hk _=>r7.block k hk⟩ (.inr (Nat.le_refl _)) r2 (by rw [h0']; omega) r4 r5 [] (by rw [hoe]; exact Row.nil) (by rw [h0']; simpa using r6)
     refine ⟨_,w',_,?_,s1,s2,s3⟩
     rw [h0',Nat.zero_add]; exact r1
  ·rename_i hnL
   split at h
   rotate_left
   ·cases h
   rename_i hf
   obtain ⟨hfl,hf⟩:=hf
   simp only [Option.some.injEq,Prod.mk.injEq,Eff.put.injEq] at h
   obtain ⟨e1,e2⟩:=h
   subst e1
   subst e2
   obtain ⟨f1,f2,f3,f4⟩:=fits_spec hf
   obtain ⟨a,c,news,rfl,hh,hr,h1⟩:=src_rc hm hA f2 hsrc hs f1
   have hok:∀ e ∈ o.es.take n++src++o.es.drop (n + src.length),∀ x ∈ e,cellOk x=true:=fun e he=>by
    rcases List.mem_append.1 he with he | he
    ·rcases List.mem_append.1 he with he | he
     ·exact a4 e (List.mem_of_mem_take he)
     ·exact fun x hx=>okC_cellOk ((f1 e he).2 x hx)
    ·exact a4 e (List.mem_of_mem_drop he)
   subst c4
   subst g2
   have hnl:(o.es.take n++src++o.es.drop (n + src.length)).length=o.es.length:=by simp; omega
   rcases lsl_inv hm hx ho with ⟨b,cap,hp,hle,rfl⟩ | ⟨hp,h0',_,h0n,rfl⟩
   rotate_left
   ·omega
   obtain ⟨cells,k1,k2,k3,k4,k5,k6,k7⟩:=obj_row hA g1 hp
   subst c2
   obtain ⟨d,i,hd,hi,hz,h0⟩:=okT_spec hk
   rw [c3] at k2 k7
   rw [Nat.zero_mul,Nat.sub_zero]
   have hlit:∀ (cur:Array Value) (w':World) (hg:w.grownBy w' (Pl.block (ρ id))) (r2:w'.heap[b]? = some (.cells cur o.t (0,0))) (r5:cur.size=cap * P.cellsOf o.t)
      (r6:Row P.cellsOf (View w M ρ) B (Ref M ρ) (P.cellsOf o.t) (o.es.take n++src++o.es.drop (n + src.length)) (cur.toList.take (o.es.length * P.cellsOf o.t))),
      Step w M ρ w' (M.set id (.live { o with es:=o.es.take n++src++o.es.drop (n + src.length) })) ρ∧MR P.cellsOf B w' (M.set id (.live { o with es:=o.es.take n++src++o.es.drop (n + src.length) })) ρ ∧
       RV P.cellsOf B w' (M.set id (.live { o with es:=o.es.take n++src++o.es.drop (n + src.length) })) ρ (.lsl id o.es.length 0 (n + src.length)) (.slice (some ⟨b,0,none⟩) (n + src.length) cap):=by
    intro cur w' hg r2 r5 r6
    have hpp:∀ b' c,ρ id=some (b',c)→Pl.block (ρ id)=some b'∨w.heap.size≤b':=fun b' c e=>.inl (by rw [e]; rfl)
    have hen:(Ent.live { o with es:=o.es.take n++src++o.es.drop (n + src.length) }) = .dead∨∃ es',(Ent.live { o with es:=o.es.take n++src++o.es.drop (n + src.length) }) = .live { o with es:=es' }∧((o.kn = .grow∧o.es.length < es'.length)∨(es'.length=o.es.length∧ρ id=ρ id)):=.inr ⟨_,rfl,.inr ⟨hnl,rfl⟩⟩
    have s1:=row_step hA g1 hg hen hpp
    have s2:=row_mr hA g1 hg hen hpp (fun hst ob hob=>by
     injection hob with hob
     subst hob
     rw [hp] at hst ⊢
     exact obr_of_row a1 a2 hok r2 (by rw [c3]; exact r5) (by rw [hnl]; exact k3) k4 (fun hb=>by rw [c1] at hb; cases hb) (by
      have q:=r6.mono hst.view hst.ref
      rw [← c3] at q
      simp only [hnl]
      exact q))
    have:=ref_new (A:=M) (ρ:=ρ) (ob:={ o with es:=o.es.take n++src++o.es.drop (n + src.length) }) (p:=ρ id) hlt (fun h=>by rw [show o.kn=Kn.grow from c1] at h; cases h)
    rw [rput_self] at s1 s2 this
    rw [hnl,hp] at this
    have h2:=RC.lslV (S:=P.cellsOf) (V:=View w' (M.set id (.live { o with es:=o.es.take n++src++o.es.drop (n + src.length) })) ρ) (B:=B) id o.es.length 0 (n + src.length) b cap o.s this (by omega)
    rw [Nat.zero_mul,Nat.sub_zero] at h2
    exact ⟨s1,s2,h2⟩
   have hrow:=((k7.take (n:=n) (by omega)).append hr).append (k7.drop (n:=n + src.length) (by omega))
   by_cases he:src=[]
   ·subst he
    obtain ⟨s1,s2,s3⟩:=hlit cells w ⟨rfl,rfl,rfl,Nat.le_refl _,fun _ _ _=>rfl⟩ k1 k2 (by simpa using k7)
    exact ⟨_,w,ρ,run_app_zero ht hk _ n cap (by omega) a c,s1,s2,s3⟩
   ·obtain ⟨ad,rfl,hcell⟩:=hh.resolve_left he
    have hml:=Nat.mul_le_mul_right (P.cellsOf o.t) k3
    have hml2:=Nat.mul_le_mul_right (P.cellsOf o.t) hfl
    rw [Nat.add_mul] at hml2
    have hnw:=hr.1
    have hrun:=run_append_room (P:=P) w t ty o.t i ht hi b n cap cells k1 ad src.length c news (by rw [← hz]; exact hr.1) hcell h1 (by omega) (by rw [← hz]; omega)
    rw [← hz] at hrun
    obtain ⟨s1,s2,s3⟩:=hlit _ _ (by rw [hp]; exact set_row_grown w b (cells.toList.take (n * P.cellsOf o.t)++news++cells.toList.drop (n * P.cellsOf o.t + news.length)).toArray) (setRow_heap w b cells _ o.t _ k1) (by simp; omega) (by
     show Row _ _ _ _ _ _ ((cells.toList.take (n * P.cellsOf o.t)++news++cells.toList.drop (n * P.cellsOf o.t + news.length)).take _)
     rw [take_splice (by omega) (by simp; omega)]
     rw [Nat.add_mul,← hr.1] at hrow
     exact hrow)
    exact ⟨_,_,ρ,hrun,s1,s2,s3⟩
 | _=>simp at h
end
end Go.Ab
