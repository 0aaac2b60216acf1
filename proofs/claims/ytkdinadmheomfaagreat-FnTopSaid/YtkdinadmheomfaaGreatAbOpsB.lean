/- Appends whose outcome is a row of the store. -/
import Derived.Test.YtkdinadmheomfaaGreatAbOpsA
set_option linter.unusedVariables false
set_option linter.unusedSimpArgs false
namespace Go.Ab
open Go Go.RowKit
section
variable {P:Program} {S:TypeId->Nat} {B:Nat} {w w':World} {M A A':bs} {ρ ρ':Pm}
theorem CC {α:Type} {l v:List α} {a K:Nat} (D:a + v.length<=K) (F:K<=l.length) :
  (l.take a++v++l.drop (a + v.length)).take K=(l.take K).take a++v++(l.take K).drop (a + v.length):=by
 apply List.ext_getElem?
 intro k
 rw [sp (l:=l.take K) rfl (by simp; omega),List.getElem?_take,sp rfl (by omega),List.getElem?_take]
 by_cases h:k < K
 ·simp [h]
 ·rw [if_neg h,if_neg h,if_neg (by omega),if_neg (by omega)]
theorem Gb (aG:fN M A) (hA:MR P.cellsOf B w A ρ) {ay:Nat} (N:A[ay]? = some .pend) {t ty el:TypeId} (ax:P.underlying t=some (.slice el)) (Y:qo P el=true) (aJ:((P.info? el).bind (·.zero)).isSome=true) (aK:(b5 P el).length=P.cellsOf el)
  {x s y:AV} {aL vs:Value} {l:List Ob} (h:ks ay el (P.cellsOf el) (P.bytesOf el) x s M=some (y,.push l)) (O:RV P.cellsOf B w A ρ x aL) (aH:RV P.cellsOf B w A ρ s vs) :
  we P.cellsOf B w A ρ ((Builtin.append_ #[t,t] ty #[aL,vs]).run P w) (qq A ay (.push l)) y:=by
 unfold ks at h
 obtain ⟨src,aI,h⟩:=Option.bind_eq_some_iff.1 h
 cases x with
 | nils=>
  simp only at h
  split at h
  rotate_left
  ·cases h
  rename_i ap
  simp only [Option.some.injEq,Prod.mk.injEq,Eff.push.injEq] at h
  obtain ⟨ak,am⟩:=h
  subst ak
  subst am
  obtain ⟨U,J,f3,ac⟩:=od ap
  obtain ⟨a,c,az,rfl,aq,F,aE⟩:=vL aG hA J aI aH U
  cases O
  have aw:∀ e ∈ src,∀ x ∈ e,gB x=true:=fun e D x O=>mq ((U e D).2 x O)
  by_cases D:src=[]
  ·subst D
   obtain ⟨aa,ab⟩:=zm hA (Below.refl _ w) N ⟨.grow,el,P.cellsOf el,[]⟩ none (fun _ _ e=>by cases e) (fun _=>⟨rfl,J,by simp,by simp,fun _=>rfl⟩)
   exact ⟨_,w,_,iG ax Y none 0 0 (Nat.le_refl _) a c,aa,ab,Ke (ob:=⟨.grow,el,P.cellsOf el,[]⟩) N rfl rfl⟩
  ·obtain ⟨ah,rfl,ao⟩:=aq.resolve_left D
   have aM:0 < src.length:=List.length_pos_iff.2 D
   rw [Nat.zero_add] at f3 ac
   obtain ⟨ai,aj,w',ad,aA,ae,aB,aC,Z,I⟩:=qQ (ty:=ty) (w:=w) ax Y aJ aK ah src.length c az aM F.1 ao ac f3
   obtain ⟨aa,ab⟩:=ry hA N .grow el src aj w' I w.heap.size ai (Nat.le_refl _) aA J aC ae aB (by simp) F.2.1 aw (fun i j e x v G X an=>F.2.2 i j e x v G X (by
    have aR:=(List.getElem?_eq_some_iff.1 G).1
    have ar:=(List.getElem?_eq_some_iff.1 X).1
    rw [F.2.1 e (List.mem_of_getElem? G)] at ar
    have av:=Nat.mul_le_mul_right (P.cellsOf el) (show i + 1<=src.length by omega)
    rw [Nat.succ_mul] at av
    rw [<- Z,List.getElem?_take,if_pos (by omega)]; simpa using an))
   exact ⟨_,w',_,ad,aa,ab,zc (ob:=⟨.grow,el,P.cellsOf el,src⟩) N⟩
 | lit af es=>
  simp only at h
  split at h
  rotate_left
  ·cases h
  rename_i aF
  obtain ⟨aQ,rfl,aT,ap⟩:=aF
  have au:es.length=0:=by simpa using aQ
  simp only [Option.some.injEq,Prod.mk.injEq,Eff.push.injEq] at h
  obtain ⟨ak,am⟩:=h
  subst ak
  subst am
  obtain ⟨U,J,f3,ac⟩:=od ap
  obtain ⟨a,c,az,rfl,aq,F,aE⟩:=vL aG hA J aI aH U
  have aw:∀ e ∈ src,∀ x ∈ e,gB x=true:=fun e D x O=>mq ((U e D).2 x O)
  have D:src≠[]:=List.length_pos_iff.1 aT
  obtain ⟨ah,rfl,ao⟩:=aq.resolve_left D
  cases O with
  | lit _ _ b cs f aN aW aU a1 aS aX aF a0 a2=>
   obtain ⟨aY,aP⟩:=dc.some aN
   obtain ⟨g',ai,aj,w',ad,aA,ae,aB,aC,Z,I,aD⟩:=y3 (ty:=ty) (w:=w) ax Y aJ aK b es.length es.length cs aP (Nat.le_refl _) aS aU ah src.length c az F.1 ao aE (by rw [au]; exact ac) (by rw [au]; exact f3)
   obtain ⟨aD,aV⟩:=aD.resolve_left (fun h=>by omega)
   have aO:Below w.heap.size w w':=⟨I.os,I.tape,I.output,I.size,fun k Y=>by
    by_cases e:k=b
    ·rw [e]; exact aV
    ·exact I.block k Y (fun h=>e (Option.some.inj h))⟩
   rw [show es.length + src.length=src.length by omega] at ad ae Z
   rw [au,Nat.zero_mul,List.take_zero,List.nil_append] at Z
   obtain ⟨aa,ab⟩:=ry hA N .grow af src aj w' aO g' ai aD aA J aC ae aB (by simp) F.2.1 aw (fun i j e x v G X an=>F.2.2 i j e x v G X (by
    have aR:=(List.getElem?_eq_some_iff.1 G).1
    have ar:=(List.getElem?_eq_some_iff.1 X).1
    rw [F.2.1 e (List.mem_of_getElem? G)] at ar
    have av:=Nat.mul_le_mul_right (P.cellsOf af) (show i + 1<=src.length by omega)
    rw [Nat.succ_mul] at av
    rw [<- Z,List.getElem?_take,if_pos (by omega)]; simpa using an))
   exact ⟨_,w',_,ad,aa,ab,zc (ob:=⟨.grow,af,P.cellsOf af,src⟩) N⟩
 | lsl id L off n=>
  simp only at h
  obtain ⟨o,aZ,h⟩:=Option.bind_eq_some_iff.1 h
  split at h
  ·split at h
   ·split at h <;> simp at h
   ·split at h <;> simp at h
  ·cases h
 | _=>simp at h
theorem GJ (hA:MR P.cellsOf B w M ρ) {bp:Nat} {t ty el:TypeId} (an:P.underlying t=some (.slice el)) (ab:qo P el=true) (bc:((P.info? el).bind (·.zero)).isSome=true) (bd:(b5 P el).length=P.cellsOf el)
  {x s y:AV} {bg vs:Value} {M':bs} (h:ks bp el (P.cellsOf el) (P.bytesOf el) x s M=some (y,.put M')) (N:RV P.cellsOf B w M ρ x bg) (ba:RV P.cellsOf B w M ρ s vs) :
  we P.cellsOf B w M ρ ((Builtin.append_ #[t,t] ty #[bg,vs]).run P w) M' y:=by
 have az:=fN.refl M
 unfold ks at h
 obtain ⟨src,bb,h⟩:=Option.bind_eq_some_iff.1 h
 cases x with
 | nils=>
  simp only at h
  split at h
  ·simp at h
  ·cases h
 | lit bz es=>
  simp only at h
  split at h
  ·simp at h
  ·cases h
 | lsl id L off n=>
  simp only at h
  obtain ⟨o,aJ,h⟩:=Option.bind_eq_some_iff.1 h
  split at h
  rotate_left
  ·cases h
  rename_i bh
  obtain ⟨aE,aZ,aj,a0⟩:=bh
  obtain ⟨J,a3⟩:=eo aJ
  have aR:=(List.getElem?_eq_some_iff.1 J).1
  obtain ⟨aX,aY,bq,aL,br⟩:=hA.obj id o J
  split at h
  ·rename_i a6
   split at h
   rotate_left
   ·cases h
   rename_i ay
   simp only [Option.some.injEq,Prod.mk.injEq,Eff.put.injEq] at h
   obtain ⟨ar,aF⟩:=h
   subst ar
   subst aF
   obtain ⟨au,aO,f3,a1⟩:=od ay
   obtain ⟨a,c,X,rfl,aQ,ac,aP⟩:=vL az hA aO bb ba au
   have aS:∀ e ∈ o.es++src,∀ x ∈ e,gB x=true:=fun e D=>(List.mem_append.1 D).elim (aL e) (fun D x N=>mq ((au e D).2 x N))
   subst a0
   subst a6
   subst a3
   by_cases D:src=[]
   ·subst D
    have bi:({ o with es:=o.es++[] }:Ob)=o:=by simp
    rw [bi,List.length_nil,Nat.add_zero]
    have bo:M.set id (.live o)=M:=by
     apply List.ext_getElem?
     intro k
     by_cases hk':k=id
     ·subst hk'; rw [List.getElem?_set_self aR,J]
     ·rw [List.getElem?_set_ne (Ne.symm hk')]
    rw [bo]
    rcases jO az N aJ with ⟨b,cap,F,a4,rfl⟩ | ⟨F,aG,_,_,rfl⟩
    ·obtain ⟨cells,ao,ap,aB,aK,be,bf,ad⟩:=po hA J F
     exact ⟨_,w,ρ,iG an ab _ _ _ (by omega) a c,Step.refl _ _ _,hA,N⟩
    ·rw [aG] at N ⊢
     exact ⟨_,w,ρ,iG an ab _ 0 0 (Nat.le_refl _) a c,Step.refl _ _ _,hA,N⟩
   ·obtain ⟨aD,rfl,aH⟩:=aQ.resolve_left D
    have aG:0 < src.length:=List.length_pos_iff.2 D
    have bk:o.es.length < (o.es++src).length:=by simp; omega
    subst aZ
    have a2:∀ (b cap:Nat) (U:Array Value) (w':World) (ae:w.grownBy w' (Pl.block (ρ id))) (F:Pl.block (ρ id)=some b∨w.heap.size<=b) (Y:w'.heap[b]? = some (.cells U o.t (0,0))) (aC:o.es.length + src.length<=cap) (aq:cap<=maxLen) (Z:U.size=cap * P.cellsOf o.t)
      (aU:List Value) (a7:se P.cellsOf (dc w M ρ) B (jK M ρ) (P.cellsOf o.t) o.es aU) (aa:U.toList.take ((o.es.length + src.length) * P.cellsOf o.t)=aU++X),
      Step w M ρ w' (M.set id (.live { o with es:=o.es++src })) (fJ ρ id (some (b,cap)))/\MR P.cellsOf B w' (M.set id (.live { o with es:=o.es++src })) (fJ ρ id (some (b,cap))) /\
       RV P.cellsOf B w' (M.set id (.live { o with es:=o.es++src })) (fJ ρ id (some (b,cap))) (.lsl id (o.es.length + src.length) 0 (o.es.length + src.length)) (.slice (some ⟨b,0,none⟩) (o.es.length + src.length) cap):=by
     intro b cap U w' ae F Y aC aq Z aU a7 aa
     have aA:∀ O c,(some (b,cap):Pl)=some (O,c)->Pl.block (ρ id)=some O∨w.heap.size<=O:=fun O bt e=>by injection e with e; injection e with ar aF; subst ar; exact F
     have ax:(Ent.live { o with es:=o.es++src }) = .dead∨∃ es',(Ent.live { o with es:=o.es++src }) = .live { o with es:=es' }/\((o.kn = .grow/\o.es.length < es'.length)∨(es'.length=o.es.length/\(some (b,cap):Pl)=ρ id)):=.inr ⟨_,rfl,.inl ⟨aE,bk⟩⟩
     have G:=lP hA J ae ax aA
     have I:=sk hA J ae ax aA (fun am ob af=>by
      injection af with af
      subst af
      exact sT aX aY aS Y (by rw [aj]; exact Z) (by simpa using aC) aq (fun aw=>by rw [aE] at aw; cases aw) (by
       have q:=(a7.append ac).mono am.view am.ref
       rw [<- aa,<- aj] at q
       simpa only [List.length_append] using q))
     have:=w3 (A:=M) (ρ:=ρ) (ob:={ o with es:=o.es++src }) (p:=some (b,cap)) aR (fun _ h=>by cases h)
     rw [List.length_append] at this
     have av:=RC.lslV (S:=P.cellsOf) (V:=dc w' (M.set id (.live { o with es:=o.es++src })) (fJ ρ id (some (b,cap)))) (B:=B) id (o.es.length + src.length) 0 (o.es.length + src.length) b cap o.s this (by omega)
     rw [Nat.zero_mul,Nat.sub_zero] at av
     exact ⟨G,I,av⟩
    rcases jO az N aJ with ⟨b,cap,F,a4,rfl⟩ | ⟨F,ak,_,_,rfl⟩
    ·obtain ⟨cells,ao,ap,aB,aK,be,bf,ad⟩:=po hA J F
     rw [aj] at ap ad
     rw [Nat.zero_mul,Nat.sub_zero]
     obtain ⟨g',aM,aN,w',aV,Y,aC,aq,Z,aa,ah,aW⟩:=y3 (ty:=ty) (w:=w) an ab bc bd b o.es.length cap cells ao aB aK ap aD src.length c X ac.1 aH aP a1 f3
     obtain ⟨G,I,ai⟩:=a2 g' aM aN w' (by rw [F]; exact ah) (by rcases aW with ⟨rfl,_⟩ | ⟨aW,_⟩; exact .inl (by rw [F]; rfl); exact .inr aW) Y aC aq Z _ ad aa
     exact ⟨_,w',_,aV,G,I,ai⟩
    ·have bn:o.es=[]:=List.length_eq_zero_iff.1 ak
     obtain ⟨aM,aN,w',aV,Y,aC,aq,Z,aa,ah⟩:=qQ (ty:=ty) (w:=w) an ab bc bd aD src.length c X aG ac.1 aH (by omega) (by rw [ak] at f3; simpa using f3)
     obtain ⟨G,I,ai⟩:=a2 w.heap.size aM aN w' ⟨ah.os,ah.tape,ah.output,ah.size,fun k ab _=>ah.block k ab⟩ (.inr (Nat.le_refl _)) Y (by rw [ak]; omega) aq Z [] (by rw [bn]; exact se.nil) (by rw [ak]; simpa using aa)
     refine ⟨_,w',_,?_,G,I,ai⟩
     rw [ak,Nat.zero_add]; exact aV
  ·rename_i a6
   split at h
   rotate_left
   ·cases h
   rename_i ay
   obtain ⟨bj,ay⟩:=ay
   simp only [Option.some.injEq,Prod.mk.injEq,Eff.put.injEq] at h
   obtain ⟨ar,aF⟩:=h
   subst ar
   subst aF
   obtain ⟨au,aO,f3,a1⟩:=od ay
   obtain ⟨a,c,X,rfl,aQ,ac,aP⟩:=vL az hA aO bb ba au
   have aS:∀ e ∈ o.es.take n++src++o.es.drop (n + src.length),∀ x ∈ e,gB x=true:=fun e D=>by
    rcases List.mem_append.1 D with D | D
    ·rcases List.mem_append.1 D with D | D
     ·exact aL e (List.mem_of_mem_take D)
     ·exact fun x N=>mq ((au e D).2 x N)
    ·exact aL e (List.mem_of_mem_drop D)
   subst a0
   subst a3
   have aI:(o.es.take n++src++o.es.drop (n + src.length)).length=o.es.length:=by simp; omega
   rcases jO az N aJ with ⟨b,cap,F,a4,rfl⟩ | ⟨F,ak,_,bu,rfl⟩
   rotate_left
   ·omega
   obtain ⟨cells,ao,ap,aB,aK,be,bf,ad⟩:=po hA J F
   subst aZ
   obtain ⟨d,i,bv,bl,aT,aG⟩:=ee ab
   rw [aj] at ap ad
   rw [Nat.zero_mul,Nat.sub_zero]
   have a5:∀ (U:Array Value) (w':World) (ae:w.grownBy w' (Pl.block (ρ id))) (Y:w'.heap[b]? = some (.cells U o.t (0,0))) (Z:U.size=cap * P.cellsOf o.t)
      (aa:se P.cellsOf (dc w M ρ) B (jK M ρ) (P.cellsOf o.t) (o.es.take n++src++o.es.drop (n + src.length)) (U.toList.take (o.es.length * P.cellsOf o.t))),
      Step w M ρ w' (M.set id (.live { o with es:=o.es.take n++src++o.es.drop (n + src.length) })) ρ/\MR P.cellsOf B w' (M.set id (.live { o with es:=o.es.take n++src++o.es.drop (n + src.length) })) ρ /\
       RV P.cellsOf B w' (M.set id (.live { o with es:=o.es.take n++src++o.es.drop (n + src.length) })) ρ (.lsl id o.es.length 0 (n + src.length)) (.slice (some ⟨b,0,none⟩) (n + src.length) cap):=by
    intro U w' ae Y Z aa
    have aA:∀ O c,ρ id=some (O,c)->Pl.block (ρ id)=some O∨w.heap.size<=O:=fun O c e=>.inl (by rw [e]; rfl)
    have ax:(Ent.live { o with es:=o.es.take n++src++o.es.drop (n + src.length) }) = .dead∨∃ es',(Ent.live { o with es:=o.es.take n++src++o.es.drop (n + src.length) }) = .live { o with es:=es' }/\((o.kn = .grow/\o.es.length < es'.length)∨(es'.length=o.es.length/\ρ id=ρ id)):=.inr ⟨_,rfl,.inr ⟨aI,rfl⟩⟩
    have G:=lP hA J ae ax aA
    have I:=sk hA J ae ax aA (fun am ob af=>by
     injection af with af
     subst af
     rw [F] at am ⊢
     exact sT aX aY aS Y (by rw [aj]; exact Z) (by rw [aI]; exact aB) aK (fun aw=>by rw [aE] at aw; cases aw) (by
      have q:=aa.mono am.view am.ref
      rw [<- aj] at q
      simp only [aI]
      exact q))
    have:=w3 (A:=M) (ρ:=ρ) (ob:={ o with es:=o.es.take n++src++o.es.drop (n + src.length) }) (p:=ρ id) aR (fun h=>by rw [show o.kn=Kn.grow from aE] at h; cases h)
    rw [rZ] at G I this
    rw [aI,F] at this
    have av:=RC.lslV (S:=P.cellsOf) (V:=dc w' (M.set id (.live { o with es:=o.es.take n++src++o.es.drop (n + src.length) })) ρ) (B:=B) id o.es.length 0 (n + src.length) b cap o.s this (by omega)
    rw [Nat.zero_mul,Nat.sub_zero] at av
    exact ⟨G,I,av⟩
   have a8:=((ad.take (n:=n) (by omega)).append ac).append (ad.drop (n:=n + src.length) (by omega))
   by_cases D:src=[]
   ·subst D
    obtain ⟨G,I,ai⟩:=a5 cells w ⟨rfl,rfl,rfl,Nat.le_refl _,fun _ _ _=>rfl⟩ ao ap (by simpa using ad)
    exact ⟨_,w,ρ,iG an ab _ n cap (by omega) a c,G,I,ai⟩
   ·obtain ⟨aD,rfl,aH⟩:=aQ.resolve_left D
    have bw:=Nat.mul_le_mul_right (P.cellsOf o.t) aB
    have bm:=Nat.mul_le_mul_right (P.cellsOf o.t) bj
    rw [Nat.add_mul] at bm
    have bx:=ac.1
    have a9:=run_append_room (P:=P) w t ty o.t i an bl b n cap cells ao aD src.length c X (by rw [<- aT]; exact ac.1) aH aP (by omega) (by rw [<- aT]; omega)
    rw [<- aT] at a9
    obtain ⟨G,I,ai⟩:=a5 _ _ (by rw [F]; exact qT w b (cells.toList.take (n * P.cellsOf o.t)++X++cells.toList.drop (n * P.cellsOf o.t + X.length)).toArray) (setRow_heap w b cells _ o.t _ ao) (by simp; omega) (by
     show se _ _ _ _ _ _ ((cells.toList.take (n * P.cellsOf o.t)++X++cells.toList.drop (n * P.cellsOf o.t + X.length)).take _)
     rw [CC (by omega) (by simp; omega)]
     rw [Nat.add_mul,<- ac.1] at a8
     exact a8)
    exact ⟨_,_,ρ,a9,G,I,ai⟩
 | _=>simp at h
end
end Go.Ab
