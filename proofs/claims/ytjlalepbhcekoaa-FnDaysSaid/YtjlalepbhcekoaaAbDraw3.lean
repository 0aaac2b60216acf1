/- Regions in any order: one step, and the whole. -/
import Derived.Test.YtjlalepbhcekoaaAbDraw2
set_option linter.unusedVariables false
set_option linter.unusedSimpArgs false
namespace Go.Ab
open Go Go.RowKit
abbrev In (L:Array Bool) (i:Nat):Prop:=L.getD i false=true
theorem in_set {L:Array Bool} {i k:Nat} (hi:i < L.size):In (L.setIfInBounds i true) k↔In L k∨k=i:=by
  unfold In
  rw [Array.getD_eq_getD_getElem?,Array.getD_eq_getD_getElem?,Array.getElem?_setIfInBounds]
  by_cases h:i=k
  · subst h; simp [hi]
  · rw [if_neg h]
    constructor
    · exact .inl
    · rintro (h1 | h1)
      · exact h1
      · exact absurd h1.symm h
structure Stp (w:World) (M:Mem) (ρ:Pm) (w':World) (M':Mem) (ρ':Pm):Prop where
  os:w'.os=w.os
  tape:w'.tape=w.tape
  output:w'.output=w.output
  size:w.heap.size≤w'.heap.size
  block:∀ b,b < w.heap.size→¬ Held M ρ b→w'.heap[b]? = w.heap[b]?
  ref:RefLe (Ref M ρ) (Ref M' ρ')
  held:∀ b,b < w.heap.size→Held M' ρ' b→Held M ρ b
  hid:ρ'.hid=ρ.hid
theorem Step.stp {w w':World} {M M':Mem} {ρ ρ':Pm} (h:Step w M ρ w' M' ρ'):Stp w M ρ w' M' ρ':=⟨h.os,h.tape,h.output,h.size,h.block,h.ref,h.held,h.hid⟩
theorem Stp.refl (w:World) (M:Mem) (ρ:Pm):Stp w M ρ w M ρ:=(Step.refl w M ρ).stp
theorem Stp.trans {w w1 w2:World} {M M1 M2:Mem} {ρ ρ1 ρ2:Pm} (h:Stp w M ρ w1 M1 ρ1) (k:Stp w1 M1 ρ1 w2 M2 ρ2):Stp w M ρ w2 M2 ρ2:=
  ⟨k.os.trans h.os,k.tape.trans h.tape,k.output.trans h.output,Nat.le_trans h.size k.size,
   fun b hb hn=>(k.block b (Nat.lt_of_lt_of_le hb h.size) (fun hh=>hn (h.held b hb hh))).trans (h.block b hb hn),
   h.ref.trans k.ref,fun b hb hh=>h.held b hb (k.held b (Nat.lt_of_lt_of_le hb h.size) hh),k.hid.trans h.hid⟩
theorem Stp.rv {S:TypeId→Nat} {B:Nat} {w w':World} {M M':Mem} {ρ ρ':Pm} (h:Stp w M ρ w' M' ρ') {a:AV} {v:Value} (hv:RV S B w M ρ a v):RV S B w' M' ρ' a v:=by
  refine RC.mono (fun b o hv=>?_) (Nat.le_refl _) h.ref hv
  obtain ⟨hn,hw⟩:=View.some hv
  have hb:=View.lt hv
  rw [View.of_not (fun hh=>hn (h.held b hb hh)) (by rw [h.hid]; exact View.nhid hv),h.block b hb hn,hw]
def Good (S:TypeId→Nat) (ob:Ob):Prop:=ob.kn = .box∧ob.s=S ob.t∧0 < ob.s∧(∀ e ∈ ob.es,e.length=ob.s)∧(∀ e ∈ ob.es,∀ x ∈ e,cellOk x=true)
theorem al_push {c:Cx} {call:CallF} {ob th:List Nat} {ops:Array Oper} {t:Tr} {l:List Ob} (h:TrOk c call ob th ops t) (ha:isAl th t.i t.o=true) (he:t.eff = .push l):∃ o,l=[o]∧Good c.P.cellsOf o:=by
  unfold TrOk at h
  rw [he] at h
  have h2:evalOp c call (has ob t.i) (has th t.i) t.n t.o (prune (rds t.o) t.e) t.M=some (t.y,.push l):=by
    unfold aGuard at h
    split at h
    · exact h
    · split at h
      · exact h
      · simp at h
    · simp at h
    · cases h
  unfold isAl at ha
  split at ha
  · rename_i ty hop
    have hth:has th t.i=false:=by simpa using ha
    unfold evalOp at h2
    rw [hop] at h2
    simp only [hth,gho,Bool.false_eq_true,if_false] at h2
    split at h2
    · rename_i hc
      simp only [Option.some.injEq,Prod.mk.injEq,Eff.push.injEq] at h2
      obtain ⟨_,rfl⟩:=h2
      obtain ⟨c1,c2,c3,c4,c5⟩:=hc
      exact ⟨_,rfl,rfl,rfl,c4,by simpa using c3,by simpa using c5⟩
    · cases h2
  · cases ha
theorem phan_all {S:TypeId→Nat} {B:Nat} {w:World} (In:Nat→Bool):∀ (FT:List Tr) (U:Mem) (ρ:Pm),MR S B w (U++FT.flatMap (seg In)) ρ→(∀ t ∈ FT,In t.i=false→∀ l,t.eff = .push l→∃ o,l=[o]∧Good S o) →
    ∃ ρ',Step w (U++FT.flatMap (seg In)) ρ w (U++(FT.flatMap obsOf).map .live) ρ'∧MR S B w (U++(FT.flatMap obsOf).map .live) ρ'∧(∀ i,i < U.length→ρ' i=ρ i) ∧
      ∀ (q:Nat) t,FT[q]? = some t→In t.i=false→∀ l,t.eff = .push l→∀ k,k < l.length→ρ' (U.length + ((FT.take q).flatMap obsOf).length + k)=none
  | [],U,ρ,hA,_=>⟨ρ,Step.refl _ _ _,hA,fun _ _=>rfl,fun q t h=>by simp at h⟩
  | t::FT,U,ρ,hA,hg=>by
    have key:∀ (U':Mem) (ρ1:Pm),U'.length=U.length + (obsOf t).length→U'++(FT.flatMap obsOf).map Ent.live=U++((t::FT).flatMap obsOf).map .live→Step w (U++(t::FT).flatMap (seg In)) ρ w (U'++FT.flatMap (seg In)) ρ1→MR S B w (U'++FT.flatMap (seg In)) ρ1→(∀ i,i < U.length→ρ1 i=ρ i) →
        (In t.i=false→∀ l,t.eff = .push l→∀ k,k < l.length→ρ1 (U.length + k)=none) →
        ∃ ρ',Step w (U++(t::FT).flatMap (seg In)) ρ w (U++((t::FT).flatMap obsOf).map .live) ρ'∧MR S B w (U++((t::FT).flatMap obsOf).map .live) ρ'∧(∀ i,i < U.length→ρ' i=ρ i) ∧
          ∀ (q:Nat) t',(t::FT)[q]? = some t'→In t'.i=false→∀ l,t'.eff = .push l→∀ k,k < l.length→ρ' (U.length + (((t::FT).take q).flatMap obsOf).length + k)=none:=by
      intro U' ρ1 hl hU hst hmr h1 h2
      obtain ⟨ρ2,k1,k2,k3,k4⟩:=phan_all In FT U' ρ1 hmr (fun t' ht'=>hg t' (List.mem_cons_of_mem _ ht'))
      rw [hU] at k1 k2
      refine ⟨ρ2,hst.trans k1,k2,fun i hi=>by rw [k3 i (by omega),h1 i hi],fun q t' hq hn l he k hk=>?_⟩
      cases q with
      | zero=>
        simp only [List.getElem?_cons_zero,Option.some.injEq] at hq
        subst hq
        simp only [List.take_zero,List.flatMap_nil,List.length_nil,Nat.add_zero]
        rw [k3 _ (by rw [hl]; simp only [obsOf,he]; omega)]
        exact h2 hn l he k hk
      | succ q=>
        rw [List.getElem?_cons_succ] at hq
        have:=k4 q t' hq hn l he k hk
        rw [hl] at this
        simp only [List.take_succ_cons,List.flatMap_cons,List.length_append]
        rw [← this]
        congr 1
        omega
    have hob:((t::FT).flatMap obsOf).map Ent.live=(obsOf t).map .live++(FT.flatMap obsOf).map .live:=by simp
    have hseg:(t::FT).flatMap (seg In)=seg In t++FT.flatMap (seg In):=by simp
    by_cases hp:∃ l,t.eff = .push l∧In t.i=false
    · obtain ⟨l,he,hn⟩:=hp
      obtain ⟨o,rfl,g1,g2,g3,g4,g5⟩:=hg t (List.mem_cons_self ..) hn l he
      have s1:seg In t=[.pend]:=by unfold seg; rw [he]; simp [hn]
      have s2:obsOf t=[o]:=by unfold obsOf; rw [he]
      have hA':=hA
      rw [hseg,s1] at hA'
      have hpn:(U++([Ent.pend]++FT.flatMap (seg In)))[U.length]? = some .pend:=by simp
      obtain ⟨p1,p2⟩:=push_one hA' (Below.refl _ w) hpn o none (fun _ _ e=>by cases e) (fun _=>⟨g2,g3,g4,g5,fun e=>by rw [g1] at e; cases e⟩)
      have e1:(U++([Ent.pend]++FT.flatMap (seg In))).set U.length (.live o)=(U++[.live o])++FT.flatMap (seg In):=by
        rw [List.set_append_right _ _ (Nat.le_refl _),Nat.sub_self]; simp
      rw [e1] at p1 p2
      refine key (U++[.live o]) _ (by simp [s2]) (by rw [hob,s2]; simp) (by rw [hseg,s1]; exact p1) p2 (fun i hi=>by simp only [rput]; rw [if_neg (by omega)]) (fun _ l' he' k hk=>?_)
      rw [he] at he'
      cases he'
      have:k=0:=by simpa using hk
      subst this
      simp [rput]
    · refine key (U++(obsOf t).map .live) ρ (by simp) (by rw [hob]; simp) ?_ ?_ (fun _ _=>rfl) (fun hn l he=>absurd ⟨l,he,hn⟩ hp)
      all_goals
        have s1:seg In t=(obsOf t).map .live:=by
          unfold seg obsOf
          cases he:t.eff with
          | push l=>
            cases hi:In t.i with
            | true=>simp
            | false=>exact absurd ⟨l,he,hi⟩ hp
          | _=>rfl
      · rw [hseg,s1,List.append_assoc]; exact Step.refl _ _ _
      · rw [hseg,s1] at hA
        rw [List.append_assoc]; exact hA
theorem dep_step {S:TypeId→Nat} {B:Nat} {w:World} {A:Mem} {ρ:Pm} (hA:MR S B w A ρ) {n:Nat} (h:Ph A ρ n):Stp w A ρ w (A.set n .pend) ρ∧MR S B w (A.set n .pend) ρ:=by
  have hph:=Ref.ph h
  obtain ⟨o,h1,h2,h3⟩:=h
  have hlt:=(List.getElem?_eq_some_iff.1 h1).1
  have live:∀ (id:Nat) (o':Ob),(A.set n Ent.pend)[id]? = some (Ent.live o')→A[id]? = some (Ent.live o'):=by
    intro id o' hh
    by_cases hi:id=n
    · subst hi; rw [List.getElem?_set_self hlt] at hh; cases hh
    · rw [List.getElem?_set_ne (Ne.symm hi)] at hh; exact hh
  have hst:Stp w A ρ w (A.set n .pend) ρ:=by
    refine ⟨rfl,rfl,rfl,Nat.le_refl _,fun _ _ _=>rfl,fun id L=>?_,fun b hb hh=>?_,rfl⟩
    · by_cases hi:id=n
      · subst hi
        rw [hph L]
        exact ⟨fun e=>(by cases e),fun x e=>(by cases e)⟩
      · have:Ref (A.set n .pend) ρ id L=Ref A ρ id L:=by simp [Ref,List.getElem?_set_ne (Ne.symm hi)]
        rw [this]
        exact ⟨fun e=>e,fun x e=>.inr e⟩
    · obtain ⟨id,o',c,k1,k2⟩:=hh
      exact ⟨id,o',c,live id o' k1,k2⟩
  refine ⟨hst,fun id o' k1=>?_,fun id id' o1 o2 b c c' k1 k2=>hA.inj id id' o1 o2 b c c' (live _ _ k1) (live _ _ k2),hA.hid,⟨hA.lo.1,fun id o' b c k1=>hA.lo.2 id o' b c (live _ _ k1)⟩,hA.fx⟩
  obtain ⟨a1,a2,a3,a4,a5⟩:=hA.obj id o' (live id o' k1)
  refine ⟨a1,a2,a3,a4,?_⟩
  cases hp:ρ id with
  | none=>rw [hp] at a5; exact a5
  | some p=>
    obtain ⟨b,cap⟩:=p
    rw [hp] at a5
    obtain ⟨cs,f,q1,q2,q3,q4,q5,q6,q7⟩:=a5
    exact ⟨cs,f,q1,q2,q3,q4,q5,q6,fun i j e x he hx=>hst.rv (q7 i j e x he hx)⟩
theorem lives_get {M:Mem}:∀ {l:List Ob} {n:Nat},lives M n l→∀ k o,l[k]? = some o→M[n + k]? = some (.live o)
  | [],n,_,k,o,h=>by simp at h
  | o'::l,n,h,k,o,hk=>by
    cases k with
    | zero=>simp only [List.getElem?_cons_zero,Option.some.injEq] at hk; subst hk; exact h.1
    | succ k=>
      rw [List.getElem?_cons_succ] at hk
      have:=lives_get h.2 k o hk
      rw [show n + (k + 1)=n + 1 + k by omega]
      exact this
section
variable {c:Cx} {call:CallF} {ob th calm std suf:List Nat} {ops:Array Oper} {B nt:Nat} {M0:Mem} {e0:Env} {FT BT:List Tr} {w0:World} {ρ0:Pm}
def MemOk (calm std:List Nat) (M0:Mem) (FT BT:List Tr) (L:Array Bool) (A:Mem) (ρ:Pm):Prop:=
  ∃ s,s≤BT.length∧((∀ (q:Nat) t,BT[q]? = some t→isPu t.o=false→(In L t.i↔q < s))∧(0 < s→∃ t,BT[s - 1]? = some t∧isPu t.o=false))∧A=(if s=0 then M0++FT.flatMap (seg fun i=>L.getD i false) else memA (M0++(FT.flatMap obsOf).map .live) (BT.take s))∧(0 < s→∀ t ∈ FT,In L t.i∨has (calm++std) t.i=true) ∧
    (0 < s→∀ t ∈ FT,¬ In L t.i→∀ l,t.eff = .push l→∀ k,k < l.length→ρ (t.n + k)=none)
structure Inv (c:Cx) (calm std:List Nat) (ops:Array Oper) (B nt:Nat) (M0:Mem) (e0:Env) (FT BT:List Tr) (w0:World) (ρ0:Pm) (L:Array Bool) (a:Act) (w:World) (ρ:Pm) (A:Mem):Prop where
  size:L.size=ops.size
  down:∀ k o,ops[k]? = some o→In L k→∀ j ∈ edgesOf o,In L j
  env:∀ x,(∀ t ∈ FT++BT,t.o.dst=some x→In L t.i→RV c.P.cellsOf B w A ρ t.y (a.tmps.getD x Go.undef))∧((∀ t ∈ FT++BT,t.o.dst=some x→¬ In L t.i)→RV c.P.cellsOf B w A ρ (eget e0 x) (a.tmps.getD x Go.undef))
  mem:MemOk calm std M0 FT BT L A ρ
  mr:MR c.P.cellsOf B w A ρ
  nts:nt≤a.tmps.size
  defers:a.defers=[]
  step:Stp w0 M0 ρ0 w A ρ
  ph:∀ id,Ph M0 ρ0 id→Ph A ρ id∨A[id]? = some .dead
section
variable (T:Told c call ob th calm std suf ops nt M0 e0 FT BT)
include T
theorem Told.same {a b:Tr} (ha:a ∈ FT++BT) (hb:b ∈ FT++BT) (h:a.i=b.i):a=b:=by
  obtain ⟨p,hp⟩:=List.getElem?_of_mem ha
  obtain ⟨q,hq⟩:=List.getElem?_of_mem hb
  have:=T.inj hp hq h
  subst this
  rw [hp] at hq
  exact Option.some.inj hq
theorem dep_env {L:Array Bool} {a:Act} {w:World} {ρ:Pm} {A:Mem} (I:Inv c calm std ops B nt M0 e0 FT BT w0 ρ0 L a w ρ A) {q:Nat} {t:Tr} (hq:(FT++BT)[q]? = some t) (hn:¬ In L t.i) (hr:∀ j ∈ edgesOf t.o,In L j) {x:Nat} (hx:x ∈ rds t.o++gds ops t.o) :
    RV c.P.cellsOf B w A ρ (eget t.e x) (a.tmps.getD x Go.undef):=by
  have ht:=List.mem_of_getElem? hq
  rw [T.env hq]
  rcases envA_get x ((FT++BT).take q) e0 with ⟨t',h1,h2,h3⟩ | ⟨h1,h2⟩
  · rw [h3]
    have hm':=List.mem_of_mem_take h1
    obtain ⟨q',hq'⟩:=List.getElem?_of_mem h1
    rw [List.getElem?_take] at hq'
    split at hq'
    · rename_i hlt
      have hb:=T.lt_of hq' hq hlt
      refine (I.env x).1 t' hm' h2 ?_
      rcases T.deps ht hm' hx h2 with h4 | h4 | h4
      · have:=T.inj hq hq' h4; omega
      · exact hr _ h4.1
      · exfalso
        rcases hb with ⟨k1,k2⟩ | ⟨k1,k2⟩
        · rcases h4.2.2 with k | k
          · rw [k] at k2; cases k2
          · rw [k] at k1; cases k1
        · omega
    · cases hq'
  · rw [h2]
    refine (I.env x).2 (fun t' hm' h3 hin=>?_)
    rcases T.deps ht hm' hx h3 with h4 | h4 | h4
    · exact hn (by rw [h4]; exact hin)
    · obtain ⟨q',hq'⟩:=List.getElem?_of_mem hm'
      have hb:bef suf t' t:=by
        rcases h4.2.2 with k | k
        · cases hs:has suf t'.i with
          | false=>exact .inl ⟨hs,k⟩
          | true=>exact .inr ⟨by rw [hs,k],h4.2.1⟩
        · cases hs:has suf t.i with
          | false=>exact .inr ⟨by rw [hs,k],h4.2.1⟩
          | true=>exact .inl ⟨k,hs⟩
      have hlt:=T.pos hq' hq hb
      exact h1 t' (List.mem_of_getElem? (i:=q') (by rw [List.getElem?_take,if_pos hlt]; exact hq')) h3
    · exact hn (clos (In:=In L) I.down _ _ hin h4.1)
theorem Inv.next {L:Array Bool} {a:Act} {w w':World} {ρ ρ':Pm} {A A':Mem} (I:Inv c calm std ops B nt M0 e0 FT BT w0 ρ0 L a w ρ A) {t:Tr} (ht:t ∈ FT++BT) (hr:∀ j ∈ edgesOf t.o,In L j) (hn:¬ In L t.i)
    (hst:Stp w A ρ w' A' ρ') (hph:∀ id,id < M0.length→Ph A ρ id→Ph A' ρ' id∨A'[id]? = some .dead) (hmr:MR c.P.cellsOf B w' A' ρ') {u:Value} (hu:RV c.P.cellsOf B w' A' ρ' t.y u) (hm:MemOk calm std M0 FT BT (L.setIfInBounds t.i true) A' ρ') :
    Inv c calm std ops B nt M0 e0 FT BT w0 ρ0 (L.setIfInBounds t.i true) (a.put t.o.dst u) w' ρ' A':=by
  have ho:=T.at_ ht
  have hlt:t.i < L.size:=by rw [I.size]; exact (Array.getElem?_eq_some_iff.1 ho).1
  have hin:∀ k,In (L.setIfInBounds t.i true) k↔In L k∨k=t.i:=fun k=>in_set hlt
  have hd:∀ x,t.o.dst=some x→x < a.tmps.size:=fun x hx=>Nat.lt_of_lt_of_le (dstOk_spec (T.dst t.o (by
    have:=List.mem_of_getElem? (l:=ops.toList) (i:=t.i) (by simpa using ho); exact this)) x hx) I.nts
  refine ⟨by simpa using I.size,fun k o hk hi j hj=>?_,fun x=>⟨fun t' ht' hd' hi=>?_,fun hno=>?_⟩,hm,hmr,by rw [(put_tmps 0 hd).1]; exact I.nts,by rw [(put_tmps (u:=u) 0 hd).2.1]; exact I.defers,I.step.trans hst,fun id hp=>?_⟩
  · rw [hin] at hi ⊢
    rcases hi with hi | hi
    · exact .inl (I.down k o hk hi j hj)
    · subst hi
      rw [ho] at hk
      obtain rfl:=Option.some.inj hk
      exact .inl (hr j hj)
  · rw [(put_tmps x hd).2.2]
    by_cases hx:t.o.dst=some x
    · rw [if_pos hx]
      rw [← T.same ht ht' (T.one ht ht' hx hd')]
      exact hu
    · rw [if_neg hx]
      rw [hin] at hi
      rcases hi with hi | hi
      · exact hst.rv ((I.env x).1 t' ht' hd' hi)
      · exfalso
        rw [T.same ht' ht hi] at hd'
        exact hx hd'
  · rw [(put_tmps x hd).2.2]
    by_cases hx:t.o.dst=some x
    · exact absurd ((hin t.i).2 (.inr rfl)) (hno t ht hx)
    · rw [if_neg hx]
      exact hst.rv ((I.env x).2 (fun t' ht' hd' hi=>hno t' ht' hd' ((hin _).2 (.inl hi))))
  · have hlt0:id < M0.length:=by obtain ⟨o,h1,_⟩:=hp; exact (List.getElem?_eq_some_iff.1 h1).1
    rcases I.ph id hp with h1 | h1
    · exact hph id hlt0 h1
    · exact .inr (dead_stays hst.ref h1)
theorem Told.apart {q q':Nat} {t t':Tr} (hq:FT[q]? = some t) (hq':FT[q']? = some t') (hlt:q < q') {l:List Ob} (he:t.eff = .push l):t.n + l.length≤t'.n:=by
  obtain ⟨_,_,k3,_⟩:=T.fr q t hq
  obtain ⟨_,_,k3',_⟩:=T.fr q' t' hq'
  have h1:((FT.take (q + 1)).flatMap obsOf).length≤((FT.take q').flatMap obsOf).length:=by
    have:FT.take (q + 1)=(FT.take q').take (q + 1):=by rw [List.take_take,Nat.min_eq_left (by omega)]
    rw [this]
    generalize FT.take q'=l
    have:l.flatMap obsOf=(l.take (q + 1)).flatMap obsOf++(l.drop (q + 1)).flatMap obsOf:=by rw [← List.flatMap_append,List.take_append_drop]
    rw [this,List.length_append]
    omega
  have h2:((FT.take (q + 1)).flatMap obsOf).length=((FT.take q).flatMap obsOf).length + l.length:=by
    obtain ⟨hl,rfl⟩:=List.getElem?_eq_some_iff.1 hq
    rw [List.take_succ_eq_append_getElem hl,List.flatMap_append,List.length_append]
    congr 1
    rw [List.flatMap_cons,List.flatMap_nil,List.append_nil]
    unfold obsOf
    rw [he]
  rw [k3,k3']
  simp only [List.nil_append]
  omega
theorem Told.apart2 {t t':Tr} (ht:t ∈ FT) (ht':t' ∈ FT) (hne:t'.i≠t.i) {l l':List Ob} (he:t.eff = .push l) (he':t'.eff = .push l') {k k':Nat} (hk:k < l.length) (hk':k' < l'.length):t'.n + k'≠t.n + k:=by
  obtain ⟨q,hq⟩:=List.getElem?_of_mem ht
  obtain ⟨q',hq'⟩:=List.getElem?_of_mem ht'
  rcases Nat.lt_trichotomy q q' with h | h | h
  · have:=T.apart hq hq' h he; omega
  · subst h
    rw [hq] at hq'
    obtain rfl:=Option.some.inj hq'
    exact absurd rfl hne
  · have:=T.apart hq' hq h he'; omega
theorem sty_at {L:Array Bool} (hd:∀ k o,ops[k]? = some o→In L k→∀ j ∈ edgesOf o,In L j) {s:Nat} (h0:0 < s) (h1:s≤BT.length) (h2:(∀ (q:Nat) t,BT[q]? = some t→isPu t.o=false→(In L t.i↔q < s))∧(0 < s→∃ t,BT[s - 1]? = some t∧isPu t.o=false)) (h4:∀ t ∈ FT,In L t.i∨has (calm++std) t.i=true)
    {t:Tr} (ht:t ∈ FT) (hn:¬ In L t.i):StyC c call ob th calm std ops t (memA (M0++(FT.flatMap obsOf).map .live) (BT.take s)):=by
  obtain ⟨r,rfl⟩:∃ r,s=r + 1:=⟨s - 1,by omega⟩
  obtain ⟨b,hr,hbp⟩:=h2.2 h0
  rw [Nat.add_sub_cancel] at hr
  rcases T.sd r _ hr t ht ((h4 t ht).resolve_left hn) with h | h
  · exact absurd (clos (In:=In L) hd _ _ ((h2.1 r _ hr hbp).2 (by omega)) h) hn
  · exact h
theorem mem_front {L:Array Bool} {w:World} {A:Mem} {ρ:Pm} (hd:∀ k o,ops[k]? = some o→In L k→∀ j ∈ edgesOf o,In L j) (hA:MR c.P.cellsOf B w A ρ) (hm:MemOk calm std M0 FT BT L A ρ) (hL:L.size=ops.size) {q:Nat} {t:Tr} (hq:FT[q]? = some t) (hn:¬ In L t.i) :
    ∃ Mx A2,MExt Mx A2∧Rdy Mx A2 t.n t.eff∧TrOk c call ob th ops { t with M:=Mx }∧Stp w A ρ w A2 ρ∧MR c.P.cellsOf B w A2 ρ∧(∀ id,id < M0.length→Ph A ρ id→Ph A2 ρ id) ∧
      ∀ w' ρ',Step w A2 ρ w' (effP A2 t.n t.eff) ρ'→MemOk calm std M0 FT BT (L.setIfInBounds t.i true) (effP A2 t.n t.eff) ρ':=by
  obtain ⟨s,h1,h2,h3,h4,h5⟩:=hm
  obtain ⟨k1,_,k3,k4,k5,k5s,k6⟩:=T.fr q t hq
  have ht:=List.mem_of_getElem? hq
  have hlt:t.i < L.size:=by rw [hL]; exact (Array.getElem?_eq_some_iff.1 (T.front ht).1).1
  have hin:∀ k,In (L.setIfInBounds t.i true) k↔In L k∨k=t.i:=fun k=>in_set hlt
  have hbt:(∀ (q:Nat) t',BT[q]? = some t'→isPu t'.o=false→(In (L.setIfInBounds t.i true) t'.i↔q < s))∧(0 < s→∃ t,BT[s - 1]? = some t∧isPu t.o=false):=by
    refine ⟨fun q' t' hq' hp'=>?_,h2.2⟩
    rw [hin,← h2.1 q' t' hq' hp']
    refine ⟨fun h=>h.resolve_right (fun e=>?_),.inl⟩
    have k1:=(T.front ht).2
    have k2:=(T.back (List.mem_of_getElem? hq')).2
    rw [e,k1] at k2
    cases k2
  have hfr:0 < s→∀ t' ∈ FT,In (L.setIfInBounds t.i true) t'.i∨has (calm++std) t'.i=true:=fun h0 t' ht'=>(h4 h0 t' ht').imp (fun h=>(hin _).2 (.inl h)) id
  by_cases h0:s=0
  · rw [if_pos h0] at h3
    have hs:=segs_step (In:=fun i=>L.getD i false) (In':=fun i=>(L.setIfInBounds t.i true).getD i false) hq (Bool.eq_false_iff.2 hn) ((hin t.i).2 (.inr rfl)) (fun t' ht' hne=>by
        have:=hin t'.i
        unfold In at this
        cases h5:L.getD t'.i false <;> cases h6:(L.setIfInBounds t.i true).getD t'.i false <;> simp_all) (fun q' t' hq' e=>by
        have e1:(FT++BT)[q']? = some t':=by rw [List.getElem?_append_left (List.getElem?_eq_some_iff.1 hq').1]; exact hq'
        have e2:(FT++BT)[q]? = some t:=by rw [List.getElem?_append_left (List.getElem?_eq_some_iff.1 hq).1]; exact hq
        exact T.inj e1 e2 e) M0
    simp only [List.nil_append] at k3
    refine ⟨t.M,A,?_,?_,k1,Stp.refl _ _ _,hA,fun _ _ h=>h,fun w' ρ' _=>⟨s,h1,hbt,?_,hfr,fun h=>by omega⟩⟩
    · rw [k4]
      split
      · intro id h; simp at h
      · rw [h3]; intro id h; rw [List.getElem?_append_left h]
    · rcases k6 with k6 | ⟨l,k6⟩
      · rw [k6]; trivial
      · rw [k6,h3,k3]; exact (hs.1 l k6).2
    · rw [if_pos h0]
      rcases k6 with k6 | ⟨l,k6⟩
      · rw [k6]
        show A=_
        rw [h3]
        exact hs.2 k6
      · rw [k6,h3,k3]; exact (hs.1 l k6).1
  · rw [if_neg h0] at h3
    have h0':0 < s:=by omega
    have sty:=fun (t':Tr) (ht':t' ∈ FT) (hn':¬ In L t'.i)=>sty_at T hd h0' h1 h2 (h4 h0') ht' hn'
    rw [← h3] at sty
    have phs:∀ t' ∈ FT,¬ In L t'.i→∀ l,t'.eff = .push l→∀ k,k < l.length→Ph A ρ (t'.n + k)∧∃ o,A[t'.n + k]? = some (.live o):=by
      intro t' ht' hn' l he k hk
      obtain ⟨q',hq'⟩:=List.getElem?_of_mem ht'
      obtain ⟨g1,_,_,_,g5,g5s,_⟩:=T.fr q' t' hq'
      have hns:has std t'.i=false:=by
        cases hh:has std t'.i with
        | false=>rfl
        | true=>have:=g5s hh; rw [he] at this; cases this
      have hcs:has calm t'.i=true:=by
        have:=(h4 h0' t' ht').resolve_left hn'
        rw [has_spec,List.mem_append] at this
        rcases this with h | h
        · exact has_spec.2 h
        · rw [has_spec.2 h] at hns; cases hns
      have hal:isAl th t'.i t'.o=true:=(g5 hcs).resolve_left (fun e=>by rw [he] at e; cases e)
      obtain ⟨o,rfl,go⟩:=al_push g1 hal he
      have hk0:k=0:=by simpa using hk
      subst hk0
      have hl:=lives_get ((sty t' ht' hn').2 hns hcs _ he) 0 o rfl
      exact ⟨⟨o,hl,go.1,h5 h0' t' ht' hn' _ he 0 (by simp)⟩,o,hl⟩
    have stay:∀ (A2:Mem) (w':World) (ρ':Pm),Step w A2 ρ w' A ρ'→(∀ t' ∈ FT,t'.i≠t.i→¬ In L t'.i→∀ l,t'.eff = .push l→∀ k,k < l.length→Ph A2 ρ (t'.n + k))→MemOk calm std M0 FT BT (L.setIfInBounds t.i true) A ρ':=by
      intro A2 w' ρ' hst hph
      refine ⟨s,h1,hbt,by rw [if_neg h0]; exact h3,hfr,fun _ t' ht' hn' l he k hk=>?_⟩
      have hne:t'.i≠t.i:=fun e=>hn' ((hin _).2 (.inr e))
      have hn2:¬ In L t'.i:=fun e=>hn' ((hin _).2 (.inl e))
      obtain ⟨_,o,ho⟩:=phs t' ht' hn2 l he k hk
      rcases hst.ph _ (hph t' ht' hne hn2 l he k hk) with ⟨o',_,_,g3⟩ | g
      · exact g3
      · rw [ho] at g; cases g
    rcases k6 with k6 | ⟨l,k6⟩
    · have e1:effP A t.n t.eff=A:=by rw [k6]; rfl
      have fin:∀ w' ρ',Step w A ρ w' (effP A t.n t.eff) ρ'→MemOk calm std M0 FT BT (L.setIfInBounds t.i true) (effP A t.n t.eff) ρ':=by
        rw [e1]
        exact fun w' ρ' hst=>stay A w' ρ' hst (fun t' ht' _ hn' l he k hk=>(phs t' ht' hn' l he k hk).1)
      cases hstd:has std t.i with
      | true=>exact ⟨A,A,MExt.refl A,by rw [k6]; trivial,(sty t ht hn).1 hstd,Stp.refl _ _ _,hA,fun _ _ h=>h,fin⟩
      | false=>
        have hc:has calm t.i=true:=by
          have:=(h4 h0' t ht).resolve_left hn
          rw [has_spec,List.mem_append] at this
          rcases this with h | h
          · exact has_spec.2 h
          · rw [has_spec.2 h] at hstd; cases hstd
        rw [if_pos hc] at k4
        exact ⟨t.M,A,by rw [k4]; intro id h; simp at h,by rw [k6]; trivial,k1,Stp.refl _ _ _,hA,fun _ _ h=>h,fin⟩
    · have hns:has std t.i=false:=by
        cases hh:has std t.i with
        | false=>rfl
        | true=>have:=k5s hh; rw [k6] at this; cases this
      have hc:has calm t.i=true:=by
        have:=(h4 h0' t ht).resolve_left hn
        rw [has_spec,List.mem_append] at this
        rcases this with h | h
        · exact has_spec.2 h
        · rw [has_spec.2 h] at hns; cases hns
      rw [if_pos hc] at k4
      have hal:isAl th t.i t.o=true:=(k5 hc).resolve_left (fun e=>by rw [k6] at e; cases e)
      obtain ⟨o,rfl,go⟩:=al_push k1 hal k6
      obtain ⟨hp,_⟩:=phs t ht hn _ k6 0 (by simp)
      have hl:A[t.n]? = some (.live o):=lives_get ((sty t ht hn).2 hns hc _ k6) 0 o rfl
      have hlt2:=(List.getElem?_eq_some_iff.1 hl).1
      obtain ⟨d1,d2⟩:=dep_step hA hp
      have e1:effP (A.set t.n .pend) t.n t.eff=A:=by
        rw [k6]
        show (A.set t.n .pend).set t.n (.live o)=A
        rw [List.set_set]
        refine List.ext_getElem? (fun j=>?_)
        by_cases hj:j=t.n
        · subst hj; rw [List.getElem?_set_self hlt2,hl]
        · rw [List.getElem?_set_ne (Ne.symm hj)]
      have keepPh:∀ id,id≠t.n→Ph A ρ id→Ph (A.set t.n .pend) ρ id:=fun id hi ⟨o',g1,g2⟩=>⟨o',by rw [List.getElem?_set_ne (Ne.symm hi)]; exact g1,g2⟩
      refine ⟨t.M,A.set t.n .pend,by rw [k4]; intro id h; simp at h,?_,k1,d1,d2,fun id hi=>keepPh id (by rw [k3]; omega),?_⟩
      · rw [k6]
        intro k hk
        have:k=0:=by simpa using hk
        subst this
        rw [Nat.add_zero,List.getElem?_set_self hlt2]
      · rw [e1]
        exact fun w' ρ' hst=>stay _ w' ρ' hst (fun t' ht' hne hn' l he k hk=>keepPh _ (by
          have:=T.apart2 ht ht' hne k6 he (k:=0) (by simp) hk
          simpa using this) (phs t' ht' hn' l he k hk).1)
theorem mem_back {L:Array Bool} {w:World} {A:Mem} {ρ:Pm} (hd:∀ k o,ops[k]? = some o→In L k→∀ j ∈ edgesOf o,In L j) (hA:MR c.P.cellsOf B w A ρ) (hm:MemOk calm std M0 FT BT L A ρ) (hL:L.size=ops.size) {q:Nat} {t:Tr} (hq:BT[q]? = some t) (hn:¬ In L t.i) (hr:∀ j ∈ edgesOf t.o,In L j) (hpu:isPu t.o=false) :
    ∃ A1 ρ1,Step w A ρ w A1 ρ1∧MR c.P.cellsOf B w A1 ρ1∧t.M=A1∧t.n=A1.length∧∀ w' ρ',Step w A1 ρ1 w' (t.eff.on A1) ρ'→MemOk calm std M0 FT BT (L.setIfInBounds t.i true) (t.eff.on A1) ρ':=by
  obtain ⟨s,h1,h2,h3,h4,h5⟩:=hm
  obtain ⟨_,_,k3,k4⟩:=T.br q t hq
  have ht:=List.mem_of_getElem? hq
  have hlt:t.i < L.size:=by rw [hL]; exact (Array.getElem?_eq_some_iff.1 (T.back ht).1).1
  have hin:∀ k,In (L.setIfInBounds t.i true) k↔In L k∨k=t.i:=fun k=>in_set hlt
  have hd':∀ k o,ops[k]? = some o→In (L.setIfInBounds t.i true) k→∀ j ∈ edgesOf o,In (L.setIfInBounds t.i true) j:=by
    intro k o hk hi j hj
    rw [hin] at hi ⊢
    rcases hi with hi | hi
    · exact .inl (hd k o hk hi j hj)
    · subst hi
      rw [(T.back ht).1] at hk
      obtain rfl:=Option.some.inj hk
      exact .inl (hr j hj)
  have cl:∀ b:Tr,((masks [] ops.toList).getD t.i 0).testBit b.i=true→b.i≠t.i→In L b.i:=fun b hb hne=>by
    have:=clos (In:=In (L.setIfInBounds t.i true)) hd' t.i b.i ((hin _).2 (.inr rfl)) hb
    exact ((hin _).1 this).resolve_right hne
  have posB:∀ (q':Nat) t',BT[q']? = some t'→(FT++BT)[FT.length + q']? = some t':=fun q' t' h=>by
    rw [List.getElem?_append_right (by omega),Nat.add_sub_cancel_left]; exact h
  have hneF:∀ b ∈ FT,t.i≠b.i:=fun b hb e=>by
    have:=(T.front hb).2; rw [← e,(T.back ht).2] at this; cases this
  have hpure:∀ b ∈ FT,In L b.i∨has (calm++std) b.i=true:=by
    intro b hb
    rcases (T.suffix ht (List.mem_append_left _ hb) (hneF b hb) hpu).2 (T.front hb).2 with h | h
    · exact .inr h
    · exact .inl (cl b h (Ne.symm (hneF b hb)))
  have hge:s≤q:=by
    rcases Nat.lt_or_ge q s with h | h
    · exact absurd ((h2.1 q t hq hpu).2 h) hn
    · exact h
  have hmid:∀ k t',s≤k→k < q→BT[k]? = some t'→isPu t'.o=true:=by
    intro k t' hk1 hk2 hs'
    cases hp':isPu t'.o with
    | true=>rfl
    | false=>
      exfalso
      have hm':=List.mem_of_getElem? hs'
      have hlt2:=T.lt_of (posB k _ hs') (posB q t hq) (by omega)
      have hlt3:t'.i < t.i:=by
        rcases hlt2 with ⟨e1,e2⟩ | ⟨e1,e2⟩
        · rw [(T.back hm').2] at e1; cases e1
        · exact e2
      rcases (T.suffix ht (List.mem_append_right _ hm') (by omega) hpu).1 (T.back hm').2 hp' with h5 | h5
      · omega
      · have:=(h2.1 k _ hs' hp').1 (cl _ h5 (by omega))
        omega
  have hmem:=T.puM hge hmid (M0++(FT.flatMap obsOf).map .live)
  have good:∀ t' ∈ FT,¬ In L t'.i→∀ l,t'.eff = .push l→has std t'.i=false∧has calm t'.i=true∧∃ o,l=[o]∧Good c.P.cellsOf o:=by
    intro t' ht' hn' l he
    obtain ⟨q',hq'⟩:=List.getElem?_of_mem ht'
    obtain ⟨g1,_,_,_,g5,g5s,_⟩:=T.fr q' t' hq'
    have hns:has std t'.i=false:=by
      cases hh:has std t'.i with
      | false=>rfl
      | true=>have:=g5s hh; rw [he] at this; cases this
    have hcs:has calm t'.i=true:=by
      have:=(hpure t' ht').resolve_left hn'
      rw [has_spec,List.mem_append] at this
      rcases this with h | h
      · exact has_spec.2 h
      · rw [has_spec.2 h] at hns; cases hns
    exact ⟨hns,hcs,al_push g1 ((g5 hcs).resolve_left (fun e=>by rw [he] at e; cases e)) he⟩
  obtain ⟨A1,ρ1,p1,p2,p3,p4⟩:∃ A1 ρ1,Step w A ρ w A1 ρ1∧MR c.P.cellsOf B w A1 ρ1∧A1=memA (M0++(FT.flatMap obsOf).map .live) (BT.take q)∧∀ t' ∈ FT,¬ In L t'.i→∀ l,t'.eff = .push l→∀ k,k < l.length→Ph A1 ρ1 (t'.n + k):=by
    rw [hmem]
    by_cases h0:s=0
    · rw [if_pos h0] at h3
      have hA':=hA
      rw [h3] at hA'
      obtain ⟨ρ1,g1,g2,g3,g4⟩:=phan_all (fun i=>L.getD i false) FT M0 ρ hA' (fun t' ht' hf l he=>(good t' ht' (by unfold In; rw [hf]; simp) l he).2.2)
      refine ⟨_,ρ1,by rw [h3]; exact g1,g2,by rw [h0]; rfl,fun t' ht' hn' l he k hk=>?_⟩
      obtain ⟨_,_,o,rfl,go⟩:=good t' ht' hn' l he
      have hk0:k=0:=by simpa using hk
      subst hk0
      obtain ⟨q',hq'⟩:=List.getElem?_of_mem ht'
      obtain ⟨_,_,n3,_⟩:=T.fr q' t' hq'
      simp only [List.nil_append] at n3
      have hnone:=g4 q' t' hq' (Bool.eq_false_iff.2 hn') _ he 0 (by simp)
      refine ⟨o,?_,go.1,by rw [n3]; exact hnone⟩
      rw [Nat.add_zero,n3,List.getElem?_append_right (by omega),Nat.add_sub_cancel_left,List.getElem?_map]
      have:(FT.flatMap obsOf)[((FT.take q').flatMap obsOf).length]? = some o:=by
        have hl:=(List.getElem?_eq_some_iff.1 hq').1
        have hsp:FT=FT.take q'++t'::FT.drop (q' + 1):=by
          have:=(List.getElem?_eq_some_iff.1 hq').2
          rw [← this,← List.drop_eq_getElem_cons hl,List.take_append_drop]
        have:FT.flatMap obsOf=(FT.take q').flatMap obsOf++(obsOf t'++(FT.drop (q' + 1)).flatMap obsOf):=by
          conv=>lhs; rw [hsp]
          simp
        rw [this,List.getElem?_append_right (Nat.le_refl _),Nat.sub_self]
        simp [obsOf,he]
      rw [this]; rfl
    · rw [if_neg h0] at h3
      have h0':0 < s:=by omega
      refine ⟨A,ρ,Step.refl _ _ _,hA,h3,fun t' ht' hn' l he k hk=>?_⟩
      obtain ⟨g1,g2,o,rfl,go⟩:=good t' ht' hn' l he
      have hk0:k=0:=by simpa using hk
      subst hk0
      have hs:=sty_at T hd h0' h1 h2 (h4 h0') ht' hn'
      rw [← h3] at hs
      exact ⟨o,lives_get (hs.2 g1 g2 _ he) 0 o rfl,go.1,h5 h0' t' ht' hn' _ he 0 (by simp)⟩
  have e1:t.eff.on A1=memA (M0++(FT.flatMap obsOf).map .live) (BT.take (q + 1)):=by rw [memA_take hq,← p3]
  refine ⟨A1,ρ1,p1,p2,by rw [k3,p3],by rw [k4,k3,p3],fun w' ρ' hst=>⟨q + 1,(List.getElem?_eq_some_iff.1 hq).1,⟨fun q' t' hq' hp'=>?_,fun _=>⟨t,hq,hpu⟩⟩,?_,fun _ t' ht'=>(hpure t' ht').imp (fun h=>(hin _).2 (.inl h)) id,fun _ t' ht' hn' l he k hk=>?_⟩⟩
  · rw [hin,h2.1 q' t' hq' hp']
    constructor
    · rintro (h | h)
      · omega
      · have:=T.inj (posB q' t' hq') (posB q t hq) h
        omega
    · intro h
      rcases Nat.lt_or_ge q' q with h5 | h5
      · rcases Nat.lt_or_ge q' s with h6 | h6
        · exact .inl h6
        · have:=hmid q' t' h6 h5 hq'
          rw [hp'] at this; cases this
      · have:q'=q:=by omega
        subst this
        rw [hq] at hq'
        obtain rfl:=Option.some.inj hq'
        exact .inr rfl
  · rw [if_neg (by omega),e1]
  · have hn2:¬ In L t'.i:=fun e=>hn' ((hin _).2 (.inl e))
    obtain ⟨g1,g2,o,rfl,go⟩:=good t' ht' hn2 l he
    have hk0:k=0:=by simpa using hk
    subst hk0
    rcases T.sd q t hq t' ht' ((hpure t' ht').resolve_left hn2) with h | h
    · exact absurd (cl t' h (Ne.symm (hneF t' ht'))) hn2
    · rw [← e1] at h
      have hl:=lives_get (h.2 g1 g2 _ he) 0 o rfl
      rcases hst.ph _ (p4 t' ht' hn2 _ he 0 (by simp)) with ⟨o',_,_,g3⟩ | g
      · exact g3
      · rw [hl] at g; cases g
theorem mem_pu {L:Array Bool} {A:Mem} {ρ ρ':Pm} {w w':World} (hL:L.size=ops.size) (hm:MemOk calm std M0 FT BT L A ρ) {t:Tr} (ht:t ∈ BT) (hpu:isPu t.o=true) (hA:MR c.P.cellsOf B w A ρ)
    (hd:∀ k o,ops[k]? = some o→In L k→∀ j ∈ edgesOf o,In L j) (hst:Step w A ρ w' A ρ'):MemOk calm std M0 FT BT (L.setIfInBounds t.i true) A ρ':=by
  obtain ⟨s,h1,h2,h3,h4,h5⟩:=hm
  have hlt:t.i < L.size:=by rw [hL]; exact (Array.getElem?_eq_some_iff.1 (T.back ht).1).1
  have hin:∀ k,In (L.setIfInBounds t.i true) k↔In L k∨k=t.i:=fun k=>in_set hlt
  have hf:∀ t' ∈ FT,(In (L.setIfInBounds t.i true) t'.i↔In L t'.i):=by
    intro t' ht'
    rw [hin]
    refine ⟨fun h=>h.resolve_right (fun e=>?_),.inl⟩
    have k1:=(T.front ht').2
    rw [e,(T.back ht).2] at k1
    cases k1
  refine ⟨s,h1,⟨fun q' t' hq' hp'=>?_,h2.2⟩,?_,fun h0 t' ht'=>(h4 h0 t' ht').imp (hf t' ht').2 id,fun h0 t' ht' hn' l he k hk=>?_⟩
  · rw [hin,← h2.1 q' t' hq' hp']
    refine ⟨fun h=>h.resolve_right (fun e=>?_),.inl⟩
    have:=T.same (List.mem_append_right _ (List.mem_of_getElem? hq')) (List.mem_append_right _ ht) e
    rw [this,hpu] at hp'
    cases hp'
  · rw [h3]
    split
    · congr 1
      have:∀ l:List Tr,(∀ t' ∈ l,t' ∈ FT)→l.flatMap (seg fun i=>L.getD i false)=l.flatMap (seg fun i=>(L.setIfInBounds t.i true).getD i false):=by
        intro l hl
        induction l with
        | nil=>rfl
        | cons t' l ih=>
          simp only [List.flatMap_cons]
          rw [ih (fun x hx=>hl x (List.mem_cons_of_mem _ hx))]
          congr 1
          have:=hf t' (hl t' (by simp))
          unfold In at this
          unfold seg
          cases h5:L.getD t'.i false <;> cases h6:(L.setIfInBounds t.i true).getD t'.i false <;> simp_all
      exact this FT (fun _ h=>h)
    · rfl
  · have hn2:¬ In L t'.i:=fun e=>hn' ((hf t' ht').2 e)
    have hnone:=h5 h0 t' ht' hn2 l he k hk
    obtain ⟨q',hq'⟩:=List.getElem?_of_mem ht'
    obtain ⟨g1,_,_,_,g5,g5s,_⟩:=T.fr q' t' hq'
    have hns:has std t'.i=false:=by
      cases hh:has std t'.i with
      | false=>rfl
      | true=>have:=g5s hh; rw [he] at this; cases this
    have hcs:has calm t'.i=true:=by
      have:=(h4 h0 t' ht').resolve_left hn2
      rw [has_spec,List.mem_append] at this
      rcases this with h | h
      · exact has_spec.2 h
      · rw [has_spec.2 h] at hns; cases hns
    have hal:isAl th t'.i t'.o=true:=(g5 hcs).resolve_left (fun e=>by rw [he] at e; cases e)
    obtain ⟨o,rfl,go⟩:=al_push g1 hal he
    have hk0:k=0:=by simpa using hk
    subst hk0
    have sty:=sty_at T hd h0 h1 h2 (h4 h0) ht' hn2
    rw [if_neg (by omega)] at h3
    rw [← h3] at sty
    have hl:=lives_get (sty.2 hns hcs _ he) 0 o rfl
    rcases hst.ph _ ⟨o,hl,go.1,hnone⟩ with ⟨o',_,_,g3⟩ | g
    · exact g3
    · rw [hl] at g; cases g
theorem draw_step {L:Array Bool} {a:Act} {w:World} {ρ:Pm} {A:Mem} (I:Inv c calm std ops B nt M0 e0 FT BT w0 ρ0 L a w ρ A) {i:Nat} (hi:i ∈ Region.ready .any ops L) {K:Act→World→Prop} {Q:Exit→Act→World→Prop}
    (hK:∀ a' w' ρ' A',Inv c calm std ops B nt M0 e0 FT BT w0 ρ0 (L.setIfInBounds i true) a' w' ρ' A'→K a' w'):wpOp c.P ops Q i K a w:=by
  unfold Region.ready at hi
  obtain ⟨hr1,hr2⟩:=List.mem_filter.1 hi
  have hlt:i < ops.size:=List.mem_range.1 hr1
  have ho:ops[i]? = some ops[i]:=Array.getElem?_eq_getElem hlt
  simp only [ho,Option.map_some,Option.getD_some,Bool.and_eq_true,Bool.not_eq_true'] at hr2
  obtain ⟨t,ht,rfl,hto⟩:=T.all ho
  have hn:¬ In L t.i:=by
    unfold In
    have:=hr2.1
    rw [Array.getD_eq_getD_getElem?] at this ⊢
    rw [Array.getElem?_eq_getElem (by rw [I.size]; exact hlt)] at this ⊢
    simp only [Option.getD_some] at this ⊢
    rw [this]; simp
  have hr:∀ j ∈ edgesOf t.o,In L j:=by
    intro j hj
    unfold edgesOf at hj
    obtain ⟨e,he,rfl⟩:=List.mem_map.1 hj
    obtain ⟨he1,he2⟩:=List.mem_filter.1 he
    have:=(Array.all_eq_true_iff_forall_mem.1 hr2.2) e (by rw [← hto]; simpa using he1)
    rw [he2] at this
    simp only [Bool.not_true,Bool.false_or] at this
    exact this
  unfold wpOp
  rw [ho,← hto]
  simp only
  obtain ⟨q,hq⟩:=List.getElem?_of_mem ht
  have htr:=T.tr hq
  have hdep:=fun x hx=>dep_env T I hq hn hr (x:=x) hx
  have hs:∀ x,RV c.P.cellsOf B w A ρ (eget (prune (rds t.o) t.e) x) (a.tmps.getD x Go.undef):=by
    intro x
    rcases eget_prune (rds t.o) t.e x with e1 | e1
    · by_cases hu:eget (prune (rds t.o) t.e) x = .undef
      · rw [hu]; exact .undef _
      · rw [e1]; exact hdep x (List.mem_append_left _ (eget_prune_mem t.e hu))
    · rw [e1]; exact .undef _
  by_cases hf:q < FT.length
  · have hqf:FT[q]? = some t:=by rw [List.getElem?_append_left hf] at hq; exact hq
    obtain ⟨Mx,A2,m1,m2,m0,d1,d2,d3,m3⟩:=mem_front T I.down I.mr I.mem I.size hqf hn
    rcases guard_sound (c:=c) (fun x hx=>hdep x (List.mem_append_right _ hx)) m0 with ⟨g1,g2⟩ | ⟨g1,g2,g3⟩
    · rw [if_pos g1]
      exact .inl (op_sound T.hcall m1 d2 (fun x=>d1.rv (hs x)) g2 m2 K Q (fun u w' ρ' s1 s2 s3=>hK _ _ _ _ (Inv.next T I ht hr hn (d1.trans s1.stp) (fun id h1 h2=>s1.ph id (d3 id h1 h2)) s2 s3 (m3 w' ρ' s1))))
    · rw [if_neg (by rw [g1]; simp)]
      have g3':t.eff = .keep:=g3
      have e1:effP A2 t.n t.eff=A2:=by rw [g3']; rfl
      have m4:=m3 w ρ (by rw [e1]; exact Step.refl _ _ _)
      rw [e1] at m4
      exact hK _ _ _ _ (Inv.next T I ht hr hn d1 (fun id h1 h2=>.inl (d3 id h1 h2)) d2 (by rw [show t.y = .un from g2]; exact .un) m4)
  · have hqb:BT[q - FT.length]? = some t:=by rw [List.getElem?_append_right (by omega)] at hq; exact hq
    cases hpu:isPu t.o with
    | true=>
      obtain ⟨_,hp2⟩:=T.pu ht hpu
      have htb:=List.mem_of_getElem? hqb
      rcases guard_sound (c:=c) (fun x hx=>hdep x (List.mem_append_right _ hx)) (hp2 A.length A) with ⟨g1,g2⟩ | ⟨g1,g2,g3⟩
      · rw [if_pos g1]
        exact .inl (op_alone T.hcall I.mr hs g2 K Q (fun u w' ρ' s1 s2 s3=>hK _ _ _ _ (Inv.next T I ht hr hn s1.stp (fun id _ h2=>s1.ph id h2) s2 s3 (mem_pu T I.size I.mem htb hpu I.mr I.down s1))))
      · rw [if_neg (by rw [g1]; simp)]
        exact hK _ _ _ _ (Inv.next T I ht hr hn (Stp.refl _ _ _) (fun id _ h2=>.inl h2) I.mr (by rw [g2]; exact .un) (mem_pu T I.size I.mem htb hpu I.mr I.down (Step.refl _ _ _)))
    | false=>
    obtain ⟨A1,ρ1,d1,d2,m1,m2,m3⟩:=mem_back T I.down I.mr I.mem I.size hqb hn hr hpu
    unfold TrOk at htr
    rw [m1,m2] at htr
    rcases guard_sound (c:=c) (fun x hx=>hdep x (List.mem_append_right _ hx)) htr with ⟨g1,g2⟩ | ⟨g1,g2,g3⟩
    · rw [if_pos g1]
      exact .inl (op_alone T.hcall d2 (fun x=>d1.rv (hs x)) g2 K Q (fun u w' ρ' s1 s2 s3=>hK _ _ _ _ (Inv.next T I ht hr hn (d1.stp.trans s1.stp) (fun id _ h2=>(d1.trans s1).ph id h2) s2 s3 (m3 w' ρ' s1))))
    · rw [if_neg (by rw [g1]; simp)]
      have m4:=m3 w ρ1 (by rw [g3]; exact Step.refl _ _ _)
      rw [g3] at m4
      exact hK _ _ _ _ (Inv.next T I ht hr hn d1.stp (fun id _ h2=>d1.ph id h2) d2 (by rw [g2]; exact .un) m4)
theorem draw_end {L:Array Bool} {a:Act} {w:World} {ρ:Pm} {A:Mem} (I:Inv c calm std ops B nt M0 e0 FT BT w0 ρ0 L a w ρ A) (hr:Region.ready .any ops L=[]) :
    ∃ ρ',Step w0 M0 ρ0 w (memA (M0++(FT.flatMap obsOf).map .live) BT) ρ'∧SR c.P.cellsOf B nt a w (envA e0 (FT++BT)) (memA (M0++(FT.flatMap obsOf).map .live) BT) ρ':=by
  have hall:∀ i,i < ops.size→In L i:=by
    intro i
    induction i using Nat.strongRecOn with
    | _ i ih=>
      intro hi
      have ho:ops[i]? = some ops[i]:=Array.getElem?_eq_getElem hi
      cases hL:L.getD i false with
      | true=>exact hL
      | false=>
        exfalso
        have:i ∈ Region.ready .any ops L:=by
          unfold Region.ready
          refine List.mem_filter.2 ⟨List.mem_range.2 hi,?_⟩
          simp only [ho,Option.map_some,Option.getD_some,Bool.and_eq_true,Bool.not_eq_true']
          refine ⟨?_,Array.all_eq_true_iff_forall_mem.2 (fun e he=>?_)⟩
          · rw [Array.getD_eq_getD_getElem?,Array.getElem?_eq_getElem (by rw [I.size]; exact hi)] at hL ⊢
            exact hL
          · cases hb:Region.binds .any e with
            | false=>rfl
            | true=>
              have hk:=T.edge ho (k:=e.on) (List.mem_map.2 ⟨e,List.mem_filter.2 ⟨by simpa using he,hb⟩,rfl⟩)
              have:=ih e.on hk (by omega)
              simp only [Bool.not_true,Bool.false_or]
              exact this
        rw [hr] at this
        cases this
  have htr:∀ t ∈ FT++BT,In L t.i:=fun t ht=>hall t.i (Array.getElem?_eq_some_iff.1 (T.at_ ht)).1
  have hA:A=memA (M0++(FT.flatMap obsOf).map .live) BT:=by
    obtain ⟨s,h1,h2,h3,h4,h5⟩:=I.mem
    have hs:∀ k t,s≤k→k < BT.length→BT[k]? = some t→isPu t.o=true:=by
      intro k t hk1 _ hk
      cases hp:isPu t.o with
      | true=>rfl
      | false=>
        have:=(h2.1 k t hk hp).1 (htr _ (List.mem_append_right _ (List.mem_of_getElem? hk)))
        omega
    have hmem:=T.puM h1 hs (M0++(FT.flatMap obsOf).map .live)
    rw [List.take_length] at hmem
    rw [hmem]
    by_cases h0:s=0
    · rw [if_pos h0] at h3
      rw [h3,h0,segs_all (fun t' ht'=>.inl (htr t' (List.mem_append_left _ ht')))]
      rfl
    · rw [if_neg h0] at h3
      exact h3
  have hst:Step w0 M0 ρ0 w A ρ:=⟨I.step.os,I.step.tape,I.step.output,I.step.size,I.step.block,I.step.ref,I.step.held,I.step.hid,I.ph⟩
  refine ⟨ρ,by rw [← hA]; exact hst,by rw [← hA]; exact I.mr,fun x=>?_,I.nts,I.defers⟩
  rw [← hA]
  rcases envA_get x (FT++BT) e0 with ⟨t,h1,h2,h3⟩ | ⟨h1,h2⟩
  · rw [h3]; exact (I.env x).1 t h1 h2 (htr t h1)
  · rw [h2]; exact (I.env x).2 (fun t ht hd=>absurd hd (h1 t ht))
theorem draw_any {Q:Exit→Act→World→Prop} (hQ:∀ a w ρ',Step w0 M0 ρ0 w (memA (M0++(FT.flatMap obsOf).map .live) BT) ρ'→SR c.P.cellsOf B nt a w (envA e0 (FT++BT)) (memA (M0++(FT.flatMap obsOf).map .live) BT) ρ'→Q .normal a w) :
    ∀ (fuel:Nat) (L:Array Bool) (a:Act) (w:World) (ρ:Pm) (A:Mem),Inv c calm std ops B nt M0 e0 FT BT w0 ρ0 L a w ρ A→L.toList.count false≤fuel→wpAny c.P .any ops Q fuel L a w
  | 0,L,a,w,ρ,A,I,hc=>by
    have hr:Region.ready .any ops L=[]:=by
      unfold Region.ready
      refine List.filter_eq_nil_iff.2 (fun i hi=>?_)
      have hlt:i < L.size:=by rw [I.size]; exact List.mem_range.1 hi
      have h0:L.toList.count false=0:=by omega
      have hne:L[i]≠false:=fun e=>List.count_eq_zero.1 h0 (by rw [← e]; exact Array.mem_toList_iff.2 (Array.getElem_mem hlt))
      simp only [Array.getD_eq_getD_getElem?,Array.getElem?_eq_getElem hlt,Option.getD_some]
      cases hLi:L[i] with
      | true=>simp
      | false=>exact absurd hLi hne
    refine ⟨hr,?_⟩
    obtain ⟨ρ',h1,h2⟩:=draw_end T I hr
    exact hQ a w ρ' h1 h2
  | fuel + 1,L,a,w,ρ,A,I,hc=>by
    refine ⟨fun hr=>?_,fun i hi=>?_⟩
    · obtain ⟨ρ',h1,h2⟩:=draw_end T I hr
      exact hQ a w ρ' h1 h2
    · refine draw_step T I hi (fun a' w' ρ' A' I'=>draw_any hQ fuel _ a' w' ρ' A' I' ?_)
      unfold Region.ready at hi
      obtain ⟨hr1,hr2⟩:=List.mem_filter.1 hi
      have hlt:i < L.size:=by rw [I.size]; exact List.mem_range.1 hr1
      simp only [Bool.and_eq_true,Bool.not_eq_true'] at hr2
      have hLi:L[i]=false:=by
        have:=hr2.1
        rw [Array.getD_eq_getD_getElem?,Array.getElem?_eq_getElem hlt] at this
        simpa using this
      rw [Array.toList_setIfInBounds,List.count_set (by simpa using hlt)]
      have h5:L.toList.count false - 1≤fuel:=by omega
      simpa [hLi] using h5
end
end
end Go.Ab
