/- Nil slices in a new object become rows of the store with nothing in them. -/
import Derived.Test.YtjlalepbhcekoaaAbCall3
set_option linter.unusedVariables false
set_option linter.unusedSimpArgs false
namespace Go.Ab
open Go Go.RowKit
theorem ghRow_cons (S:TypeId→Nat) (n:Nat) (x:AV) (r:List AV) (ts:List Nat):ghRow S n (x::r) ts=(match x,ts with
  | .nils,(e + 1)::ts'=>(.lsl n 0 0 0::(ghRow S (n + 1) r ts').1,⟨.grow,e,S e,[]⟩::(ghRow S (n + 1) r ts').2)
  | y,ts'=>(y::(ghRow S n r ts'.tail).1,(ghRow S n r ts'.tail).2)):=rfl
theorem ghRow_spec (S:TypeId→Nat):∀ (e:List AV) (ts:List Nat) (n:Nat),(ghRow S n e ts).1.length=e.length ∧
  (∀ (j:Nat) x',(ghRow S n e ts).1[j]? = some x'→∃ x,e[j]? = some x∧(x'=x∨x = .nils∧∃ k,k < (ghRow S n e ts).2.length∧x' = .lsl (n + k) 0 0 0)) ∧
  ∀ ob ∈ (ghRow S n e ts).2,ob.kn = .grow∧ob.es=[]∧ob.s=S ob.t
 | [],ts,n=>⟨rfl,fun j x' h=>by simp [ghRow] at h,fun ob h=>by simp [ghRow] at h⟩
 | x::r,ts,n=>by
  have gen:(ghRow S n (x::r) ts=(x::(ghRow S n r ts.tail).1,(ghRow S n r ts.tail).2))∨∃ t ts',x = .nils∧ts=(t + 1)::ts'∧ghRow S n (x::r) ts=(.lsl n 0 0 0::(ghRow S (n + 1) r ts').1,⟨.grow,t,S t,[]⟩::(ghRow S (n + 1) r ts').2):=by
   rw [ghRow_cons]
   split
   ·exact .inr ⟨_,_,rfl,rfl,rfl⟩
   ·exact .inl rfl
  rcases gen with h | ⟨t,ts',rfl,rfl,h⟩
  ·obtain ⟨h1,h2,h3⟩:=ghRow_spec S r ts.tail n
   rw [h]
   refine ⟨by simp [h1],fun j x' hj=>?_,h3⟩
   cases j with
   | zero=>exact ⟨x,rfl,.inl (by simpa using hj.symm)⟩
   | succ j=>exact h2 j x' (by simpa using hj)
  ·obtain ⟨h1,h2,h3⟩:=ghRow_spec S r ts' (n + 1)
   rw [h]
   refine ⟨by simp [h1],fun j x' hj=>?_,fun ob hob=>?_⟩
   ·cases j with
    | zero=>exact ⟨.nils,rfl,.inr ⟨rfl,0,by simp,by simpa using hj.symm⟩⟩
    | succ j=>
     obtain ⟨y,g1,g2⟩:=h2 j x' (by simpa using hj)
     refine ⟨y,g1,?_⟩
     rcases g2 with g2 | ⟨g2,k,g3,g4⟩
     ·exact .inl g2
     ·exact .inr ⟨g2,k + 1,by simp; omega,by rw [g4,show n + 1 + k=n + (k + 1) by omega]⟩
   ·rcases List.mem_cons.1 hob with rfl | hob
    ·exact ⟨rfl,rfl,rfl⟩
    ·exact h3 ob hob
theorem ghRows_spec (S:TypeId→Nat) (ts:List Nat):∀ (es:List (List AV)) (n:Nat),(ghRows S ts n es).1.length=es.length ∧
  (∀ (i:Nat) e',(ghRows S ts n es).1[i]? = some e'→∃ e,es[i]? = some e∧e'.length=e.length∧∀ (j:Nat) x',e'[j]? = some x'→∃ x,e[j]? = some x∧(x'=x∨x = .nils∧∃ k,k < (ghRows S ts n es).2.length∧x' = .lsl (n + k) 0 0 0)) ∧
  ∀ ob ∈ (ghRows S ts n es).2,ob.kn = .grow∧ob.es=[]∧ob.s=S ob.t
 | [],n=>⟨rfl,fun i e' h=>by simp [ghRows] at h,fun ob h=>by simp [ghRows] at h⟩
 | e::r,n=>by
  obtain ⟨h1,h2,h3⟩:=ghRow_spec S e ts n
  obtain ⟨g1,g2,g3⟩:=ghRows_spec S ts r (n + (ghRow S n e ts).2.length)
  rw [ghRows]
  refine ⟨by simp [g1],fun i e' hi=>?_,fun ob hob=>?_⟩
  ·cases i with
   | zero=>
    obtain rfl:(ghRow S n e ts).1=e':=by simpa using hi
    refine ⟨e,rfl,h1,fun j x' hj=>?_⟩
    obtain ⟨x,k1,k2⟩:=h2 j x' hj
    refine ⟨x,k1,?_⟩
    rcases k2 with k2 | ⟨k2,k,k3,k4⟩
    ·exact .inl k2
    ·exact .inr ⟨k2,k,by simp; omega,k4⟩
   | succ i=>
    obtain ⟨e0,k1,k2,k3⟩:=g2 i e' (by simpa using hi)
    refine ⟨e0,k1,k2,fun j x' hj=>?_⟩
    obtain ⟨x,q1,q2⟩:=k3 j x' hj
    refine ⟨x,q1,?_⟩
    rcases q2 with q2 | ⟨q2,k,q3,q4⟩
    ·exact .inl q2
    ·exact .inr ⟨q2,(ghRow S n e ts).2.length + k,by simp; omega,by rw [q4,Nat.add_assoc]⟩
  ·rcases List.mem_append.1 hob with hob | hob
   ·exact h3 ob hob
   ·exact g3 ob hob
section
variable {P:Program} {S:TypeId→Nat} {B:Nat} {w:World} {M A A':Mem} {ρ ρ':Pm}
theorem ghost_mr (hA:MR S B w A ρ) (hhid:ρ'.hid=ρ.hid)
  (hid:∀ id,(A'[id]? = A[id]?∧ρ' id=ρ id) ∨
   (∃ o o',A[id]? = some (.live o)∧A'[id]? = some (.live o')∧ρ' id=ρ id∧o'.kn=o.kn∧o'.t=o.t∧o'.s=o.s∧o'.es.length=o.es.length ∧
    ∀ (i:Nat) e',o'.es[i]? = some e'→∃ e,o.es[i]? = some e∧e'.length=e.length∧∀ (j:Nat) x',e'[j]? = some x'→∃ x,e[j]? = some x∧(x'=x∨x = .nils∧∃ m s,x' = .lsl m 0 0 0∧Ref A' ρ' m 0=some (some (none,s)))) ∨
   ((A[id]? = some .pend∨A[id]? = none)∧ρ' id=none∧∃ ob,A'[id]? = some (.live ob)∧ob.kn = .grow∧ob.es=[]∧ob.s=S ob.t∧0 < ob.s)):Step w A ρ w A' ρ'∧MR S B w A' ρ':=by
 have hst:Step w A ρ w A' ρ':=by
  refine ⟨rfl,rfl,rfl,Nat.le_refl _,fun _ _ _=>rfl,fun id L=>?_,fun b hb hh=>?_,hhid,fun id ⟨o,g1,g2,g3⟩=>by
   rcases hid id with ⟨h1,h2⟩ | ⟨o0,o',k1,k2,k3,k4,_⟩ | ⟨h1 | h1,_⟩
   ·exact .inl ⟨o,by rw [h1]; exact g1,g2,by rw [h2]; exact g3⟩
   ·rw [g1] at k1
    cases k1
    exact .inl ⟨o',k2,by rw [k4]; exact g2,by rw [k3]; exact g3⟩
   ·rw [h1] at g1; cases g1
   ·rw [h1] at g1; cases g1⟩
  ·rcases hid id with ⟨h1,h2⟩ | ⟨o,o',h1,h2,h3,h4,h5,h6,h7,h8⟩ | ⟨h1,_⟩
   ·have:Ref A' ρ' id L=Ref A ρ id L:=by simp [Ref,h1,h2]
    rw [this]
    exact ⟨fun e=>e,fun x e=>.inr e⟩
   ·have:Ref A' ρ' id L=Ref A ρ id L:=by simp only [Ref,h1,h2,h3,h4,h6,h7]
    rw [this]
    exact ⟨fun e=>e,fun x e=>.inr e⟩
   ·have:Ref A ρ id L=none:=by rcases h1 with h1 | h1 <;> simp [Ref,h1]
    rw [this]
    exact ⟨fun e=>(by cases e),fun x e=>(by cases e)⟩
  ·obtain ⟨id,o,c,h1,h2⟩:=hh
   rcases hid id with ⟨h3,h4⟩ | ⟨o0,o',k1,k2,k3,_⟩ | ⟨h3,h4,_⟩
   ·exact ⟨id,o,c,by rw [← h3]; exact h1,by rw [← h4]; exact h2⟩
   ·exact ⟨id,o0,c,k1,by rw [← k3]; exact h2⟩
   ·rw [h4] at h2; cases h2
 have live:∀ id o b c,A'[id]? = some (.live o)→ρ' id=some (b,c)→∃ o0,A[id]? = some (.live o0)∧ρ id=some (b,c):=by
  intro id o b c h1 h2
  rcases hid id with ⟨h3,h4⟩ | ⟨o0,o',k1,k2,k3,_⟩ | ⟨h3,h4,_⟩
  ·exact ⟨o,by rw [← h3]; exact h1,by rw [← h4]; exact h2⟩
  ·exact ⟨o0,k1,by rw [← k3]; exact h2⟩
  ·rw [h4] at h2; cases h2
 refine ⟨hst,fun id o h=>?_,fun id id' o o' b c c' h1 h2 h3 h4=>?_,fun b hb=>hA.hid b (by rw [hhid] at hb; exact hb),⟨hA.lo.1,fun id o b c h1 h2=>?_⟩,hA.fx⟩
 ·rcases hid id with ⟨h1,h2⟩ | ⟨o0,o',k1,k2,k3,k4,k5,k6,k7,k8⟩ | ⟨h1,h2,ob,h3,h4,h5,h6,h7⟩
  ·obtain ⟨g1,g2,g3,g4,g5⟩:=hA.obj id o (by rw [← h1]; exact h)
   refine ⟨g1,g2,g3,g4,?_⟩
   rw [h2]
   cases hp:ρ id with
   | none=>rw [hp] at g5; exact g5
   | some p=>
    obtain ⟨b,cap⟩:=p
    rw [hp] at g5
    obtain ⟨cs,f,q1,q2,q3,q4,q5,q6,q7⟩:=g5
    exact ⟨cs,f,q1,q2,q3,q4,q5,q6,fun i j e x he hx=>hst.rv (q7 i j e x he hx)⟩
  ·rw [k2] at h
   cases h
   obtain ⟨g1,g2,g3,g4,g5⟩:=hA.obj id o0 k1
   refine ⟨by rw [k6,k5]; exact g1,by rw [k6]; exact g2,fun e' he=>?_,fun e' he x' hx=>?_,?_⟩
   ·obtain ⟨i,hi⟩:=List.getElem?_of_mem he
    obtain ⟨e,q1,q2,_⟩:=k8 i e' hi
    rw [q2,k6]
    exact g3 e (List.mem_of_getElem? q1)
   ·obtain ⟨i,hi⟩:=List.getElem?_of_mem he
    obtain ⟨e,q1,q2,q3⟩:=k8 i e' hi
    obtain ⟨j,hj⟩:=List.getElem?_of_mem hx
    obtain ⟨x,q4,q5⟩:=q3 j x' hj
    rcases q5 with rfl | ⟨_,m,s,rfl,_⟩
    ·exact g4 e (List.mem_of_getElem? q1) _ (List.mem_of_getElem? q4)
    ·rfl
   ·rw [k3]
    cases hp:ρ id with
    | none=>
     rw [hp] at g5
     exact fun hk=>List.length_eq_zero_iff.1 (by rw [k7,g5 (by rw [← k4]; exact hk)]; rfl)
    | some p=>
     obtain ⟨b,cap⟩:=p
     rw [hp] at g5
     obtain ⟨cs,f,q1,q2,q3,q4,q5,q6,q7⟩:=g5
     refine ⟨cs,f,by rw [k5]; exact q1,by rw [k6]; exact q2,by rw [k7]; exact q3,q4,fun hb=>⟨by rw [k7]; exact (q5 (by rw [← k4]; exact hb)).1,(q5 (by rw [← k4]; exact hb)).2⟩,fun i j hi hj=>by rw [k6] at hj ⊢; exact q6 i j (by rw [← k7]; exact hi) hj,fun i j e' x' he hx=>?_⟩
     obtain ⟨e,r1,r2,r3⟩:=k8 i e' he
     obtain ⟨x,r4,r5⟩:=r3 j x' hx
     have:=q7 i j e x r1 r4
     rcases r5 with rfl | ⟨rfl,m,s,rfl,hr⟩
     ·exact hst.rv this
     ·generalize f i j=v at this
      cases this
      exact .lslN m s hr
  ·rw [h3] at h
   cases h
   refine ⟨h6,h7,?_,?_,?_⟩
   ·intro e he; rw [h5] at he; cases he
   ·intro e he; rw [h5] at he; cases he
   ·rw [h2]; exact fun _=>h5
 ·obtain ⟨o0,q1,q2⟩:=live id o b c h1 h3
  obtain ⟨o1,q3,q4⟩:=live id' o' b c' h2 h4
  exact hA.inj id id' o0 o1 b c c' q1 q3 q2 q4
 ·obtain ⟨o0,q1,q2⟩:=live id o b c h1 h2
  exact hA.lo.2 id o0 b c q1 q2
theorem gho_ok {th:Bool} {n:Nat} {x:Option (AV×Eff)} {y:AV} {eff:Eff} {r:Result Value} (h:gho P th n x=some (y,eff)) (hr:Rdy M A n eff)
  (hx:∀ y eff,x=some (y,eff)→Rdy M A n eff→Done P.cellsOf B w A ρ r (effP A n eff) y):Done P.cellsOf B w A ρ r (effP A n eff) y:=by
 unfold gho at h
 split at h
 rotate_left
 ·exact hx y eff h hr
 obtain ⟨⟨v,e0⟩,h0,h⟩:=Option.bind_eq_some_iff.1 h
 unfold ghE at h
 split at h
 rotate_left
 ·cases h
 rename_i v' o heq
 injection heq with e1 e2
 subst e1 e2
 split at h
 rotate_left
 ·cases h
 rename_i hpos
 injection h with h
 injection h with e1 e2
 subst e1 e2
 obtain ⟨s1,s2,s3⟩:=ghRows_spec P.cellsOf (nilTys P 6 o.t) o.es (n + 1)
 revert hpos s1 s2 s3 hr
 generalize ghRows P.cellsOf (nilTys P 6 o.t) (n + 1) o.es=q
 obtain ⟨es',gs⟩:=q
 intro hpos hr s1 s2 s3
 simp only at hpos s1 s2 s3 ⊢
 have hr':∀ k,k < gs.length + 1→A[n + k]? = some .pend:=fun k hk=>hr k (by simpa using hk)
 have hlen:n + (gs.length + 1)≤A.length:=by
  have:=(List.getElem?_eq_some_iff.1 (hr' gs.length (by omega))).1
  omega
 obtain ⟨u,w',ρ1,d1,d2,d3,d4⟩:=hx v (.push [o]) h0 (fun k hk=>hr' k (by simp at hk; omega))
 have a1:effP A n (.push [o])=A.set n (.live o):=rfl
 rw [a1] at d2 d3 d4
 have hn:n < A.length:=by omega
 have a2:∀ i,(effP A n (.push (⟨o.kn,o.t,o.s,es'⟩::gs)))[i]? = if n≤i∧i < n + (gs.length + 1) then ((((⟨o.kn,o.t,o.s,es'⟩:Ob)::gs)[i - n]?).map Ent.live) else A[i]? := fun i=>fillP_get (⟨o.kn,o.t,o.s,es'⟩::gs) A n i (by simpa using hlen)
 generalize effP A n (.push (⟨o.kn,o.t,o.s,es'⟩::gs))=A2 at a2
 let ρ2:Pm:=⟨fun i=>if n + 1≤i∧i < n + 1 + gs.length then none else ρ1 i,ρ1.hid⟩
 have gref:∀ k,k < gs.length→∃ s,Ref A2 ρ2 (n + 1 + k) 0=some (some (none,s)):=by
  intro k hk
  have hg:=a2 (n + 1 + k)
  rw [if_pos (by omega),show n + 1 + k - n=k + 1 by omega,List.getElem?_cons_succ,List.getElem?_eq_getElem hk] at hg
  simp only [Option.map_some] at hg
  obtain ⟨t1,t2,t3⟩:=s3 gs[k] (List.getElem_mem hk)
  refine ⟨gs[k].s,?_⟩
  have hr2:ρ2 (n + 1 + k)=none:=if_pos (by omega)
  simp [Ref,hg,t1,t2,hr2]
 obtain ⟨g1,g2⟩:=ghost_mr (A':=A2) (ρ':=ρ2) d3 rfl (fun id=>by
  by_cases hi:id=n
  ·subst hi
   refine .inr (.inl ⟨o,⟨o.kn,o.t,o.s,es'⟩,by simp [hn],?_,if_neg (by omega),rfl,rfl,rfl,s1,fun i e' he=>?_⟩)
   ·rw [a2 id,if_pos (by omega)]; simp
   ·obtain ⟨e,q1,q2,q3⟩:=s2 i e' he
    refine ⟨e,q1,q2,fun j x' hj=>?_⟩
    obtain ⟨z,r1,r2⟩:=q3 j x' hj
    refine ⟨z,r1,?_⟩
    rcases r2 with r2 | ⟨r2,k,r3,r4⟩
    ·exact .inl r2
    ·obtain ⟨s,hs⟩:=gref k r3
     exact .inr ⟨r2,id + 1 + k,s,r4,hs⟩
  ·by_cases hg:n + 1≤id∧id < n + 1 + gs.length
   ·refine .inr (.inr ⟨.inl ?_,if_pos hg,?_⟩)
    ·rw [List.getElem?_set_ne (Ne.symm hi)]
     have:=hr' (id - n) (by omega)
     rwa [show n + (id - n)=id by omega] at this
    ·have hk:id - (n + 1) < gs.length:=by omega
     have ha:=a2 id
     rw [if_pos (by omega),show id - n=(id - (n + 1)) + 1 by omega,List.getElem?_cons_succ,List.getElem?_eq_getElem hk] at ha
     obtain ⟨t1,t2,t3⟩:=s3 _ (List.getElem_mem hk)
     exact ⟨_,ha,t1,t2,t3,by simpa using List.all_eq_true.1 hpos _ (List.getElem_mem hk)⟩
   ·refine .inl ⟨?_,if_neg hg⟩
    rw [a2 id,if_neg (by omega),List.getElem?_set_ne (Ne.symm hi)])
 exact ⟨u,w',ρ2,d1,d2.trans g1,g2,g1.rv d4⟩
theorem storeG_rc (hA:MR P.cellsOf B w M ρ) {t:TypeId} (hk:okT P t=true) {kp:Bool} {ts:List Nat} {x v:AV} {M':Mem} {vx vv:Value} (h:aStoreG P.cellsOf ts kp (P.cellsOf t) x v M=some M') (hx:RV P.cellsOf B w M ρ x vx) (hv:RV P.cellsOf B w M ρ v vv) :
  ∃ ρ1,Step w M ρ w (M++(match v with | .agg cs=>(ghRow P.cellsOf M.length cs ts).2 | _=>[]).map .live) ρ1∧MR P.cellsOf B w (M++(match v with | .agg cs=>(ghRow P.cellsOf M.length cs ts).2 | _=>[]).map .live) ρ1 ∧
   ∃ v',aStore kp (P.cellsOf t) x v' (M++(match v with | .agg cs=>(ghRow P.cellsOf M.length cs ts).2 | _=>[]).map .live)=some M'∧RV P.cellsOf B w (M++(match v with | .agg cs=>(ghRow P.cellsOf M.length cs ts).2 | _=>[]).map .live) ρ1 v' vv:=by
 unfold aStoreG at h
 cases v <;> simp only at h <;> try (cases h; done)
 rename_i cs
 simp only
 split at h
 rotate_left
 ·cases h
 rename_i hpos
 obtain ⟨s1,s2,s3⟩:=ghRow_spec P.cellsOf cs ts M.length
 revert h hpos s1 s2 s3
 generalize ghRow P.cellsOf M.length cs ts=q
 obtain ⟨cs',gs⟩:=q
 intro hpos h s1 s2 s3
 simp only at hpos h s1 s2 s3 ⊢
 let ρ2:Pm:=⟨fun i=>if M.length≤i∧i < M.length + gs.length then none else ρ i,ρ.hid⟩
 have old:∀ id,id < M.length→(M++gs.map Ent.live)[id]? = M[id]? := fun id hi=>List.getElem?_append_left hi
 have new:∀ k,k < gs.length→(M++gs.map Ent.live)[M.length + k]? = (gs[k]?).map .live:=fun k hk=>by rw [List.getElem?_append_right (by omega),Nat.add_sub_cancel_left,List.getElem?_map]
 have gref:∀ k,k < gs.length→∃ s,Ref (M++gs.map Ent.live) ρ2 (M.length + k) 0=some (some (none,s)):=by
  intro k hk
  have hg:=new k hk
  rw [List.getElem?_eq_getElem hk] at hg
  simp only [Option.map_some] at hg
  obtain ⟨t1,t2,t3⟩:=s3 gs[k] (List.getElem_mem hk)
  have hr2:ρ2 (M.length + k)=none:=if_pos (by omega)
  exact ⟨gs[k].s,by simp [Ref,hg,t1,t2,hr2]⟩
 obtain ⟨g1,g2⟩:=ghost_mr (A':=M++gs.map Ent.live) (ρ':=ρ2) hA rfl (fun id=>by
  by_cases hi:id < M.length
  ·exact .inl ⟨old id hi,if_neg (by omega)⟩
  ·by_cases hg:id < M.length + gs.length
   ·have hk:id - M.length < gs.length:=by omega
    have ha:=new (id - M.length) hk
    rw [show M.length + (id - M.length)=id by omega,List.getElem?_eq_getElem hk] at ha
    obtain ⟨t1,t2,t3⟩:=s3 _ (List.getElem_mem hk)
    exact .inr (.inr ⟨.inr (List.getElem?_eq_none (by omega)),if_pos (by omega),_,ha,t1,t2,t3,by simpa using List.all_eq_true.1 hpos _ (List.getElem_mem hk)⟩)
   ·have e1:M[id]? = none:=List.getElem?_eq_none (by omega)
    have e2:(M++gs.map Ent.live)[id]? = none:=List.getElem?_eq_none (by simp; omega)
    exact .inl ⟨by rw [e1,e2],if_neg (by omega)⟩)
 refine ⟨ρ2,g1,g2,.agg cs',h,?_⟩
 have hv':=g1.rv hv
 cases hv' with
 | agg _ vs hl hh=>
  refine .agg _ _ (by rw [s1]; exact hl) fun i x' u hx' hu=>?_
  obtain ⟨y,q1,q2⟩:=s2 i x' hx'
  have hy:=hh i y u q1 hu
  rcases q2 with rfl | ⟨rfl,k,q3,rfl⟩
  ·exact hy
  ·obtain ⟨s,hs⟩:=gref k q3
   cases hy
   exact .lslN _ s hs
end
end Go.Ab
