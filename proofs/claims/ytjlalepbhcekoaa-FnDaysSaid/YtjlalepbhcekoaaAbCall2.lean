/- Results of a call that may only read; rows it has made. -/
import Derived.Test.YtjlalepbhcekoaaAbCall
set_option linter.unusedVariables false
set_option linter.unusedSimpArgs false
namespace Go.Ab
open Go Go.RowKit
theorem flat_rc {S:TypeId→Nat} {V V':Nat→Option Obj} {B B':Nat} {R R':RefF} {x:AV} {v:Value} (h:flatC x=true) (hx:RC S V B R x v):RC S V' B' R' x v:=by
 cases hx <;> first | exact .int _ _ | exact .bool _ | exact .str _ _ (by assumption) | simp [flatC] at h
theorem flat_tree {x:AV} (h:flatC x=true):treeOk x=true:=by cases x <;> first | rfl | simp [flatC] at h
section
variable {P:Program} {S:TypeId→Nat} {B B':Nat} {w w':World} {M A A':Mem} {ρ ρ':Pm} {V:Nat→Option Obj} {R':RefF}
theorem Row.takeN {V:Nat→Option Obj} {B:Nat} {R:RefF} {s:Nat} {es:List (List AV)} {xs:List Value} (h:Row S V B R s es xs) (n:Nat):Row S V B R s (es.take n) (xs.take ((es.take n).length * s)):=by
 obtain ⟨h1,h2,h3⟩:=h
 have hl:(es.take n).length≤es.length:=by rw [List.length_take]; omega
 have hm:=Nat.mul_le_mul_right s hl
 refine ⟨by rw [List.length_take]; omega,fun e he=>h2 e (List.mem_of_mem_take he),fun i j e x v g1 g2 g3=>?_⟩
 rw [List.getElem?_take] at g1 g3
 split at g1
 ·split at g3
  ·exact h3 i j e x v g1 g2 g3
  ·cases g3
 ·cases g1
theorem nest_rc {x:AV} {v:Value} (hn:nOk x=true) (hV1:VLe (View w M ρ) V) (hBB:B≤B') (hV3:∀ b,B'≤b→V b=w.heap[b]?) (hv:RV S B' w M ρ x v):RC S V B R' x v:=by
 by_cases ht:treeOk x=true
 ·exact hv.tree ht hV1
 ·cases x with
  | sl q es=>
   cases q with
   | none=>exact absurd rfl ht
   | some t=>
    cases hv with
    | slON=>exact .slON t
    | slO t es b cap cs f hb hB hz hs hl hm' hes hc' h htr=>
     exact .slO t es b cap cs f (by rw [hV3 b hB]; exact (View.some hb).2) (Nat.le_trans hBB hB) hz hs hl hm' hes hc' (fun i j e x h1 h2=>(h i j e x h1 h2).tree (htr e (List.mem_of_getElem? h1) x (List.mem_of_getElem? h2)) hV1) htr
  | _=>exact absurd hn ht
theorem rRes1_rc (hA:MR S B' w M ρ) (hBB:B≤B') (hV3:∀ b,B'≤b→V b=w.heap[b]?) {x:AV} {v:Value} (hV1:VLe (View w M ρ) V∨own1 (rRes1 M x)=true) (hx:RV S B' w M ρ x v):RC S V B R' (rRes1 M x) v:=by
 have hm:=MExt.refl M
 have heldV:∀ b,Held M ρ b→V b=w.heap[b]? := fun b ⟨id,o,c,h1,h2⟩=>hV3 b (hA.lo.2 id o b c h1 h2)
 have cell:∀ (t:TypeId) (es:List (List AV)),VLe (View w M ρ) V∨own1 (.sl (some t) es)=true→∀ e ∈ es,∀ x ∈ e,treeOk x=true→∀ v,RV S B' w M ρ x v→RC S V B R' x v:=by
  intro t es h e he x hx ht v hv
  rcases h with h | h
  ·exact hv.tree ht h
  ·exact flat_rc (List.all_eq_true.1 (List.all_eq_true.1 h e he) x hx) hv
 cases x with
 | lsl id L off n=>
  simp only [rRes1] at hV1 ⊢
  split
  ·rename_i o ho
   obtain ⟨g1,g2⟩:=getOb_some ho
   split
   ·rename_i hc
    rw [ho] at hV1
    simp only [if_pos hc] at hV1
    obtain ⟨c1,c2,c3,c4⟩:=hc
    subst c2
    have c5:∀ e ∈ o.es.take n,∀ x ∈ e,treeOk x=true:=fun e he=>allTree_spec c4 e (List.mem_of_mem_take he)
    have hlen:(o.es.take n).length=n:=by rw [List.length_take]; omega
    rcases lsl_inv hm hx ho with ⟨b,cap,hp,hn,rfl⟩ | ⟨_,h0,_,h00,rfl⟩
    ·obtain ⟨cs,k1,k2,k3,k4,k5,k6,k7⟩:=obj_row hA g1 hp
     obtain ⟨a1,a2,a3,a4,a5⟩:=hA.obj id o g1
     rw [Nat.zero_mul,Nat.sub_zero]
     rw [a1] at k2 k5 k7
     have k8:=k7.takeN n
     rw [List.take_take,Nat.min_eq_left (Nat.mul_le_mul_right _ (by rw [hlen]; omega))] at k8
     have:=slO_of_row (S:=S) (V:=V) (B:=B) (R:=R') (t:=o.t) (es:=o.es.take n) (cap:=cap) (by rw [hV3 b k6]; exact k1) (Nat.le_trans hBB k6) k2 k5 (by omega) k4 ⟨k8.1,k8.2.1,fun i j e x v h1 h2 h3=>?_⟩ c5
     ·rw [hlen] at this
      exact this
     ·exact cell o.t (o.es.take n) hV1 e (List.mem_of_getElem? h1) x (List.mem_of_getElem? h2) (c5 e (List.mem_of_getElem? h1) x (List.mem_of_getElem? h2)) v (k8.2.2 i j e x v h1 h2 h3)
    ·have:o.es.take n=[]:=List.length_eq_zero_iff.1 (by omega)
     rw [this]
     exact .slON _
   ·rename_i hc
    rw [ho] at hV1
    simp only [if_neg hc] at hV1
    split
    ·rename_i hc2
     simp only [if_pos hc2] at hV1
     obtain ⟨c1,c2,c3,c4⟩:=hc2
     subst c2
     subst c3
     have hV1:VLe (View w M ρ) V:=hV1.resolve_right (by simp [own1])
     rcases lsl_inv hm hx ho with ⟨b,cap,hp,hn,rfl⟩ | ⟨_,h0,_,_,rfl⟩
     ·obtain ⟨cs,k1,k2,k3,k4,k5,k6,k7⟩:=obj_row hA g1 hp
      obtain ⟨a1,a2,a3,a4,a5⟩:=hA.obj id o g1
      rw [Nat.zero_mul,Nat.sub_zero,← g2]
      rw [a1] at k2 k5 k7
      refine .nslO o.t o.es b cap cs (fun i j=>(cs.toList.take (o.es.length * S o.t)).getD (i * S o.t + j) Go.undef) (by rw [hV3 b k6]; exact k1) (Nat.le_trans hBB k6) k2 k5 k3 k4 k7.2.1 (fun i j hi hj=>?_) (fun i j e x he hx'=>?_)
      ·have:=k7.cell hi hj
       have h3:=this
       rw [List.getElem?_take] at h3
       split at h3
       ·rw [← this,List.getElem?_take,if_pos (by assumption)]; simp
       ·cases h3
      ·have hi:=(List.getElem?_eq_some_iff.1 he).1
       have hj:=(List.getElem?_eq_some_iff.1 hx').1
       rw [k7.2.1 e (List.mem_of_getElem? he)] at hj
       have hv:=k7.2.2 i j e x _ he hx' (k7.cell hi hj)
       exact nest_rc (List.all_eq_true.1 (List.all_eq_true.1 c4 e (List.mem_of_getElem? he)) x (List.mem_of_getElem? hx')) hV1 hBB hV3 hv
     ·have:o.es=[]:=List.length_eq_zero_iff.1 (by omega)
      exact absurd ⟨c1,rfl,by omega,by rw [this]; rfl⟩ hc
    ·rename_i hc2
     simp only [if_neg hc2] at hV1
     rcases hV1 with hV1 | hV1
     ·exact rCell_rc hm hA hV1 4 _ v (fun _=>heldV) hx
     ·simp only [rCell] at hV1 ⊢
      split at hV1
      ·split at hV1
       ·simp [own1] at hV1
       ·unfold treeSl at hV1
        split at hV1 <;> simp [own1] at hV1
      ·simp [own1] at hV1
  ·exact .undef v
 | loc id L i j=>
  simp only [rRes1] at hV1 ⊢
  split
  ·rename_i o ho
   obtain ⟨g1,g2⟩:=getOb_some ho
   split
   ·rename_i cs hkn hes
    split
    ·rename_i hc
     rw [ho] at hV1
     simp only [hkn,hes,if_pos hc] at hV1
     obtain ⟨rfl,rfl,c3⟩:=hc
     obtain ⟨b,cap,hp,hi,rfl⟩:=loc_inv hm hx ho
     obtain ⟨cells,k1,k2,k3,k4,k5,k6,k7⟩:=obj_row hA g1 hp
     obtain ⟨a1,a2,a3,a4,a5⟩:=hA.obj id o g1
     rw [hp] at a5
     obtain ⟨_,_,_,_,_,_,q,_⟩:=a5
     obtain ⟨_,rfl⟩:=q hkn
     rw [Nat.one_mul,a1] at k2
     have hcl:cs.length=S o.t:=by rw [← a1]; exact a3 cs (by rw [hes]; simp)
     rw [a1] at k7 k5
     rw [hes] at k7
     simp only [List.length_singleton,Nat.one_mul] at k7
     have hz0:0 * S o.t + 0=0:=by omega
     rw [Nat.zero_mul,Nat.zero_add]
     refine .ptO o.t cs b cells (fun j=>(cells.toList.take (S o.t)).getD (0 * S o.t + j) Go.undef) (by rw [hV3 b k6]; exact k1) (Nat.le_trans hBB k6) k2 hcl k5 (fun j hj=>?_) (fun j x hj=>?_) (List.all_eq_true.1 c3)
     ·have:=k7.cell (i:=0) (j:=j) (by simp) (by omega)
      have h3:=this
      rw [List.getElem?_take] at h3
      split at h3
      ·rw [← this,List.getElem?_take,if_pos (by assumption)]; simp
      ·cases h3
     ·have hj':=(List.getElem?_eq_some_iff.1 hj).1
      have:=k7.2.2 0 j cs x _ rfl hj (k7.cell (i:=0) (j:=j) (by simp) (by omega))
      rcases hV1 with hV1 | hV1
      ·exact this.tree (List.all_eq_true.1 c3 x (List.mem_of_getElem? hj)) hV1
      ·exact flat_rc (List.all_eq_true.1 hV1 x (List.mem_of_getElem? hj)) this
    ·exact .undef _
   ·exact .undef _
  ·exact .undef _
 | sl q es=>
  cases q with
  | none=>
   rcases hV1 with hV1 | hV1
   ·exact hx.tree rfl hV1
   ·simp [rRes1,rCell,own1] at hV1
  | some t=>
   cases hx with
   | slON=>exact .slON t
   | slO t es b cap cs f hb hB hz hs hl hm' hes hc h htr=>
    exact .slO t es b cap cs f (by rw [hV3 b hB]; exact (View.some hb).2) (Nat.le_trans hBB hB) hz hs hl hm' hes hc (fun i j e x h1 h2=>cell t es hV1 e (List.mem_of_getElem? h1) x (List.mem_of_getElem? h2) (htr e (List.mem_of_getElem? h1) x (List.mem_of_getElem? h2)) _ (h i j e x h1 h2)) htr
 | lit t es=>
  cases hx with
  | lit t es b cs f hb hB hz hs hm' hes hc h htr=>
   exact .slO t es b es.length cs f (by rw [hV3 b hB]; exact (View.some hb).2) (Nat.le_trans hBB hB) hz hs (Nat.le_refl _) hm' hes hc (fun i j e x h1 h2=>cell t es hV1 e (List.mem_of_getElem? h1) x (List.mem_of_getElem? h2) (htr e (List.mem_of_getElem? h1) x (List.mem_of_getElem? h2)) _ (h i j e x h1 h2)) htr
 | pt q cs=>
  cases q with
  | none=>
   rcases hV1 with hV1 | hV1
   ·exact hx.treePt hV1
   ·simp [rRes1,rCell,own1] at hV1
  | some t=>
   cases hx with
   | ptO t cs b c f hb hB hz hl hs hc h htr=>
    refine .ptO t cs b c f (by rw [hV3 b hB]; exact (View.some hb).2) (Nat.le_trans hBB hB) hz hl hs hc (fun j x hj=>?_) htr
    rcases hV1 with hV1 | hV1
    ·exact (h j x hj).tree (htr x (List.mem_of_getElem? hj)) hV1
    ·exact flat_rc (List.all_eq_true.1 hV1 x (List.mem_of_getElem? hj)) (h j x hj)
 | int k n=>cases hx; exact .int k n
 | bool b=>cases hx; exact .bool b
 | str s=>cases hx with | str s b h=>exact .str s b h
 | nils=>cases hx; exact .nils
 | nilp=>cases hx; exact .nilp
 | _=>exact .undef v
theorem rCell_na (M:Mem) (d:Nat) (x:AV) (cs:List AV):rCell M d x≠.agg cs∧rCell M d x≠.tup cs:=by
 cases d with
 | zero=>simp [rCell]
 | succ d=>
  cases x <;> try (simp [rCell]; done)
  simp only [rCell]
  split
  ·split
   ·simp
   ·unfold treeSl; split <;> simp
  ·simp
theorem rRes1_na (M:Mem) (x:AV) (cs:List AV):rRes1 M x≠.agg cs∧rRes1 M x≠.tup cs:=by
 unfold rRes1
 split
 ·split
  ·split
   ·simp
   ·split
    ·simp
    ·exact rCell_na M 4 _ cs
  ·simp
 ·split
  ·split
   ·split <;> simp
   ·simp
  ·simp
 ·simp
 ·simp
 ·simp
 ·exact rCell_na M 4 _ cs
theorem own2_of {g:AV} (h:∀ cs,g≠.agg cs):own2 g=own1 g:=by
 unfold own2
 split
 ·rename_i cs; exact absurd rfl (h cs)
 ·rfl
theorem ownAll_of {g:AV} (h:∀ cs,g≠.tup cs):ownAll g=own2 g:=by
 unfold ownAll
 split
 ·rename_i cs; exact absurd rfl (h cs)
 ·rfl
theorem rRes2_rc (hA:MR S B' w M ρ) (hBB:B≤B') (hV3:∀ b,B'≤b→V b=w.heap[b]?) {x:AV} {v:Value} (hV1:VLe (View w M ρ) V∨own2 (rRes2 M x)=true) (hx:RV S B' w M ρ x v):RC S V B R' (rRes2 M x) v:=by
 by_cases hag:∃ cs,x = .agg cs
 ·obtain ⟨cs,rfl⟩:=hag
  cases hx with
  | agg _ vs hl h=>
   refine .agg _ vs (by simpa using hl) (fun i x v h3 h4=>?_)
   rw [List.getElem?_map] at h3
   obtain ⟨x0,h5,rfl⟩:=Option.map_eq_some_iff.1 h3
   exact rRes1_rc hA hBB hV3 (hV1.imp (fun h=>h) (fun h=>List.all_eq_true.1 h _ (List.mem_map.2 ⟨x0,List.mem_of_getElem? h5,rfl⟩))) (h i x0 v h5 h4)
 ·have e:rRes2 M x=rRes1 M x:=by
   unfold rRes2
   split
   ·rename_i cs; exact absurd ⟨cs,rfl⟩ hag
   ·rfl
  rw [e] at hV1 ⊢
  rw [own2_of (fun cs=>(rRes1_na M x cs).1)] at hV1
  exact rRes1_rc hA hBB hV3 hV1 hx
theorem rRes2_nt (M:Mem) (x:AV) (cs:List AV):rRes2 M x≠.tup cs:=by
 unfold rRes2
 split
 ·simp
 ·exact (rRes1_na M _ cs).2
theorem rRes_rc (hA:MR S B' w M ρ) (hBB:B≤B') (hV3:∀ b,B'≤b→V b=w.heap[b]?) {x:AV} {v:Value} (hV1:VLe (View w M ρ) V∨ownAll (rRes M x)=true) (hx:RV S B' w M ρ x v):RC S V B R' (rRes M x) v:=by
 by_cases hag:∃ cs,x = .tup cs
 ·obtain ⟨cs,rfl⟩:=hag
  cases hx with
  | tup _ vs hl h=>
   refine .tup _ vs (by simpa using hl) (fun i x v h3 h4=>?_)
   rw [List.getElem?_map] at h3
   obtain ⟨x0,h5,rfl⟩:=Option.map_eq_some_iff.1 h3
   exact rRes2_rc hA hBB hV3 (hV1.imp (fun h=>h) (fun h=>List.all_eq_true.1 h _ (List.mem_map.2 ⟨x0,List.mem_of_getElem? h5,rfl⟩))) (h i x0 v h5 h4)
 ·have e:rRes M x=rRes2 M x:=by
   unfold rRes
   split
   ·rename_i cs; exact absurd ⟨cs,rfl⟩ hag
   ·rfl
  rw [e] at hV1 ⊢
  rw [ownAll_of (fun cs=>rRes2_nt M x cs)] at hV1
  exact rRes2_rc hA hBB hV3 hV1 hx
def OwnAt (S:TypeId→Nat) (lo:Nat) (w:World) (ob:Ob) (p:Pl):Prop:=
 ob.s=S ob.t∧(∀ e ∈ ob.es,∀ x ∈ e,flatC x=true) ∧
 match p with
 | none=>ob.kn = .grow∧ob.es=[]
 | some (b,cap)=>lo≤b∧∃ cs:Array Value,w.heap[b]? = some (.cells cs ob.t (0,0))∧cs.size=cap * ob.s∧ob.es.length≤cap∧cap≤maxLen∧(ob.kn = .box→ob.es.length=1∧cap=1) ∧
   ∀ (V:Nat→Option Obj) (B:Nat) (R:RefF),Row S V B R ob.s ob.es (cs.toList.take (ob.es.length * ob.s))
def ThawOk (S:TypeId→Nat) (lo:Nat) (w:World) (V:Nat→Option Obj) (B:Nat) (n:Nat) (x:AV×List Ob) (u:Value):Prop:=
 ∃ pls:List Pl,pls.length=x.2.length∧(∀ (k:Nat) ob p,x.2[k]? = some ob→pls[k]? = some p→OwnAt S lo w ob p) ∧
  ∀ (V':Nat→Option Obj) (R:RefF),(∀ (k:Nat) ob p,x.2[k]? = some ob→pls[k]? = some p→R (n + k) ob.es.length=some (some (p,ob.s)))→RC S V' B R x.1 u
theorem flat_row {es:List (List AV)} {s:Nat} {xs:List Value} {V0:Nat→Option Obj} {B0:Nat} {R0:RefF} (hf:∀ e ∈ es,∀ x ∈ e,flatC x=true) (h:Row S V0 B0 R0 s es xs) (V:Nat→Option Obj) (B:Nat) (R:RefF):Row S V B R s es xs:=
 ⟨h.1,h.2.1,fun i j e x v h1 h2 h3=>flat_rc (hf e (List.mem_of_getElem? h1) x (List.mem_of_getElem? h2)) (h.2.2 i j e x v h1 h2 h3)⟩
theorem thaw1_ok {lo B0:Nat} (hVw:∀ b o,V b=some o→w.heap[b]? = some o) (n:Nat) {r:AV} {u:Value} (ho:own1 r=true) (hr:RC S V lo R' r u) (B:Nat):ThawOk S lo w V B n (thaw1 S n r) u:=by
 have imm:own1 r=true→(∀ t es,r≠.sl (some t) es)→(∀ t cs,r≠.pt (some t) cs)→ThawOk S lo w V B n (r,[]) u:=by
  intro _ h1 h2
  refine ⟨[],rfl,fun k ob p h=>by simp at h,fun V' R _=>?_⟩
  cases hr <;> first | exact .int _ _ | exact .bool _ | exact .str _ _ (by assumption) | exact .nils | exact .nilp | exact absurd rfl (h1 _ _) | exact absurd rfl (h2 _ _) | simp [own1] at ho
 cases r with
 | sl q es=>
  cases q with
  | none=>simp [own1] at ho
  | some t=>
   have hf:∀ e ∈ es,∀ x ∈ e,flatC x=true:=fun e he x hx=>List.all_eq_true.1 (List.all_eq_true.1 ho e he) x hx
   cases hr with
   | slON=>
    refine ⟨[none],rfl,fun k ob p h1 h2=>?_,fun V' R h=>?_⟩
    ·cases k with
     | zero=>simp [thaw1] at h1 h2; subst h1; subst h2; exact ⟨rfl,by simp,rfl,rfl⟩
     | succ k=>simp at h2
    ·exact .lslN n (S t) (h 0 _ none rfl rfl)
   | slO t es b cap cs f hb hB hz hs hl hm' hes hc h htr=>
    refine ⟨[some (b,cap)],rfl,fun k ob p h1 h2=>?_,fun V' R h'=>?_⟩
    ·cases k with
     | zero=>
      simp [thaw1] at h1 h2
      subst h1
      subst h2
      refine ⟨rfl,hf,hB,cs,hVw b _ hb,hz,hl,hm',by simp,fun V2 B2 R2=>?_⟩
      have hL:Lie S V lo R' (fun k=>cs.toList[k]?) (S t) es:=⟨hs,hes,f,fun i j hi hj=>by simpa using hc i j hi hj,h⟩
      exact flat_row hf (Row.of_lie hL) V2 B2 R2
     | succ k=>simp at h2
    ·have:=h' 0 _ (some (b,cap)) rfl rfl
     have h2:=RC.lslV (S:=S) (V:=V') (B:=B) n es.length 0 es.length b cap (S t) this (by omega)
     rw [Nat.zero_mul,Nat.sub_zero] at h2
     exact h2
 | pt q cs=>
  cases q with
  | none=>simp [own1] at ho
  | some t=>
   have hf:∀ x ∈ cs,flatC x=true:=List.all_eq_true.1 ho
   cases hr with
   | ptO t cs b c f hb hB hz hl hs hc h htr=>
    refine ⟨[some (b,1)],rfl,fun k ob p h1 h2=>?_,fun V' R h'=>?_⟩
    ·cases k with
     | zero=>
      simp [thaw1] at h1 h2
      subst h1
      subst h2
      refine ⟨rfl,by simpa using hf,hB,c,hVw b _ hb,by simpa using hz,by simp,maxLen_one,by simp,fun V2 B2 R2=>?_⟩
      have hL:Lie S V lo R' (fun k=>c.toList[k]?) (S t) [cs]:=⟨hs,by simpa using hl,fun _ j=>f j,fun i j hi hj=>by
       simp at hi
       subst hi
       simpa using hc j (by omega),fun i j e x h1 h2=>by
       cases i with
       | zero=>simp at h1; subst h1; exact h j x h2
       | succ i=>simp at h1⟩
      exact flat_row (by simpa using hf) (Row.of_lie hL) V2 B2 R2
     | succ k=>simp at h2
    ·have:=h' 0 _ (some (b,1)) rfl rfl
     have h2:=RC.locV (S:=S) (V:=V') (B:=B) n 1 0 0 b 1 (S t) this (by omega)
     show RC S V' B R (.loc n 1 0 0) _
     simpa using h2
 | int k m=>exact imm ho (by simp) (by simp)
 | bool b=>exact imm ho (by simp) (by simp)
 | str s=>exact imm ho (by simp) (by simp)
 | nils=>exact imm ho (by simp) (by simp)
 | nilp=>exact imm ho (by simp) (by simp)
 | _=>simp [own1] at ho
theorem thawL_ok {lo:Nat} (f:Nat→AV→AV×List Ob) (own:AV→Bool) (B:Nat) (hf:∀ n r u,own r=true→RC S V lo R' r u→ThawOk S lo w V B n (f n r) u) :
  ∀ (rs:List AV) (us:List Value) (n:Nat),rs.length=us.length→rs.all own=true→(∀ (i:Nat) x v,rs[i]? = some x→us[i]? = some v→RC S V lo R' x v) →
   ∃ pls:List Pl,pls.length=(thawL f n rs).2.length∧(∀ (k:Nat) ob p,(thawL f n rs).2[k]? = some ob→pls[k]? = some p→OwnAt S lo w ob p)∧(thawL f n rs).1.length=rs.length ∧
    ∀ (V':Nat→Option Obj) (R:RefF),(∀ (k:Nat) ob p,(thawL f n rs).2[k]? = some ob→pls[k]? = some p→R (n + k) ob.es.length=some (some (p,ob.s))) →
     ∀ (i:Nat) x v,(thawL f n rs).1[i]? = some x→us[i]? = some v→RC S V' B R x v
 | [],us,n,_,_,_=>⟨[],rfl,by simp [thawL],rfl,by simp [thawL]⟩
 | r::rs,[],n,hl,_,_=>by simp at hl
 | r::rs,u::us,n,hl,ho,h=>by
  simp only [List.all_cons,Bool.and_eq_true] at ho
  obtain ⟨p1,a1,a2,a3⟩:=hf n r u ho.1 (h 0 r u rfl rfl)
  obtain ⟨p2,b1,b2,b3,b4⟩:=thawL_ok f own B hf rs us (n + (f n r).2.length) (by simpa using hl) ho.2 (fun i x v h1 h2=>h (i + 1) x v (by simpa using h1) (by simpa using h2))
  have split2:∀ (k:Nat) ob p,((f n r).2++(thawL f (n + (f n r).2.length) rs).2)[k]? = some ob→(p1++p2)[k]? = some p →
    ((f n r).2[k]? = some ob∧p1[k]? = some p)∨∃ j,k=(f n r).2.length + j∧(thawL f (n + (f n r).2.length) rs).2[j]? = some ob∧p2[j]? = some p:=by
   intro k ob p h1 h2
   by_cases hk:k < (f n r).2.length
   ·rw [List.getElem?_append_left hk] at h1
    rw [List.getElem?_append_left (by omega)] at h2
    exact .inl ⟨h1,h2⟩
   ·rw [List.getElem?_append_right (by omega)] at h1
    rw [List.getElem?_append_right (by omega),a1] at h2
    exact .inr ⟨k - (f n r).2.length,by omega,h1,h2⟩
  refine ⟨p1++p2,by simp [thawL,a1,b1],fun k ob p h1 h2=>?_,by simp [thawL,b3],fun V' R hR i x v h1 h2=>?_⟩
  ·rcases split2 k ob p h1 h2 with ⟨h3,h4⟩ | ⟨j,rfl,h3,h4⟩
   ·exact a2 k ob p h3 h4
   ·exact b2 j ob p h3 h4
  ·cases i with
   | zero=>
    simp [thawL] at h1 h2
    subst h1
    subst h2
    refine a3 V' R (fun k ob p h3 h4=>hR k ob p ?_ ?_)
    ·show ((f n r).2++_)[k]? = _
     rw [List.getElem?_append_left (List.getElem?_eq_some_iff.1 h3).1]; exact h3
    ·rw [List.getElem?_append_left (List.getElem?_eq_some_iff.1 h4).1]; exact h4
   | succ i=>
    refine b4 V' R (fun k ob p h3 h4=>?_) i x v (by simpa [thawL] using h1) (by simpa using h2)
    rw [Nat.add_assoc]
    refine hR ((f n r).2.length + k) ob p ?_ ?_
    ·show ((f n r).2++_)[_]? = _
     rw [List.getElem?_append_right (by omega),Nat.add_sub_cancel_left]; exact h3
    ·rw [List.getElem?_append_right (by omega),← a1,Nat.add_sub_cancel_left]; exact h4
theorem thaw2_ok {lo:Nat} (hVw:∀ b o,V b=some o→w.heap[b]? = some o) (B:Nat) (n:Nat) {r:AV} {u:Value} (ho:own2 r=true) (hr:RC S V lo R' r u):ThawOk S lo w V B n (thaw2 S n r) u:=by
 by_cases hag:∃ cs,r = .agg cs
 ·obtain ⟨cs,rfl⟩:=hag
  cases hr with
  | agg _ vs hl h=>
   obtain ⟨pls,h1,h2,h3,h4⟩:=thawL_ok (w:=w) (thaw1 S) own1 B (fun n r u ho hr=>thaw1_ok (B0:=0) hVw n ho hr B) cs vs.toList n (by simpa using hl) ho (fun i x v h1 h2=>h i x v h1 (by simpa using h2))
   exact ⟨pls,h1,h2,fun V' R hR=>.agg _ vs (by rw [h3]; exact hl) (fun i x v h5 h6=>h4 V' R hR i x v h5 (by simpa using h6))⟩
 ·have e:thaw2 S n r=thaw1 S n r:=by
   unfold thaw2
   split
   ·rename_i cs; exact absurd ⟨cs,rfl⟩ hag
   ·rfl
  rw [e]
  rw [own2_of (fun cs h=>hag ⟨cs,h⟩)] at ho
  exact thaw1_ok (B0:=0) hVw n ho hr B
theorem thaw_ok {lo:Nat} (hVw:∀ b o,V b=some o→w.heap[b]? = some o) (B:Nat) (n:Nat) {r:AV} {u:Value} (ho:ownAll r=true) (hr:RC S V lo R' r u):ThawOk S lo w V B n (thaw S n r) u:=by
 by_cases hag:∃ cs,r = .tup cs
 ·obtain ⟨cs,rfl⟩:=hag
  cases hr with
  | tup _ vs hl h=>
   obtain ⟨pls,h1,h2,h3,h4⟩:=thawL_ok (w:=w) (thaw2 S) own2 B (fun n r u ho hr=>thaw2_ok hVw B n ho hr) cs vs.toList n (by simpa using hl) ho (fun i x v h1 h2=>h i x v h1 (by simpa using h2))
   exact ⟨pls,h1,h2,fun V' R hR=>.tup _ vs (by rw [h3]; exact hl) (fun i x v h5 h6=>h4 V' R hR i x v h5 (by simpa using h6))⟩
 ·have e:thaw S n r=thaw2 S n r:=by
   unfold thaw
   split
   ·rename_i cs; exact absurd ⟨cs,rfl⟩ hag
   ·rfl
  rw [e]
  rw [ownAll_of (fun cs h=>hag ⟨cs,h⟩)] at ho
  exact thaw2_ok hVw B n ho hr
end
end Go.Ab
