/- Calls: arguments told as trees, results told again, rows that the callee has made. -/
import Derived.Test.YtjlalepbhcekoaaAbOpsB
set_option linter.unusedVariables false
set_option linter.unusedSimpArgs false
namespace Go.Ab
open Go Go.RowKit
theorem RC.tree {S:TypeId→Nat} {V V':Nat→Option Obj} {B B':Nat} {R R':RefF} {x:AV} {v:Value} (h:RC S V B R x v) (hx:treeOk x=true) (hV:VLe V V'):RC S V' B' R' x v:=by
 induction h with
 | int k n=>exact .int k n
 | bool b=>exact .bool b
 | ub b=>exact .ub b
 | str s b h=>exact .str s b h
 | nils=>exact .nils
 | nilp=>exact .nilp
 | slN a c h=>exact .slN a c h
 | sle a c=>exact .sle a c
 | slB es b off c s f he hs hes hc h hcap htr ih=>exact .slB es b off c s f he hs hes (fun i j hi hj=>hV.cell (hc i j hi hj)) (fun i j e x h1 h2=>ih i j e x h1 h2 (htr e (List.mem_of_getElem? h1) x (List.mem_of_getElem? h2))) hcap htr
 | _=>simp [treeOk] at hx
theorem RC.treePt {S:TypeId→Nat} {V V':Nat→Option Obj} {B B':Nat} {R R':RefF} {cs:List AV} {v:Value} (h:RC S V B R (.pt none cs) v) (hV:VLe V V'):RC S V' B' R' (.pt none cs) v:=by
 cases h with
 | ptB cs b off f he hc h htr=>exact .ptB cs b off f he (fun j hj=>hV.cell (hc j hj)) (fun j x hj=>(h j x hj).tree (htr x (List.mem_of_getElem? hj)) hV) htr
theorem allTree_spec {es:List (List AV)} (h:allTree es=true):∀ e ∈ es,∀ x ∈ e,treeOk x=true:=fun e he x hx=>List.all_eq_true.1 (List.all_eq_true.1 h e he) x hx
section
variable {P:Program} {S:TypeId→Nat} {B B':Nat} {w w':World} {M A A':Mem} {ρ ρ':Pm} {V:Nat→Option Obj} {R':RefF}
theorem lie_to_sl {b off c s:Nat} {t:TypeId} {cells:Array Value} {es:List (List AV)} (g:AV→AV) (hL:Lie S (View w A ρ) B (Ref A ρ) (fun k=>cells[off + k]?) s es) (hVb:V b=some (.cells cells t (0,0)))
  (hg:∀ e ∈ es,∀ x ∈ e,∀ v,RV S B w A ρ x v→RC S V B' R' (g x) v) (ht:∀ e ∈ es.map (fun c=>c.map g),∀ x ∈ e,treeOk x=true) (hc:es.length≤c) :
  RC S V B' R' (.sl none (es.map fun c=>c.map g)) (.slice (some ⟨b,off,none⟩) es.length c):=by
 obtain ⟨h1,h2,f,h3,h4⟩:=hL
 by_cases he:es=[]
 ·subst he; exact .slN _ _ (fun h=>by cases h)
 ·have hr:=RC.slB (S:=S) (V:=V) (B:=B') (R:=R') (es.map fun c=>c.map g) b off c s f (by simpa using he) h1 (fun e he=>by
   obtain ⟨e0,h5,rfl⟩:=List.mem_map.1 he
   simpa using h2 e0 h5) (fun i j hi hj=>by simp only [cellV,hVb]; exact h3 i j (by simpa using hi) hj) (fun i j e x h5 h6=>by
   rw [List.getElem?_map] at h5
   obtain ⟨e0,h7,rfl⟩:=Option.map_eq_some_iff.1 h5
   rw [List.getElem?_map] at h6
   obtain ⟨x0,h8,rfl⟩:=Option.map_eq_some_iff.1 h6
   exact hg e0 (List.mem_of_getElem? h7) x0 (List.mem_of_getElem? h8) _ (h4 i j e0 x0 h7 h8)) (by simpa using hc) ht
  simpa using hr
theorem map_id2 (es:List (List AV)):(es.map fun c=>c.map id)=es:=by simp
theorem rCell_rc (hm:MExt M A) (hA:MR S B w A ρ) (hV1:VLe (View w A ρ) V):∀ (d:Nat) (x:AV) (v:Value),(notRow x=false→∀ b,Held A ρ b→V b=w.heap[b]?)→RV S B w A ρ x v→RC S V B' R' (rCell M d x) v
 | 0,x,v,_,_=>.undef v
 | d + 1,x,v,hV2,hx=>by
  cases x with
  | int k n=>cases hx; exact .int k n
  | bool b=>cases hx; exact .bool b
  | str s=>cases hx with | str s b h=>exact .str s b h
  | nils=>cases hx; exact .nils
  | nilp=>cases hx; exact .nilp
  | sl o es=>exact (strip_rc hx).tree rfl hV1
  | lit t es=>exact (strip_rc hx).tree rfl hV1
  | pt o cs=>exact (strip_rc hx).treePt hV1
  | lsl id L off n=>
   have hV2:=hV2 rfl
   simp only [rCell]
   cases hel:elems (.lsl id L off n) M with
   | none=>exact .undef v
   | some es=>
    simp only
    unfold elems at hel
    simp only at hel
    obtain ⟨o,ho,h⟩:=Option.bind_eq_some_iff.1 hel
    split at h
    rotate_left
    ·cases h
    rename_i hle
    have hes:=Option.some.inj h
    obtain ⟨g1,g2⟩:=getOb_some ho
    rcases lsl_inv hm hx ho with ⟨b,cap,hp,hn,rfl⟩ | ⟨_,h0,h1,h2,rfl⟩
    ·obtain ⟨cs,k1,k2,k3,k4,k5⟩:=obj_lie hA (hm.live g1) hp
     have hVb:V b=some (.cells cs o.t (0,0)):=by rw [hV2 b ⟨id,o,cap,hm.live g1,hp⟩]; exact k1
     have hlen:es.length=n:=by rw [← hes]; simp; omega
     have hsub:=k5.sub off n (by omega)
     rw [hes] at hsub
     split
     ·rename_i hat
      have:=lie_to_sl (V:=V) (B':=B') (R':=R') (c:=cap - off) _root_.id hsub hVb (fun e he x hx' v hv=>hv.tree (allTree_spec hat e he x hx') hV1) (by rw [map_id2]; exact allTree_spec hat) (by omega)
      rw [map_id2,hlen] at this
      exact this
     ·unfold treeSl
      split
      ·rename_i hat
       have:=lie_to_sl (V:=V) (B':=B') (R':=R') (c:=cap - off) (rCell M d) hsub hVb (fun e he x hx' v hv=>rCell_rc hm hA hV1 d x v (fun _=>hV2) hv) (allTree_spec hat) (by omega)
       rw [hlen] at this
       exact this
      ·exact .undef _
    ·have he:es=[]:=by rw [← hes,h2]; simp
     subst he
     exact .slN _ _ (fun _=>rfl)
  | _=>exact .undef v
theorem rArg1_rc (hm:MExt M A) (hA:MR S B w A ρ) (hV1:VLe (View w A ρ) V) {x:AV} {v:Value} (hV2:hasRef1 x=true→∀ b,Held A ρ b→V b=w.heap[b]?) (hx:RV S B w A ρ x v):RC S V B' R' (rArg1 M x) v:=by
 cases x with
 | nils=>cases hx; exact .slN _ _ (fun _=>rfl)
 | loc id L i j=>
  have hV2:=hV2 rfl
  simp only [rArg1]
  split
  ·rename_i cs hcs
   obtain ⟨o,ho,hcs⟩:=Option.bind_eq_some_iff.1 hcs
   obtain ⟨g1,g2⟩:=getOb_some ho
   obtain ⟨b,cap,hp,hi,rfl⟩:=loc_inv hm hx ho
   obtain ⟨cells,k1,k2,k3,k4,k5⟩:=obj_lie hA (hm.live g1) hp
   have hVb:V b=some (.cells cells o.t (0,0)):=by rw [hV2 b ⟨id,o,cap,hm.live g1,hp⟩]; exact k1
   obtain ⟨p1,p2,f,p3,p4⟩:=k5
   have hcl:=p2 cs (List.mem_of_getElem? hcs)
   have hio:i < o.es.length:=by omega
   have mk:∀ g:AV→AV,(∀ x ∈ cs.drop j,∀ v,RV S B w A ρ x v→RC S V B' R' (g x) v)→(∀ x ∈ (cs.drop j).map g,treeOk x=true)→j < cs.length→RC S V B' R' (.pt none ((cs.drop j).map g)) (.pointer (some ⟨b,i * o.s + j,none⟩)):=by
    intro g hg ht hj
    refine .ptB _ b (i * o.s + j) (fun k=>f i (j + k)) (by intro e; have:=congrArg List.length e; simp at this; omega) (fun k hk=>?_) (fun k x hk=>?_) ht
    ·simp at hk
     simp only [cellV,hVb]
     have:=p3 i (j + k) hio (by omega)
     rw [Nat.add_assoc]; simpa using this
    ·rw [List.getElem?_map,List.getElem?_drop] at hk
     obtain ⟨x0,h7,rfl⟩:=Option.map_eq_some_iff.1 hk
     exact hg x0 (List.mem_of_getElem? (List.getElem?_drop ▸ h7)) _ (p4 i (j + k) cs x0 hcs h7)
   split
   ·rename_i hat
    have:=mk _root_.id (fun x hx v hv=>hv.tree (List.all_eq_true.1 hat.1 x hx) hV1) (by simpa using hat.1) hat.2
    simpa using this
   ·unfold treePt
    split
    ·rename_i hat
     exact mk (rCell M 3) (fun x hx v hv=>rCell_rc hm hA hV1 3 x v (fun _=>hV2) hv) (List.all_eq_true.1 hat.1) (by have:=hat.2; simp at this; omega)
    ·exact .undef _
  ·exact .undef _
 | lsl id L off n=>exact rCell_rc hm hA hV1 4 _ v (fun _=>hV2 rfl) hx
 | _=>exact rCell_rc hm hA hV1 4 _ v (fun h=>by simp [notRow] at h) hx
theorem rArg_rc (hm:MExt M A) (hA:MR S B w A ρ) (hV1:VLe (View w A ρ) V) {x:AV} {v:Value} (hV2:hasRef x=true→∀ b,Held A ρ b→V b=w.heap[b]?) (hx:RV S B w A ρ x v):RC S V B' R' (rArg M x) v:=by
 have lst:∀ (cs:List AV) (vs:Array Value),(∀ c ∈ cs,hasRef1 c=true→∀ b,Held A ρ b→V b=w.heap[b]?)→(∀ (i:Nat) x v,cs[i]? = some x→vs[i]? = some v→RV S B w A ρ x v) →
   ∀ (i:Nat) x v,(cs.map (rArg1 M))[i]? = some x→vs[i]? = some v→RC S V B' R' x v:=by
  intro cs vs h1 h2 i x v h3 h4
  rw [List.getElem?_map] at h3
  obtain ⟨x0,h5,rfl⟩:=Option.map_eq_some_iff.1 h3
  exact rArg1_rc hm hA hV1 (h1 x0 (List.mem_of_getElem? h5)) (h2 i x0 v h5 h4)
 cases x with
 | agg cs=>cases hx with | agg _ vs hl h=>exact .agg _ vs (by simpa using hl) (lst cs vs (fun c hc hr=>hV2 (List.any_eq_true.2 ⟨c,hc,hr⟩)) h)
 | fn f cap=>cases hx with | fn _ _ vs hl h=>exact .fn f _ vs (by simpa using hl) (lst cap vs (fun c hc hr=>hV2 (List.any_eq_true.2 ⟨c,hc,hr⟩)) h)
 | _=>exact rArg1_rc hm hA hV1 (by exact fun h=>hV2 h) hx
end
end Go.Ab
