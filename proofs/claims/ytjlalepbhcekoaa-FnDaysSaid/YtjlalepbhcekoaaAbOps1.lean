/- The operations that look at no memory, and loads: what the machine does is what the evaluator says. -/
import Derived.Test.YtjlalepbhcekoaaAbRel
import Derived.Deep.MidRow
import Derived.Laws.Cells
import Derived.Laws.Append
set_option linter.unusedVariables false
set_option linter.unusedSimpArgs false
namespace Go.Ab
open Go Go.RowKit
section
variable {P:Program} {S:TypeId→Nat} {V:Nat→Option Obj} {B:Nat} {R:RefF}
theorem okT_spec {t:TypeId} (h:okT P t=true):∃ d i,P.underlying t=some d∧P.info? t=some i∧P.cellsOf t=i.size∧0 < i.size:=by
 unfold okT at h
 simp only [Bool.and_eq_true,decide_eq_true_eq] at h
 obtain ⟨h1,h2⟩:=h
 obtain ⟨d,hd⟩:=Option.isSome_iff_exists.1 h1
 cases hi:P.info? t with
 | none=>simp [Program.cellsOf,hi] at h2
 | some i=>exact ⟨d,i,hd,rfl,by simp [Program.cellsOf,hi],by simpa [Program.cellsOf,hi] using h2⟩
theorem run_isAgg {t:TypeId} {d:TypeDesc} (h:P.underlying t=some d) (w:World):(isAgg t).run P w = .ok (Program.cellsAgg P t) w:=by
 unfold isAgg Program.cellsAgg
 rw [Sem.run_bind,run_underlying h w,h]
 cases d <;> simp [Result.andThen]
theorem run_sizeOf {t:TypeId} {i:TypeInfo} (h:P.info? t=some i) (w:World):(sizeOf t).run P w = .ok i.size w:=by
 simp [sizeOf,typeInfo,h]
theorem cval_rc (v:Value):RC S V B R (cval v) v:=by
 unfold cval
 split
 ·exact .int _ _
 ·exact .bool _
 ·exact .str _ _ rfl
 ·exact .nils
 ·exact .nilp
 ·exact .undef _
theorem oval_rc {e:Env} {a:Act} (hs:∀ t,RC S V B R (eget e t) (a.tmps.getD t Go.undef)) (x:Operand):RC S V B R (oval e x) (a.eval x):=by
 cases x with
 | tmp t=>exact hs t
 | const v=>exact cval_rc v
 | func f=>exact .fn f [] #[] rfl (by intro i x v h; simp at h)
 | global g=>exact .undef _
theorem list_mid {α:Type} {l:List α} {off sz j:Nat} {x:α} (h:((l.drop off).take sz)[j]? = some x):l[off + j]? = some x:=by
 rw [List.getElem?_take] at h
 split at h
 ·rwa [List.getElem?_drop] at h
 ·cases h
def MExt (M A:Mem):Prop:=∀ id,id < M.length→A[id]? = M[id]?
theorem MExt.refl (M:Mem):MExt M M:=fun _ _=>rfl
theorem getOb_some {M:Mem} {id L:Nat} {o:Ob} (h:getOb M id L=some o):M[id]? = some (.live o)∧o.es.length=L:=by
 unfold getOb at h
 split at h
 ·rename_i q hq
  split at h
  ·rename_i hl
   obtain rfl:=Option.some.inj h
   exact ⟨hq,hl⟩
  ·cases h
 ·cases h
theorem MExt.live {M A:Mem} (h:MExt M A) {id:Nat} {o:Ob} (e:M[id]? = some (.live o)):A[id]? = some (.live o):=by
 rw [h id (List.getElem?_eq_some_iff.1 e).1]; exact e
theorem ref_live {M A:Mem} (h:MExt M A) {ρ:Pm} {id L:Nat} {o:Ob} {x:Option (Pl×Nat)} (e:getOb M id L=some o) (hn:Ref A ρ id L=some x):Ref A ρ id L=some (some (ρ id,o.s)):=by
 obtain ⟨h1,h2⟩:=getOb_some e
 simp only [Ref,h.live h1,h2,if_true] at hn ⊢
 split at hn
 ·cases hn
 ·rename_i hc; rw [if_neg hc]
theorem ref_some {M A:Mem} (h:MExt M A) {ρ:Pm} {id L:Nat} {o:Ob} {p:Nat×Nat} (e:getOb M id L=some o) (hp:ρ id=some p):Ref A ρ id L=some (some (some p,o.s)):=by
 obtain ⟨h1,h2⟩:=getOb_some e
 simp [Ref,h.live h1,h2,hp]
theorem okRef_spec {M:Mem} {id L:Nat} (h:okRef M id L=true):∃ o,getOb M id L=some o:=Option.isSome_iff_exists.1 h
section
variable {S:TypeId→Nat} {B:Nat} {w:World} {M A:Mem} {ρ:Pm}
theorem loc_inv (hm:MExt M A) {id L i j:Nat} {v:Value} {o:Ob} (h:RV S B w A ρ (.loc id L i j) v) (ho:getOb M id L=some o) :
  ∃ b cap,ρ id=some (b,cap)∧i < L∧v = .pointer (some ⟨b,i * o.s + j,none⟩):=by
 cases h with
 | locS _ _ _ _ _ hR=>rw [ref_live hm (ρ:=ρ) ho hR] at hR; cases hR
 | locV _ _ _ _ b cap s hR hi=>
  rw [ref_live hm (ρ:=ρ) ho hR] at hR
  injection hR with hR
  injection hR with hR
  injection hR with h1 h2
  subst h2
  exact ⟨b,cap,h1,hi,rfl⟩
theorem lsl_inv (hm:MExt M A) {id L off n:Nat} {v:Value} {o:Ob} (h:RV S B w A ρ (.lsl id L off n) v) (ho:getOb M id L=some o) :
  (∃ b cap,ρ id=some (b,cap)∧off + n≤L∧v = .slice (some ⟨b,off * o.s,none⟩) n (cap - off))∨(ρ id=none∧L=0∧off=0∧n=0∧v = .slice none 0 0):=by
 cases h with
 | lslS _ _ _ _ _ hR=>rw [ref_live hm (ρ:=ρ) ho hR] at hR; cases hR
 | lslV _ _ _ _ b cap s hR hn=>
  rw [ref_live hm (ρ:=ρ) ho hR] at hR
  injection hR with hR
  injection hR with hR
  injection hR with h1 h2
  subst h2
  exact .inl ⟨b,cap,h1,hn,rfl⟩
 | lslN _ s hR=>
  rw [ref_live hm (ρ:=ρ) ho hR] at hR
  injection hR with hR
  injection hR with hR
  injection hR with h1 h2
  exact .inr ⟨h1,rfl,rfl,rfl,rfl⟩
theorem loc_mk (hm:MExt M A) {id L i j b cap:Nat} {o:Ob} (ho:getOb M id L=some o) (hp:ρ id=some (b,cap)) (hi:i < L):RV S B w A ρ (.loc id L i j) (.pointer (some ⟨b,i * o.s + j,none⟩)):=
 .locV id L i j b cap o.s (ref_some hm ho hp) hi
theorem lsl_mk (hm:MExt M A) {id L off n b cap:Nat} {o:Ob} (ho:getOb M id L=some o) (hp:ρ id=some (b,cap)) (hn:off + n≤L):RV S B w A ρ (.lsl id L off n) (.slice (some ⟨b,off * o.s,none⟩) n (cap - off)):=
 .lslV id L off n b cap o.s (ref_some hm ho hp) hn
theorem pt_part {V:Nat→Option Obj} {R:RefF} {q:Option TypeId} {cs:List AV} {v:Value} (h:RC S V B R (.pt q cs) v) :
  ∃ b o,v = .pointer (some ⟨b,o,none⟩)∧∀ off sz,off + sz≤cs.length→0 < sz→RC S V B R (.pt none ((cs.drop off).take sz)) (.pointer (some ⟨b,o + off,none⟩)):=by
 have hne:∀ off sz,off + sz≤cs.length→0 < sz→((cs.drop off).take sz)≠[]:=by
  intro off sz h1 h2 e
  have:=congrArg List.length e
  simp at this
  omega
 cases h with
 | ptB cs b o f he hcell hr htr=>
  refine ⟨b,o,rfl,fun off sz h1 h2=>.ptB _ b (o + off) (fun j=>f (off + j)) (hne off sz h1 h2) (fun j hj=>?_) (fun j x hj=>hr (off + j) x (list_mid hj)) (fun x hx=>htr x (List.mem_of_mem_drop (List.mem_of_mem_take hx)))⟩
  have:((cs.drop off).take sz).length=sz:=by simp; omega
  rw [Nat.add_assoc]; exact hcell (off + j) (by omega)
 | ptO t cs b c f hb hB hz hl hs hcell hr htr=>
  refine ⟨b,0,rfl,fun off sz h1 h2=>.ptB _ b (0 + off) (fun j=>f (off + j)) (hne off sz h1 h2) (fun j hj=>?_) (fun j x hj=>hr (off + j) x (list_mid hj)) (fun x hx=>htr x (List.mem_of_mem_drop (List.mem_of_mem_take hx)))⟩
  have:((cs.drop off).take sz).length=sz:=by simp; omega
  simp only [cellV,hb]; rw [Nat.zero_add]; exact hcell (off + j) (by omega)
theorem fieldAddr_rc (hm:MExt M A) {off sz:Nat} {x y:AV} {v:Value} (h:aFieldAddr off sz x M=some y) (hx:RV S B w A ρ x v) :
  ∃ b o,v = .pointer (some ⟨b,o,none⟩)∧RV S B w A ρ y (.pointer (some ⟨b,o + off,none⟩)):=by
 unfold aFieldAddr at h
 cases x with
 | pt q cs=>
  simp only at h
  split at h
  ·rename_i hc
   obtain rfl:=Option.some.inj h
   obtain ⟨b,o,rfl,hp⟩:=pt_part hx
   exact ⟨b,o,rfl,hp off sz hc.1 hc.2⟩
  ·cases h
 | loc id L i j=>
  simp only at h
  split at h
  ·rename_i hk
   obtain rfl:=Option.some.inj h
   obtain ⟨ob,ho⟩:=okRef_spec hk
   obtain ⟨b,cap,hp,hi,rfl⟩:=loc_inv hm hx ho
   exact ⟨b,i * ob.s + j,rfl,by rw [Nat.add_assoc]; exact loc_mk hm ho hp hi⟩
  ·cases h
 | _=>simp at h
theorem es_pt {V:Nat→Option Obj} {R:RefF} {es:List (List AV)} {b off s:Nat} {f:Nat→Nat→Value} (hs:0 < s) (hes:∀ e ∈ es,e.length=s)
  (hc:∀ i j,i < es.length→j < s→cellV V b (off + (i * s + j))=some (f i j)) (h:∀ (i j:Nat) e x,es[i]? = some e→e[j]? = some x→RC S V B R x (f i j))
  (htr:∀ e ∈ es,∀ x ∈ e,treeOk x=true) {i:Nat} {cs:List AV} (hi:es[i]? = some cs):cs.length=s∧RC S V B R (.pt none cs) (.pointer (some ⟨b,off + i * s,none⟩)):=by
 have hlt:=(List.getElem?_eq_some_iff.1 hi).1
 have hmem:cs ∈ es:=List.mem_of_getElem? hi
 have hl:=hes cs hmem
 refine ⟨hl,.ptB cs b (off + i * s) (fun j=>f i j) (by intro e; rw [e] at hl; simp at hl; omega) (fun j hj=>?_) (fun j x hj=>h i j cs x hi hj) (htr cs hmem)⟩
 rw [Nat.add_assoc]; exact hc i j hlt (by omega)
theorem indexS_rc (hm:MExt M A) {sz:Nat} {x i y:AV} {v u:Value} (h:aIndexS sz x i M=some y) (hx:RV S B w A ρ x v) (hi:RV S B w A ρ i u) :
  ∃ k n,u = .int k n∧0≤n∧∃ b o len cap,v = .slice (some ⟨b,o,none⟩) len cap∧n < len∧RV S B w A ρ y (.pointer (some ⟨b,o + n.toNat * sz,none⟩)):=by
 unfold aIndexS at h
 cases i with
 | int k n=>
  simp only at h
  cases hi
  split at h
  ·rename_i h0
   refine ⟨k,n,rfl,h0,?_⟩
   have hn:(n.toNat:Int)=n:=Int.toNat_of_nonneg h0
   cases x with
   | sl q es=>
    simp only at h
    obtain ⟨cs,h1,h2⟩:=Option.bind_eq_some_iff.1 h
    split at h2
    ·rename_i hl
     obtain rfl:=Option.some.inj h2
     have hlt:=(List.getElem?_eq_some_iff.1 h1).1
     cases hx with
     | slN=>simp at h1
     | slB es b off c s f he hs hes hc hr hcap htr=>
      obtain ⟨g1,g2⟩:=es_pt hs hes hc hr htr h1
      obtain rfl:s=sz:=by omega
      exact ⟨b,off,_,c,rfl,by omega,g2⟩
     | slON=>simp at h1
     | slO t es b cap cs' f hb hB hz hs hl' hmx hes hc hr htr=>
      obtain ⟨g1,g2⟩:=es_pt (off:=0) (b:=b) hs hes (fun i j hi hj=>by simp only [cellV,hb,Nat.zero_add]; exact hc i j hi hj) hr htr h1
      obtain rfl:S t=sz:=by omega
      exact ⟨b,0,_,cap,rfl,by omega,g2⟩
    ·cases h2
   | lit t es=>
    simp only at h
    obtain ⟨cs,h1,h2⟩:=Option.bind_eq_some_iff.1 h
    split at h2
    ·rename_i hl
     obtain rfl:=Option.some.inj h2
     have hlt:=(List.getElem?_eq_some_iff.1 h1).1
     cases hx with
     | lit t es b cs' f hb hB hz hs hmx hes hc hr htr=>
      obtain ⟨g1,g2⟩:=es_pt (off:=0) (b:=b) hs hes (fun i j hi hj=>by simp only [cellV,hb,Nat.zero_add]; exact hc i j hi hj) hr htr h1
      obtain rfl:S t=sz:=by omega
      exact ⟨b,0,_,_,rfl,by omega,g2⟩
    ·cases h2
   | nsl t es=>
    simp only at h
    obtain ⟨cs,h1,h2⟩:=Option.bind_eq_some_iff.1 h
    split at h2
    ·rename_i hl
     obtain rfl:=Option.some.inj h2
     have hlt:=(List.getElem?_eq_some_iff.1 h1).1
     cases hx with
     | nslO t es b cap cs' f hb hB hz hs hl' hmx hes hc hr=>
      have g1:=hes cs (List.mem_of_getElem? h1)
      obtain rfl:S t=sz:=by omega
      exact ⟨b,0,_,cap,rfl,by omega,.nptB cs b _ (fun j=>f n.toNat j) (fun j hj=>by simp only [cellV,hb,Nat.zero_add]; exact hc _ j hlt (by omega)) (fun j x hj=>hr _ j cs x h1 hj)⟩
    ·cases h2
   | lsl id L off m=>
    simp only at h
    obtain ⟨ob,ho,h2⟩:=Option.bind_eq_some_iff.1 h
    split at h2
    ·rename_i hk
     obtain rfl:=Option.some.inj h2
     rcases lsl_inv hm hx ho with ⟨b,cap,hp,hle,rfl⟩ | ⟨_,_,_,rfl,_⟩
     ·refine ⟨b,off * ob.s,m,cap - off,rfl,hk.1,?_⟩
      have:=loc_mk (S:=S) (B:=B) (w:=w) hm (i:=off + n.toNat) (j:=0) ho hp (by omega)
      rw [Nat.add_mul,Nat.add_zero,hk.2] at this
      rw [hk.2]; exact this
     ·omega
    ·cases h2
   | _=>simp at h
  ·cases h
 | _=>simp at h
theorem indexP_rc (hm:MExt M A) {len sz:Nat} {x i y:AV} {v u:Value} (hz:0 < sz) (h:aIndexP len sz x i M=some y) (hx:RV S B w A ρ x v) (hi:RV S B w A ρ i u) :
  ∃ k n,u = .int k n∧0≤n∧n < len∧∃ b o,v = .pointer (some ⟨b,o,none⟩)∧RV S B w A ρ y (.pointer (some ⟨b,o + n.toNat * sz,none⟩)):=by
 unfold aIndexP at h
 cases i with
 | int k n=>
  simp only at h
  cases hi
  split at h
  ·rename_i h0
   refine ⟨k,n,rfl,h0.1,h0.2,?_⟩
   cases x with
   | pt q cs=>
    simp only at h
    split at h
    ·rename_i hc
     obtain rfl:=Option.some.inj h
     obtain ⟨b,o,rfl,hp⟩:=pt_part hx
     exact ⟨b,o,rfl,hp _ sz hc hz⟩
    ·cases h
   | loc id L k j=>
    simp only at h
    split at h
    ·rename_i hk
     obtain rfl:=Option.some.inj h
     obtain ⟨ob,ho⟩:=okRef_spec hk
     obtain ⟨b,cap,hp,hi,rfl⟩:=loc_inv hm hx ho
     exact ⟨b,_,rfl,by rw [Nat.add_assoc]; exact loc_mk hm ho hp hi⟩
    ·cases h
   | _=>simp at h
  ·cases h
 | _=>simp at h
theorem nilCheck_rc (hm:MExt M A) {x y:AV} {v:Value} (h:aNilCheck x M=some y) (hx:RV S B w A ρ x v):(∃ a,v = .pointer (some a))∧y=x:=by
 unfold aNilCheck at h
 cases x with
 | pt q cs=>
  obtain rfl:=Option.some.inj h
  obtain ⟨b,o,rfl,_⟩:=pt_part hx
  exact ⟨⟨_,rfl⟩,rfl⟩
 | loc id L i j=>
  simp only at h
  split at h
  ·rename_i hk
   obtain rfl:=Option.some.inj h
   obtain ⟨ob,ho⟩:=okRef_spec hk
   obtain ⟨b,cap,hp,hi,rfl⟩:=loc_inv hm hx ho
   exact ⟨⟨_,rfl⟩,rfl⟩
  ·cases h
 | _=>simp at h
theorem run_load_range {P:Program} {t:TypeId} (hk:okT P t=true) {W:World} {b o:Nat} {vs:List Value} (hl:vs.length=P.cellsOf t) (hc:∀ j v,vs[j]? = some v→W.cell? ⟨b,o + j,none⟩=some v) :
  (Instr.loadAt t (.pointer (some ⟨b,o,none⟩))).run P W = .ok (if Program.cellsAgg P t=true then .agg vs.toArray else vs.getD 0 Go.undef) W:=by
 obtain ⟨d,i,hd,hi,hz,h0⟩:=okT_spec hk
 have ha:=run_isAgg hd W
 cases hq:Program.cellsAgg P t with
 | true=>
  rw [hq] at ha
  have hlc:=run_loadCells_list (P:=P) W ⟨b,o,none⟩ vs (fun j v hv=>by rw [Addr.add_mid]; exact hc j v hv)
  have hs:=run_sizeOf hi W
  rw [← hz,← hl] at hs
  simp [Instr.loadAt,Instr.sureAddr,loadVar,Sem.run_bind,ha,hs,hlc]
 | false=>
  rw [hq] at ha
  have hp:0 < vs.length:=by omega
  have:=hc 0 (vs.getD 0 Go.undef) (by simp [List.getD,List.getElem?_eq_getElem hp])
  simp only [Nat.add_zero] at this
  simp [Instr.loadAt,Instr.sureAddr,loadVar,Sem.run_bind,ha,this]
theorem cell_of_view {W:World} {M:Mem} {ρ:Pm} {b k:Nat} {v:Value} (h:cellV (View W M ρ) b k=some v):W.cell? ⟨b,k,none⟩=some v:=by
 unfold cellV at h
 cases hv:View W M ρ b with
 | none=>simp [hv] at h
 | some o=>
  rw [hv] at h
  cases o <;> simp at h
  obtain ⟨_,hw⟩:=View.some hv
  simp [World.cell?,hw,h]
theorem load_cells {P:Program} (hA:MR S B w A ρ) {t:TypeId} (hk:okT P t=true) {y:AV} {v:Value} {cs:List AV} (h:(if (Program.cellsAgg P t)=true then (if cs.length=P.cellsOf t then some (.agg cs) else none) else (match cs with | [c]=>some c | _=>none))=some y)
  (key:∃ (b o:Nat) (f:Nat→Value),v = .pointer (some ⟨b,o,none⟩)∧(∀ j,j < cs.length→w.cell? ⟨b,o + j,none⟩=some (f j))∧(∀ (j:Nat) x,cs[j]? = some x→RV S B w A ρ x (f j))) :
  ∃ u,(Instr.loadAt t v).run P w = .ok u w∧RV S B w A ρ y u:=by
 obtain ⟨d,i,hd,hi,hz,h0⟩:=okT_spec hk
 obtain ⟨b,o,f,rfl,hcell,hr⟩:=key
 have hget:∀ j v,((List.range cs.length).map f)[j]? = some v→w.cell? ⟨b,o + j,none⟩=some v:=by
  intro j v hj
  simp only [List.getElem?_map] at hj
  by_cases hlt:j < cs.length
  ·simp [hlt] at hj; rw [hcell j hlt,hj]
  ·simp [hlt] at hj
 cases hq:Program.cellsAgg P t with
 | true=>
  rw [hq] at h
  simp only [if_true] at h
  split at h
  ·rename_i hl
   obtain rfl:=Option.some.inj h
   have:=run_load_range (P:=P) hk (W:=w) (b:=b) (o:=o) (vs:=(List.range cs.length).map f) (by simp [hl]) hget
   rw [hq] at this
   refine ⟨_,this,.agg _ _ (by simp) (fun i x v hi hv=>?_)⟩
   have hlt:=(List.getElem?_eq_some_iff.1 hi).1
   simp [hlt] at hv
   rw [← hv]; exact hr i x hi
  ·cases h
 | false=>
  rw [hq] at h
  simp only [Bool.false_eq_true,if_false] at h
  split at h
  ·rename_i c
   obtain rfl:=Option.some.inj h
   have ha:=run_isAgg hd w
   rw [hq] at ha
   have h1:=hcell 0 (by simp)
   simp only [Nat.add_zero] at h1
   exact ⟨f 0,by simp [Instr.loadAt,Instr.sureAddr,loadVar,Sem.run_bind,ha,h1],hr 0 _ rfl⟩
  ·cases h
theorem load_rc {P:Program} (hm:MExt M A) (hA:MR S B w A ρ) {t:TypeId} (hk:okT P t=true) {x y:AV} {v:Value} (h:aLoad (Program.cellsAgg P t) (P.cellsOf t) x M=some y) (hx:RV S B w A ρ x v) :
  ∃ u,(Instr.loadAt t v).run P w = .ok u w∧RV S B w A ρ y u:=by
 obtain ⟨d,i,hd,hi,hz,h0⟩:=okT_spec hk
 unfold aLoad at h
 cases x with
 | pt q cs=>
  simp only at h
  have key:∃ (b o:Nat) (f:Nat→Value),v = .pointer (some ⟨b,o,none⟩)∧(∀ j,j < cs.length→w.cell? ⟨b,o + j,none⟩=some (f j))∧(∀ (j:Nat) x,cs[j]? = some x→RV S B w A ρ x (f j)):=by
   cases hx with
   | ptB cs b o f he hcell hr htr=>exact ⟨b,o,f,rfl,fun j hj=>cell_of_view (hcell j hj),hr⟩
   | ptO t cs b c f hb hB hz hl hs hcell hr htr=>
    obtain ⟨_,hw⟩:=View.some hb
    exact ⟨b,0,f,rfl,fun j hj=>by simp [World.cell?,hw,hcell j hj],hr⟩
  exact load_cells hA hk h key
 | npt cs=>
  simp only at h
  refine load_cells hA hk h ?_
  cases hx with
  | nptB cs b o f hcell hr=>exact ⟨b,o,f,rfl,fun j hj=>cell_of_view (hcell j hj),hr⟩
 | loc id L i j=>
  simp only at h
  obtain ⟨ob,ho,h⟩:=Option.bind_eq_some_iff.1 h
  obtain ⟨cs,hcs,h⟩:=Option.bind_eq_some_iff.1 h
  obtain ⟨b,cap,hp,hiL,rfl⟩:=loc_inv hm hx ho
  obtain ⟨g1,g2⟩:=getOb_some ho
  obtain ⟨e1,e2,e3,e4,e5⟩:=hA.obj id ob (hm.live g1)
  rw [hp] at e5
  obtain ⟨cc,f,k1,k2,k3,k4,k5,k6,k7⟩:=e5
  have hilt:=(List.getElem?_eq_some_iff.1 hcs).1
  have hlen:cs.length=ob.s:=e3 cs (List.mem_of_getElem? hcs)
  have hcell:∀ q,q < ob.s→w.cell? ⟨b,i * ob.s + q,none⟩=some (f i q):=fun q hq=>by simp [World.cell?,k1,k6 i q hilt hq]
  cases hq:Program.cellsAgg P t with
  | true=>
   rw [hq] at h
   simp only [if_true] at h
   split at h
   ·rename_i hl
    obtain rfl:=Option.some.inj h
    have:=run_load_range (P:=P) hk (W:=w) (b:=b) (o:=i * ob.s + j) (vs:=(List.range (P.cellsOf t)).map fun q=>f i (j + q)) (by simp) (by
     intro q v hv
     simp only [List.getElem?_map] at hv
     by_cases hlt:q < P.cellsOf t
     ·simp [hlt] at hv; rw [Nat.add_assoc,hcell (j + q) (by omega),hv]
     ·simp [hlt] at hv)
    rw [hq] at this
    refine ⟨_,this,.agg _ _ (by simp; omega) (fun q x v hx' hv=>?_)⟩
    have hlt:q < P.cellsOf t:=by
     have:=(List.getElem?_eq_some_iff.1 hx').1
     simp at this; omega
    simp [hlt] at hv
    rw [← hv]; exact k7 i (j + q) cs x hcs (list_mid hx')
   ·cases h
  | false=>
   rw [hq] at h
   simp only [Bool.false_eq_true,if_false] at h
   have ha:=run_isAgg hd w
   rw [hq] at ha
   have hjlt:=(List.getElem?_eq_some_iff.1 h).1
   exact ⟨f i j,by simp [Instr.loadAt,Instr.sureAddr,loadVar,Sem.run_bind,ha,hcell j (by omega)],k7 i j cs y hcs h⟩
 | _=>simp at h
end
end
end Go.Ab
