/- Appends. -/
import Derived.Test.YtjlalepbhcekoaaAbOps9
set_option linter.unusedVariables false
set_option linter.unusedSimpArgs false
namespace Go.Ab
open Go Go.RowKit
section
variable {P:Program} {S:TypeId→Nat} {B:Nat} {w w':World} {M A A':Mem} {ρ ρ':Pm}
theorem src_rc (hm:MExt M A) (hA:MR S B w A ρ) {x:AV} {v:Value} {src:List (List AV)} {sz:Nat} (hsz:0 < sz) (h:elems x M=some src) (hx:RV S B w A ρ x v) (hf:∀ e ∈ src,e.length=sz∧∀ y ∈ e,okC M y=true) :
  ∃ a c news,v = .slice a src.length c∧(src=[]∨∃ ad,a=some ad∧∀ j u,news[j]? = some u→w.cell? (ad.add j)=some u)∧Row S (View w A ρ) B (Ref A ρ) sz src news∧∀ u ∈ news,u.oneCell'=true:=by
 obtain ⟨a,c,rfl,hc,hl⟩:=elems_rc hm hA h hx
 by_cases he:src=[]
 ·subst he
  exact ⟨a,c,[],rfl,.inl rfl,Row.nil,by simp⟩
 ·obtain ⟨b,off,s,rfl,hs,hes,f,h3,h4⟩:=hl.resolve_left he
  obtain ⟨e0,he0⟩:=List.exists_mem_of_ne_nil _ he
  obtain rfl:s=sz:=by rw [← hes e0 he0,(hf e0 he0).1]
  have hget:∀ j u,((List.range (src.length * s)).map fun k=>f (k / s) (k % s))[j]? = some u→j < src.length * s∧f (j / s) (j % s)=u:=by
   intro j u hj
   rw [List.getElem?_map] at hj
   obtain ⟨q,hq,rfl⟩:=Option.map_eq_some_iff.1 hj
   obtain ⟨h5,h6⟩:=List.getElem?_eq_some_iff.1 hq
   simp at h5 h6
   subst h6
   exact ⟨h5,rfl⟩
  have hdiv:∀ j,j < src.length * s→j / s < src.length∧j % s < s:=fun j hj=>⟨Nat.div_lt_of_lt_mul (by rw [Nat.mul_comm]; exact hj),Nat.mod_lt _ hs⟩
  refine ⟨_,c,(List.range (src.length * s)).map fun k=>f (k / s) (k % s),rfl,.inr ⟨_,rfl,fun j u hj=>?_⟩,⟨by simp,hes,fun i j e x v g1 g2 g3=>?_⟩,fun u hu=>?_⟩
  ·obtain ⟨g1,rfl⟩:=hget j u hj
   obtain ⟨g2,g3⟩:=hdiv j g1
   have:=h3 (j / s) (j % s) g2 g3
   simp only at this
   rw [Nat.div_add_mod' j s] at this
   rw [Addr.add_mid]; exact this
  ·obtain ⟨k1,rfl⟩:=hget _ _ g3
   have hj:=(List.getElem?_eq_some_iff.1 g2).1
   rw [hes e (List.mem_of_getElem? g1)] at hj
   have e1:(i * s + j) / s=i:=by rw [Nat.mul_comm,Nat.mul_add_div hs,Nat.div_eq_of_lt hj]; simp
   have e2:(i * s + j) % s=j:=by rw [Nat.mul_comm,Nat.mul_add_mod,Nat.mod_eq_of_lt hj]
   rw [e1,e2]
   exact h4 i j e x g1 g2
  ·obtain ⟨j,hj⟩:=List.getElem?_of_mem hu
   obtain ⟨g1,rfl⟩:=hget j u hj
   obtain ⟨g2,g3⟩:=hdiv j g1
   have hme:=List.getElem_mem g2
   have hlt:j % s < (src[j / s]).length:=by rw [hes _ hme]; exact g3
   exact (cell_one hm ((hf _ hme).2 _ (List.getElem_mem hlt)) (h4 (j / s) (j % s) _ _ (List.getElem?_eq_getElem g2) (List.getElem?_eq_getElem hlt))).1
theorem fits_spec {sz by_ n:Nat} {src:List (List AV)} (h:fits M sz by_ n src=true) :
  (∀ e ∈ src,e.length=sz∧∀ y ∈ e,okC M y=true)∧0 < sz∧(n + src.length) * by_≤140737488355328∧n + src.length≤140737488355328:=by
 simp only [fits,Bool.and_eq_true,List.all_eq_true,decide_eq_true_eq,beq_iff_eq] at h
 exact ⟨fun e he=>h.1.1.1 e he,h.1.1.2,h.1.2,h.2⟩
theorem run_app_zero {t ty el:TypeId} (ht:P.underlying t=some (.slice el)) (hk:okT P el=true) (base:Option Addr) (n cap:Nat) (hn:n≤cap) (a:Option Addr) (c:Nat) :
  (Builtin.append_ #[t,t] ty #[.slice base n cap,.slice a 0 c]).run P w = .ok (.slice base n cap) w:=by
 obtain ⟨d,i,hd,hi,hz,h0⟩:=okT_spec hk
 cases base <;> cases a <;> simp [Builtin.append_,run_underlying ht,sizeOf,typeInfo,hi,Builtin.lenOf,Builtin.firstCells,loadCells,loadCellsFrom,hn,storeCells]
theorem run_app {t ty el:TypeId} (ht:P.underlying t=some (.slice el)) (hk:okT P el=true) (hz0:((P.info? el).bind (·.zero)).isSome=true) (hzl:(zeroOf P el).length=P.cellsOf el)
  (g n cap:Nat) (cur:Array Value) (hg:w.heap[g]? = some (.cells cur el (0,0))) (hnc:n≤cap) (hcm:cap≤maxLen) (hcs:cur.size=cap * P.cellsOf el)
  (a:Addr) (m c:Nat) (news:List Value) (hl:news.length=m * P.cellsOf el) (hnews:∀ j u,news[j]? = some u→w.cell? (a.add j)=some u) (h1:∀ u ∈ news,u.oneCell'=true)
  (hlen:n + m≤140737488355328) (hbytes:(n + m) * P.bytesOf el≤140737488355328) :
  ∃ g' cap' cur' w',(Builtin.append_ #[t,t] ty #[.slice (some ⟨g,0,none⟩) n cap,.slice (some a) m c]).run P w = .ok (.slice (some ⟨g',0,none⟩) (n + m) cap') w' ∧
   w'.heap[g']? = some (.cells cur' el (0,0))∧n + m≤cap'∧cap'≤maxLen∧cur'.size=cap' * P.cellsOf el∧cur'.toList.take ((n + m) * P.cellsOf el)=cur.toList.take (n * P.cellsOf el)++news ∧
   w.grownBy w' (some g)∧((g'=g∧n + m≤cap)∨(w.heap.size≤g'∧w'.heap[g]? = w.heap[g]?)):=by
 obtain ⟨d,i,hd,hi,hz,h0⟩:=okT_spec hk
 rw [hi] at hz0
 obtain ⟨z,hzz⟩:=Option.isSome_iff_exists.1 hz0
 have hzz':i.zero=some z:=by simpa using hzz
 have hby:P.bytesOf el=i.bytes:=by simp [Program.bytesOf,hi]
 have hzs:z.cells.size=i.size:=by rw [← hz,← hzl]; simp [zeroOf,hi,hzz']
 rw [hby] at hbytes
 rw [hz] at hcs hl ⊢
 have htl:(cur.toList.take (n * i.size)).length=n * i.size:=by
  have:=Nat.mul_le_mul_right i.size hnc
  simp; omega
 have hfl:(cur.toList.take (n * i.size)++news).length=(n + m) * i.size:=by rw [List.length_append,htl,hl,Nat.add_mul]
 by_cases hroom:n + m≤cap
 ·have hfit:n * i.size + news.length≤cur.size:=by rw [hl,hcs,← Nat.add_mul]; exact Nat.mul_le_mul_right _ hroom
  have hr:=run_append_room (P:=P) w t ty el i ht hi g n cap cur hg a m c news hl hnews h1 hroom hfit
  refine ⟨g,cap,_,_,hr,setRow_heap w g cur _ el _ hg,hroom,hcm,?_,?_,set_row_grown w g _,.inl ⟨rfl,hroom⟩⟩
  ·simp only [List.size_toArray,List.length_append,List.length_drop,Array.length_toList,htl]
   omega
  ·rw [← hfl]
   exact List.take_left
 ·have h63:n + m≤maxLen:=by unfold maxLen; omega
  have hr:=run_append_grow (P:=P) w t ty el i z ht hi hzz' ⟨g,0,none⟩ n cap (cur.toList.take (n * i.size)) htl (fun j v hv=>by
    rw [List.getElem?_take] at hv
    split at hv
    ·rw [Addr.add_mid,cell_of_row w g _ cur el (0,0) hg]; simpa using hv
    ·cases hv) a m c news hl hnews (by omega) (by omega) (growslice_fits (by omega) hbytes)
  have hge:=grownCap_ge w (n + m) cap el
  have hcm':grownCap w (n + m) cap el≤maxLen:=grownCap_le_maxLen w (n + m) cap el h63
  refine ⟨w.heap.size,_,_,_,hr,heap_alloc_new w.drew _,hge,hcm',?_,?_,⟨rfl,rfl,rfl,by simp,fun k hk _=>heap_alloc_old w.drew _ hk⟩,.inr ⟨Nat.le_refl _,heap_alloc_old w.drew _ (Array.getElem?_eq_some_iff.1 hg).1⟩⟩
  ·simp only [Array.size_append,List.size_toArray,size_zeroCells,hzs,htl,hl,← Nat.add_mul]
   congr 1
   omega
  ·simp only [Array.toList_append,List.append_assoc]
   rw [← List.append_assoc,← hfl]
   exact List.take_left
theorem run_app_nil {t ty el:TypeId} (ht:P.underlying t=some (.slice el)) (hk:okT P el=true) (hz0:((P.info? el).bind (·.zero)).isSome=true) (hzl:(zeroOf P el).length=P.cellsOf el)
  (a:Addr) (m c:Nat) (news:List Value) (h0m:0 < m) (hl:news.length=m * P.cellsOf el) (hnews:∀ j u,news[j]? = some u→w.cell? (a.add j)=some u)
  (hlen:m≤140737488355328) (hbytes:m * P.bytesOf el≤140737488355328) :
  ∃ cap' cur' w',(Builtin.append_ #[t,t] ty #[.slice none 0 0,.slice (some a) m c]).run P w = .ok (.slice (some ⟨w.heap.size,0,none⟩) m cap') w' ∧
   w'.heap[w.heap.size]? = some (.cells cur' el (0,0))∧m≤cap'∧cap'≤maxLen∧cur'.size=cap' * P.cellsOf el∧cur'.toList.take (m * P.cellsOf el)=news∧Below w.heap.size w w':=by
 obtain ⟨d,i,hd,hi,hz,h0⟩:=okT_spec hk
 rw [hi] at hz0
 obtain ⟨z,hzz⟩:=Option.isSome_iff_exists.1 hz0
 have hzz':i.zero=some z:=by simpa using hzz
 have hby:P.bytesOf el=i.bytes:=by simp [Program.bytesOf,hi]
 have hzs:z.cells.size=i.size:=by rw [← hz,← hzl]; simp [zeroOf,hi,hzz']
 rw [hby] at hbytes
 rw [hz] at hl ⊢
 have h63:m≤maxLen:=by unfold maxLen; omega
 have hr:=run_append_nil (P:=P) w t ty el i z ht hi hzz' a m c news hl hnews h0m (by omega) (by omega)
 have hge:=grownCap_ge w m 0 el
 have hcm':grownCap w m 0 el≤maxLen:=grownCap_le_maxLen w m 0 el h63
 refine ⟨_,_,_,hr,heap_alloc_new w.drew _,hge,hcm',?_,?_,⟨rfl,rfl,rfl,by simp,fun k hk=>heap_alloc_old w.drew _ hk⟩⟩
 ·simp only [Array.size_append,List.size_toArray,size_zeroCells,hzs,hl,← Nat.add_mul]
  congr 1
  omega
 ·simp only [Array.toList_append]
  rw [← hl]
  exact List.take_left
theorem slO_of_row {V:Nat→Option Obj} {R:RefF} {t:TypeId} {es:List (List AV)} {b cap:Nat} {cs:Array Value} (hb:V b=some (.cells cs t (0,0))) (hB:B≤b) (hz:cs.size=cap * S t) (hs:0 < S t) (hl:es.length≤cap) (hm:cap≤maxLen)
  (hr:Row S V B R (S t) es (cs.toList.take (es.length * S t))) (htr:∀ e ∈ es,∀ x ∈ e,treeOk x=true):RC S V B R (.sl (some t) es) (.slice (some ⟨b,0,none⟩) es.length cap):=by
 refine .slO t es b cap cs (fun i j=>(cs.toList.take (es.length * S t)).getD (i * S t + j) Go.undef) hb hB hz hs hl hm hr.2.1 (fun i j hi hj=>?_) (fun i j e x he hx=>?_) htr
 ·have:=hr.cell hi hj
  have h3:=this
  rw [List.getElem?_take] at h3
  split at h3
  ·rw [← this,List.getElem?_take,if_pos (by assumption)]; simp
  ·cases h3
 ·have hi:=(List.getElem?_eq_some_iff.1 he).1
  have hj:=(List.getElem?_eq_some_iff.1 hx).1
  rw [hr.2.1 e (List.mem_of_getElem? he)] at hj
  exact hr.2.2 i j e x _ he hx (hr.cell hi hj)
theorem kept_grown (hA:MR S B w A ρ) {g:Nat} (hg:w.grownBy w' (some g)) (hw:w'.heap[g]? = w.heap[g]?):Step w A ρ w' A ρ∧MR S B w' A ρ:=
 kept_step hA ⟨hg.os,hg.tape,hg.output,hg.size,fun k hk=>by
  by_cases e:k=g
  ·rw [e]; exact hw
  ·exact hg.block k hk (fun h=>e (Option.some.inj h))⟩
theorem appI_keep (hm:MExt M A) (hA:MR P.cellsOf B w A ρ) {t ty el:TypeId} (ht:P.underlying t=some (.slice el)) (hk:okT P el=true) (hz0:((P.info? el).bind (·.zero)).isSome=true) (hzl:(zeroOf P el).length=P.cellsOf el)
  {x s y:AV} {vx vs:Value} (h:aAppI el (P.cellsOf el) (P.bytesOf el) x s M=some (y,.keep)) (hx:RV P.cellsOf B w A ρ x vx) (hs:RV P.cellsOf B w A ρ s vs) :
  Done P.cellsOf B w A ρ ((Builtin.append_ #[t,t] ty #[vx,vs]).run P w) A y:=by
 unfold aAppI at h
 obtain ⟨src,hsrc,h⟩:=Option.bind_eq_some_iff.1 h
 split at h
 rotate_left
 ·cases h
 rename_i htr0
 have htr:∀ e ∈ src,∀ x ∈ e,treeOk x=true:=fun e he x hx=>List.all_eq_true.1 (List.all_eq_true.1 htr0 e he) x hx
 cases x with
 | nils=>
  simp only at h
  split at h
  rotate_left
  ·cases h
  rename_i hf
  obtain ⟨f1,f2,f3,f4⟩:=fits_spec hf
  simp only [Option.some.injEq,Prod.mk.injEq] at h
  obtain ⟨rfl,_⟩:=h
  obtain ⟨a,c,news,rfl,hh,hr,h1⟩:=src_rc hm hA f2 hsrc hs f1
  cases hx
  by_cases he:src=[]
  ·subst he
   exact ⟨_,w,ρ,run_app_zero ht hk none 0 0 (Nat.le_refl _) a c,Step.refl _ _ _,hA,.slON _⟩
  ·obtain ⟨ad,rfl,hcell⟩:=hh.resolve_left he
   have h0:0 < src.length:=List.length_pos_iff.2 he
   rw [Nat.zero_add] at f3 f4
   obtain ⟨cap',cur',w',r1,r2,r3,r4,r5,r6,r7⟩:=run_app_nil (ty:=ty) (w:=w) ht hk hz0 hzl ad src.length c news h0 hr.1 hcell f4 f3
   obtain ⟨s1,s2⟩:=kept_step hA r7
   refine ⟨_,w',ρ,r1,s1,s2,slO_of_row (S:=P.cellsOf) ?_ hA.lo.1 r5 f2 r3 r4 ?_ htr⟩
   ·rw [View.of_not (fun hh=>by have:=held_lt hA hh; omega) (fun hh=>by have:=hA.hid _ hh; have:=hA.lo.1; omega)]; exact r2
   ·rw [r6]; exact hr.mono s1.view s1.ref
 | lit t' es=>
  simp only at h
  split at h
  rotate_left
  ·cases h
  rename_i hf
  obtain ⟨rfl,hf⟩:=hf
  obtain ⟨f1,f2,f3,f4⟩:=fits_spec hf
  simp only [Option.some.injEq,Prod.mk.injEq] at h
  obtain ⟨rfl,_⟩:=h
  obtain ⟨a,c,news,rfl,hh,hr,h1⟩:=src_rc hm hA f2 hsrc hs f1
  cases hx with
  | lit _ _ b cs f hb hB hz hs' hmx hes hc hre htr'=>
   have htr2:∀ e ∈ es++src,∀ x ∈ e,treeOk x=true:=fun e he=>(List.mem_append.1 he).elim (htr' e) (htr e)
   obtain ⟨hnh,hbw⟩:=View.some hb
   have hlie:Row P.cellsOf (View w A ρ) B (Ref A ρ) (P.cellsOf t') es (cs.toList.take (es.length * P.cellsOf t')):=Row.of_lie ⟨hs',hes,f,fun i j hi hj=>by simpa using hc i j hi hj,hre⟩
   by_cases he:src=[]
   ·subst he
    refine ⟨_,w,ρ,run_app_zero ht hk _ es.length es.length (Nat.le_refl _) a c,Step.refl _ _ _,hA,?_⟩
    rw [List.append_nil]
    exact slO_of_row (S:=P.cellsOf) hb hB hz hs' (Nat.le_refl _) hmx hlie htr'
   ·obtain ⟨ad,rfl,hcell⟩:=hh.resolve_left he
    have h0:0 < src.length:=List.length_pos_iff.2 he
    obtain ⟨g',cap',cur',w',r1,r2,r3,r4,r5,r6,r7,r8⟩:=run_app (ty:=ty) (w:=w) ht hk hz0 hzl b es.length es.length cs hbw (Nat.le_refl _) hmx hz ad src.length c news hr.1 hcell h1 f4 f3
    obtain ⟨r8,r9⟩:=r8.resolve_left (fun h=>by omega)
    obtain ⟨s1,s2⟩:=kept_grown hA r7 r9
    have hres:=slO_of_row (S:=P.cellsOf) (V:=View w' A ρ) (R:=Ref A ρ) (es:=es++src) (by rw [View.of_not (fun hh=>by have:=held_lt hA hh; omega) (fun hh=>by have:=hA.hid _ hh; have:=hA.lo.1; omega)]; exact r2) (Nat.le_trans hA.lo.1 r8) r5 f2 (by simpa using r3) r4 (by
     rw [List.length_append,r6]; exact (hlie.append hr).mono s1.view s1.ref) htr2
    rw [List.length_append] at hres
    exact ⟨_,w',ρ,r1,s1,s2,hres⟩
 | lsl id L off n=>
  simp only at h
  obtain ⟨o,ho,h⟩:=Option.bind_eq_some_iff.1 h
  split at h
  ·simp at h
  ·cases h
 | _=>simp at h
theorem dead_not_held {id b:Nat} {o:Ob} (hA:MR S B w A ρ) (h:A[id]? = some (.live o)) (hb:∀ b' c,ρ id=some (b',c)→b=b'∨w.heap.size≤b) (hnil:ρ id=none→w.heap.size≤b) {p:Pl}:¬ Held (A.set id .dead) (rput ρ id p) b:=by
 have hlt:=(List.getElem?_eq_some_iff.1 h).1
 rintro ⟨id',o',c,h1,h2⟩
 by_cases he:id'=id
 ·subst he
  rw [List.getElem?_set_self hlt] at h1
  cases h1
 ·rw [List.getElem?_set_ne (Ne.symm he)] at h1
  simp only [rput,if_neg he] at h2
  have hl:=held_lt hA ⟨id',o',c,h1,h2⟩
  cases hq:ρ id with
  | none=>have:=hnil hq; omega
  | some q=>
   obtain ⟨b',c'⟩:=q
   rcases hb b' c' hq with rfl | h3
   ·exact he (hA.inj id' id o' o b c c' h1 h h2 hq)
   ·omega
theorem appI_put (hA:MR P.cellsOf B w M ρ) {t ty el:TypeId} (ht:P.underlying t=some (.slice el)) (hk:okT P el=true) (hz0:((P.info? el).bind (·.zero)).isSome=true) (hzl:(zeroOf P el).length=P.cellsOf el)
  {x s y:AV} {vx vs:Value} {M':Mem} (h:aAppI el (P.cellsOf el) (P.bytesOf el) x s M=some (y,.put M')) (hx:RV P.cellsOf B w M ρ x vx) (hs:RV P.cellsOf B w M ρ s vs) :
  Done P.cellsOf B w M ρ ((Builtin.append_ #[t,t] ty #[vx,vs]).run P w) M' y:=by
 have hm:=MExt.refl M
 unfold aAppI at h
 obtain ⟨src,hsrc,h⟩:=Option.bind_eq_some_iff.1 h
 split at h
 rotate_left
 ·cases h
 rename_i htr0
 have htr:∀ e ∈ src,∀ x ∈ e,treeOk x=true:=fun e he x hx=>List.all_eq_true.1 (List.all_eq_true.1 htr0 e he) x hx
 cases x with
 | nils=>
  simp only at h
  split at h
  ·simp at h
  ·cases h
 | lit t' es=>
  simp only at h
  split at h
  ·simp at h
  ·cases h
 | lsl id L off n=>
  simp only at h
  obtain ⟨o,ho,h⟩:=Option.bind_eq_some_iff.1 h
  split at h
  rotate_left
  ·cases h
  rename_i hc
  simp only [Option.some.injEq,Prod.mk.injEq,Eff.put.injEq] at h
  obtain ⟨e1,e2⟩:=h
  subst e1
  subst e2
  obtain ⟨c1,c2,c3,rfl,rfl,hf,c6⟩:=hc
  obtain ⟨f1,f2,f3,f4⟩:=fits_spec hf
  obtain ⟨a,c,news,rfl,hh,hr,h1⟩:=src_rc hm hA f2 hsrc hs f1
  obtain ⟨g1,g2⟩:=getOb_some ho
  have htro:∀ e ∈ o.es,∀ x ∈ e,treeOk x=true:=fun e he x hx=>List.all_eq_true.1 (List.all_eq_true.1 c6 e he) x hx
  have htr2:∀ e ∈ o.es++src,∀ x ∈ e,treeOk x=true:=fun e he=>(List.mem_append.1 he).elim (htro e) (htr e)
  subst c2
  rcases lsl_inv hm hx ho with ⟨b,cap,hp,_,rfl⟩ | ⟨hp,rfl,_,_,rfl⟩
  ·obtain ⟨cells,k1,k2,k3,k4,k5,k6,k7⟩:=obj_row hA g1 hp
   rw [c3] at k2 k7
   subst g2
   rw [Nat.zero_mul,Nat.sub_zero]
   by_cases he:src=[]
   ·subst he
    have hg:w.grownBy w (Pl.block (ρ id)):=⟨rfl,rfl,rfl,Nat.le_refl _,fun _ _ _=>rfl⟩
    have s1:=row_step hA g1 hg (.inl rfl) (p:=ρ id) (fun b' c' e=>.inl (by rw [e]; rfl))
    have s2:=row_mr hA g1 hg (.inl rfl) (p:=ρ id) (fun b' c' e=>.inl (by rw [e]; rfl)) (fun _ ob e=>by cases e)
    refine ⟨_,w,_,run_app_zero ht hk _ _ _ k3 a c,s1,s2,?_⟩
    rw [List.append_nil]
    refine slO_of_row (S:=P.cellsOf) ?_ k6 k2 f2 k3 k4 (k7.mono s1.view s1.ref) htro
    rw [View.of_not (dead_not_held hA g1 (fun b' c' e=>by rw [hp] at e; injection e with e; injection e with e1 e2; exact .inl e1) (fun e=>by rw [hp] at e; cases e)) (fun hh=>by have:=hA.hid _ hh; omega)]
    exact k1
   ·obtain ⟨ad,rfl,hcell⟩:=hh.resolve_left he
    obtain ⟨g',cap',cur',w',r1,r2,r3,r4,r5,r6,r7,r8⟩:=run_app (ty:=ty) (w:=w) ht hk hz0 hzl b o.es.length cap cells k1 k3 k4 k2 ad src.length c news hr.1 hcell h1 f4 f3
    have hg:w.grownBy w' (Pl.block (ρ id)):=by rw [hp]; exact r7
    have s1:=row_step hA g1 hg (.inl rfl) (p:=none) (fun b' c' e=>by cases e)
    have s2:=row_mr hA g1 hg (.inl rfl) (p:=none) (fun b' c' e=>by cases e) (fun _ ob e=>by cases e)
    have hres:=slO_of_row (S:=P.cellsOf) (V:=View w' (M.set id .dead) (rput ρ id none)) (R:=Ref (M.set id .dead) (rput ρ id none)) (B:=B) (es:=o.es++src) (by
     rw [View.of_not (dead_not_held hA g1 (fun b' c' e=>by
      rw [hp] at e; injection e with e; injection e with e1 e2
      rcases r8 with r8 | r8
      ·exact .inl (r8.1.trans e1)
      ·exact .inr r8.1) (fun e=>by rw [hp] at e; cases e)) (fun hh=>by have:=hA.hid _ hh; have:=hA.lo.1; rcases r8 with ⟨rfl,_⟩ | ⟨r8,_⟩ <;> omega)]
     exact r2) (by rcases r8 with ⟨rfl,_⟩ | ⟨r8,_⟩; exact k6; exact Nat.le_trans hA.lo.1 r8) r5 f2 (by simpa using r3) r4 (by rw [List.length_append,r6]; exact (k7.append hr).mono s1.view s1.ref) htr2
    rw [List.length_append] at hres
    exact ⟨_,w',_,r1,s1,s2,hres⟩
  ·have hoe:o.es=[]:=List.length_eq_zero_iff.1 g2
   by_cases he:src=[]
   ·subst he
    have hg:w.grownBy w (Pl.block (ρ id)):=⟨rfl,rfl,rfl,Nat.le_refl _,fun _ _ _=>rfl⟩
    have s1:=row_step hA g1 hg (.inl rfl) (p:=none) (fun b' c' e=>by cases e)
    have s2:=row_mr hA g1 hg (.inl rfl) (p:=none) (fun b' c' e=>by cases e) (fun _ ob e=>by cases e)
    refine ⟨_,w,_,run_app_zero ht hk none 0 0 (Nat.le_refl _) a c,s1,s2,?_⟩
    rw [hoe,List.append_nil]
    exact .slON _
   ·obtain ⟨ad,rfl,hcell⟩:=hh.resolve_left he
    have h0:0 < src.length:=List.length_pos_iff.2 he
    rw [Nat.zero_add] at f3 f4
    obtain ⟨cap',cur',w',r1,r2,r3,r4,r5,r6,r7⟩:=run_app_nil (ty:=ty) (w:=w) ht hk hz0 hzl ad src.length c news h0 hr.1 hcell f4 f3
    have hg:w.grownBy w' (Pl.block (ρ id)):=⟨r7.os,r7.tape,r7.output,r7.size,fun k hk _=>r7.block k hk⟩
    have s1:=row_step hA g1 hg (.inl rfl) (p:=none) (fun b' c' e=>by cases e)
    have s2:=row_mr hA g1 hg (.inl rfl) (p:=none) (fun b' c' e=>by cases e) (fun _ ob e=>by cases e)
    rw [hoe,List.nil_append]
    refine ⟨_,w',_,r1,s1,s2,slO_of_row (S:=P.cellsOf) ?_ hA.lo.1 r5 f2 r3 r4 (by rw [r6]; exact hr.mono s1.view s1.ref) htr⟩
    rw [View.of_not (dead_not_held hA g1 (fun b' c' e=>by rw [hp] at e; cases e) (fun _=>Nat.le_refl _)) (fun hh=>by have:=hA.hid _ hh; have:=hA.lo.1; omega)]
    exact r2
 | _=>simp at h
end
end Go.Ab
