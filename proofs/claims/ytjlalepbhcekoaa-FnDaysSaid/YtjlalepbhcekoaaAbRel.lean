/- How abstract values and the abstract store stand to the machine's world. -/
import Derived.Test.YtjlalepbhcekoaaAbCore
set_option linter.unusedVariables false
namespace Go.Ab
open Go Go.RowKit
abbrev Pl:=Option (Nat×Nat)
structure Pm where
  get:Nat→Pl
  hid:Nat→Prop
instance:CoeFun Pm fun _=>Nat→Pl:=⟨Pm.get⟩
abbrev RefF:=Nat→Nat→Option (Option (Pl×Nat))
def Ref (M:Mem) (ρ:Pm) (id L:Nat):Option (Option (Pl×Nat)):=
  match M[id]? with
  | some .dead=>some none
  | some (.live o)=>if o.kn = .box∧ρ id=none then none else if o.es.length=L then some (some (ρ id,o.s)) else if L < o.es.length then some none else none
  | _=>none
def Ph (M:Mem) (ρ:Pm) (id:Nat):Prop:=∃ o,M[id]? = some (.live o)∧o.kn = .box∧ρ id=none
theorem Ref.ph {M:Mem} {ρ:Pm} {id:Nat} (h:Ph M ρ id) (L:Nat):Ref M ρ id L=none:=by
  obtain ⟨o,h1,h2,h3⟩:=h
  simp [Ref,h1,h2,h3]
def cellV (V:Nat→Option Obj) (b k:Nat):Option Value:=
  match V b with
  | some (.cells c _ _)=>c[k]?
  | _=>none
inductive RC (S:TypeId→Nat) (V:Nat→Option Obj) (B:Nat) (R:RefF):AV→Value→Prop
  | undef (v:Value):RC S V B R .undef v
  | un:RC S V B R .un Go.undef
  | int (k:IntKind) (n:Int):RC S V B R (.int k n) (.int k n)
  | bool (b:Bool):RC S V B R (.bool b) (.bool b)
  | ub (b:Bool):RC S V B R .ub (.bool b)
  | str (s:List UInt8) (b:ByteArray) (h:b.data.toList=s):RC S V B R (.str s) (.string b)
  | agg (cs:List AV) (vs:Array Value) (hl:cs.length=vs.size) (h:∀ (i:Nat) x v,cs[i]? = some x→vs[i]? = some v→RC S V B R x v):RC S V B R (.agg cs) (.agg vs)
  | nils:RC S V B R .nils (.slice none 0 0)
  | nilp:RC S V B R .nilp (.pointer none)
  | slN (a:Option Addr) (c:Nat) (h:a=none→c=0):RC S V B R (.sl none []) (.slice a 0 c)
  | sle (a:Addr) (c:Nat):RC S V B R .sle (.slice (some a) 0 c)
  | slB (es:List (List AV)) (b off c s:Nat) (f:Nat→Nat→Value) (he:es≠[]) (hs:0 < s) (hes:∀ e ∈ es,e.length=s)
      (hc:∀ i j,i < es.length→j < s→cellV V b (off + (i * s + j))=some (f i j))
      (h:∀ (i j:Nat) e x,es[i]? = some e→e[j]? = some x→RC S V B R x (f i j)) (hcap:es.length≤c) (htr:∀ e ∈ es,∀ x ∈ e,treeOk x=true):RC S V B R (.sl none es) (.slice (some ⟨b,off,none⟩) es.length c)
  | slON (t:TypeId):RC S V B R (.sl (some t) []) (.slice none 0 0)
  | slO (t:TypeId) (es:List (List AV)) (b cap:Nat) (cs:Array Value) (f:Nat→Nat→Value) (hb:V b=some (.cells cs t (0,0))) (hB:B≤b) (hz:cs.size=cap * S t) (hs:0 < S t)
      (hl:es.length≤cap) (hm:cap≤maxLen) (hes:∀ e ∈ es,e.length=S t)
      (hc:∀ i j,i < es.length→j < S t→cs[i * S t + j]? = some (f i j))
      (h:∀ (i j:Nat) e x,es[i]? = some e→e[j]? = some x→RC S V B R x (f i j)) (htr:∀ e ∈ es,∀ x ∈ e,treeOk x=true):RC S V B R (.sl (some t) es) (.slice (some ⟨b,0,none⟩) es.length cap)
  | lit (t:TypeId) (es:List (List AV)) (b:Nat) (cs:Array Value) (f:Nat→Nat→Value) (hb:V b=some (.cells cs t (0,0))) (hB:B≤b) (hz:cs.size=es.length * S t) (hs:0 < S t)
      (hm:es.length≤maxLen) (hes:∀ e ∈ es,e.length=S t)
      (hc:∀ i j,i < es.length→j < S t→cs[i * S t + j]? = some (f i j))
      (h:∀ (i j:Nat) e x,es[i]? = some e→e[j]? = some x→RC S V B R x (f i j)) (htr:∀ e ∈ es,∀ x ∈ e,treeOk x=true):RC S V B R (.lit t es) (.slice (some ⟨b,0,none⟩) es.length es.length)
  | ptB (cs:List AV) (b off:Nat) (f:Nat→Value) (he:cs≠[]) (hc:∀ j,j < cs.length→cellV V b (off + j)=some (f j))
      (h:∀ (j:Nat) x,cs[j]? = some x→RC S V B R x (f j)) (htr:∀ x ∈ cs,treeOk x=true):RC S V B R (.pt none cs) (.pointer (some ⟨b,off,none⟩))
  | ptO (t:TypeId) (cs:List AV) (b:Nat) (c:Array Value) (f:Nat→Value) (hb:V b=some (.cells c t (0,0))) (hB:B≤b) (hz:c.size=S t) (hl:cs.length=S t) (hs:0 < S t)
      (hc:∀ j,j < cs.length→c[j]? = some (f j)) (h:∀ (j:Nat) x,cs[j]? = some x→RC S V B R x (f j)) (htr:∀ x ∈ cs,treeOk x=true):RC S V B R (.pt (some t) cs) (.pointer (some ⟨b,0,none⟩))
  | nslO (t:TypeId) (es:List (List AV)) (b cap:Nat) (cs:Array Value) (f:Nat→Nat→Value) (hb:V b=some (.cells cs t (0,0))) (hB:B≤b) (hz:cs.size=cap * S t) (hs:0 < S t)
      (hl:es.length≤cap) (hm:cap≤maxLen) (hes:∀ e ∈ es,e.length=S t)
      (hc:∀ i j,i < es.length→j < S t→cs[i * S t + j]? = some (f i j))
      (h:∀ (i j:Nat) e x,es[i]? = some e→e[j]? = some x→RC S V B R x (f i j)):RC S V B R (.nsl t es) (.slice (some ⟨b,0,none⟩) es.length cap)
  | nptB (cs:List AV) (b off:Nat) (f:Nat→Value) (hc:∀ j,j < cs.length→cellV V b (off + j)=some (f j))
      (h:∀ (j:Nat) x,cs[j]? = some x→RC S V B R x (f j)):RC S V B R (.npt cs) (.pointer (some ⟨b,off,none⟩))
  | locS (id L i j:Nat) (v:Value) (h:R id L=some none):RC S V B R (.loc id L i j) v
  | locV (id L i j b cap s:Nat) (h:R id L=some (some (some (b,cap),s))) (hi:i < L):RC S V B R (.loc id L i j) (.pointer (some ⟨b,i * s + j,none⟩))
  | lslS (id L off n:Nat) (v:Value) (h:R id L=some none):RC S V B R (.lsl id L off n) v
  | lslV (id L off n b cap s:Nat) (h:R id L=some (some (some (b,cap),s))) (hn:off + n≤L):RC S V B R (.lsl id L off n) (.slice (some ⟨b,off * s,none⟩) n (cap - off))
  | lslN (id s:Nat) (h:R id 0=some (some (none,s))):RC S V B R (.lsl id 0 0 0) (.slice none 0 0)
  | fn (f:Nat) (cap:List AV) (vs:Array Value) (hl:cap.length=vs.size) (h:∀ (i:Nat) x v,cap[i]? = some x→vs[i]? = some v→RC S V B R x v):RC S V B R (.fn f cap) (.func (.func f) #[] vs)
  | tup (cs:List AV) (vs:Array Value) (hl:cs.length=vs.size) (h:∀ (i:Nat) x v,cs[i]? = some x→vs[i]? = some v→RC S V B R x v):RC S V B R (.tup cs) (.tuple vs)
def RefLe (R R':RefF):Prop:=∀ id L,(R id L=some none→R' id L=some none)∧∀ x,R id L=some (some x)→R' id L=some none∨R' id L=some (some x)
def VLe (V V':Nat→Option Obj):Prop:=∀ b o,V b=some o→V' b=some o
theorem RefLe.refl (R:RefF):RefLe R R:=fun _ _=>⟨id,fun _ h=>.inr h⟩
theorem RefLe.trans {R R' R'':RefF} (h:RefLe R R') (k:RefLe R' R''):RefLe R R'':=fun id L=>
  ⟨fun e=>(k id L).1 ((h id L).1 e),fun x e=>by
    rcases (h id L).2 x e with e1 | e1
    · exact .inl ((k id L).1 e1)
    · exact (k id L).2 x e1⟩
theorem VLe.refl (V:Nat→Option Obj):VLe V V:=fun _ _ h=>h
theorem VLe.trans {V V' V'':Nat→Option Obj} (h:VLe V V') (k:VLe V' V''):VLe V V'':=fun b o e=>k b o (h b o e)
theorem VLe.cell {V V':Nat→Option Obj} (h:VLe V V') {b k:Nat} {v:Value} (e:cellV V b k=some v):cellV V' b k=some v:=by
  unfold cellV at *
  cases hv:V b with
  | none=>simp [hv] at e
  | some o=>rw [hv] at e; rw [h b o hv]; exact e
theorem RC.mono {S:TypeId→Nat} {V V':Nat→Option Obj} {B B':Nat} {R R':RefF} (hV:VLe V V') (hB:B'≤B) (hR:RefLe R R') {a:AV} {v:Value} (h:RC S V B R a v):RC S V' B' R' a v:=by
  induction h with
  | undef v=>exact .undef v
  | un=>exact .un
  | int k n=>exact .int k n
  | bool b=>exact .bool b
  | ub b=>exact .ub b
  | str s b h=>exact .str s b h
  | agg cs vs hl h ih=>exact .agg cs vs hl ih
  | nils=>exact .nils
  | nilp=>exact .nilp
  | slN a c h=>exact .slN a c h
  | sle a c=>exact .sle a c
  | slB es b off c s f he hs hes hc h hcap htr ih=>exact .slB es b off c s f he hs hes (fun i j hi hj=>hV.cell (hc i j hi hj)) ih hcap htr
  | slON t=>exact .slON t
  | slO t es b cap cs f hb hB' hz hs hl hm hes hc h htr ih=>exact .slO t es b cap cs f (hV _ _ hb) (Nat.le_trans hB hB') hz hs hl hm hes hc ih htr
  | lit t es b cs f hb hB' hz hs hm hes hc h htr ih=>exact .lit t es b cs f (hV _ _ hb) (Nat.le_trans hB hB') hz hs hm hes hc ih htr
  | ptB cs b off f he hc h htr ih=>exact .ptB cs b off f he (fun j hj=>hV.cell (hc j hj)) ih htr
  | ptO t cs b c f hb hB' hz hl hs hc h htr ih=>exact .ptO t cs b c f (hV _ _ hb) (Nat.le_trans hB hB') hz hl hs hc ih htr
  | nslO t es b cap cs f hb hB' hz hs hl hm hes hc h ih=>exact .nslO t es b cap cs f (hV _ _ hb) (Nat.le_trans hB hB') hz hs hl hm hes hc ih
  | nptB cs b off f hc h ih=>exact .nptB cs b off f (fun j hj=>hV.cell (hc j hj)) ih
  | locS id L i j v h=>exact .locS id L i j v ((hR id L).1 h)
  | locV id L i j b cap s h hi=>
    rcases (hR id L).2 _ h with e | e
    · exact .locS id L i j _ e
    · exact .locV id L i j b cap s e hi
  | lslS id L off n v h=>exact .lslS id L off n v ((hR id L).1 h)
  | lslV id L off n b cap s h hn=>
    rcases (hR id L).2 _ h with e | e
    · exact .lslS id L off n _ e
    · exact .lslV id L off n b cap s e hn
  | lslN id s h=>
    rcases (hR id 0).2 _ h with e | e
    · exact .lslS id 0 0 0 _ e
    · exact .lslN id s e
  | fn f cap vs hl h ih=>exact .fn f cap vs hl ih
  | tup cs vs hl h ih=>exact .tup cs vs hl ih
def Held (M:Mem) (ρ:Pm) (b:Nat):Prop:=∃ id o c,M[id]? = some (.live o)∧ρ id=some (b,c)
open Classical in
noncomputable def View (w:World) (M:Mem) (ρ:Pm) (b:Nat):Option Obj:=if Held M ρ b∨ρ.hid b then none else w.heap[b]?
theorem View.of_not {w:World} {M:Mem} {ρ:Pm} {b:Nat} (h:¬ Held M ρ b) (h':¬ ρ.hid b):View w M ρ b=w.heap[b]? := by simp [View,h,h']
theorem View.some {w:World} {M:Mem} {ρ:Pm} {b:Nat} {o:Obj} (h:View w M ρ b=some o):¬ Held M ρ b∧w.heap[b]? = Option.some o:=by
  unfold View at h
  split at h
  · cases h
  · rename_i hn; exact ⟨fun e=>hn (.inl e),h⟩
theorem View.nhid {w:World} {M:Mem} {ρ:Pm} {b:Nat} {o:Obj} (h:View w M ρ b=Option.some o):¬ ρ.hid b:=by
  unfold View at h
  split at h
  · cases h
  · rename_i hn; exact fun e=>hn (.inr e)
theorem View.lt {w:World} {M:Mem} {ρ:Pm} {b:Nat} {o:Obj} (h:View w M ρ b=Option.some o):b < w.heap.size:=by
  have:=(View.some h).2
  exact (Array.getElem?_eq_some_iff.1 this).1
def ObR (S:TypeId→Nat) (w:World) (V:Nat→Option Obj) (B:Nat) (R:RefF) (o:Ob) (pl:Pl):Prop:=
  o.s=S o.t∧0 < o.s∧(∀ e ∈ o.es,e.length=o.s)∧(∀ e ∈ o.es,∀ x ∈ e,cellOk x=true) ∧
  match pl with
  | none=>o.kn = .grow→o.es=[]
  | some (b,cap)=>∃ cs:Array Value,∃ f:Nat→Nat→Value,w.heap[b]? = some (.cells cs o.t (0,0))∧cs.size=cap * o.s∧o.es.length≤cap∧cap≤maxLen∧(o.kn = .box→o.es.length=1∧cap=1) ∧
      (∀ i j,i < o.es.length→j < o.s→cs[i * o.s + j]? = some (f i j))∧(∀ (i j:Nat) e x,o.es[i]? = some e→e[j]? = some x→RC S V B R x (f i j))
def FxOk (B:Nat) (w:World):Prop:=(∀ p ∈ FX,p.1 < B∧∃ t z,w.heap[p.1]? = some (.cells p.2 t z))∧∀ g ∈ FXI,g < B∧∃ cs t z m,w.heap[g]? = some (.cells cs t z)∧cs[0]? = some (.int .i64 m)
theorem FxOk.mono {B B':Nat} {w w':World} (h:FxOk B w) (hB:B≤B') (hb:∀ b,b < B→w'.heap[b]? = w.heap[b]?):FxOk B' w':=by
  refine ⟨fun p hp=>?_,fun g hg=>?_⟩
  · obtain ⟨h1,t,z,h2⟩:=h.1 p hp
    exact ⟨Nat.lt_of_lt_of_le h1 hB,t,z,by rw [hb p.1 h1]; exact h2⟩
  · obtain ⟨h1,cs,t,z,m,h2,h3⟩:=h.2 g hg
    exact ⟨Nat.lt_of_lt_of_le h1 hB,cs,t,z,m,by rw [hb g h1]; exact h2,h3⟩
structure MR (S:TypeId→Nat) (B:Nat) (w:World) (M:Mem) (ρ:Pm):Prop where
  obj:∀ id o,M[id]? = some (.live o)→ObR S w (View w M ρ) B (Ref M ρ) o (ρ id)
  inj:∀ (id id':Nat) o o' b c c',M[id]? = some (.live o)→M[id']? = some (.live o')→ρ id=some (b,c)→ρ id'=some (b,c')→id=id'
  hid:∀ b,ρ.hid b→b < B
  lo:B≤w.heap.size∧∀ id o b c,M[id]? = some (.live o)→ρ id=some (b,c)→B≤b
  fx:FxOk B w
abbrev RV (S:TypeId→Nat) (B:Nat) (w:World) (M:Mem) (ρ:Pm):AV→Value→Prop:=RC S (View w M ρ) B (Ref M ρ)
structure Step (w:World) (M:Mem) (ρ:Pm) (w':World) (M':Mem) (ρ':Pm):Prop where
  os:w'.os=w.os
  tape:w'.tape=w.tape
  output:w'.output=w.output
  size:w.heap.size≤w'.heap.size
  block:∀ b,b < w.heap.size→¬ Held M ρ b→w'.heap[b]? = w.heap[b]?
  ref:RefLe (Ref M ρ) (Ref M' ρ')
  held:∀ b,b < w.heap.size→Held M' ρ' b→Held M ρ b
  hid:ρ'.hid=ρ.hid
  ph:∀ id,Ph M ρ id→Ph M' ρ' id∨M'[id]? = some .dead
theorem dead_stays {M M':Mem} {ρ ρ':Pm} (h:RefLe (Ref M ρ) (Ref M' ρ')) {id:Nat} (hd:M[id]? = some .dead):M'[id]? = some .dead:=by
  have h1:∀ L,Ref M' ρ' id L=some none:=fun L=>(h id L).1 (by simp [Ref,hd])
  cases hm:M'[id]? with
  | none=>have:=h1 0; simp [Ref,hm] at this
  | some en=>
    cases en with
    | dead=>rfl
    | pend=>have:=h1 0; simp [Ref,hm] at this
    | live o=>
      have:=h1 (o.es.length + 1)
      simp only [Ref,hm] at this
      split at this
      · cases this
      · rw [if_neg (by omega),if_neg (by omega)] at this; cases this
theorem Step.refl (w:World) (M:Mem) (ρ:Pm):Step w M ρ w M ρ:=⟨rfl,rfl,rfl,Nat.le_refl _,fun _ _ _=>rfl,RefLe.refl _,fun _ _ h=>h,rfl,fun _ h=>.inl h⟩
theorem Step.trans {w w1 w2:World} {M M1 M2:Mem} {ρ ρ1 ρ2:Pm} (h:Step w M ρ w1 M1 ρ1) (k:Step w1 M1 ρ1 w2 M2 ρ2):Step w M ρ w2 M2 ρ2:=
  ⟨k.os.trans h.os,k.tape.trans h.tape,k.output.trans h.output,Nat.le_trans h.size k.size,
   fun b hb hn=>(k.block b (Nat.lt_of_lt_of_le hb h.size) (fun hh=>hn (h.held b hb hh))).trans (h.block b hb hn),
   h.ref.trans k.ref,fun b hb hh=>h.held b hb (k.held b (Nat.lt_of_lt_of_le hb h.size) hh),k.hid.trans h.hid,fun id hp=>(h.ph id hp).elim (k.ph id) (fun hd=>.inr (dead_stays k.ref hd))⟩
theorem Step.view {w w':World} {M M':Mem} {ρ ρ':Pm} (h:Step w M ρ w' M' ρ'):VLe (View w M ρ) (View w' M' ρ'):=by
  intro b o hv
  obtain ⟨hn,hw⟩:=View.some hv
  have hb:=View.lt hv
  rw [View.of_not (fun hh=>hn (h.held b hb hh)) (by rw [h.hid]; exact View.nhid hv),h.block b hb hn,hw]
theorem Step.rv {S:TypeId→Nat} {B:Nat} {w w':World} {M M':Mem} {ρ ρ':Pm} (h:Step w M ρ w' M' ρ') {a:AV} {v:Value} (hv:RV S B w M ρ a v):RV S B w' M' ρ' a v:=
  RC.mono h.view (Nat.le_refl _) h.ref hv
end Go.Ab
