/- How abstract values and the abstract store stand to the machine's world. -/
import Derived.Test.YtkdinadmheomfaaGreatAbCore
set_option linter.unusedVariables false
namespace Go.Ab
open Go Go.RowKit
abbrev Pl:=Option (Nat×Nat)
structure Pm where
  get:Nat->Pl
  hid:Nat->Prop
instance:CoeFun Pm fun _=>Nat->Pl:=⟨Pm.get⟩
abbrev gC:=Nat->Nat->Option (Option (Pl×Nat))
def jK (M:bs) (ρ:Pm) (id L:Nat):Option (Option (Pl×Nat)):=
  match M[id]? with
  | some .dead=>some none
  | some (.live o)=>if o.kn = .box/\ρ id=none then none else if o.es.length=L then some (some (ρ id,o.s)) else if L < o.es.length then some none else none
  | _=>none
def Ph (M:bs) (ρ:Pm) (id:Nat):Prop:=∃ o,M[id]? = some (.live o)/\o.kn = .box/\ρ id=none
theorem jK.ph {M:bs} {ρ:Pm} {id:Nat} (h:Ph M ρ id) (L:Nat):jK M ρ id L=none:=by
  obtain ⟨o,D,F,G⟩:=h
  simp [jK,D,F,G]
def jJ (V:Nat->Option Obj) (b k:Nat):Option Value:=
  match V b with
  | some (.cells c _ _)=>c[k]?
  | _=>none
inductive RC (S:TypeId->Nat) (V:Nat->Option Obj) (B:Nat) (R:gC):AV->Value->Prop
  | undef (v:Value):RC S V B R .undef v
  | un:RC S V B R .un Go.undef
  | int (k:IntKind) (n:Int):RC S V B R (.int k n) (.int k n)
  | bool (b:Bool):RC S V B R (.bool b) (.bool b)
  | ub (b:Bool):RC S V B R .ub (.bool b)
  | str (s:List UInt8) (b:ByteArray) (h:b.data.toList=s):RC S V B R (.str s) (.string b)
  | agg (cs:List AV) (vs:Array Value) (hl:cs.length=vs.size) (h:∀ (i:Nat) x v,cs[i]? = some x->vs[i]? = some v->RC S V B R x v):RC S V B R (.agg cs) (.agg vs)
  | nils:RC S V B R .nils (.slice none 0 0)
  | nilp:RC S V B R .nilp (.pointer none)
  | slN (a:Option Addr) (c:Nat) (h:a=none->c=0):RC S V B R (.sl none []) (.slice a 0 c)
  | sle (a:Addr) (c:Nat):RC S V B R .sle (.slice (some a) 0 c)
  | slB (es:List (List AV)) (b off c s:Nat) (f:Nat->Nat->Value) (he:es≠[]) (hs:0 < s) (hes:∀ e ∈ es,e.length=s)
      (hc:∀ i j,i < es.length->j < s->jJ V b (off + (i * s + j))=some (f i j))
      (h:∀ (i j:Nat) e x,es[i]? = some e->e[j]? = some x->RC S V B R x (f i j)) (hcap:es.length<=c) (htr:∀ e ∈ es,∀ x ∈ e,cG x=true):RC S V B R (.sl none es) (.slice (some ⟨b,off,none⟩) es.length c)
  | slON (t:TypeId):RC S V B R (.sl (some t) []) (.slice none 0 0)
  | slO (t:TypeId) (es:List (List AV)) (b cap:Nat) (cs:Array Value) (f:Nat->Nat->Value) (hb:V b=some (.cells cs t (0,0))) (hB:B<=b) (hz:cs.size=cap * S t) (hs:0 < S t)
      (hl:es.length<=cap) (hm:cap<=maxLen) (hes:∀ e ∈ es,e.length=S t)
      (hc:∀ i j,i < es.length->j < S t->cs[i * S t + j]? = some (f i j))
      (h:∀ (i j:Nat) e x,es[i]? = some e->e[j]? = some x->RC S V B R x (f i j)) (htr:∀ e ∈ es,∀ x ∈ e,cG x=true):RC S V B R (.sl (some t) es) (.slice (some ⟨b,0,none⟩) es.length cap)
  | lit (t:TypeId) (es:List (List AV)) (b:Nat) (cs:Array Value) (f:Nat->Nat->Value) (hb:V b=some (.cells cs t (0,0))) (hB:B<=b) (hz:cs.size=es.length * S t) (hs:0 < S t)
      (hm:es.length<=maxLen) (hes:∀ e ∈ es,e.length=S t)
      (hc:∀ i j,i < es.length->j < S t->cs[i * S t + j]? = some (f i j))
      (h:∀ (i j:Nat) e x,es[i]? = some e->e[j]? = some x->RC S V B R x (f i j)) (htr:∀ e ∈ es,∀ x ∈ e,cG x=true):RC S V B R (.lit t es) (.slice (some ⟨b,0,none⟩) es.length es.length)
  | ptB (cs:List AV) (b off:Nat) (f:Nat->Value) (he:cs≠[]) (hc:∀ j,j < cs.length->jJ V b (off + j)=some (f j))
      (h:∀ (j:Nat) x,cs[j]? = some x->RC S V B R x (f j)) (htr:∀ x ∈ cs,cG x=true):RC S V B R (.pt none cs) (.pointer (some ⟨b,off,none⟩))
  | ptO (t:TypeId) (cs:List AV) (b:Nat) (c:Array Value) (f:Nat->Value) (hb:V b=some (.cells c t (0,0))) (hB:B<=b) (hz:c.size=S t) (hl:cs.length=S t) (hs:0 < S t)
      (hc:∀ j,j < cs.length->c[j]? = some (f j)) (h:∀ (j:Nat) x,cs[j]? = some x->RC S V B R x (f j)) (htr:∀ x ∈ cs,cG x=true):RC S V B R (.pt (some t) cs) (.pointer (some ⟨b,0,none⟩))
  | nslO (t:TypeId) (es:List (List AV)) (b cap:Nat) (cs:Array Value) (f:Nat->Nat->Value) (hb:V b=some (.cells cs t (0,0))) (hB:B<=b) (hz:cs.size=cap * S t) (hs:0 < S t)
      (hl:es.length<=cap) (hm:cap<=maxLen) (hes:∀ e ∈ es,e.length=S t)
      (hc:∀ i j,i < es.length->j < S t->cs[i * S t + j]? = some (f i j))
      (h:∀ (i j:Nat) e x,es[i]? = some e->e[j]? = some x->RC S V B R x (f i j)):RC S V B R (.nsl t es) (.slice (some ⟨b,0,none⟩) es.length cap)
  | nptB (cs:List AV) (b off:Nat) (f:Nat->Value) (hc:∀ j,j < cs.length->jJ V b (off + j)=some (f j))
      (h:∀ (j:Nat) x,cs[j]? = some x->RC S V B R x (f j)):RC S V B R (.npt cs) (.pointer (some ⟨b,off,none⟩))
  | locS (id L i j:Nat) (v:Value) (h:R id L=some none):RC S V B R (.loc id L i j) v
  | locV (id L i j b cap s:Nat) (h:R id L=some (some (some (b,cap),s))) (hi:i < L):RC S V B R (.loc id L i j) (.pointer (some ⟨b,i * s + j,none⟩))
  | lslS (id L off n:Nat) (v:Value) (h:R id L=some none):RC S V B R (.lsl id L off n) v
  | lslV (id L off n b cap s:Nat) (h:R id L=some (some (some (b,cap),s))) (hn:off + n<=L):RC S V B R (.lsl id L off n) (.slice (some ⟨b,off * s,none⟩) n (cap - off))
  | lslN (id s:Nat) (h:R id 0=some (some (none,s))):RC S V B R (.lsl id 0 0 0) (.slice none 0 0)
  | fn (f:Nat) (cap:List AV) (vs:Array Value) (hl:cap.length=vs.size) (h:∀ (i:Nat) x v,cap[i]? = some x->vs[i]? = some v->RC S V B R x v):RC S V B R (.fn f cap) (.func (.func f) #[] vs)
  | tup (cs:List AV) (vs:Array Value) (hl:cs.length=vs.size) (h:∀ (i:Nat) x v,cs[i]? = some x->vs[i]? = some v->RC S V B R x v):RC S V B R (.tup cs) (.tuple vs)
def rk (R R':gC):Prop:=∀ id L,(R id L=some none->R' id L=some none)/\∀ x,R id L=some (some x)->R' id L=some none∨R' id L=some (some x)
def zb (V V':Nat->Option Obj):Prop:=∀ b o,V b=some o->V' b=some o
theorem rk.refl (R:gC):rk R R:=fun _ _=>⟨id,fun _ h=>.inr h⟩
theorem rk.trans {R R' D:gC} (h:rk R R') (k:rk R' D):rk R D:=fun id L=>
  ⟨fun e=>(k id L).1 ((h id L).1 e),fun x e=>by
    rcases (h id L).2 x e with e1 | e1
    · exact .inl ((k id L).1 e1)
    · exact (k id L).2 x e1⟩
theorem zb.refl (V:Nat->Option Obj):zb V V:=fun _ _ h=>h
theorem zb.trans {V V' D:Nat->Option Obj} (h:zb V V') (k:zb V' D):zb V D:=fun b o e=>k b o (h b o e)
theorem zb.cell {V V':Nat->Option Obj} (h:zb V V') {b k:Nat} {v:Value} (e:jJ V b k=some v):jJ V' b k=some v:=by
  unfold jJ at *
  cases hv:V b with
  | none=>simp [hv] at e
  | some o=>rw [hv] at e; rw [h b o hv]; exact e
theorem RC.mono {S:TypeId->Nat} {V V':Nat->Option Obj} {B B':Nat} {R R':gC} (hV:zb V V') (ab:B'<=B) (Y:rk R R') {a:AV} {v:Value} (h:RC S V B R a v):RC S V' B' R' a v:=by
  induction h with
  | undef v=>exact .undef v
  | un=>exact .un
  | int k n=>exact .int k n
  | bool b=>exact .bool b
  | ub b=>exact .ub b
  | str s b h=>exact .str s b h
  | agg cs vs G h D=>exact .agg cs vs G D
  | nils=>exact .nils
  | nilp=>exact .nilp
  | slN a c h=>exact .slN a c h
  | sle a c=>exact .sle a c
  | slB es b off c s f ac I U F h ae J D=>exact .slB es b off c s f ac I U (fun i j ad Z=>hV.cell (F i j ad Z)) D ae J
  | slON t=>exact .slON t
  | slO t es b cap cs f O N X I G aa U F h J D=>exact .slO t es b cap cs f (hV _ _ O) (Nat.le_trans ab N) X I G aa U F D J
  | lit t es b cs f O N X I aa U F h J D=>exact .lit t es b cs f (hV _ _ O) (Nat.le_trans ab N) X I aa U F D J
  | ptB cs b off f ac F h J D=>exact .ptB cs b off f ac (fun j Z=>hV.cell (F j Z)) D J
  | ptO t cs b c f O N X G I F h J D=>exact .ptO t cs b c f (hV _ _ O) (Nat.le_trans ab N) X G I F D J
  | nslO t es b cap cs f O N X I G aa U F h D=>exact .nslO t es b cap cs f (hV _ _ O) (Nat.le_trans ab N) X I G aa U F D
  | nptB cs b off f F h D=>exact .nptB cs b off f (fun j Z=>hV.cell (F j Z)) D
  | locS id L i j v h=>exact .locS id L i j v ((Y id L).1 h)
  | locV id L i j b cap s h ad=>
    rcases (Y id L).2 _ h with e | e
    · exact .locS id L i j _ e
    · exact .locV id L i j b cap s e ad
  | lslS id L off n v h=>exact .lslS id L off n v ((Y id L).1 h)
  | lslV id L off n b cap s h af=>
    rcases (Y id L).2 _ h with e | e
    · exact .lslS id L off n _ e
    · exact .lslV id L off n b cap s e af
  | lslN id s h=>
    rcases (Y id 0).2 _ h with e | e
    · exact .lslS id 0 0 0 _ e
    · exact .lslN id s e
  | fn f cap vs G h D=>exact .fn f cap vs G D
  | tup cs vs G h D=>exact .tup cs vs G D
def oQ (M:bs) (ρ:Pm) (b:Nat):Prop:=∃ id o c,M[id]? = some (.live o)/\ρ id=some (b,c)
open Classical in
noncomputable def dc (w:World) (M:bs) (ρ:Pm) (b:Nat):Option Obj:=if oQ M ρ b∨ρ.hid b then none else w.heap[b]?
theorem dc.of_not {w:World} {M:bs} {ρ:Pm} {b:Nat} (h:¬ oQ M ρ b) (D:¬ ρ.hid b):dc w M ρ b=w.heap[b]? := by simp [dc,h,D]
theorem dc.some {w:World} {M:bs} {ρ:Pm} {b:Nat} {o:Obj} (h:dc w M ρ b=some o):¬ oQ M ρ b/\w.heap[b]? = Option.some o:=by
  unfold dc at h
  split at h
  · cases h
  · rename_i D; exact ⟨fun e=>D (.inl e),h⟩
theorem dc.nhid {w:World} {M:bs} {ρ:Pm} {b:Nat} {o:Obj} (h:dc w M ρ b=Option.some o):¬ ρ.hid b:=by
  unfold dc at h
  split at h
  · cases h
  · rename_i D; exact fun e=>D (.inr e)
theorem dc.lt {w:World} {M:bs} {ρ:Pm} {b:Nat} {o:Obj} (h:dc w M ρ b=Option.some o):b < w.heap.size:=by
  have:=(dc.some h).2
  exact (Array.getElem?_eq_some_iff.1 this).1
def NZ (S:TypeId->Nat) (w:World) (V:Nat->Option Obj) (B:Nat) (R:gC) (o:Ob) (D:Pl):Prop:=
  o.s=S o.t/\0 < o.s/\(∀ e ∈ o.es,e.length=o.s)/\(∀ e ∈ o.es,∀ x ∈ e,gB x=true) /\
  match D with
  | none=>o.kn = .grow->o.es=[]
  | some (b,cap)=>∃ cs:Array Value,∃ f:Nat->Nat->Value,w.heap[b]? = some (.cells cs o.t (0,0))/\cs.size=cap * o.s/\o.es.length<=cap/\cap<=maxLen/\(o.kn = .box->o.es.length=1/\cap=1) /\
      (∀ i j,i < o.es.length->j < o.s->cs[i * o.s + j]? = some (f i j))/\(∀ (i j:Nat) e x,o.es[i]? = some e->e[j]? = some x->RC S V B R x (f i j))
def F8 (B:Nat) (w:World):Prop:=(∀ p ∈ FX,p.1 < B/\∃ t z,w.heap[p.1]? = some (.cells p.2 t z))/\∀ g ∈ OP,g < B/\∃ cs t z m,w.heap[g]? = some (.cells cs t z)/\cs[0]? = some (.int .i64 m)
theorem F8.mono {B B':Nat} {w w':World} (h:F8 B w) (G:B<=B') (I:∀ b,b < B->w'.heap[b]? = w.heap[b]?):F8 B' w':=by
  refine ⟨fun p O=>?_,fun g N=>?_⟩
  · obtain ⟨D,t,z,F⟩:=h.1 p O
    exact ⟨Nat.lt_of_lt_of_le D G,t,z,by rw [I p.1 D]; exact F⟩
  · obtain ⟨D,cs,t,z,m,F,J⟩:=h.2 g N
    exact ⟨Nat.lt_of_lt_of_le D G,cs,t,z,m,by rw [I g D]; exact F,J⟩
structure MR (S:TypeId->Nat) (B:Nat) (w:World) (M:bs) (ρ:Pm):Prop where
  obj:∀ id o,M[id]? = some (.live o)->NZ S w (dc w M ρ) B (jK M ρ) o (ρ id)
  inj:∀ (id id':Nat) o o' b c c',M[id]? = some (.live o)->M[id']? = some (.live o')->ρ id=some (b,c)->ρ id'=some (b,c')->id=id'
  hid:∀ b,ρ.hid b->b < B
  lo:B<=w.heap.size/\∀ id o b c,M[id]? = some (.live o)->ρ id=some (b,c)->B<=b
  fx:F8 B w
abbrev RV (S:TypeId->Nat) (B:Nat) (w:World) (M:bs) (ρ:Pm):AV->Value->Prop:=RC S (dc w M ρ) B (jK M ρ)
structure Step (w:World) (M:bs) (ρ:Pm) (w':World) (M':bs) (ρ':Pm):Prop where
  os:w'.os=w.os
  tape:w'.tape=w.tape
  output:w'.output=w.output
  size:w.heap.size<=w'.heap.size
  block:∀ b,b < w.heap.size->¬ oQ M ρ b->w'.heap[b]? = w.heap[b]?
  ref:rk (jK M ρ) (jK M' ρ')
  held:∀ b,b < w.heap.size->oQ M' ρ' b->oQ M ρ b
  hid:ρ'.hid=ρ.hid
  ph:∀ id,Ph M ρ id->Ph M' ρ' id∨M'[id]? = some .dead
theorem zX {M M':bs} {ρ ρ':Pm} (h:rk (jK M ρ) (jK M' ρ')) {id:Nat} (G:M[id]? = some .dead):M'[id]? = some .dead:=by
  have D:∀ L,jK M' ρ' id L=some none:=fun L=>(h id L).1 (by simp [jK,G])
  cases hm:M'[id]? with
  | none=>have:=D 0; simp [jK,hm] at this
  | some F=>
    cases F with
    | dead=>rfl
    | pend=>have:=D 0; simp [jK,hm] at this
    | live o=>
      have:=D (o.es.length + 1)
      simp only [jK,hm] at this
      split at this
      · cases this
      · rw [if_neg (by omega),if_neg (by omega)] at this; cases this
theorem Step.refl (w:World) (M:bs) (ρ:Pm):Step w M ρ w M ρ:=⟨rfl,rfl,rfl,Nat.le_refl _,fun _ _ _=>rfl,rk.refl _,fun _ _ h=>h,rfl,fun _ h=>.inl h⟩
theorem Step.trans {w N O:World} {M G I:bs} {ρ U X:Pm} (h:Step w M ρ N G U) (k:Step N G U O I X):Step w M ρ O I X:=
  ⟨k.os.trans h.os,k.tape.trans h.tape,k.output.trans h.output,Nat.le_trans h.size k.size,
   fun b D J=>(k.block b (Nat.lt_of_lt_of_le D h.size) (fun F=>J (h.held b D F))).trans (h.block b D J),
   h.ref.trans k.ref,fun b D F=>h.held b D (k.held b (Nat.lt_of_lt_of_le D h.size) F),k.hid.trans h.hid,fun id Z=>(h.ph id Z).elim (k.ph id) (fun Y=>.inr (zX k.ref Y))⟩
theorem Step.view {w w':World} {M M':bs} {ρ ρ':Pm} (h:Step w M ρ w' M' ρ'):zb (dc w M ρ) (dc w' M' ρ'):=by
  intro b o D
  obtain ⟨G,J⟩:=dc.some D
  have F:=dc.lt D
  rw [dc.of_not (fun I=>G (h.held b F I)) (by rw [h.hid]; exact dc.nhid D),h.block b F G,J]
theorem Step.rv {S:TypeId->Nat} {B:Nat} {w w':World} {M M':bs} {ρ ρ':Pm} (h:Step w M ρ w' M' ρ') {a:AV} {v:Value} (D:RV S B w M ρ a v):RV S B w' M' ρ' a v:=
  RC.mono h.view (Nat.le_refl _) h.ref D
end Go.Ab
