/- Results of a call that may only read; rows it fg made. -/
import Derived.Test.YtkdinadmheomfaaGreatAbCall
set_option linter.unusedVariables false
set_option linter.unusedSimpArgs false
namespace Go.Ab
open Go Go.RowKit
theorem y5 {S:TypeId->Nat} {V V':Nat->Option Obj} {B B':Nat} {R R':gC} {x:AV} {v:Value} (h:oF x=true) (D:RC S V B R x v):RC S V' B' R' x v:=by
 cases D <;> first | exact .int _ _ | exact .bool _ | exact .str _ _ (by assumption) | simp [oF] at h
theorem Gu {x:AV} (h:oF x=true):cG x=true:=by cases x <;> first | rfl | simp [oF] at h
section
variable {P:Program} {S:TypeId->Nat} {B B':Nat} {w w':World} {M A A':bs} {ρ ρ':Pm} {V:Nat->Option Obj} {R':gC}
theorem se.takeN {V:Nat->Option Obj} {B:Nat} {R:gC} {s:Nat} {es:List (List AV)} {xs:List Value} (h:se S V B R s es xs) (n:Nat):se S V B R s (es.take n) (xs.take ((es.take n).length * s)):=by
 obtain ⟨U,I,J⟩:=h
 have O:(es.take n).length<=es.length:=by rw [List.length_take]; omega
 have X:=Nat.mul_le_mul_right s O
 refine ⟨by rw [List.length_take]; omega,fun e N=>I e (List.mem_of_mem_take N),fun i j e x v D G F=>?_⟩
 rw [List.getElem?_take] at D F
 split at D
 ·split at F
  ·exact J i j e x v D G F
  ·cases F
 ·cases D
theorem Kh {x:AV} {v:Value} (ac:NX x=true) (I:zb (dc w M ρ) V) (O:B<=B') (U:∀ b,B'<=b->V b=w.heap[b]?) (N:RV S B' w M ρ x v):RC S V B R' x v:=by
 by_cases ht:cG x=true
 ·exact N.tree ht I
 ·cases x with
  | sl q es=>
   cases q with
   | none=>exact absurd rfl ht
   | some t=>
    cases N with
    | slON=>exact .slON t
    | slO t es b cap cs f X G ae ad aa ab Z Y h J=>
     exact .slO t es b cap cs f (by rw [U b G]; exact (dc.some X).2) (Nat.le_trans O G) ae ad aa ab Z Y (fun i j e x D F=>(h i j e x D F).tree (J e (List.mem_of_getElem? D) x (List.mem_of_getElem? F)) I) J
  | _=>exact absurd ac ht
theorem Dg (hA:MR S B' w M ρ) (ai:B<=B') (Z:∀ b,B'<=b->V b=w.heap[b]?) {x:AV} {v:Value} (D:zb (dc w M ρ) V∨q9 (mb M x)=true) (F:RV S B' w M ρ x v):RC S V B R' (mb M x) v:=by
 have aw:=fN.refl M
 have aR:∀ b,oQ M ρ b->V b=w.heap[b]? := fun b ⟨id,o,c,N,O⟩=>Z b (hA.lo.2 id o b c N O)
 have cell:∀ (t:TypeId) (es:List (List AV)),zb (dc w M ρ) V∨q9 (.sl (some t) es)=true->∀ e ∈ es,∀ x ∈ e,cG x=true->∀ v,RV S B' w M ρ x v->RC S V B R' x v:=by
  intro t es h e aa x F aT v ax
  rcases h with h | h
  ·exact ax.tree aT h
  ·exact y5 (List.all_eq_true.1 (List.all_eq_true.1 h e aa) x F) ax
 cases x with
 | lsl id L off n=>
  simp only [mb] at D ⊢
  split
  ·rename_i o X
   obtain ⟨ah,aM⟩:=eo X
   split
   ·rename_i J
    rw [X] at D
    simp only [if_pos J] at D
    obtain ⟨aJ,aB,am,aC⟩:=J
    subst aB
    have aK:∀ e ∈ o.es.take n,∀ x ∈ e,cG x=true:=fun e aa=>mW aC e (List.mem_of_mem_take aa)
    have aO:(o.es.take n).length=n:=by rw [List.length_take]; omega
    rcases jO aw F X with ⟨b,cap,ak,aS,rfl⟩ | ⟨_,aP,_,aU,rfl⟩
    ·obtain ⟨cs,aq,ac,aG,ay,ad,ae,G⟩:=po hA ah ak
     obtain ⟨af,aH,aA,aI,ar⟩:=hA.obj id o ah
     rw [Nat.zero_mul,Nat.sub_zero]
     rw [af] at ac ad G
     have az:=G.takeN n
     rw [List.take_take,Nat.min_eq_left (Nat.mul_le_mul_right _ (by rw [aO]; omega))] at az
     have:=kL (S:=S) (V:=V) (B:=B) (R:=R') (t:=o.t) (es:=o.es.take n) (cap:=cap) (by rw [Z b ae]; exact aq) (Nat.le_trans ai ae) ac ad (by omega) ay ⟨az.1,az.2.1,fun i j e x v N O U=>?_⟩ aK
     ·rw [aO] at this
      exact this
     ·exact cell o.t (o.es.take n) D e (List.mem_of_getElem? N) x (List.mem_of_getElem? O) (aK e (List.mem_of_getElem? N) x (List.mem_of_getElem? O)) v (az.2.2 i j e x v N O U)
    ·have:o.es.take n=[]:=List.length_eq_zero_iff.1 (by omega)
     rw [this]
     exact .slON _
   ·rename_i J
    rw [X] at D
    simp only [if_neg J] at D
    split
    ·rename_i au
     simp only [if_pos au] at D
     obtain ⟨aJ,aB,am,aC⟩:=au
     subst aB
     subst am
     have D:zb (dc w M ρ) V:=D.resolve_right (by simp [q9])
     rcases jO aw F X with ⟨b,cap,ak,aS,rfl⟩ | ⟨_,aP,_,_,rfl⟩
     ·obtain ⟨cs,aq,ac,aG,ay,ad,ae,G⟩:=po hA ah ak
      obtain ⟨af,aH,aA,aI,ar⟩:=hA.obj id o ah
      rw [Nat.zero_mul,Nat.sub_zero,<- aM]
      rw [af] at ac ad G
      refine .nslO o.t o.es b cap cs (fun i j=>(cs.toList.take (o.es.length * S o.t)).getD (i * S o.t + j) Go.undef) (by rw [Z b ae]; exact aq) (Nat.le_trans ai ae) ac ad aG ay G.2.1 (fun i j av I=>?_) (fun i j e x aa aF=>?_)
      ·have:=G.cell av I
       have U:=this
       rw [List.getElem?_take] at U
       split at U
       ·rw [<- this,List.getElem?_take,if_pos (by assumption)]; simp
       ·cases U
      ·have av:=(List.getElem?_eq_some_iff.1 aa).1
       have I:=(List.getElem?_eq_some_iff.1 aF).1
       rw [G.2.1 e (List.mem_of_getElem? aa)] at I
       have ax:=G.2.2 i j e x _ aa aF (G.cell av I)
       exact Kh (List.all_eq_true.1 (List.all_eq_true.1 aC e (List.mem_of_getElem? aa)) x (List.mem_of_getElem? aF)) D ai Z ax
     ·have:o.es=[]:=List.length_eq_zero_iff.1 (by omega)
      exact absurd ⟨aJ,rfl,by omega,by rw [this]; rfl⟩ J
    ·rename_i au
     simp only [if_neg au] at D
     rcases D with D | D
     ·exact tL aw hA D 4 _ v (fun _=>aR) F
     ·simp only [ls] at D ⊢
      split at D
      ·split at D
       ·simp [q9] at D
       ·unfold z0 at D
        split at D <;> simp [q9] at D
      ·simp [q9] at D
  ·exact .undef v
 | loc id L i j=>
  simp only [mb] at D ⊢
  split
  ·rename_i o X
   obtain ⟨ah,aM⟩:=eo X
   split
   ·rename_i cs aN aj
    split
    ·rename_i J
     rw [X] at D
     simp only [aN,aj,if_pos J] at D
     obtain ⟨rfl,rfl,am⟩:=J
     obtain ⟨b,cap,ak,av,rfl⟩:=qG aw F X
     obtain ⟨aL,aq,ac,aG,ay,ad,ae,G⟩:=po hA ah ak
     obtain ⟨af,aH,aA,aI,ar⟩:=hA.obj id o ah
     rw [ak] at ar
     obtain ⟨_,_,_,_,_,_,q,_⟩:=ar
     obtain ⟨_,rfl⟩:=q aN
     rw [Nat.one_mul,af] at ac
     have aQ:cs.length=S o.t:=by rw [<- af]; exact aA cs (by rw [aj]; simp)
     rw [af] at G ad
     rw [aj] at G
     simp only [List.length_singleton,Nat.one_mul] at G
     have aW:0 * S o.t + 0=0:=by omega
     rw [Nat.zero_mul,Nat.zero_add]
     refine .ptO o.t cs b aL (fun j=>(aL.toList.take (S o.t)).getD (0 * S o.t + j) Go.undef) (by rw [Z b ae]; exact aq) (Nat.le_trans ai ae) ac aQ ad (fun j I=>?_) (fun j x I=>?_) (List.all_eq_true.1 am)
     ·have:=G.cell (i:=0) (j:=j) (by simp) (by omega)
      have U:=this
      rw [List.getElem?_take] at U
      split at U
      ·rw [<- this,List.getElem?_take,if_pos (by assumption)]; simp
      ·cases U
     ·have aV:=(List.getElem?_eq_some_iff.1 I).1
      have:=G.2.2 0 j cs x _ rfl I (G.cell (i:=0) (j:=j) (by simp) (by omega))
      rcases D with D | D
      ·exact this.tree (List.all_eq_true.1 am x (List.mem_of_getElem? I)) D
      ·exact y5 (List.all_eq_true.1 D x (List.mem_of_getElem? I)) this
    ·exact .undef _
   ·exact .undef _
  ·exact .undef _
 | sl q es=>
  cases q with
  | none=>
   rcases D with D | D
   ·exact F.tree rfl D
   ·simp [mb,ls,q9] at D
  | some t=>
   cases F with
   | slON=>exact .slON t
   | slO t es b cap cs f an Y ap ao aD aE aj J h ab=>
    exact .slO t es b cap cs f (by rw [Z b Y]; exact (dc.some an).2) (Nat.le_trans ai Y) ap ao aD aE aj J (fun i j e x N O=>cell t es D e (List.mem_of_getElem? N) x (List.mem_of_getElem? O) (ab e (List.mem_of_getElem? N) x (List.mem_of_getElem? O)) _ (h i j e x N O)) ab
 | lit t es=>
  cases F with
  | lit t es b cs f an Y ap ao aE aj J h ab=>
   exact .slO t es b es.length cs f (by rw [Z b Y]; exact (dc.some an).2) (Nat.le_trans ai Y) ap ao (Nat.le_refl _) aE aj J (fun i j e x N O=>cell t es D e (List.mem_of_getElem? N) x (List.mem_of_getElem? O) (ab e (List.mem_of_getElem? N) x (List.mem_of_getElem? O)) _ (h i j e x N O)) ab
 | pt q cs=>
  cases q with
  | none=>
   rcases D with D | D
   ·exact F.treePt D
   ·simp [mb,ls,q9] at D
  | some t=>
   cases F with
   | ptO t cs b c f an Y ap aD ao J h ab=>
    refine .ptO t cs b c f (by rw [Z b Y]; exact (dc.some an).2) (Nat.le_trans ai Y) ap aD ao J (fun j x I=>?_) ab
    rcases D with D | D
    ·exact (h j x I).tree (ab x (List.mem_of_getElem? I)) D
    ·exact y5 (List.all_eq_true.1 D x (List.mem_of_getElem? I)) (h j x I)
 | int k n=>cases F; exact .int k n
 | bool b=>cases F; exact .bool b
 | str s=>cases F with | str s b h=>exact .str s b h
 | nils=>cases F; exact .nils
 | nilp=>cases F; exact .nilp
 | _=>exact .undef v
theorem CT (M:bs) (d:Nat) (x:AV) (cs:List AV):ls M d x≠.agg cs/\ls M d x≠.tup cs:=by
 cases d with
 | zero=>simp [ls]
 | succ d=>
  cases x <;> try (simp [ls]; done)
  simp only [ls]
  split
  ·split
   ·simp
   ·unfold z0; split <;> simp
  ·simp
theorem CG (M:bs) (x:AV) (cs:List AV):mb M x≠.agg cs/\mb M x≠.tup cs:=by
 unfold mb
 split
 ·split
  ·split
   ·simp
   ·split
    ·simp
    ·exact CT M 4 _ cs
  ·simp
 ·split
  ·split
   ·split <;> simp
   ·simp
  ·simp
 ·simp
 ·simp
 ·simp
 ·exact CT M 4 _ cs
theorem Fz {g:AV} (h:∀ cs,g≠.agg cs):zS g=q9 g:=by
 unfold zS
 split
 ·rename_i cs; exact absurd rfl (h cs)
 ·rfl
theorem AR {g:AV} (h:∀ cs,g≠.tup cs):iu g=zS g:=by
 unfold iu
 split
 ·rename_i cs; exact absurd rfl (h cs)
 ·rfl
theorem CY (hA:MR S B' w M ρ) (I:B<=B') (J:∀ b,B'<=b->V b=w.heap[b]?) {x:AV} {v:Value} (D:zb (dc w M ρ) V∨zS (uf M x)=true) (N:RV S B' w M ρ x v):RC S V B R' (uf M x) v:=by
 by_cases hag:∃ cs,x = .agg cs
 ·obtain ⟨cs,rfl⟩:=hag
  cases N with
  | agg _ vs X h=>
   refine .agg _ vs (by simpa using X) (fun i x v F U=>?_)
   rw [List.getElem?_map] at F
   obtain ⟨O,G,rfl⟩:=Option.map_eq_some_iff.1 F
   exact Dg hA I J (D.imp (fun h=>h) (fun h=>List.all_eq_true.1 h _ (List.mem_map.2 ⟨O,List.mem_of_getElem? G,rfl⟩))) (h i O v G U)
 ·have e:uf M x=mb M x:=by
   unfold uf
   split
   ·rename_i cs; exact absurd ⟨cs,rfl⟩ hag
   ·rfl
  rw [e] at D ⊢
  rw [Fz (fun cs=>(CG M x cs).1)] at D
  exact Dg hA I J D N
theorem It (M:bs) (x:AV) (cs:List AV):uf M x≠.tup cs:=by
 unfold uf
 split
 ·simp
 ·exact (CG M _ cs).2
theorem EC (hA:MR S B' w M ρ) (I:B<=B') (J:∀ b,B'<=b->V b=w.heap[b]?) {x:AV} {v:Value} (D:zb (dc w M ρ) V∨iu (cp M x)=true) (N:RV S B' w M ρ x v):RC S V B R' (cp M x) v:=by
 by_cases hag:∃ cs,x = .tup cs
 ·obtain ⟨cs,rfl⟩:=hag
  cases N with
  | tup _ vs X h=>
   refine .tup _ vs (by simpa using X) (fun i x v F U=>?_)
   rw [List.getElem?_map] at F
   obtain ⟨O,G,rfl⟩:=Option.map_eq_some_iff.1 F
   exact CY hA I J (D.imp (fun h=>h) (fun h=>List.all_eq_true.1 h _ (List.mem_map.2 ⟨O,List.mem_of_getElem? G,rfl⟩))) (h i O v G U)
 ·have e:cp M x=uf M x:=by
   unfold cp
   split
   ·rename_i cs; exact absurd ⟨cs,rfl⟩ hag
   ·rfl
  rw [e] at D ⊢
  rw [AR (fun cs=>It M x cs)] at D
  exact CY hA I J D N
def Ed (S:TypeId->Nat) (D:Nat) (w:World) (ob:Ob) (p:Pl):Prop:=
 ob.s=S ob.t/\(∀ e ∈ ob.es,∀ x ∈ e,oF x=true) /\
 match p with
 | none=>ob.kn = .grow/\ob.es=[]
 | some (b,cap)=>D<=b/\∃ cs:Array Value,w.heap[b]? = some (.cells cs ob.t (0,0))/\cs.size=cap * ob.s/\ob.es.length<=cap/\cap<=maxLen/\(ob.kn = .box->ob.es.length=1/\cap=1) /\
   ∀ (V:Nat->Option Obj) (B:Nat) (R:gC),se S V B R ob.s ob.es (cs.toList.take (ob.es.length * ob.s))
def xW (S:TypeId->Nat) (F:Nat) (w:World) (V:Nat->Option Obj) (B:Nat) (n:Nat) (x:AV×List Ob) (u:Value):Prop:=
 ∃ D:List Pl,D.length=x.2.length/\(∀ (k:Nat) ob p,x.2[k]? = some ob->D[k]? = some p->Ed S F w ob p) /\
  ∀ (V':Nat->Option Obj) (R:gC),(∀ (k:Nat) ob p,x.2[k]? = some ob->D[k]? = some p->R (n + k) ob.es.length=some (some (p,ob.s)))->RC S V' B R x.1 u
theorem CL {es:List (List AV)} {s:Nat} {xs:List Value} {I:Nat->Option Obj} {B0:Nat} {G:gC} (N:∀ e ∈ es,∀ x ∈ e,oF x=true) (h:se S I B0 G s es xs) (V:Nat->Option Obj) (B:Nat) (R:gC):se S V B R s es xs:=
 ⟨h.1,h.2.1,fun i j e x v D F J=>y5 (N e (List.mem_of_getElem? D) x (List.mem_of_getElem? F)) (h.2.2 i j e x v D F J)⟩
theorem CB {N B0:Nat} (aj:∀ b o,V b=some o->w.heap[b]? = some o) (n:Nat) {r:AV} {u:Value} (G:q9 r=true) (af:RC S V N R' r u) (B:Nat):xW S N w V B n (rK S n r) u:=by
 have J:q9 r=true->(∀ t es,r≠.sl (some t) es)->(∀ t cs,r≠.pt (some t) cs)->xW S N w V B n (r,[]) u:=by
  intro _ F D
  refine ⟨[],rfl,fun k ob p h=>by simp at h,fun V' R _=>?_⟩
  cases af <;> first | exact .int _ _ | exact .bool _ | exact .str _ _ (by assumption) | exact .nils | exact .nilp | exact absurd rfl (F _ _) | exact absurd rfl (D _ _) | simp [q9] at G
 cases r with
 | sl q es=>
  cases q with
  | none=>simp [q9] at G
  | some t=>
   have I:∀ e ∈ es,∀ x ∈ e,oF x=true:=fun e am x aq=>List.all_eq_true.1 (List.all_eq_true.1 G e am) x aq
   cases af with
   | slON=>
    refine ⟨[none],rfl,fun k ob p F D=>?_,fun V' R h=>?_⟩
    ·cases k with
     | zero=>simp [rK] at F D; subst F; subst D; exact ⟨rfl,by simp,rfl,rfl⟩
     | succ k=>simp at D
    ·exact .lslN n (S t) (h 0 _ none rfl rfl)
   | slO t es b cap cs f ac aa ai ah ae ao an ad h ap=>
    refine ⟨[some (b,cap)],rfl,fun k ob p F D=>?_,fun V' R Z=>?_⟩
    ·cases k with
     | zero=>
      simp [rK] at F D
      subst F
      subst D
      refine ⟨rfl,I,aa,cs,aj b _ ac,ai,ae,ao,by simp,fun Y U X=>?_⟩
      have ab:FZ S V N R' (fun k=>cs.toList[k]?) (S t) es:=⟨ah,an,f,fun i j O ak=>by simpa using ad i j O ak,h⟩
      exact CL I (se.of_lie ab) Y U X
     | succ k=>simp at D
    ·have:=Z 0 _ (some (b,cap)) rfl rfl
     have D:=RC.lslV (S:=S) (V:=V') (B:=B) n es.length 0 es.length b cap (S t) this (by omega)
     rw [Nat.zero_mul,Nat.sub_zero] at D
     exact D
 | pt q cs=>
  cases q with
  | none=>simp [q9] at G
  | some t=>
   have I:∀ x ∈ cs,oF x=true:=List.all_eq_true.1 G
   cases af with
   | ptO t cs b c f ac aa ai ae ah ad h ap=>
    refine ⟨[some (b,1)],rfl,fun k ob p F D=>?_,fun V' R Z=>?_⟩
    ·cases k with
     | zero=>
      simp [rK] at F D
      subst F
      subst D
      refine ⟨rfl,by simpa using I,aa,c,aj b _ ac,by simpa using ai,by simp,vh,by simp,fun Y U X=>?_⟩
      have ab:FZ S V N R' (fun k=>c.toList[k]?) (S t) [cs]:=⟨ah,by simpa using ae,fun _ j=>f j,fun i j O ak=>by
       simp at O
       subst O
       simpa using ad j (by omega),fun i j e x F D=>by
       cases i with
       | zero=>simp at F; subst F; exact h j x D
       | succ i=>simp at F⟩
      exact CL (by simpa using I) (se.of_lie ab) Y U X
     | succ k=>simp at D
    ·have:=Z 0 _ (some (b,1)) rfl rfl
     have D:=RC.locV (S:=S) (V:=V') (B:=B) n 1 0 0 b 1 (S t) this (by omega)
     show RC S V' B R (.loc n 1 0 0) _
     simpa using D
 | int k m=>exact J G (by simp) (by simp)
 | bool b=>exact J G (by simp) (by simp)
 | str s=>exact J G (by simp) (by simp)
 | nils=>exact J G (by simp) (by simp)
 | nilp=>exact J G (by simp) (by simp)
 | _=>simp [q9] at G
theorem zv {J:Nat} (f:Nat->AV->AV×List Ob) (own:AV->Bool) (B:Nat) (Z:∀ n r u,own r=true->RC S V J R' r u->xW S J w V B n (f n r) u) :
  ∀ (rs:List AV) (us:List Value) (n:Nat),rs.length=us.length->rs.all own=true->(∀ (i:Nat) x v,rs[i]? = some x->us[i]? = some v->RC S V J R' x v) ->
   ∃ X:List Pl,X.length=(k7 f n rs).2.length/\(∀ (k:Nat) ob p,(k7 f n rs).2[k]? = some ob->X[k]? = some p->Ed S J w ob p)/\(k7 f n rs).1.length=rs.length /\
    ∀ (V':Nat->Option Obj) (R:gC),(∀ (k:Nat) ob p,(k7 f n rs).2[k]? = some ob->X[k]? = some p->R (n + k) ob.es.length=some (some (p,ob.s))) ->
     ∀ (i:Nat) x v,(k7 f n rs).1[i]? = some x->us[i]? = some v->RC S V' B R x v
 | [],us,n,_,_,_=>⟨[],rfl,by simp [k7],rfl,by simp [k7]⟩
 | r::rs,[],n,hl,_,_=>by simp at hl
 | r::rs,u::us,n,hl,ho,h=>by
  simp only [List.all_cons,Bool.and_eq_true] at ho
  obtain ⟨O,N,aa,ab⟩:=Z n r u ho.1 (h 0 r u rfl rfl)
  obtain ⟨U,ac,ad,ae,af⟩:=zv f own B Z rs us (n + (f n r).2.length) (by simpa using hl) ho.2 (fun i x v D F=>h (i + 1) x v (by simpa using D) (by simpa using F))
  have ah:∀ (k:Nat) ob p,((f n r).2++(k7 f (n + (f n r).2.length) rs).2)[k]? = some ob->(O++U)[k]? = some p ->
    ((f n r).2[k]? = some ob/\O[k]? = some p)∨∃ j,k=(f n r).2.length + j/\(k7 f (n + (f n r).2.length) rs).2[j]? = some ob/\U[j]? = some p:=by
   intro k ob p D F
   by_cases hk:k < (f n r).2.length
   ·rw [List.getElem?_append_left hk] at D
    rw [List.getElem?_append_left (by omega)] at F
    exact .inl ⟨D,F⟩
   ·rw [List.getElem?_append_right (by omega)] at D
    rw [List.getElem?_append_right (by omega),N] at F
    exact .inr ⟨k - (f n r).2.length,by omega,D,F⟩
  refine ⟨O++U,by simp [k7,N,ac],fun k ob p D F=>?_,by simp [k7,ae],fun V' R Y i x v D F=>?_⟩
  ·rcases ah k ob p D F with ⟨G,I⟩ | ⟨j,rfl,G,I⟩
   ·exact aa k ob p G I
   ·exact ad j ob p G I
  ·cases i with
   | zero=>
    simp [k7] at D F
    subst D
    subst F
    refine ab V' R (fun k ob p G I=>Y k ob p ?_ ?_)
    ·show ((f n r).2++_)[k]? = _
     rw [List.getElem?_append_left (List.getElem?_eq_some_iff.1 G).1]; exact G
    ·rw [List.getElem?_append_left (List.getElem?_eq_some_iff.1 I).1]; exact I
   | succ i=>
    refine af V' R (fun k ob p G I=>?_) i x v (by simpa [k7] using D) (by simpa using F)
    rw [Nat.add_assoc]
    refine Y ((f n r).2.length + k) ob p ?_ ?_
    ·show ((f n r).2++_)[_]? = _
     rw [List.getElem?_append_right (by omega),Nat.add_sub_cancel_left]; exact G
    ·rw [List.getElem?_append_right (by omega),<- N,Nat.add_sub_cancel_left]; exact I
theorem CJ {O:Nat} (J:∀ b o,V b=some o->w.heap[b]? = some o) (B:Nat) (n:Nat) {r:AV} {u:Value} (D:zS r=true) (F:RC S V O R' r u):xW S O w V B n (s6 S n r) u:=by
 by_cases hag:∃ cs,r = .agg cs
 ·obtain ⟨cs,rfl⟩:=hag
  cases F with
  | agg _ vs N h=>
   obtain ⟨ab,G,I,U,X⟩:=zv (w:=w) (rK S) q9 B (fun n r u D F=>CB (B0:=0) J n D F B) cs vs.toList n (by simpa using N) D (fun i x v G I=>h i x v G (by simpa using I))
   exact ⟨ab,G,I,fun V' R aa=>.agg _ vs (by rw [U]; exact N) (fun i x v Y Z=>X V' R aa i x v Y (by simpa using Z))⟩
 ·have e:s6 S n r=rK S n r:=by
   unfold s6
   split
   ·rename_i cs; exact absurd ⟨cs,rfl⟩ hag
   ·rfl
  rw [e]
  rw [Fz (fun cs h=>hag ⟨cs,h⟩)] at D
  exact CB (B0:=0) J n D F B
theorem K1 {O:Nat} (J:∀ b o,V b=some o->w.heap[b]? = some o) (B:Nat) (n:Nat) {r:AV} {u:Value} (D:iu r=true) (F:RC S V O R' r u):xW S O w V B n (yE S n r) u:=by
 by_cases hag:∃ cs,r = .tup cs
 ·obtain ⟨cs,rfl⟩:=hag
  cases F with
  | tup _ vs N h=>
   obtain ⟨ab,G,I,U,X⟩:=zv (w:=w) (s6 S) zS B (fun n r u D F=>CJ J B n D F) cs vs.toList n (by simpa using N) D (fun i x v G I=>h i x v G (by simpa using I))
   exact ⟨ab,G,I,fun V' R aa=>.tup _ vs (by rw [U]; exact N) (fun i x v Y Z=>X V' R aa i x v Y (by simpa using Z))⟩
 ·have e:yE S n r=s6 S n r:=by
   unfold yE
   split
   ·rename_i cs; exact absurd ⟨cs,rfl⟩ hag
   ·rfl
  rw [e]
  rw [AR (fun cs h=>hag ⟨cs,h⟩)] at D
  exact CJ J B n D F
end
end Go.Ab
