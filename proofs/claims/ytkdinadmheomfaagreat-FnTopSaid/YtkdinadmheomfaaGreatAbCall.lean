/- Calls: arguments told as trees, results told again, rows that the callee fg made. -/
import Derived.Test.YtkdinadmheomfaaGreatAbOpsB
set_option linter.unusedVariables false
set_option linter.unusedSimpArgs false
namespace Go.Ab
open Go Go.RowKit
theorem RC.tree {S:TypeId->Nat} {V V':Nat->Option Obj} {B B':Nat} {R R':gC} {x:AV} {v:Value} (h:RC S V B R x v) (Z:cG x=true) (hV:zb V V'):RC S V' B' R' x v:=by
 induction h with
 | int k n=>exact .int k n
 | bool b=>exact .bool b
 | ub b=>exact .ub b
 | str s b h=>exact .str s b h
 | nils=>exact .nils
 | nilp=>exact .nilp
 | slN a c h=>exact .slN a c h
 | sle a c=>exact .sle a c
 | slB es b off c s f N Y O I h J G aa=>exact .slB es b off c s f N Y O (fun i j U X=>hV.cell (I i j U X)) (fun i j e x D F=>aa i j e x D F (G e (List.mem_of_getElem? D) x (List.mem_of_getElem? F))) J G
 | _=>simp [cG] at Z
theorem RC.treePt {S:TypeId->Nat} {V V':Nat->Option Obj} {B B':Nat} {R R':gC} {cs:List AV} {v:Value} (h:RC S V B R (.pt none cs) v) (hV:zb V V'):RC S V' B' R' (.pt none cs) v:=by
 cases h with
 | ptB cs b off f I G h F=>exact .ptB cs b off f I (fun j D=>hV.cell (G j D)) (fun j x D=>(h j x D).tree (F x (List.mem_of_getElem? D)) hV) F
theorem mW {es:List (List AV)} (h:uv es=true):∀ e ∈ es,∀ x ∈ e,cG x=true:=fun e D x F=>List.all_eq_true.1 (List.all_eq_true.1 h e D) x F
section
variable {P:Program} {S:TypeId->Nat} {B B':Nat} {w w':World} {M A A':bs} {ρ ρ':Pm} {V:Nat->Option Obj} {R':gC}
theorem Bd {b off c s:Nat} {t:TypeId} {cells:Array Value} {es:List (List AV)} (g:AV->AV) (Z:FZ S (dc w A ρ) B (jK A ρ) (fun k=>cells[off + k]?) s es) (aa:V b=some (.cells cells t (0,0)))
  (ac:∀ e ∈ es,∀ x ∈ e,∀ v,RV S B w A ρ x v->RC S V B' R' (g x) v) (ah:∀ e ∈ es.map (fun c=>c.map g),∀ x ∈ e,cG x=true) (ab:es.length<=c) :
  RC S V B' R' (.sl none (es.map fun c=>c.map g)) (.slice (some ⟨b,off,none⟩) es.length c):=by
 obtain ⟨O,U,f,X,Y⟩:=Z
 by_cases F:es=[]
 ·subst F; exact .slN _ _ (fun h=>by cases h)
 ·have af:=RC.slB (S:=S) (V:=V) (B:=B') (R:=R') (es.map fun c=>c.map g) b off c s f (by simpa using F) O (fun e F=>by
   obtain ⟨e0,D,rfl⟩:=List.mem_map.1 F
   simpa using U e0 D) (fun i j ad ae=>by simp only [jJ,aa]; exact X i j (by simpa using ad) ae) (fun i j e x D G=>by
   rw [List.getElem?_map] at D
   obtain ⟨e0,I,rfl⟩:=Option.map_eq_some_iff.1 D
   rw [List.getElem?_map] at G
   obtain ⟨N,J,rfl⟩:=Option.map_eq_some_iff.1 G
   exact ac e0 (List.mem_of_getElem? I) N (List.mem_of_getElem? J) _ (Y i j e0 N I J)) (by simpa using ab) ah
  simpa using af
theorem E2 (es:List (List AV)):(es.map fun c=>c.map id)=es:=by simp
theorem tL (J:fN M A) (hA:MR S B w A ρ) (D:zb (dc w A ρ) V):∀ (d:Nat) (x:AV) (v:Value),(IG x=false->∀ b,oQ A ρ b->V b=w.heap[b]?)->RV S B w A ρ x v->RC S V B' R' (ls M d x) v
 | 0,x,v,_,_=>.undef v
 | d + 1,x,v,F,hx=>by
  cases x with
  | int k n=>cases hx; exact .int k n
  | bool b=>cases hx; exact .bool b
  | str s=>cases hx with | str s b h=>exact .str s b h
  | nils=>cases hx; exact .nils
  | nilp=>cases hx; exact .nilp
  | sl o es=>exact (lN hx).tree rfl D
  | lit t es=>exact (lN hx).tree rfl D
  | pt o cs=>exact (lN hx).treePt D
  | lsl id L off n=>
   have F:=F rfl
   simp only [ls]
   cases hel:mP (.lsl id L off n) M with
   | none=>exact .undef v
   | some es=>
    simp only
    unfold mP at hel
    simp only at hel
    obtain ⟨o,aa,h⟩:=Option.bind_eq_some_iff.1 hel
    split at h
    rotate_left
    ·cases h
    rename_i ak
    have N:=Option.some.inj h
    obtain ⟨X,ah⟩:=eo aa
    rcases jO J hx aa with ⟨b,cap,ab,am,rfl⟩ | ⟨_,ai,aj,ad,rfl⟩
    ·obtain ⟨cs,ae,an,ao,ap,af⟩:=uq hA (J.live X) ab
     have Y:V b=some (.cells cs o.t (0,0)):=by rw [F b ⟨id,o,cap,J.live X,ab⟩]; exact ae
     have Z:es.length=n:=by rw [<- N]; simp; omega
     have O:=af.sub off n (by omega)
     rw [N] at O
     split
     ·rename_i G
      have:=Bd (V:=V) (B':=B') (R':=R') (c:=cap - off) _root_.id O Y (fun e I x ac v U=>U.tree (mW G e I x ac) D) (by rw [E2]; exact mW G) (by omega)
      rw [E2,Z] at this
      exact this
     ·unfold z0
      split
      ·rename_i G
       have:=Bd (V:=V) (B':=B') (R':=R') (c:=cap - off) (ls M d) O Y (fun e I x ac v U=>tL J hA D d x v (fun _=>F) U) (mW G) (by omega)
       rw [Z] at this
       exact this
      ·exact .undef _
    ·have I:es=[]:=by rw [<- N,ad]; simp
     subst I
     exact .slN _ _ (fun _=>rfl)
  | _=>exact .undef v
theorem C8 (G:fN M A) (hA:MR S B w A ρ) (J:zb (dc w A ρ) V) {x:AV} {v:Value} (I:ww x=true->∀ b,oQ A ρ b->V b=w.heap[b]?) (D:RV S B w A ρ x v):RC S V B' R' (sW M x) v:=by
 cases x with
 | nils=>cases D; exact .slN _ _ (fun _=>rfl)
 | loc id L i j=>
  have I:=I rfl
  simp only [sW]
  split
  ·rename_i cs N
   obtain ⟨o,Z,N⟩:=Option.bind_eq_some_iff.1 N
   obtain ⟨X,ao⟩:=eo Z
   obtain ⟨b,cap,aa,aq,rfl⟩:=qG G D Z
   obtain ⟨cells,ai,au,av,aw,aj⟩:=uq hA (G.live X) aa
   have ad:V b=some (.cells cells o.t (0,0)):=by rw [I b ⟨id,o,cap,G.live X,aa⟩]; exact ai
   obtain ⟨ax,ak,f,am,an⟩:=aj
   have ap:=ak cs (List.mem_of_getElem? N)
   have af:i < o.es.length:=by omega
   have ab:∀ g:AV->AV,(∀ x ∈ cs.drop j,∀ v,RV S B w A ρ x v->RC S V B' R' (g x) v)->(∀ x ∈ (cs.drop j).map g,cG x=true)->j < cs.length->RC S V B' R' (.pt none ((cs.drop j).map g)) (.pointer (some ⟨b,i * o.s + j,none⟩)):=by
    intro g ae ah ar
    refine .ptB _ b (i * o.s + j) (fun k=>f i (j + k)) (by intro e; have:=congrArg List.length e; simp at this; omega) (fun k O=>?_) (fun k x O=>?_) ah
    ·simp at O
     simp only [jJ,ad]
     have:=am i (j + k) af (by omega)
     rw [Nat.add_assoc]; simpa using this
    ·rw [List.getElem?_map,List.getElem?_drop] at O
     obtain ⟨ac,Y,rfl⟩:=Option.map_eq_some_iff.1 O
     exact ae ac (List.mem_of_getElem? (List.getElem?_drop ▸ Y)) _ (an i (j + k) cs ac N Y)
   split
   ·rename_i F
    have:=ab _root_.id (fun x D v U=>U.tree (List.all_eq_true.1 F.1 x D) J) (by simpa using F.1) F.2
    simpa using this
   ·unfold treePt
    split
    ·rename_i F
     exact ab (ls M 3) (fun x D v U=>tL G hA J 3 x v (fun _=>I) U) (List.all_eq_true.1 F.1) (by have:=F.2; simp at this; omega)
    ·exact .undef _
  ·exact .undef _
 | lsl id L off n=>exact tL G hA J 4 _ v (fun _=>I rfl) D
 | _=>exact tL G hA J 4 _ v (fun h=>by simp [IG] at h) D
theorem J4 (X:fN M A) (hA:MR S B w A ρ) (U:zb (dc w A ρ) V) {x:AV} {v:Value} (D:up x=true->∀ b,oQ A ρ b->V b=w.heap[b]?) (J:RV S B w A ρ x v):RC S V B' R' (xe M x) v:=by
 have Y:∀ (cs:List AV) (vs:Array Value),(∀ c ∈ cs,ww c=true->∀ b,oQ A ρ b->V b=w.heap[b]?)->(∀ (i:Nat) x v,cs[i]? = some x->vs[i]? = some v->RV S B w A ρ x v) ->
   ∀ (i:Nat) x v,(cs.map (sW M))[i]? = some x->vs[i]? = some v->RC S V B' R' x v:=by
  intro cs vs aa ab i x v N ac
  rw [List.getElem?_map] at N
  obtain ⟨Z,O,rfl⟩:=Option.map_eq_some_iff.1 N
  exact C8 X hA U (aa Z (List.mem_of_getElem? O)) (ab i Z v O ac)
 cases x with
 | agg cs=>cases J with | agg _ vs G h=>exact .agg _ vs (by simpa using G) (Y cs vs (fun c F I=>D (List.any_eq_true.2 ⟨c,F,I⟩)) h)
 | fn f cap=>cases J with | fn _ _ vs G h=>exact .fn f _ vs (by simpa using G) (Y cap vs (fun c F I=>D (List.any_eq_true.2 ⟨c,F,I⟩)) h)
 | _=>exact C8 X hA U (by exact fun h=>D h) J
end
end Go.Ab
