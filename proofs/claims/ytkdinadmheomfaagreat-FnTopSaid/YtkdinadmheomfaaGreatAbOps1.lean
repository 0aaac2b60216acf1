/- The operations that look at no memory, and loads: what the machine does is what the evaluator says. -/
import Derived.Test.YtkdinadmheomfaaGreatAbRel
import Derived.Deep.MidRow
import Derived.Laws.Cells
import Derived.Laws.Append
set_option linter.unusedVariables false
set_option linter.unusedSimpArgs false
namespace Go.Ab
open Go Go.RowKit
section
variable {P:Program} {S:TypeId->Nat} {V:Nat->Option Obj} {B:Nat} {R:gC}
theorem ee {t:TypeId} (h:qo P t=true):∃ d i,P.underlying t=some d/\P.info? t=some i/\P.cellsOf t=i.size/\0 < i.size:=by
 unfold qo at h
 simp only [Bool.and_eq_true,decide_eq_true_eq] at h
 obtain ⟨F,D⟩:=h
 obtain ⟨d,G⟩:=Option.isSome_iff_exists.1 F
 cases hi:P.info? t with
 | none=>simp [Program.cellsOf,hi] at D
 | some i=>exact ⟨d,i,G,rfl,by simp [Program.cellsOf,hi],by simpa [Program.cellsOf,hi] using D⟩
theorem rQ {t:TypeId} {d:TypeDesc} (h:P.underlying t=some d) (w:World):(isAgg t).run P w = .ok (Program.cellsAgg P t) w:=by
 unfold isAgg Program.cellsAgg
 rw [Sem.run_bind,run_underlying h w,h]
 cases d <;> simp [Result.andThen]
theorem ss {t:TypeId} {i:TypeInfo} (h:P.info? t=some i) (w:World):(sizeOf t).run P w = .ok i.size w:=by
 simp [sizeOf,typeInfo,h]
theorem Em (v:Value):RC S V B R (Dq v) v:=by
 unfold Dq
 split
 ·exact .int _ _
 ·exact .bool _
 ·exact .str _ _ rfl
 ·exact .nils
 ·exact .nilp
 ·exact .undef _
theorem Eg {e:b4} {a:Act} (D:∀ t,RC S V B R (a3 e t) (a.tmps.getD t Go.undef)) (x:Operand):RC S V B R (eH e x) (a.eval x):=by
 cases x with
 | tmp t=>exact D t
 | const v=>exact Em v
 | func f=>exact .fn f [] #[] rfl (by intro i x v h; simp at h)
 | global g=>exact .undef _
theorem uj {α:Type} {l:List α} {off sz j:Nat} {x:α} (h:((l.drop off).take sz)[j]? = some x):l[off + j]? = some x:=by
 rw [List.getElem?_take] at h
 split at h
 ·rwa [List.getElem?_drop] at h
 ·cases h
def fN (M A:bs):Prop:=∀ id,id < M.length->A[id]? = M[id]?
theorem fN.refl (M:bs):fN M M:=fun _ _=>rfl
theorem eo {M:bs} {id L:Nat} {o:Ob} (h:jI M id L=some o):M[id]? = some (.live o)/\o.es.length=L:=by
 unfold jI at h
 split at h
 ·rename_i q F
  split at h
  ·rename_i D
   obtain rfl:=Option.some.inj h
   exact ⟨F,D⟩
  ·cases h
 ·cases h
theorem fN.live {M A:bs} (h:fN M A) {id:Nat} {o:Ob} (e:M[id]? = some (.live o)):A[id]? = some (.live o):=by
 rw [h id (List.getElem?_eq_some_iff.1 e).1]; exact e
theorem tT {M A:bs} (h:fN M A) {ρ:Pm} {id L:Nat} {o:Ob} {x:Option (Pl×Nat)} (e:jI M id L=some o) (D:jK A ρ id L=some x):jK A ρ id L=some (some (ρ id,o.s)):=by
 obtain ⟨F,G⟩:=eo e
 simp only [jK,h.live F,G,if_true] at D ⊢
 split at D
 ·cases D
 ·rename_i I; rw [if_neg I]
theorem Ck {M A:bs} (h:fN M A) {ρ:Pm} {id L:Nat} {o:Ob} {p:Nat×Nat} (e:jI M id L=some o) (G:ρ id=some p):jK A ρ id L=some (some (some p,o.s)):=by
 obtain ⟨D,F⟩:=eo e
 simp [jK,h.live D,F,G]
theorem kR {M:bs} {id L:Nat} (h:qA M id L=true):∃ o,jI M id L=some o:=Option.isSome_iff_exists.1 h
section
variable {S:TypeId->Nat} {B:Nat} {w:World} {M A:bs} {ρ:Pm}
theorem qG (F:fN M A) {id L i j:Nat} {v:Value} {o:Ob} (h:RV S B w A ρ (.loc id L i j) v) (G:jI M id L=some o) :
  ∃ b cap,ρ id=some (b,cap)/\i < L/\v = .pointer (some ⟨b,i * o.s + j,none⟩):=by
 cases h with
 | locS _ _ _ _ _ D=>rw [tT F (ρ:=ρ) G D] at D; cases D
 | locV _ _ _ _ b cap s D I=>
  rw [tT F (ρ:=ρ) G D] at D
  injection D with D
  injection D with D
  injection D with h1 h2
  subst h2
  exact ⟨b,cap,h1,I,rfl⟩
theorem jO (F:fN M A) {id L off n:Nat} {v:Value} {o:Ob} (h:RV S B w A ρ (.lsl id L off n) v) (G:jI M id L=some o) :
  (∃ b cap,ρ id=some (b,cap)/\off + n<=L/\v = .slice (some ⟨b,off * o.s,none⟩) n (cap - off))∨(ρ id=none/\L=0/\off=0/\n=0/\v = .slice none 0 0):=by
 cases h with
 | lslS _ _ _ _ _ D=>rw [tT F (ρ:=ρ) G D] at D; cases D
 | lslV _ _ _ _ b cap s D I=>
  rw [tT F (ρ:=ρ) G D] at D
  injection D with D
  injection D with D
  injection D with h1 h2
  subst h2
  exact .inl ⟨b,cap,h1,I,rfl⟩
 | lslN _ s D=>
  rw [tT F (ρ:=ρ) G D] at D
  injection D with D
  injection D with D
  injection D with h1 h2
  exact .inr ⟨h1,rfl,rfl,rfl,rfl⟩
theorem DG (F:fN M A) {id L i j b cap:Nat} {o:Ob} (G:jI M id L=some o) (I:ρ id=some (b,cap)) (D:i < L):RV S B w A ρ (.loc id L i j) (.pointer (some ⟨b,i * o.s + j,none⟩)):=
 .locV id L i j b cap o.s (Ck F G I) D
theorem Mv (D:fN M A) {id L off n b cap:Nat} {o:Ob} (G:jI M id L=some o) (I:ρ id=some (b,cap)) (F:off + n<=L):RV S B w A ρ (.lsl id L off n) (.slice (some ⟨b,off * o.s,none⟩) n (cap - off)):=
 .lslV id L off n b cap o.s (Ck D G I) F
theorem Bk {V:Nat->Option Obj} {R:gC} {q:Option TypeId} {cs:List AV} {v:Value} (h:RC S V B R (.pt q cs) v) :
  ∃ b o,v = .pointer (some ⟨b,o,none⟩)/\∀ off sz,off + sz<=cs.length->0 < sz->RC S V B R (.pt none ((cs.drop off).take sz)) (.pointer (some ⟨b,o + off,none⟩)):=by
 have U:∀ off sz,off + sz<=cs.length->0 < sz->((cs.drop off).take sz)≠[]:=by
  intro off sz F G e
  have:=congrArg List.length e
  simp at this
  omega
 cases h with
 | ptB cs b o f Z I J N=>
  refine ⟨b,o,rfl,fun off sz F G=>.ptB _ b (o + off) (fun j=>f (off + j)) (U off sz F G) (fun j D=>?_) (fun j x D=>J (off + j) x (uj D)) (fun x O=>N x (List.mem_of_mem_drop (List.mem_of_mem_take O)))⟩
  have:((cs.drop off).take sz).length=sz:=by simp; omega
  rw [Nat.add_assoc]; exact I (off + j) (by omega)
 | ptO t cs b c f X Y ac aa ab I J N=>
  refine ⟨b,0,rfl,fun off sz F G=>.ptB _ b (0 + off) (fun j=>f (off + j)) (U off sz F G) (fun j D=>?_) (fun j x D=>J (off + j) x (uj D)) (fun x O=>N x (List.mem_of_mem_drop (List.mem_of_mem_take O)))⟩
  have:((cs.drop off).take sz).length=sz:=by simp; omega
  simp only [jJ,X]; rw [Nat.zero_add]; exact I (off + j) (by omega)
theorem BJ (G:fN M A) {off sz:Nat} {x y:AV} {v:Value} (h:kG off sz x M=some y) (J:RV S B w A ρ x v) :
  ∃ b o,v = .pointer (some ⟨b,o,none⟩)/\RV S B w A ρ y (.pointer (some ⟨b,o + off,none⟩)):=by
 unfold kG at h
 cases x with
 | pt q cs=>
  simp only at h
  split at h
  ·rename_i F
   obtain rfl:=Option.some.inj h
   obtain ⟨b,o,rfl,D⟩:=Bk J
   exact ⟨b,o,rfl,D off sz F.1 F.2⟩
  ·cases h
 | loc id L i j=>
  simp only at h
  split at h
  ·rename_i O
   obtain rfl:=Option.some.inj h
   obtain ⟨ob,I⟩:=kR O
   obtain ⟨b,cap,D,N,rfl⟩:=qG G J I
   exact ⟨b,i * ob.s + j,rfl,by rw [Nat.add_assoc]; exact DG G I D N⟩
  ·cases h
 | _=>simp at h
theorem JE {V:Nat->Option Obj} {R:gC} {es:List (List AV)} {b off s:Nat} {f:Nat->Nat->Value} (X:0 < s) (N:∀ e ∈ es,e.length=s)
  (J:∀ i j,i < es.length->j < s->jJ V b (off + (i * s + j))=some (f i j)) (h:∀ (i j:Nat) e x,es[i]? = some e->e[j]? = some x->RC S V B R x (f i j))
  (U:∀ e ∈ es,∀ x ∈ e,cG x=true) {i:Nat} {cs:List AV} (D:es[i]? = some cs):cs.length=s/\RC S V B R (.pt none cs) (.pointer (some ⟨b,off + i * s,none⟩)):=by
 have O:=(List.getElem?_eq_some_iff.1 D).1
 have I:cs ∈ es:=List.mem_of_getElem? D
 have F:=N cs I
 refine ⟨F,.ptB cs b (off + i * s) (fun j=>f i j) (by intro e; rw [e] at F; simp at F; omega) (fun j G=>?_) (fun j x G=>h i j cs x D G) (U cs I)⟩
 rw [Nat.add_assoc]; exact J i j O (by omega)
theorem Gl (ai:fN M A) {sz:Nat} {x i y:AV} {v u:Value} (h:ol sz x i M=some y) (aa:RV S B w A ρ x v) (Y:RV S B w A ρ i u) :
  ∃ k n,u = .int k n/\0<=n/\∃ b o len cap,v = .slice (some ⟨b,o,none⟩) len cap/\n < len/\RV S B w A ρ y (.pointer (some ⟨b,o + n.toNat * sz,none⟩)):=by
 unfold ol at h
 cases i with
 | int k n=>
  simp only at h
  cases Y
  split at h
  ·rename_i ae
   refine ⟨k,n,rfl,ae,?_⟩
   have au:(n.toNat:Int)=n:=Int.toNat_of_nonneg ae
   cases x with
   | sl q es=>
    simp only at h
    obtain ⟨cs,F,D⟩:=Option.bind_eq_some_iff.1 h
    split at D
    ·rename_i ah
     obtain rfl:=Option.some.inj D
     have ad:=(List.getElem?_eq_some_iff.1 F).1
     cases aa with
     | slN=>simp at F
     | slB es b off c s f aq O I G J ap Z=>
      obtain ⟨ab,U⟩:=JE O I G J Z F
      obtain rfl:s=sz:=by omega
      exact ⟨b,off,_,c,rfl,by omega,U⟩
     | slON=>simp at F
     | slO t es b cap cs' f X af am O an aj I G J Z=>
      obtain ⟨ab,U⟩:=JE (off:=0) (b:=b) O I (fun i j Y N=>by simp only [jJ,X,Nat.zero_add]; exact G i j Y N) J Z F
      obtain rfl:S t=sz:=by omega
      exact ⟨b,0,_,cap,rfl,by omega,U⟩
    ·cases D
   | lit t es=>
    simp only at h
    obtain ⟨cs,F,D⟩:=Option.bind_eq_some_iff.1 h
    split at D
    ·rename_i ah
     obtain rfl:=Option.some.inj D
     have ad:=(List.getElem?_eq_some_iff.1 F).1
     cases aa with
     | lit t es b cs' f X af am O aj I G J Z=>
      obtain ⟨ab,U⟩:=JE (off:=0) (b:=b) O I (fun i j Y N=>by simp only [jJ,X,Nat.zero_add]; exact G i j Y N) J Z F
      obtain rfl:S t=sz:=by omega
      exact ⟨b,0,_,_,rfl,by omega,U⟩
    ·cases D
   | nsl t es=>
    simp only at h
    obtain ⟨cs,F,D⟩:=Option.bind_eq_some_iff.1 h
    split at D
    ·rename_i ah
     obtain rfl:=Option.some.inj D
     have ad:=(List.getElem?_eq_some_iff.1 F).1
     cases aa with
     | nslO t es b cap cs' f X af am O an aj I G J=>
      have ab:=I cs (List.mem_of_getElem? F)
      obtain rfl:S t=sz:=by omega
      exact ⟨b,0,_,cap,rfl,by omega,.nptB cs b _ (fun j=>f n.toNat j) (fun j N=>by simp only [jJ,X,Nat.zero_add]; exact G _ j ad (by omega)) (fun j x N=>J _ j cs x F N)⟩
    ·cases D
   | lsl id L off m=>
    simp only at h
    obtain ⟨ob,ak,D⟩:=Option.bind_eq_some_iff.1 h
    split at D
    ·rename_i ac
     obtain rfl:=Option.some.inj D
     rcases jO ai aa ak with ⟨b,cap,ao,ar,rfl⟩ | ⟨_,_,_,rfl,_⟩
     ·refine ⟨b,off * ob.s,m,cap - off,rfl,ac.1,?_⟩
      have:=DG (S:=S) (B:=B) (w:=w) ai (i:=off + n.toNat) (j:=0) ak ao (by omega)
      rw [Nat.add_mul,Nat.add_zero,ac.2] at this
      rw [ac.2]; exact this
     ·omega
    ·cases D
   | _=>simp at h
  ·cases h
 | _=>simp at h
theorem FR (I:fN M A) {len sz:Nat} {x i y:AV} {v u:Value} (X:0 < sz) (h:cb len sz x i M=some y) (N:RV S B w A ρ x v) (D:RV S B w A ρ i u) :
  ∃ k n,u = .int k n/\0<=n/\n < len/\∃ b o,v = .pointer (some ⟨b,o,none⟩)/\RV S B w A ρ y (.pointer (some ⟨b,o + n.toNat * sz,none⟩)):=by
 unfold cb at h
 cases i with
 | int k n=>
  simp only at h
  cases D
  split at h
  ·rename_i G
   refine ⟨k,n,rfl,G.1,G.2,?_⟩
   cases x with
   | pt q cs=>
    simp only at h
    split at h
    ·rename_i O
     obtain rfl:=Option.some.inj h
     obtain ⟨b,o,rfl,F⟩:=Bk N
     exact ⟨b,o,rfl,F _ sz O X⟩
    ·cases h
   | loc id L k j=>
    simp only at h
    split at h
    ·rename_i U
     obtain rfl:=Option.some.inj h
     obtain ⟨ob,J⟩:=kR U
     obtain ⟨b,cap,F,D,rfl⟩:=qG I N J
     exact ⟨b,_,rfl,by rw [Nat.add_assoc]; exact DG I J F D⟩
    ·cases h
   | _=>simp at h
  ·cases h
 | _=>simp at h
theorem Cv (G:fN M A) {x y:AV} {v:Value} (h:n7 x M=some y) (D:RV S B w A ρ x v):(∃ a,v = .pointer (some a))/\y=x:=by
 unfold n7 at h
 cases x with
 | pt q cs=>
  obtain rfl:=Option.some.inj h
  obtain ⟨b,o,rfl,_⟩:=Bk D
  exact ⟨⟨_,rfl⟩,rfl⟩
 | loc id L i j=>
  simp only at h
  split at h
  ·rename_i F
   obtain rfl:=Option.some.inj h
   obtain ⟨ob,I⟩:=kR F
   obtain ⟨b,cap,N,J,rfl⟩:=qG G D I
   exact ⟨⟨_,rfl⟩,rfl⟩
  ·cases h
 | _=>simp at h
theorem tK {P:Program} {t:TypeId} (N:qo P t=true) {W:World} {b o:Nat} {vs:List Value} (O:vs.length=P.cellsOf t) (F:∀ j v,vs[j]? = some v->W.cell? ⟨b,o + j,none⟩=some v) :
  (Instr.loadAt t (.pointer (some ⟨b,o,none⟩))).run P W = .ok (if Program.cellsAgg P t=true then .agg vs.toArray else vs.getD 0 Go.undef) W:=by
 obtain ⟨d,i,I,J,Z,aa⟩:=ee N
 have D:=rQ I W
 cases hq:Program.cellsAgg P t with
 | true=>
  rw [hq] at D
  have U:=run_loadCells_list (P:=P) W ⟨b,o,none⟩ vs (fun j v Y=>by rw [Addr.add_mid]; exact F j v Y)
  have G:=ss J W
  rw [<- Z,<- O] at G
  simp [Instr.loadAt,Instr.sureAddr,loadVar,Sem.run_bind,D,G,U]
 | false=>
  rw [hq] at D
  have X:0 < vs.length:=by omega
  have:=F 0 (vs.getD 0 Go.undef) (by simp [List.getD,List.getElem?_eq_getElem X])
  simp only [Nat.add_zero] at this
  simp [Instr.loadAt,Instr.sureAddr,loadVar,Sem.run_bind,D,this]
theorem sh {W:World} {M:bs} {ρ:Pm} {b k:Nat} {v:Value} (h:jJ (dc W M ρ) b k=some v):W.cell? ⟨b,k,none⟩=some v:=by
 unfold jJ at h
 cases hv:dc W M ρ b with
 | none=>simp [hv] at h
 | some o=>
  rw [hv] at h
  cases o <;> simp at h
  obtain ⟨_,D⟩:=dc.some hv
  simp [World.cell?,D,h]
theorem zn {P:Program} (hA:MR S B w A ρ) {t:TypeId} (O:qo P t=true) {y:AV} {v:Value} {cs:List AV} (h:(if (Program.cellsAgg P t)=true then (if cs.length=P.cellsOf t then some (.agg cs) else none) else (match cs with | [c]=>some c | _=>none))=some y)
  (ab:∃ (b o:Nat) (f:Nat->Value),v = .pointer (some ⟨b,o,none⟩)/\(∀ j,j < cs.length->w.cell? ⟨b,o + j,none⟩=some (f j))/\(∀ (j:Nat) x,cs[j]? = some x->RV S B w A ρ x (f j))) :
  ∃ u,(Instr.loadAt t v).run P w = .ok u w/\RV S B w A ρ y u:=by
 obtain ⟨d,i,Y,G,ad,ac⟩:=ee O
 obtain ⟨b,o,f,rfl,N,U⟩:=ab
 have Z:∀ j v,((List.range cs.length).map f)[j]? = some v->w.cell? ⟨b,o + j,none⟩=some v:=by
  intro j v F
  simp only [List.getElem?_map] at F
  by_cases D:j < cs.length
  ·simp [D] at F; rw [N j D,F]
  ·simp [D] at F
 cases hq:Program.cellsAgg P t with
 | true=>
  rw [hq] at h
  simp only [if_true] at h
  split at h
  ·rename_i aa
   obtain rfl:=Option.some.inj h
   have:=tK (P:=P) O (W:=w) (b:=b) (o:=o) (vs:=(List.range cs.length).map f) (by simp [aa]) Z
   rw [hq] at this
   refine ⟨_,this,.agg _ _ (by simp) (fun i x v G X=>?_)⟩
   have D:=(List.getElem?_eq_some_iff.1 G).1
   simp [D] at X
   rw [<- X]; exact U i x G
  ·cases h
 | false=>
  rw [hq] at h
  simp only [Bool.false_eq_true,if_false] at h
  split at h
  ·rename_i c
   obtain rfl:=Option.some.inj h
   have J:=rQ Y w
   rw [hq] at J
   have I:=N 0 (by simp)
   simp only [Nat.add_zero] at I
   exact ⟨f 0,by simp [Instr.loadAt,Instr.sureAddr,loadVar,Sem.run_bind,J,I],U 0 _ rfl⟩
  ·cases h
theorem EB {P:Program} (aa:fN M A) (hA:MR S B w A ρ) {t:TypeId} (O:qo P t=true) {x y:AV} {v:Value} (h:oK (Program.cellsAgg P t) (P.cellsOf t) x M=some y) (X:RV S B w A ρ x v) :
  ∃ u,(Instr.loadAt t v).run P w = .ok u w/\RV S B w A ρ y u:=by
 obtain ⟨d,i,ai,aD,ap,aA⟩:=ee O
 unfold oK at h
 cases x with
 | pt q cs=>
  simp only at h
  have au:∃ (b o:Nat) (f:Nat->Value),v = .pointer (some ⟨b,o,none⟩)/\(∀ j,j < cs.length->w.cell? ⟨b,o + j,none⟩=some (f j))/\(∀ (j:Nat) x,cs[j]? = some x->RV S B w A ρ x (f j)):=by
   cases X with
   | ptB cs b o f aC D J an=>exact ⟨b,o,f,rfl,fun j I=>sh (D j I),J⟩
   | ptO t cs b c f ah aB ap ak aH D J an=>
    obtain ⟨_,ao⟩:=dc.some ah
    exact ⟨b,0,f,rfl,fun j I=>by simp [World.cell?,ao,D j I],J⟩
  exact zn hA O h au
 | npt cs=>
  simp only at h
  refine zn hA O h ?_
  cases X with
  | nptB cs b o f D J=>exact ⟨b,o,f,rfl,fun j I=>sh (D j I),J⟩
 | loc id L i j=>
  simp only at h
  obtain ⟨ob,ab,h⟩:=Option.bind_eq_some_iff.1 h
  obtain ⟨cs,N,h⟩:=Option.bind_eq_some_iff.1 h
  obtain ⟨b,cap,am,aE,rfl⟩:=qG aa X ab
  obtain ⟨af,az⟩:=eo ab
  obtain ⟨aw,ax,ae,ay,Y⟩:=hA.obj id ob (aa.live af)
  rw [am] at Y
  obtain ⟨av,f,aq,aI,aJ,aK,aL,ar,ad⟩:=Y
  have aj:=(List.getElem?_eq_some_iff.1 N).1
  have aG:cs.length=ob.s:=ae cs (List.mem_of_getElem? N)
  have D:∀ q,q < ob.s->w.cell? ⟨b,i * ob.s + q,none⟩=some (f i q):=fun q G=>by simp [World.cell?,aq,ar i q aj G]
  cases G:Program.cellsAgg P t with
  | true=>
   rw [G] at h
   simp only [if_true] at h
   split at h
   ·rename_i ak
    obtain rfl:=Option.some.inj h
    have:=tK (P:=P) O (W:=w) (b:=b) (o:=i * ob.s + j) (vs:=(List.range (P.cellsOf t)).map fun q=>f i (j + q)) (by simp) (by
     intro q v F
     simp only [List.getElem?_map] at F
     by_cases U:q < P.cellsOf t
     ·simp [U] at F; rw [Nat.add_assoc,D (j + q) (by omega),F]
     ·simp [U] at F)
    rw [G] at this
    refine ⟨_,this,.agg _ _ (by simp; omega) (fun q x v ac F=>?_)⟩
    have U:q < P.cellsOf t:=by
     have:=(List.getElem?_eq_some_iff.1 ac).1
     simp at this; omega
    simp [U] at F
    rw [<- F]; exact ad i (j + q) cs x N (uj ac)
   ·cases h
  | false=>
   rw [G] at h
   simp only [Bool.false_eq_true,if_false] at h
   have Z:=rQ ai w
   rw [G] at Z
   have aF:=(List.getElem?_eq_some_iff.1 h).1
   exact ⟨f i j,by simp [Instr.loadAt,Instr.sureAddr,loadVar,Sem.run_bind,Z,D j (by omega)],ad i j cs y N h⟩
 | _=>simp at h
end
end
end Go.Ab
