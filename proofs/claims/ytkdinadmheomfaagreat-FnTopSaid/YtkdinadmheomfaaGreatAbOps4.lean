/- Slices of slices, a slice's elements, bytes to text, parts put together. -/
import Derived.Test.YtkdinadmheomfaaGreatAbOps3
set_option linter.unusedVariables false
set_option linter.unusedSimpArgs false
namespace Go.Ab
open Go Go.RowKit
def FZ (S:TypeId->Nat) (V:Nat->Option Obj) (B:Nat) (R:gC) (D:Nat->Option Value) (s:Nat) (es:List (List AV)):Prop:=
 0 < s/\(∀ e ∈ es,e.length=s)/\∃ f:Nat->Nat->Value,(∀ i j,i < es.length->j < s->D (i * s + j)=some (f i j))/\(∀ (i j:Nat) e x,es[i]? = some e->e[j]? = some x->RC S V B R x (f i j))
theorem FZ.sub {S:TypeId->Nat} {V:Nat->Option Obj} {B:Nat} {R:gC} {D:Nat->Option Value} {s:Nat} {es:List (List AV)} (h:FZ S V B R D s es) (l n:Nat) (Z:l + n<=es.length) :
  FZ S V B R (fun k=>D (l * s + k)) s ((es.drop l).take n):=by
 obtain ⟨G,I,f,J,N⟩:=h
 refine ⟨G,fun e F=>I e (List.mem_of_mem_drop (List.mem_of_mem_take F)),fun i j=>f (l + i) j,fun i j O U=>?_,fun i j e x F X=>N (l + i) j e x (uj F) X⟩
 have Y:i < n:=by simp at O; omega
 have:l * s + (i * s + j)=(l + i) * s + j:=by rw [Nat.add_mul,Nat.add_assoc]
 show D (l * s + (i * s + j))=_
 rw [this]
 exact J (l + i) j (by omega) U
section
variable {S:TypeId->Nat} {B:Nat} {w:World} {M A:bs} {ρ:Pm}
theorem uq (hA:MR S B w A ρ) {id b cap:Nat} {o:Ob} (h:A[id]? = some (.live o)) (I:ρ id=some (b,cap)) :
  ∃ cs,w.heap[b]? = some (.cells cs o.t (0,0))/\cs.size=cap * o.s/\o.es.length<=cap/\cap<=maxLen/\FZ S (dc w A ρ) B (jK A ρ) (fun k=>cs[k]?) o.s o.es:=by
 obtain ⟨Z,F,G,aa,D⟩:=hA.obj id o h
 rw [I] at D
 obtain ⟨cs,f,J,N,O,U,ab,X,Y⟩:=D
 exact ⟨cs,J,N,O,U,F,G,f,X,Y⟩
theorem Co (Y:fN M A) (hA:MR S B w A ρ) {x:AV} {v:Value} {es:List (List AV)} (h:mP x M=some es) (O:RV S B w A ρ x v) :
  ∃ a c,v = .slice a es.length c/\es.length<=c/\(es=[]∨∃ b off s,a=some ⟨b,off,none⟩/\FZ S (dc w A ρ) B (jK A ρ) (fun k=>w.cell? ⟨b,off + k,none⟩) s es):=by
 unfold mP at h
 cases x with
 | nils=>obtain rfl:=Option.some.inj h; cases O; exact ⟨_,_,rfl,by simp,.inl rfl⟩
 | sle=>obtain rfl:=Option.some.inj h; cases O; exact ⟨_,_,rfl,by simp,.inl rfl⟩
 | sl q es'=>
  obtain rfl:=Option.some.inj h
  cases O with
  | slN a c=>exact ⟨_,_,rfl,by simp,.inl rfl⟩
  | slB es b off c s f aw N I G J ad aa=>exact ⟨_,_,rfl,ad,.inr ⟨b,off,s,rfl,N,I,f,fun i j D F=>sh (G i j D F),J⟩⟩
  | slON=>exact ⟨_,_,rfl,by simp,.inl rfl⟩
  | slO t es b cap cs' f U ac aj N ae ah I G J aa=>
   obtain ⟨_,X⟩:=dc.some U
   exact ⟨_,_,rfl,ae,.inr ⟨b,0,S t,rfl,N,I,f,fun i j D F=>by simp [World.cell?,X,G i j D F],J⟩⟩
 | lit t es'=>
  obtain rfl:=Option.some.inj h
  cases O with
  | lit t es b cs' f U ac aj N ah I G J aa=>
   obtain ⟨_,X⟩:=dc.some U
   exact ⟨_,_,rfl,Nat.le_refl _,.inr ⟨b,0,S t,rfl,N,I,f,fun i j D F=>by simp [World.cell?,X,G i j D F],J⟩⟩
 | lsl id L off n=>
  simp only at h
  obtain ⟨o,Z,h⟩:=Option.bind_eq_some_iff.1 h
  split at h
  ·rename_i ax
   obtain rfl:=Option.some.inj h
   obtain ⟨ab,ar⟩:=eo Z
   rcases jO Y O Z with ⟨b,cap,ai,ay,rfl⟩ | ⟨_,au,av,rfl,rfl⟩
   ·obtain ⟨cs,ak,az,aA,aB,am⟩:=uq hA (Y.live ab) ai
    have af:((o.es.drop off).take n).length=n:=by simp; omega
    rw [af]
    refine ⟨_,_,rfl,by omega,.inr ⟨b,off * o.s,o.s,rfl,?_⟩⟩
    obtain ⟨an,ao,f,ap,aq⟩:=am.sub off n (by omega)
    exact ⟨an,ao,f,fun i j D F=>by have:=ap i j D F; simp only at this; simp [World.cell?,ak,this],aq⟩
   ·exact ⟨none,0,by simp,by simp,.inl (by simp)⟩
  ·cases h
 | _=>simp at h
theorem FZ.sl {V:Nat->Option Obj} {R:gC} {es:List (List AV)} {b off s c:Nat} (h:FZ S V B R (fun k=>jJ V b (off + k)) s es) (N:es≠[]) (J:es.length<=c) (O:∀ e ∈ es,∀ x ∈ e,cG x=true):RC S V B R (.sl none es) (.slice (some ⟨b,off,none⟩) es.length c):=by
 obtain ⟨D,F,f,G,I⟩:=h
 exact .slB es b off c s f N D F G I J O
theorem xi {V:Nat->Option Obj} {R:gC} {es:List (List AV)} {b off s c l h sz:Nat} (G:FZ S V B R (fun k=>jJ V b (off + k)) s es) (aa:l < h) (Z:h<=es.length) (Y:es.length<=c) (X:∀ e ∈ es,∀ x ∈ e,cG x=true)
  (D:l=0∨((es[l]?).getD []).length=sz):RC S V B R (.sl none ((es.drop l).take (h - l))) (.slice (some ⟨b,off + l * sz,none⟩) (h - l) (c - l)):=by
 have F:((es.drop l).take (h - l)).length=h - l:=by simp; omega
 have N:(es.drop l).take (h - l)≠[]:=by intro e; rw [e] at F; simp at F; omega
 have U:=G.sub l (h - l) (by omega)
 have O:l * sz=l * s:=by
  rcases D with rfl | D
  ·simp
  ·have I:l < es.length:=by omega
   rw [List.getElem?_eq_getElem I] at D
   simp only [Option.getD_some] at D
   rw [<- D,G.2.1 _ (List.getElem_mem I)]
 have:=FZ.sl (b:=b) (off:=off + l * sz) (c:=c - l) (by rw [O]; simpa [Nat.add_assoc] using U) N (by rw [F]; omega) (fun e J=>X e (List.mem_of_mem_drop (List.mem_of_mem_take J)))
 rwa [F] at this
theorem HU {P:Program} (ao:fN M A) (hA:MR S B w A ρ) {t el:TypeId} (aO:P.underlying t=some (.slice el)) (aw:qo P el=true) {au X:Option AV} {ad ac:Option Value} {x y:AV} {v:Value}
  (h:vo (P.cellsOf el) au X x M=some y) (aQ:∀ s,x≠.str s) (ae:RV S B w A ρ x v) (aM:au.isNone=ad.isNone) (aJ:X.isNone=ac.isNone)
  (aL:∀ a v,au=some a->ad=some v->RV S B w A ρ a v) (aI:∀ a v,X=some a->ac=some v->RV S B w A ρ a v) (W:World) :
  ∃ z,(Instr.sliceAt t v ad ac none).run P W = .ok z W/\RV S B w A ρ y z:=by
 obtain ⟨d,i,aT,aK,aj,aS⟩:=ee aw
 unfold vo at h
 replace h:=Option.bind_eq_some_iff.1 h
 obtain ⟨n,N,h⟩:=h
 replace h:=Option.bind_eq_some_iff.1 h
 obtain ⟨ab,aA,h⟩:=h
 replace h:=Option.bind_eq_some_iff.1 h
 obtain ⟨l,aB,h⟩:=h
 split at h
 ·rename_i I
  obtain ⟨aF,aG,ak⟩:=I
  have aD:(ad=none/\l=0)∨∃ k,ad=some (.int k l):=Cj aB aM aL
  have aC:(ac=none/\ab=(n:Int))∨∃ k,ac=some (.int k ab):=Cj aA aJ aI
  have D:∀ (a:Option Addr) (c:Nat),n<=c->v = .slice a n c ->
    (Instr.sliceAt t v ad ac none).run P W = .ok (.slice (if c=l.toNat then a else a.map (·.add (l.toNat * P.cellsOf el))) (ab.toNat - l.toNat) (c - l.toNat)) W:=by
   intro a c aN aP
   subst aP
   have aa:=sZ (P:=P) (isS:=true) (len:=n) (cap:=c) aN aF aG ak aD aC W
   have J:=ss aK W
   simp [Instr.sliceAt,Instr.slice,run_underlying aO,Sem.run_bind,aa,J,aj]
  have hN:∀ (a:Option Addr) (c:Nat) (f:Addr->Addr),(a=none->c=0)->(if c=l.toNat then a else Option.map f a)=none->c - l.toNat=0:=by
   intro a c f am h
   have:a=none:=by
    split at h
    ·exact h
    ·simpa using h
   rw [am this]; simp
  have O:∀ (a:Option Addr) (c:Nat),(a=none->c=0)->l=ab->RV S B w A ρ (.sl none []) (.slice a (ab.toNat - l.toNat) c):=by
   intro a c am e
   subst e
   simp only [Nat.sub_self]
   exact .slN a c am
  cases x with
  | nils=>
   obtain rfl:=Option.some.inj N
   obtain rfl:=Option.some.inj h
   cases ae
   exact ⟨_,D _ _ (Nat.le_refl _) rfl,O _ _ (hN _ _ _ (fun _=>rfl)) (by omega)⟩
  | sl q es=>
   obtain rfl:=Option.some.inj N
   simp only at h
   split at h
   ·rename_i G
    obtain rfl:=Option.some.inj h
    cases ae with
    | slN a c h=>exact ⟨_,D _ _ (by simp) rfl,O _ _ (hN _ _ _ h) G⟩
    | slB es b off c s f aH J U I Y af Z=>exact ⟨_,D _ _ af rfl,O _ _ (hN _ _ _ (by intro h; first | rfl | cases h)) G⟩
    | slON=>exact ⟨_,D _ _ (by simp) rfl,O _ _ (hN _ _ _ (fun _=>rfl)) G⟩
    | slO t es b cap cs' f aa av aj J ah ax U I Y Z=>exact ⟨_,D _ _ ah rfl,O _ _ (hN _ _ _ (by intro h; first | rfl | cases h)) G⟩
   ·rename_i ap
    split at h
    ·rename_i ar
     obtain rfl:=Option.some.inj h
     have ai:l.toNat=0∨((es[l.toNat]?).getD []).length=P.cellsOf el:=ar.imp (fun e=>by omega) id
     cases ae with
     | slN a c=>simp at ak; omega
     | slB es b off c s f aH J U I Y af Z=>
      have F:=D _ _ af rfl
      rw [if_neg (by omega)] at F
      refine ⟨_,F,?_⟩
      simp only [Option.map_some,Addr.add_mid]
      exact xi (s:=s) ⟨J,U,f,I,Y⟩ (by omega) (by omega) af Z ai
     | slON=>simp at ak; omega
     | slO t es b cap cs' f aa av aj J ah ax U I Y Z=>
      have F:=D _ _ ah rfl
      rw [if_neg (by omega)] at F
      refine ⟨_,F,?_⟩
      simp only [Option.map_some,Addr.add_mid]
      exact xi (s:=S t) ⟨J,U,f,fun i j X an=>by simp only [jJ,aa,Nat.zero_add]; exact I i j X an,Y⟩ (by omega) (by omega) ah Z ai
    ·cases h
  | lit a0 es=>
   obtain rfl:=Option.some.inj N
   simp only at h
   cases ae with
   | lit t es b cs' f aa av aj J ax U I Y Z=>
    split at h
    ·rename_i G
     obtain rfl:=Option.some.inj h
     exact ⟨_,D _ _ (Nat.le_refl _) rfl,O _ _ (hN _ _ _ (by intro h; first | rfl | cases h)) G⟩
    ·rename_i ap
     split at h
     ·rename_i ar
      obtain rfl:=Option.some.inj h
      have ai:l.toNat=0∨((es[l.toNat]?).getD []).length=P.cellsOf el:=ar.imp (fun e=>by omega) id
      have F:=D _ _ (Nat.le_refl _) rfl
      rw [if_neg (by omega)] at F
      refine ⟨_,F,?_⟩
      simp only [Option.map_some,Addr.add_mid]
      exact xi (s:=S _) ⟨J,U,f,fun i j X an=>by simp only [jJ,aa,Nat.zero_add]; exact I i j X an,Y⟩ (by omega) (by omega) (Nat.le_refl _) Z ai
     ·cases h
  | lsl id L off m=>
   simp only [u9] at N
   split at N
   ·rename_i aw
    obtain rfl:=Option.some.inj N
    simp only at h
    replace h:=Option.bind_eq_some_iff.1 h
    obtain ⟨o,aq,h⟩:=h
    obtain ⟨aE,aR⟩:=eo aq
    rcases jO ao ae aq with ⟨b,cap,az,aU,rfl⟩ | ⟨_,_,_,rfl,rfl⟩
    ·obtain ⟨cs,aV,aW,aX,aY,aZ⟩:=uq hA (ao.live aE) az
     split at h
     ·rename_i G
      obtain rfl:=Option.some.inj h
      exact ⟨_,D _ _ (by omega) rfl,O _ _ (hN _ _ _ (by intro h; first | rfl | cases h)) G⟩
     ·rename_i ap
      split at h
      ·rename_i ay
       obtain rfl:=Option.some.inj h
       have F:=D _ _ (show m<=cap - off by omega) rfl
       rw [if_neg (by omega)] at F
       refine ⟨_,F,?_⟩
       simp only [Option.map_some,Addr.add_mid]
       have:=Mv (S:=S) (B:=B) (w:=w) ao (off:=off + l.toNat) (n:=ab.toNat - l.toNat) aq az (by omega)
       rw [Nat.add_mul,ay] at this
       rw [ay,show cap - off - l.toNat=cap - (off + l.toNat) by omega]
       exact this
      ·cases h
    ·split at h
     ·rename_i G
      obtain rfl:=Option.some.inj h
      exact ⟨_,D _ _ (Nat.le_refl _) rfl,O _ _ (hN _ _ _ (by intro h; first | rfl | cases h)) G⟩
     ·rename_i ap
      omega
   ·cases N
  | str s=>exact absurd rfl (aQ s)
  | nsl t es=>simp at h
  | _=>simp [u9] at N
 ·cases h
theorem w4:∀ (es:List (List AV)) {s:List UInt8},Go.Ab.bytesOf es=some s->∃ xs:List Int,es=xs.map (fun n=>[AV.int .u8 n])/\s=xs.map fun n=>UInt8.ofNat n.toNat
 | [],s,h=>⟨[],rfl,by simpa [Go.Ab.bytesOf] using h.symm⟩
 | e::r,s,h=>by
  unfold Go.Ab.bytesOf at h
  split at h
  ·rename_i D; cases D
  ·rename_i n r' D
   injection D with h1 h2
   subst h1; subst h2
   obtain ⟨q,F,rfl⟩:=Option.map_eq_some_iff.1 h
   obtain ⟨xs,rfl,rfl⟩:=w4 _ F
   exact ⟨n::xs,rfl,rfl⟩
  ·cases h
theorem Ik {P:Program} (ah:fN M A) (hA:MR S B w A ρ) {src dst q:TypeId} (I:P.underlying src=some (.slice q)) (G:P.underlying q=some (.int .u8)) (F:P.underlying dst=some .string) {x y:AV} {v:Value}
  (h:DC x M=some y) (ak:RV S B w A ρ x v):∃ u,(convert src dst v).run P w = .ok u w/\RV S B w A ρ y u:=by
 unfold DC at h
 obtain ⟨es,ae,h⟩:=Option.bind_eq_some_iff.1 h
 obtain ⟨s,ac,rfl⟩:=Option.map_eq_some_iff.1 h
 obtain ⟨xs,rfl,rfl⟩:=w4 es ac
 obtain ⟨a,c,rfl,ao,af⟩:=Co ah hA ae ak
 refine ⟨.string (strOfNums xs),?_,.str _ _ (strOfNums_data xs)⟩
 have U:∀ b off,a=some ⟨b,off,none⟩->(∀ i,i < xs.length->w.cell? ⟨b,off + i,none⟩=some (.int .u8 (xs.getD i 0)))->(convert src dst (.slice a (xs.map (fun n=>[AV.int .u8 n])).length c)).run P w = .ok (.string (strOfNums xs)) w:=by
  intro b off ab ad
  subst ab
  exact run_convert_bytes_arg w src q I G b off _ c xs (by simp) (by simpa using ad) dst F
 rcases af with hn | ⟨b,off,s,rfl,an,Y,f,Z,aa⟩
 ·have am:xs=[]:=by simpa using hn
  subst am
  cases a with
  | none=>exact run_convert_bytes_nil w src q I G 0 c dst F
  | some O=>
   have:=run_convert_bytes_string w src dst q (some O) 0 c I G F
   refine this.trans ?_
   simp [Conv.bytesToString,loadCells,loadCellsFrom]
   rfl
 ·have aj:xs≠[]->s=1:=by
   intro ai
   cases xs with
   | nil=>exact absurd rfl ai
   | cons n r=>have:=Y [AV.int .u8 n] (by simp); simpa using this.symm
  refine U b off rfl (fun i D=>?_)
  have X:=aj (by intro e; rw [e] at D; simp at D)
  subst X
  have J:=Z i 0 (by simpa using D) (by omega)
  have N:=aa i 0 [AV.int .u8 (xs.getD i 0)] (.int .u8 (xs.getD i 0)) (by simp [List.getD,D]) rfl
  cases hf:f i 0 <;> rw [hf] at N <;> cases N
  rw [hf] at J
  simpa using J
end
end Go.Ab
