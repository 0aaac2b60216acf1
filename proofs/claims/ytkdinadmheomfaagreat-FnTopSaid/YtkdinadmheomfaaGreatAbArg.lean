/- What a law's arguments are: trees. -/
import Derived.Test.YtkdinadmheomfaaGreatAbCode
import Derived.OpenShut
import Derived.ChangeShapes
import Derived.WideShapes
import Derived.SizedLaws
set_option linter.unusedVariables false
set_option linter.unusedSimpArgs false
namespace Go.Ab
open Go Go.RowKit Go.ChangeShapes Go.WideShapes
def sP (P:Program):Nat->TypeId->Bool
 | 0,_=>false
 | d + 1,t=>match P.underlying t with
  | some .bool | some (.int _) | some .string=>true
  | some (.slice e)=>sP P d e && decide (0 < P.cellsOf e)
  | some (.struct fs)=>fs.toList.all (fun f=>sP P d f.type) && iq.laid P 0 fs.toList (P.cellsOf t)
  | some (.array n e)=>sP P d e && Nat.beq (P.cellsOf t) (n * P.cellsOf e)
  | _=>false
def KJ (T:TypeId->List AV->Prop):List Field->List AV->Prop
 | [],xs=>xs=[]
 | f::r,xs=>∃ a b,xs=a++b/\T f.type a/\KJ T r b
def OA (T:List AV->Prop):Nat->List AV->Prop
 | 0,xs=>xs=[]
 | n + 1,xs=>∃ a b,xs=a++b/\T a/\OA T n b
def Ty (P:Program):Nat->TypeId->List AV->Prop
 | 0,_,_=>False
 | d + 1,t,xs=>match P.underlying t with
  | some .bool=>∃ b,xs=[.bool b]
  | some (.int k)=>∃ n,xs=[.int k n]/\(Lit.int k n).wf=true
  | some .string=>∃ s,xs=[.str s]/\s.length<=reachBytes
  | some (.slice e)=>∃ es,xs=[.sl none es]/\es.length<=maxLen/\es.length * P.bytesOf e<=reachBytes/\∀ c ∈ es,Ty P d e c
  | some (.struct fs)=>KJ (Ty P d) fs.toList xs
  | some (.array n e)=>OA (Ty P d e) n xs
  | _=>False
theorem CF {α β:Type} {f:α->Option β}:∀ {l:List α} {r:List β},l.mapM f=some r->r.length=l.length/\∀ (j:Nat) x,l[j]? = some x->f x=r[j]?
 | [],r,h=>by simp at h; subst h; simp
 | a::l,r,h=>by
  rw [List.mapM_cons] at h
  cases ha:f a with
  | none=>simp [ha] at h
  | some b=>
   cases hl:l.mapM f with
   | none=>simp [ha,hl] at h
   | some q=>
    simp [ha,hl] at h
    subst h
    obtain ⟨F,G⟩:=CF hl
    refine ⟨by simp [F],fun j x D=>?_⟩
    cases j with
    | zero=>simp at D; subst D; simpa using ha
    | succ j=>simpa using G j x (by simpa using D)
theorem t2 {H:Type} {P:Program} {e:TypeId}:∀ {l:List (DataW H)} {x:DataW H},x ∈ l->∀ n ∈ x.weights P e,n ∈ DataW.weightsAll P e l
 | y::l,x,h,n,hn=>by
  simp only [DataW.weightsAll,List.mem_append]
  rcases List.mem_cons.1 h with rfl | h
  ·exact .inl hn
  ·exact .inr (t2 h n hn)
section
variable {H:Type} {enc:TypeId×Value->H} {P:Program} {W:World} {B:Nat} {R:gC} {base:Nat} {held:Bool} {spare:Nat->Bool}
def yn (P:Program) (W:World) (B:Nat) (R:gC) (T:List AV->Prop) (cs:List Value):Prop:=
 ∃ xs,T xs/\xs.length=cs.length/\(∀ x ∈ xs,cG x=true)/\∀ (i:Nat) x v,xs[i]? = some x->cs[i]? = some v->RC P.cellsOf (fun b=>W.heap[b]?) B R x v
theorem wH:∀ {D:List Field} {off sz:Nat},iq.laid P off D sz=true->off<=sz
 | [],off,sz,h=>by simp only [iq.laid] at h; exact Nat.le_of_eq (Nat.eq_of_beq_eq_true h)
 | f::r,off,sz,h=>by
  simp only [iq.laid,Bool.and_eq_true] at h
  have:=wH h.2
  omega
theorem AQ {T:TypeId->List AV->Prop} {cs:List Value}:∀ (F:List Field) (off:Nat),iq.laid P off F cs.length=true->(∀ f ∈ F,yn P W B R (T f.type) ((cs.drop f.offset).take (P.cellsOf f.type)))->yn P W B R (KJ T F) (cs.drop off)
 | [],off,hl,h=>by
  simp only [iq.laid] at hl
  have:=Nat.eq_of_beq_eq_true hl
  exact ⟨[],rfl,by simp [this],by simp,by simp⟩
 | f::r,off,hl,h=>by
  simp only [iq.laid,Bool.and_eq_true] at hl
  have ac:=Nat.eq_of_beq_eq_true hl.1
  have ae:=wH hl.2
  obtain ⟨a,N,I,O,J⟩:=h f (by simp)
  obtain ⟨b,U,X,Y,Z⟩:=AQ r (off + P.cellsOf f.type) hl.2 (fun f ab=>h f (by simp [ab]))
  rw [ac] at I J
  have aa:a.length=P.cellsOf f.type:=by rw [I]; simp; omega
  refine ⟨a++b,⟨a,b,rfl,N,U⟩,by simp [aa,X]; omega,fun x ad=>(List.mem_append.1 ad).elim (O x) (Y x),fun i x v D G=>?_⟩
  rw [List.getElem?_drop] at G
  by_cases hi:i < a.length
  ·rw [List.getElem?_append_left hi] at D
   refine J i x v D ?_
   rw [List.getElem?_take,if_pos (by omega),List.getElem?_drop]; exact G
  ·rw [List.getElem?_append_right (by omega)] at D
   refine Z (i - a.length) x v D ?_
   rw [List.getElem?_drop,show off + P.cellsOf f.type + (i - a.length)=off + i by omega]; exact G
theorem Dh {T:List AV->Prop} {cs:List Value} {sz:Nat}:∀ (n D:Nat),cs.length=(D + n) * sz->(∀ i,D<=i->i < D + n->yn P W B R T ((cs.drop (i * sz)).take sz))->yn P W B R (OA T n) (cs.drop (D * sz))
 | 0,D,hl,h=>⟨[],rfl,by simp at hl ⊢; omega,by simp,by simp⟩
 | n + 1,D,hl,h=>by
  have N:cs.length=(D + 1 + n) * sz:=by rw [hl]; congr 1; omega
  obtain ⟨a,O,U,X,Y⟩:=h D (Nat.le_refl _) (by omega)
  obtain ⟨b,Z,I,aa,J⟩:=Dh n (D + 1) N (fun i F G=>h i (by omega) (by omega))
  have ac:(D + 1) * sz<=cs.length:=by rw [N]; exact Nat.mul_le_mul_right _ (by omega)
  rw [Nat.succ_mul] at ac
  have ab:a.length=sz:=by rw [U]; simp; omega
  rw [Nat.succ_mul] at I J
  refine ⟨a++b,⟨a,b,rfl,O,Z⟩,by simp [ab,I]; omega,fun x ad=>(List.mem_append.1 ad).elim (X x) (aa x),fun i x v F G=>?_⟩
  rw [List.getElem?_drop] at G
  by_cases hi:i < a.length
  ·rw [List.getElem?_append_left hi] at F
   refine Y i x v F ?_
   rw [List.getElem?_take,if_pos (by omega),List.getElem?_drop]; exact G
  ·rw [List.getElem?_append_right (by omega)] at F
   refine J (i - a.length) x v F ?_
   rw [List.getElem?_drop,show D * sz + sz + (i - a.length)=D * sz + i by omega]; exact G
theorem D3 {b k:Nat}:jJ (fun b=>W.heap[b]?) b k=W.cell? ⟨b,k,none⟩:=by
 unfold jJ World.cell?
 simp only
 cases W.heap[b]? with
 | none=>rfl
 | some o=>cases o <;> rfl
theorem uB:∀ (d:Nat) (t:TypeId) (cs:List Value) (ai:Nat) (y:DataW H×List MemPlace),sP P d t=true->DataW.trod enc P W base spare held ai t cs=some y->(∀ n ∈ y.1.weights P t,n<=reachBytes)->yn P W B R (Ty P d t) cs
 | 0,t,cs,ai,y,hp,_,_=>by simp [sP] at hp
 | d + 1,t,cs,ai,y,hp,h,hw=>by
  unfold sP at hp
  have X:∀ (x:AV) (v:Value),cs=[v]->Ty P (d + 1) t [x]->cG x=true->RC P.cellsOf (fun b=>W.heap[b]?) B R x v->yn P W B R (Ty P (d + 1) t) cs:=by
   intro x v J I N O
   refine ⟨[x],I,by simp [J],by simpa using N,fun i x' v' aj ak=>?_⟩
   rw [J] at ak
   cases i with
   | zero=>simp at aj ak; subst aj; subst ak; exact O
   | succ i=>simp at aj
  split at hp
  ·rename_i D
   obtain ⟨b,J,_⟩:=DataW.trod_bool D h
   exact X (.bool b) _ J (by simp only [Ty,D]; exact ⟨b,rfl⟩) rfl (.bool b)
  ·rename_i k D
   obtain ⟨n,J,_,aN⟩:=DataW.trod_int D h
   exact X (.int k n) _ J (by simp only [Ty,D]; exact ⟨n,rfl,aN⟩) rfl (.int k n)
  ·rename_i D
   obtain ⟨s,J,rfl,aa⟩:=DataW.trod_string D h
   refine X (.str s.data.toList) _ J ?_ rfl (.str _ s rfl)
   simp only [Ty,D]
   exact ⟨_,rfl,hw _ (by simp [DataW.weights])⟩
  ·rename_i e D
   simp only [Bool.and_eq_true,decide_eq_true_eq] at hp
   obtain ⟨aJ,aw⟩:=hp
   rcases DataW.trod_slice D h with ⟨J,_⟩ | ⟨a,len,cap,mP,aR,n,_,J,rfl,_,aG,aa,aS,aE,_⟩
   ·refine X (.sl none []) _ J ?_ rfl (.slN none 0 (fun _=>rfl))
    simp only [Ty,D]
    exact ⟨[],rfl,by simp,by simp,by simp⟩
   ·have aO:(mP.length + aR.length) * P.bytesOf e<=reachBytes:=hw _ (by simp [DataW.weights,D])
    have aC:len * P.bytesOf e<=reachBytes:=Nat.le_trans (Nat.mul_le_mul_right _ (by omega)) aO
    have ah:∀ i,i < len->∃ G:List Value,G.length=P.cellsOf e/\(∀ j,j < P.cellsOf e->W.cell? ((a.add (i * P.cellsOf e)).add j)=G[j]?)/\yn P W B R (Ty P d e) G:=by
     intro i F
     have I:=aE i F
     have N:mP[i]? = some mP[i]:=List.getElem?_eq_getElem (by omega)
     rw [N] at I
     obtain ⟨G,O,ac⟩:=Option.bind_eq_some_iff.1 I
     unfold World.cells? at O
     split at O
     ·obtain ⟨ad,aA⟩:=CF O
      refine ⟨G,by simpa using ad,fun j U=>aA j j (by simp [U]),uB d e G n _ aJ ac (fun m aa=>hw m ?_)⟩
      simp only [DataW.weights,D]
      exact List.mem_cons_of_mem _ (List.mem_append_left _ (t2 (List.mem_map.2 ⟨_,List.getElem_mem (by omega),rfl⟩) m aa))
     ·cases O
    by_cases h0:len=0
    ·subst h0
     refine X (.sl none []) _ J ?_ rfl (.slN (some a) cap (fun h=>by cases h))
     simp only [Ty,D]
     exact ⟨[],rfl,by simp,by simp,by simp⟩
    ·obtain ⟨b,off,az⟩:=a
     have aM:az=none:=by
      obtain ⟨G,af,ab,_⟩:=ah 0 (by omega)
      have:=ab 0 aw
      rw [Nat.zero_mul] at this
      simp only [Addr.add,if_true] at this
      rw [List.getElem?_eq_getElem (by omega)] at this
      unfold World.cell? at this
      simp only at this
      cases hh:W.heap[b]? with
      | none=>rw [hh] at this; cases this
      | some o=>
       rw [hh] at this
       cases o <;> simp only at this <;> try (cases this; done)
       cases az with
       | none=>rfl
       | some s=>simp at this
     subst aM
     let el:Nat->List AV:=fun i=>if F:i < len then Classical.choose (Classical.choose_spec (ah i F)).2.2 else []
     have Y:∀ i (F:i < len),∃ G:List Value,G.length=P.cellsOf e/\(∀ j,j < P.cellsOf e->W.cell? ⟨b,off + (i * P.cellsOf e + j),none⟩=G[j]?)/\Ty P d e (el i)/\(el i).length=G.length/\(∀ x ∈ el i,cG x=true)/\∀ (j:Nat) x v,(el i)[j]? = some x->G[j]? = some v->RC P.cellsOf (fun b=>W.heap[b]?) B R x v:=by
      intro i F
      have ae:=Classical.choose_spec (ah i F)
      have aL:=Classical.choose_spec ae.2.2
      have aF:el i=Classical.choose ae.2.2:=dif_pos F
      refine ⟨_,ae.1,fun j U=>?_,?_⟩
      ·have:=ae.2.1 j U
       have aB:((⟨b,off,none⟩:Addr).add (i * P.cellsOf e)).add j=⟨b,off + (i * P.cellsOf e + j),none⟩:=by rw [Addr.add_mid,Addr.add_mid,Nat.add_assoc]
       exact (congrArg W.cell? aB).symm.trans this
      ·rw [aF]; exact aL
     have aH:((List.range len).map el).length=len:=by simp
     have av:=RC.slB (S:=P.cellsOf) (V:=fun b=>W.heap[b]?) (B:=B) (R:=R) ((List.range len).map el) b off cap (P.cellsOf e) (fun i j=>(W.cell? ⟨b,off + (i * P.cellsOf e + j),none⟩).getD Go.undef) (by intro aD; have:=congrArg List.length aD; simp at this; omega) aw
      (fun c Z=>by
       obtain ⟨i,F,rfl⟩:=List.mem_map.1 Z
       obtain ⟨G,af,_,_,ay,_⟩:=Y i (by simpa using F)
       rw [ay,af])
      (fun i j F U=>by
       obtain ⟨G,af,ab,_⟩:=Y i (by simpa using F)
       rw [D3,ab j U,List.getElem?_eq_getElem (by omega)]; rfl)
      (fun i j c x I N=>by
       rw [List.getElem?_map] at I
       obtain ⟨aT,O,rfl⟩:=Option.map_eq_some_iff.1 I
       obtain ⟨ac,ad⟩:=List.getElem?_eq_some_iff.1 O
       simp at ac ad
       subst ad
       obtain ⟨G,af,ab,_,ay,_,aQ⟩:=Y i ac
       have U:=(List.getElem?_eq_some_iff.1 N).1
       have au:G[j]? = some G[j]:=List.getElem?_eq_getElem (by omega)
       rw [ab j (by omega),au]
       exact aQ j x _ N au)
      (by simpa using aG)
      (fun c Z=>by
       obtain ⟨i,F,rfl⟩:=List.mem_map.1 Z
       obtain ⟨G,_,_,_,_,aP,_⟩:=Y i (by simpa using F)
       exact aP)
     rw [aH] at av
     refine X (.sl none ((List.range len).map el)) _ J ?_ rfl av
     simp only [Ty,D]
     refine ⟨_,rfl,by simp; omega,by simpa using aC,fun c Z=>?_⟩
     obtain ⟨i,F,rfl⟩:=List.mem_map.1 Z
     exact (Y i (by simpa using F)).choose_spec.2.2.1
  ·rename_i aq D
   simp only [Bool.and_eq_true] at hp
   obtain ⟨xs,n,_,rfl,am,ax,an⟩:=DataW.trod_struct D h
   have:yn P W B R (KJ (Ty P d) aq.toList) (cs.drop 0):=AQ aq.toList 0 (by rw [am]; exact hp.2) (fun f ar=>by
    obtain ⟨i,F⟩:=List.getElem?_of_mem ar
    have aI:=(List.getElem?_eq_some_iff.1 F).1
    have I:=an i f (by simpa using F)
    have N:xs[i]? = some (xs[i]'(by rw [ax]; simpa using aI)):=List.getElem?_eq_getElem _
    rw [N] at I
    refine uB d f.type _ n _ (List.all_eq_true.1 hp.1 f ar) I (fun m aa=>hw m ?_)
    simp only [DataW.weights,D]
    exact DataW.weights_mem_each (j:=i) (by rw [List.getElem?_map,F]; rfl) (by rw [List.getElem?_map,N]; rfl) m aa)
   rw [List.drop_zero] at this
   obtain ⟨ys,ao,ap⟩:=this
   exact ⟨ys,by simp only [Ty,D]; exact ao,ap⟩
  ·rename_i n e D
   simp only [Bool.and_eq_true] at hp
   obtain ⟨xs,m,_,rfl,am,ax,an⟩:=DataW.trod_array D h
   have:=Dh (P:=P) (W:=W) (B:=B) (R:=R) (T:=Ty P d e) (cs:=cs) (sz:=P.cellsOf e) n 0 (by rw [am,Nat.eq_of_beq_eq_true hp.2,Nat.zero_add]) (fun i _ F=>by
    have I:=an i (by omega)
    have N:xs[i]? = some (xs[i]'(by omega)):=List.getElem?_eq_getElem _
    rw [N] at I
    refine uB d e _ m _ hp.1 I (fun q aK=>hw q ?_)
    simp only [DataW.weights,D]
    exact t2 (List.mem_map.2 ⟨_,List.getElem_mem (by omega),rfl⟩) q aK)
   rw [Nat.zero_mul,List.drop_zero] at this
   obtain ⟨ys,ao,ap⟩:=this
   exact ⟨ys,by simp only [Ty,D]; exact ao,ap⟩
  ·cases hp
def Nu (P:Program) (d:Nat) (t:TypeId) (x:AV):Prop:=if Program.cellsAgg P t=true then ∃ xs,x = .agg xs/\Ty P d t xs else Ty P d t [x]
theorem C4 {d:Nat} {t:TypeId} {v:Value} {x:DataW H} {ae:List MemPlace} {b0:Nat} (G:sP P d t=true) (F:Value.okWide P W .any b0 t v) (h:DataW.Trod enc P W base spare held t v x ae) (ad:∀ n ∈ x.weights P t,n<=reachBytes) :
  ∃ y,Nu P d t y/\RC P.cellsOf (fun b=>W.heap[b]?) B R y v:=by
 obtain ⟨aa,Z⟩:=h
 obtain ⟨xs,X,I,ai,J⟩:=uB (B:=B) (R:=R) d t _ aa _ G Z ad
 cases d with
 | zero=>simp [sP] at G
 | succ d=>
  have N:Program.cellsAgg P t=false->v.cells = #[v]->∃ y,Nu P (d + 1) t y/\RC P.cellsOf (fun b=>W.heap[b]?) B R y v:=by
   intro ab Y
   rw [Y] at I J
   obtain ⟨y,rfl⟩:∃ y,xs=[y]:=by
    match xs,I with
    | [y],_=>exact ⟨y,rfl⟩
   exact ⟨y,by unfold Nu; rw [if_neg (by rw [ab]; simp)]; exact X,J 0 y v rfl rfl⟩
  unfold sP at G
  split at G
  ·rename_i D
   obtain ⟨b,Y,_⟩:=DataW.trod_bool D Z
   have ac:∃ b,v = .bool b:=by
    simp only [Value.okWide,D,Cell.okWide] at F
    cases v <;> simp_all [Cell.ok]
   obtain ⟨af,rfl⟩:=ac
   exact N (by simp [Program.cellsAgg,D]) rfl
  ·rename_i k D
   obtain ⟨n,rfl⟩:=okWide_int D F
   exact N (by simp [Program.cellsAgg,D]) rfl
  ·rename_i D
   obtain ⟨s,rfl⟩:=okWide_string D F
   exact N (by simp [Program.cellsAgg,D]) rfl
  ·rename_i e D
   obtain ⟨a,len,cap,rfl⟩:=okWide_slice D F
   exact N (by simp [Program.cellsAgg,D]) rfl
  ·rename_i ah D
   simp only [Value.okWide,D] at F
   obtain ⟨cs,rfl,_,_⟩:=F
   refine ⟨.agg xs,by unfold Nu; rw [if_pos (by simp [Program.cellsAgg,D])]; exact ⟨xs,rfl,X⟩,.agg xs cs (by simpa [Value.cells] using I) (fun i x v O U=>J i x v O (by simpa [Value.cells] using U))⟩
  ·rename_i n e D
   simp only [Value.okWide,D] at F
   obtain ⟨cs,rfl,_,_⟩:=F
   refine ⟨.agg xs,by unfold Nu; rw [if_pos (by simp [Program.cellsAgg,D])]; exact ⟨xs,rfl,X⟩,.agg xs cs (by simpa [Value.cells] using I) (fun i x v O U=>J i x v O (by simpa [Value.cells] using U))⟩
  ·cases G
theorem CV {c:Cx} {an:Nat->Option Ann} {prim:Nat->List AV->bs->Option (AV×bs)} {isPrim:Nat->Bool} (Z:c.P.follows .mixedOrders=true) (ai:x5 c.P prim isPrim) {n f:Nat} {args:List AV} {M M':bs} {J:AV}
  (h:nN c an prim isPrim (n + 1) f args M=some (J,M')) (ah:isPrim f=false) {w:World} {ρ:Pm} {vals:Array Value} (ad:MR c.P.cellsOf B w M ρ) (au:args.length=vals.size) (ak:∀ (i:Nat) x v,args[i]? = some x->vals[i]? = some v->RV c.P.cellsOf B w M ρ x v) :
  Calls c.P f vals w (fun e w'=>∃ v ρ',e = .returned v/\Step w M ρ w' M' ρ'/\MR c.P.cellsOf B w' M' ρ'/\RV c.P.cellsOf B w' M' ρ' J v):=by
 simp only [nN,ah,Bool.false_eq_true,if_false] at h
 split at h
 ·rename_i I ab af aq
  split at h
  ·rename_i b ae
   split at h
   ·rename_i ar
    unfold CX at h
    obtain ⟨⟨x,ac,U⟩,h1,h2⟩:=Option.bind_eq_some_iff.1 h
    have aj:SR c.P.cellsOf B I.ntmps { tmps:=vals++Array.replicate (I.ntmps - vals.size) undef,defers:=[] } w (pV 0 args) M ρ:=by
     refine ⟨ad,fun t=>?_,by simp; omega,rfl⟩
     rw [vW,if_pos (Nat.zero_le _),Nat.sub_zero]
     cases hat:args[t]? with
     | none=>exact .undef _
     | some x=>
      have av:=(List.getElem?_eq_some_iff.1 hat).1
      have aa:vals[t]? = some vals[t]:=Array.getElem?_eq_getElem (by omega)
      rw [Array.getD_eq_getD_getElem?,Array.getElem?_append_left (by omega),aa]
      exact ak t x _ hat aa
    refine calls_of_wp af ae (jb (um Z ai n) Z ab n b _ _ _ _ _ h1 ρ _ w _ aj (fun X w' ρ' ap O=>?_))
    have Y:∀ ys,ju c.P ac U I.results.toList=some ys->J=s2 ys->M'=U->X.defers=[]/\∃ v,(results I X.tmps).run c.P w' = .ok v w'/\∃ v' ρ',Ending.returned v = .returned v'/\Step w M ρ w' M' ρ'/\MR c.P.cellsOf B w' M' ρ'/\RV c.P.cellsOf B w' M' ρ' J v':=by
     intro ys G D F
     subst D
     subst F
     obtain ⟨v,am,ao⟩:=A9 O G
     exact ⟨O.defers,v,am,v,ρ',rfl,ap,O.mr,ao⟩
    cases x with
    | nrm=>
     obtain ⟨ys,G,N⟩:=Option.map_eq_some_iff.1 h2
     injection N with D F
     exact Y ys G D.symm F.symm
    | ret=>
     obtain ⟨ys,G,N⟩:=Option.map_eq_some_iff.1 h2
     injection N with D F
     exact Y ys G D.symm F.symm
    | ext id=>cases h2
   ·cases h
  ·cases h
 ·cases h
theorem FP {c:Cx} {an:Nat->Option Ann} {prim:Nat->List AV->bs->Option (AV×bs)} {isPrim:Nat->Bool} (X:c.P.follows .mixedOrders=true) (Z:x5 c.P prim isPrim) {n f:Nat} {args:List AV} {M':bs}
  (h:nN c an prim isPrim (n + 1) f args []=some (.bool true,M')) (Y:isPrim f=false) {vals:Array Value} (U:args.length=vals.size) (ac:∀ (i:Nat) x v,args[i]? = some x->vals[i]? = some v->RC c.P.cellsOf (fun b=>W.heap[b]?) W.heap.size (fun _ _=>none) x v) (O:F8 W.heap.size W) :
  Calls c.P f vals W (fun e W'=>e = .returned (.bool true)/\Below W.heap.size W W'):=by
 have J:MR c.P.cellsOf W.heap.size W [] ⟨fun _=>none,fun _=>False⟩:=⟨fun id o h=>by simp at h,fun id ah o ai b c af h=>by simp at h,fun b h=>h.elim,⟨Nat.le_refl _,fun id o b c h=>by simp at h⟩,O⟩
 have F:∀ b,¬ oQ [] (⟨fun _=>none,fun _=>False⟩:Pm) b:=by rintro b ⟨id,o,c,h,_⟩; simp at h
 have ad:dc W [] ⟨fun _=>none,fun _=>False⟩=fun b=>W.heap[b]? := funext fun b=>dc.of_not (F b) (fun h=>h)
 have ab:jK [] (⟨fun _=>none,fun _=>False⟩:Pm)=fun _ _=>none:=by funext id L; simp [jK]
 refine (CV (B:=W.heap.size) X Z h Y J U (fun i x v G I=>by rw [RV,ad,ab]; exact ac i x v G I)).mono (fun e W' aa=>?_)
 obtain ⟨v,ρ',rfl,D,_,ae⟩:=aa
 cases ae
 exact ⟨rfl,D.os,D.tape,D.output,D.size,fun b N=>D.block b N (F b)⟩
theorem Gi:x5 P (fun _ _ _=>none) (fun _=>false):=fun f args M D M' h=>by simp at h
end
end Go.Ab
