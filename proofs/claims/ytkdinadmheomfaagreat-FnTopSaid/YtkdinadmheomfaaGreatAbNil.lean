/- Functions that ask whether an empty slice is nil: evaluated both ways, and what holds of both is told. -/
import Derived.Test.YtkdinadmheomfaaGreatAbWr
set_option linter.unusedVariables false
namespace Go.Ab
open Go Go.RowKit Go.ChangeShapes Go.WideShapes
open Classical in
noncomputable def l6 (C:bh):bh:=fun f args M=>match args with
 | [.sl none []]=>(C f [.nils] M).bind fun p=>(C f [.sle] M).bind fun q=>if p.2=q.2 then some (wq p.1 q.1,p.2) else none
 | args=>C f args M
theorem Ci {P:Program} {C:bh} (h:o5 P C):o5 P (l6 C):=by
 intro f args M aj M' D B w ρ vals O F ac o a K Q N
 unfold l6 at D
 split at D
 ·obtain ⟨p,af,D⟩:=Option.bind_eq_some_iff.1 D
  obtain ⟨q,ah,D⟩:=Option.bind_eq_some_iff.1 D
  split at D
  ·rename_i U
   simp only [Option.some.injEq,Prod.mk.injEq] at D
   obtain ⟨rfl,rfl⟩:=D
   have ab:0 < vals.size:=by rw [<- F]; simp
   have ad:=ac 0 _ vals[0] rfl (Array.getElem?_eq_getElem ab)
   have G:∀ y,RV P.cellsOf B w M ρ y vals[0]->∀ (i:Nat) x v,[y][i]? = some x->vals[i]? = some v->RV P.cellsOf B w M ρ x v:=by
    intro y ai i x v J aa
    cases i with
    | zero=>simp at J; subst J; rw [Array.getElem?_eq_getElem ab] at aa; cases aa; exact ai
    | succ i=>simp at J
   generalize ak:vals[0]=v0 at ad G
   cases ad with
   | slN I c ae=>
    cases I with
    | none=>
     rw [ae rfl] at G
     exact h f [.nils] M p.1 p.2 (by rw [af]) B w ρ vals O (by simpa using F) (G _ .nils) o a K Q (fun v w' ρ' X Y Z=>N v w' ρ' X Y (EI Z))
    | some I=>
     exact h f [.sle] M q.1 p.2 (by rw [ah,U]) B w ρ vals O (by simpa using F) (G _ (.sle I c)) o a K Q (fun v w' ρ' X Y Z=>N v w' ρ' X Y (Fy Z))
   | slB es b off c s f U=>exact absurd rfl U
  ·cases D
 ·exact h f _ M aj M' D B w ρ vals O F ac o a K Q N
theorem B7 {c:Cx} {an:Nat->Option Ann} {isPrim:Nat->Bool} (F:c.P.follows .mixedOrders=true) (n:Nat):x5 c.P (l6 (nN c an (fun _ _ _=>none) (fun _=>false) n)) isPrim:=by
 have h:=Ci (um (c:=c) (an:=an) (prim:=fun _ _ _=>none) (isPrim:=fun _=>false) F Gi n)
 intro f args M G M' D
 simp only at D
 split at D
 ·exact h f args M G M' D
 ·cases D
theorem Ev.prim {c:Cx} {an:Nat->Option Ann} {prim:bh} {isPrim:Nat->Bool} {f:Nat} {args:List AV} {M:bs} {Q:AV×bs->Prop} (D:isPrim f=true) (h:Ev (fun _:Nat=>prim f args M) Q):Ev (fun k=>nN c an prim isPrim k f args M) Q:=by
 refine Ev.succ (Ev.congr (fun k=>?_) h)
 show nN c an prim isPrim (k + 1) f args M=_
 unfold nN
 rw [if_pos D]
theorem F3 (t:TypeId):wq .nils (.sl (some t) []) = .sl (some t) []:=by
 unfold wq
 rw [if_neg (by intro h; cases h)]
theorem Ev.nilBoth {C:bh} {f:Nat} {t:TypeId} (D:C f [.nils] []=some (.nils,[])) (F:C f [.sle] []=some (.sl (some t) [],[])):Ev (fun _:Nat=>l6 C f [.sl none []] []) (fun p=>cp p.2 p.1 = .sl (some t) []):=by
 have:l6 C f [.sl none []] []=some (.sl (some t) [],[]):=by
  unfold l6
  simp only [D,F,Option.bind_some,if_true,F3]
 rw [this]
 exact Ev.ret rfl
theorem Ev.nilNot {C:bh} {f:Nat} {es:List (List AV)} {M:bs} {Q:AV×bs->Prop} (D:es≠[]) (h:Ev (fun _:Nat=>C f [.sl none es] M) Q):Ev (fun _:Nat=>l6 C f [.sl none es] M) Q:=by
 have:l6 C f [.sl none es] M=C f [.sl none es] M:=by
  unfold l6
  cases es with
  | nil=>exact absurd rfl D
  | cons e r=>rfl
 rw [this]; exact h
theorem Ev.enter0 {P:Program} {rs:List ResultVar} {D:Option (AV×bs)} {args:List AV} {M:bs} {F:Nat->St} {Q:AV×bs->Prop} (G:∀ k,D=CX P rs (F k) args M) (h:Ev (fun k=>(F k (pV 0 args) M).bind (yR P rs)) Q):Ev (fun _:Nat=>D) Q:=by
 refine Ev.congr (fun k=>?_) h
 rw [G k]
 unfold CX yR
 cases F k (pV 0 args) M with
 | none=>rfl
 | some q=>obtain ⟨x,q⟩:=q; cases x <;> rfl
theorem GV {P:Program} {t el:TypeId} {τ:Type} {c:τ->List AV} {xs:List τ} {M:bs} {x y:AV} {I:Option TypeId} (D:P.underlying t=some (.slice el)) (h:0 < xs.length) (F:x = .sl I (xs.map c)) (G:y = .nils):iS P .eql t x y M=some (.bool false,.keep):=by
 subst F G
 unfold iS k9
 simp [D,qU,vG,h,keep]
theorem LH {P:Program} {t el:TypeId} {τ:Type} {c:τ->List AV} {xs:List τ} {M:bs} {x y:AV} {I:Option TypeId} (D:P.underlying t=some (.slice el)) (h:decide (0 < xs.length)=true) (F:x = .sl I (xs.map c)) (G:y = .nils):iS P .neq t x y M=some (.bool true,.keep):=by
 have h:=of_decide_eq_true h
 subst F G
 unfold iS k9
 simp [D,qU,vG,h,keep]
theorem KG {P:Program} {t el:TypeId} {M:bs} {x y:AV} (D:P.underlying t=some (.slice el)) (F:x = .nils) (G:y = .nils):iS P .neq t x y M=some (.bool false,.keep):=by
 subst F G
 unfold iS k9
 simp [D,qU,vG,keep]
theorem Ga {cx:Cx} {an:Nat->Option Ann} {prim:bh} {isPrim:Nat->Bool} {W:World} {f:Nat} {args:List AV} (N:cx.P.follows .mixedOrders=true) (U:x5 cx.P prim isPrim) (O:isPrim f=false) (h:Ev (fun k=>nN cx an prim isPrim k f args []) (fun p=>cp p.2 p.1 = .bool true))
  {vals:Array Value} (J:args.length=vals.size) (X:∀ (i:Nat) x v,args[i]? = some x->vals[i]? = some v->RC cx.P.cellsOf (fun b=>W.heap[b]?) W.heap.size (fun _ _=>none) x v) (I:F8 W.heap.size W) :
  Calls cx.P f vals W (fun e W'=>e = .returned (.bool true)/\Below W.heap.size W W'):=by
 obtain ⟨p,F,K,G⟩:=h
 have D:=G (K + 1) (by omega)
 obtain ⟨v,M'⟩:=p
 simp only at D F
 rw [FU F] at D
 exact FP N U D O J X I
end Go.Ab
