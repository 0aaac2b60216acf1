/- Functions that ask whether an empty slice is nil: evaluated both ways, and what holds of both is told. -/
import Derived.Test.YtjlalepbhcekoaaAbWr
set_option linter.unusedVariables false
namespace Go.Ab
open Go Go.RowKit Go.ChangeShapes Go.WideShapes
open Classical in
noncomputable def splitNil (C:CallF):CallF:=fun f args M=>match args with
 | [.sl none []]=>(C f [.nils] M).bind fun p=>(C f [.sle] M).bind fun q=>if p.2=q.2 then some (joinV p.1 q.1,p.2) else none
 | args=>C f args M
theorem splitNil_ok {P:Program} {C:CallF} (h:CallOk P C):CallOk P (splitNil C):=by
 intro f args M out M' hh B w ρ vals hM hl hv o a K Q hK
 unfold splitNil at hh
 split at hh
 ·obtain ⟨p,h1,hh⟩:=Option.bind_eq_some_iff.1 hh
  obtain ⟨q,h2,hh⟩:=Option.bind_eq_some_iff.1 hh
  split at hh
  ·rename_i he
   simp only [Option.some.injEq,Prod.mk.injEq] at hh
   obtain ⟨rfl,rfl⟩:=hh
   have hlt:0 < vals.size:=by rw [← hl]; simp
   have hx:=hv 0 _ vals[0] rfl (Array.getElem?_eq_getElem hlt)
   have one:∀ y,RV P.cellsOf B w M ρ y vals[0]→∀ (i:Nat) x v,[y][i]? = some x→vals[i]? = some v→RV P.cellsOf B w M ρ x v:=by
    intro y hy i x v g1 g2
    cases i with
    | zero=>simp at g1; subst g1; rw [Array.getElem?_eq_getElem hlt] at g2; cases g2; exact hy
    | succ i=>simp at g1
   generalize hv0:vals[0]=v0 at hx one
   cases hx with
   | slN ad c h0=>
    cases ad with
    | none=>
     rw [h0 rfl] at one
     exact h f [.nils] M p.1 p.2 (by rw [h1]) B w ρ vals hM (by simpa using hl) (one _ .nils) o a K Q (fun v w' ρ' s1 s2 s3=>hK v w' ρ' s1 s2 (joinV_l s3))
    | some ad=>
     exact h f [.sle] M q.1 p.2 (by rw [h2,he]) B w ρ vals hM (by simpa using hl) (one _ (.sle ad c)) o a K Q (fun v w' ρ' s1 s2 s3=>hK v w' ρ' s1 s2 (joinV_r s3))
   | slB es b off c s f he=>exact absurd rfl he
  ·cases hh
 ·exact h f _ M out M' hh B w ρ vals hM hl hv o a K Q hK
theorem primOk_split {c:Cx} {an:Nat→Option Ann} {isPrim:Nat→Bool} (hmix:c.P.follows .mixedOrders=true) (n:Nat):PrimOk c.P (splitNil (callN c an (fun _ _ _=>none) (fun _=>false) n)) isPrim:=by
 have h:=splitNil_ok (callN_sound (c:=c) (an:=an) (prim:=fun _ _ _=>none) (isPrim:=fun _=>false) hmix prim_none n)
 intro f args M out M' hh
 simp only at hh
 split at hh
 ·exact h f args M out M' hh
 ·cases hh
theorem Ev.prim {c:Cx} {an:Nat→Option Ann} {prim:CallF} {isPrim:Nat→Bool} {f:Nat} {args:List AV} {M:Mem} {Q:AV×Mem→Prop} (hp:isPrim f=true) (h:Ev (fun _:Nat=>prim f args M) Q):Ev (fun k=>callN c an prim isPrim k f args M) Q:=by
 refine Ev.succ (Ev.congr (fun k=>?_) h)
 show callN c an prim isPrim (k + 1) f args M=_
 unfold callN
 rw [if_pos hp]
theorem joinV_nil (t:TypeId):joinV .nils (.sl (some t) []) = .sl (some t) []:=by
 unfold joinV
 rw [if_neg (by intro h; cases h)]
theorem Ev.nilBoth {C:CallF} {f:Nat} {t:TypeId} (h1:C f [.nils] []=some (.nils,[])) (h2:C f [.sle] []=some (.sl (some t) [],[])):Ev (fun _:Nat=>splitNil C f [.sl none []] []) (fun p=>rRes p.2 p.1 = .sl (some t) []):=by
 have:splitNil C f [.sl none []] []=some (.sl (some t) [],[]):=by
  unfold splitNil
  simp only [h1,h2,Option.bind_some,if_true,joinV_nil]
 rw [this]
 exact Ev.ret rfl
theorem Ev.nilNot {C:CallF} {f:Nat} {es:List (List AV)} {M:Mem} {Q:AV×Mem→Prop} (he:es≠[]) (h:Ev (fun _:Nat=>C f [.sl none es] M) Q):Ev (fun _:Nat=>splitNil C f [.sl none es] M) Q:=by
 have:splitNil C f [.sl none es] M=C f [.sl none es] M:=by
  unfold splitNil
  cases es with
  | nil=>exact absurd rfl he
  | cons e r=>rfl
 rw [this]; exact h
theorem Ev.enter0 {P:Program} {rs:List ResultVar} {X:Option (AV×Mem)} {args:List AV} {M:Mem} {F:Nat→St} {Q:AV×Mem→Prop} (hc:∀ k,X=bFun P rs (F k) args M) (h:Ev (fun k=>(F k (argEnv 0 args) M).bind (kEnd P rs)) Q):Ev (fun _:Nat=>X) Q:=by
 refine Ev.congr (fun k=>?_) h
 rw [hc k]
 unfold bFun kEnd
 cases F k (argEnv 0 args) M with
 | none=>rfl
 | some q=>obtain ⟨x,q⟩:=q; cases x <;> rfl
theorem bNilF {P:Program} {t el:TypeId} {τ:Type} {c:τ→List AV} {xs:List τ} {M:Mem} {x y:AV} {oo:Option TypeId} (hu:P.underlying t=some (.slice el)) (h:0 < xs.length) (hx:x = .sl oo (xs.map c)) (hy:y = .nils):oBin P .eql t x y M=some (.bool false,.keep):=by
 subst hx hy
 unfold oBin binTy
 simp [hu,aBin,aIsNil,h,keep]
theorem law_true2 {cx:Cx} {an:Nat→Option Ann} {prim:CallF} {isPrim:Nat→Bool} {W:World} {f:Nat} {args:List AV} (hmix:cx.P.follows .mixedOrders=true) (hprim:PrimOk cx.P prim isPrim) (hp0:isPrim f=false) (h:Ev (fun k=>callN cx an prim isPrim k f args []) (fun p=>rRes p.2 p.1 = .bool true))
  {vals:Array Value} (hl:args.length=vals.size) (hv:∀ (i:Nat) x v,args[i]? = some x→vals[i]? = some v→RC cx.P.cellsOf (fun b=>W.heap[b]?) W.heap.size (fun _ _=>none) x v) (hfx:FxOk W.heap.size W) :
  Calls cx.P f vals W (fun e W'=>e = .returned (.bool true)∧Below W.heap.size W W'):=by
 obtain ⟨p,hp,K,hK⟩:=h
 have h1:=hK (K + 1) (by omega)
 obtain ⟨v,M'⟩:=p
 simp only at h1 hp
 rw [rRes_bool hp] at h1
 exact law_calls hmix hprim h1 hp0 hl hv hfx
end Go.Ab
