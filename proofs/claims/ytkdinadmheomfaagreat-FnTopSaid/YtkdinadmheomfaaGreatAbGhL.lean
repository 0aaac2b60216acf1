/- Nil slices in a new object: rules. -/
import Derived.Test.YtkdinadmheomfaaGreatAbUnr
set_option linter.unusedVariables false
namespace Go.Ab
open Go
section
variable {S:TypeId->Nat} {P:Program} {n t sz e k:Nat} {r r' cs cs':List AV} {ts ts':List Nat} {gs:List Ob} {x v:AV} {kn:Kn}
def Ix:AV->Bool
 | .nils=>true
 | _=>false
theorem OU:ey S n [] ts=([],[]):=rfl
theorem OL (D:Ix x=false) (h:ey S n r ts.tail=(r',gs)):ey S n (x::r) ts=(x::r',gs):=by
 rw [v4]
 split
 ·simp [Ix] at D
 ·rw [h]
theorem Om (h:ey S (n + 1) r ts'=(r',gs)) (D:S e=k):ey S n (.nils::r) ((e + 1)::ts')=(.lsl n 0 0 0::r',⟨.grow,e,k,[]⟩::gs):=by
 rw [v4]
 simp only [h,D]
theorem KD {o:Option (AV×Eff)} (h:o=some (v,.push [⟨kn,t,sz,[cs]⟩])) (F:q6 P 6 t=ts) (D:ey P.cellsOf (n + 1) cs ts=(cs',gs)) (G:(gs.all fun q=>decide (0 < q.s))=true) :
  Ki P true n o=some (v,.push (⟨kn,t,sz,[cs']⟩::gs)):=by
 subst h
 simp only [Ki,if_true,Option.bind_some,Oy,np,F,D,List.append_nil,G]
theorem O2 {M D:bs} {y:AV} {kp:Bool} {q:AV×Eff} (F:D=M++gs.map .live) (O:y = .agg cs) (I:q6 P 6 t=ts) (G:ey P.cellsOf M.length cs ts=(cs',gs)) (J:(gs.all fun q=>decide (0 < q.s))=true)
  (N:(ri kp sz x (.agg cs') D).map (fun M'=>(AV.un,Eff.put M'))=some q):BD P t kp sz x y M=some q:=by
 subst F O
 unfold BD w2
 simp only [I,G,J,if_true]
 exact N
end
section
variable {β:Type} {K:Nat->b4×bs->Option β} {Q:β->Prop} {e:b4} {M:bs} {x:AV} {d:Option Nat} {cont:Nat->b4->bs->Option (b4×bs)}
theorem be (h:Ev (fun k=>(cont k (put e d x) M).bind (K k)) Q):Ev (fun k=>(nx (On x) d e M (cont k)).bind (K k)) Q:=kx (bp rfl) h
end
section
variable {β:Type} {K:Nat->b4×List Ob->Option β} {Q:β->Prop} {e:b4} {C:List Ob} {x:AV} {d:Option Nat} {calm:Bool} {cont:Nat->b4->List Ob->Option (b4×List Ob)}
theorem r3 (h:Ev (fun k=>(cont k (put e d x) C).bind (K k)) Q):Ev (fun k=>(nf (On x) d calm e C (cont k)).bind (K k)) Q:=kf (bp rfl) h
end
section
variable {β:Type} {K:Nat->oZ->Option β} {Q:β->Prop} {e:b4} {M:bs}
theorem av {l:List Nat} {b:Nat->RF} {c:Nat->St} (h:Ev (fun k=>(b k e M).bind fun q=>F5 (c k) (K k) (.nrm,prune l q.1,q.2)) Q):Ev (fun k=>(ak (ap (rg l (b k))) (c k) e M).bind (K k)) Q:=sq (Rg h)
end
section
variable {S R:Type} {RS:S->b4->bs->Prop} {RR:R->Ex->b4->bs->Prop} {e:b4} {M:bs} {r:S⊕R}
theorem jd {s:S} (D:some (.inl s)=some r) (h:RS s e M):Ev (fun _:Nat=>some (.nrm,e,M)) (bQ RS RR r):=by cases D; exact qN h
theorem lr {s:R} (D:some (.inr s)=some r) (h:RR s .ret e M):Ev (fun _:Nat=>some (.ret,e,M)) (bQ RS RR r):=by cases D; exact qR h
theorem md {s:R} {j:Nat} (D:some (.inr s)=some r) (h:RR s (.ext j) e M):Ev (fun _:Nat=>some (.ext j,e,M)) (bQ RS RR r):=by cases D; exact qE h
end
section
variable {P:Program} {rs:List ResultVar} {e:b4} {M:bs} {vs:List AV} {β:Type} {x r:β}
theorem ct {enc:β->AV} (h:some x=some r) (F:ju P e M rs=some vs) (D:cp M (s2 vs)=enc x):Ev (fun _:Nat=>yR P rs (.ret,e,M)) (fun p=>cp p.2 p.1=enc r):=by cases h; exact eR F D
theorem yN {Q:β->AV×bs->Prop} (h:some x=some r) (F:ju P e M rs=some vs) (D:Q x (s2 vs,M)):Ev (fun _:Nat=>yR P rs (.ret,e,M)) (Q r):=by cases h; exact eR F D
abbrev a4 (n:Int):AV:=.int .i64 n
@[reducible] def cnI (n:Int):VF:=cn (.int .i64 n)
theorem nt {a b:Bool} (h:a=b):(!a) = !b:=congrArg Bool.not h
end
end Go.Ab
