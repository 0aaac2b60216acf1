/- Words that the printed forms use. -/
import Derived.Test.YtkdinadmheomfaaGreatAbArg
import Derived.KernelRfl
set_option linter.unusedVariables false
namespace Go.Ab
open Go
def iS (P:Program) (op:BinOp) (t:TypeId) (x y:AV) (M:bs):Option (AV×Eff):=if k9 P t x y=true then keep (qU op x y M) else none
def On (x:AV):Option (AV×Eff):=some (x,.keep)
def D8 (P:Program) (n:Nat) (t:TypeId) (sz:Nat):Option (AV×Eff):=some (.loc n 1 0 0,.push [⟨.box,t,sz,[b5 P t]⟩])
def xo (sz:Nat) (a x:AV) (M:bs):Option (AV×Eff):=(ri false sz a x M).map fun M'=>(.un,.put M')
def Bv (sz:Nat) (a x:AV) (M:bs):Option (AV×Eff):=(ri true sz a x M).map fun M'=>(.un,.put M')
def BD (P:Program) (t:TypeId) (kp:Bool) (sz:Nat) (a x:AV) (M:bs):Option (AV×Eff):=(w2 P.cellsOf (q6 P 6 t) kp sz a x M).map fun M'=>(.un,.put M')
def nx (x:Option (AV×Eff)) (d:Option Nat) (e:b4) (M:bs) (k:b4->bs->Option (b4×bs)):Option (b4×bs):=x.bind fun p=>k (put e d p.1) (p.2.on M)
def nf (x:Option (AV×Eff)) (d:Option Nat) (calm:Bool) (e:b4) (C:List Ob) (k:b4->List Ob->Option (b4×List Ob)):Option (b4×List Ob):=x.bind fun p=>(wT calm C p.2).bind fun D=>k (put e d p.1) D
def rD (l:List Nat) (F:List Ob->Option (b4×List Ob)) (D:b4->bs->Option (b4×bs)) (M:bs):Option (b4×bs):=((F []).bind fun q=>D q.1 (M++q.2.map .live)).map fun q=>(prune l q.1,q.2)
def IJ (P:Program) (t:TypeId) (x:AV) (M:bs):Option (AV×Eff):=if zj P t x=true then keep (FH x M) else none
def C3 (c:Cx) (call:bh) (th:Bool) (n:Nat) (f:AV) (args:List AV) (M:bs):Option (AV×Eff):=
 match f with
 | .fn g cap=>ld c.P.cellsOf c.rw c.wk call th n g (args++cap) M
 | _=>none
theorem bH {c:Cx} {an:Nat->Option Ann} {prim:Nat->List AV->bs->Option (AV×bs)} {isPrim:Nat->Bool} {k f:Nat} {args:List AV} {M:bs} {D:Func} {a:Ann} {F:St}
  (X : isPrim f = false) (N : c.P.funcs[f]? = some D) (G : an f = some a) (I : D.body = some (D.body.getD .skip)) (O : Nat.beq args.length (D.params.size + D.nfree) = true) (U : (D.name == "runtime.NumGoroutine") = false)
  (J:cf c (nN c an prim isPrim k) D.ntmps a k (D.body.getD .skip)=F):nN c an prim isPrim (k + 1) f args M=CX c.P D.results.toList F args M:=by
 simp only [nN,X,N,G,Bool.false_eq_true,if_false]
 rw [I]
 simp only [O,U,and_self,if_true]
 rw [J]
section
variable (P:Program) (t:TypeId) (k:IntKind) (a b:Int) (M:bs) (x y v:AV) (e:b4) (d n:Nat)
theorem K8:iS P .geq t (.int k a) (.int k b) M=some (.bool (decide (a>=b)),.keep):=by simp [iS,k9,qU,kv,keep]
theorem Kx:iS P .gtr t (.int k a) (.int k b) M=some (.bool (decide (a > b)),.keep):=by simp [iS,k9,qU,kv,keep]
theorem Kv:iS P .leq t (.int k a) (.int k b) M=some (.bool (decide (a<=b)),.keep):=by simp [iS,k9,qU,kv,keep]
theorem K4:iS P .lss t (.int k a) (.int k b) M=some (.bool (decide (a < b)),.keep):=by simp [iS,k9,qU,kv,keep]
theorem KX:iS P .eql t (.int k a) (.int k b) M=some (.bool (a==b),.keep):=by simp [iS,k9,qU,kv,keep]
theorem JY:iS P .neq t (.int k a) (.int k b) M=some (.bool (a != b),.keep):=by simp [iS,k9,qU,kv,keep]
theorem J0:iS P .add t (.int k a) (.int k b) M=some (.int k (k.wrap (a + b)),.keep):=by simp [iS,k9,qU,kv,keep]
theorem Km:iS P .sub t (.int k a) (.int k b) M=some (.int k (k.wrap (a - b)),.keep):=by simp [iS,k9,qU,kv,keep]
theorem K7:iS P .mul t (.int k a) (.int k b) M=some (.int k (k.wrap (a * b)),.keep):=by simp [iS,k9,qU,kv,keep]
end
end Go.Ab
