/- Words that the printed forms use. -/
import Derived.Test.YtjlalepbhcekoaaAbArg
import Derived.KernelRfl
set_option linter.unusedVariables false
namespace Go.Ab
open Go
def oBin (P:Program) (op:BinOp) (t:TypeId) (x y:AV) (M:Mem):Option (AV×Eff):=if binTy P t x y=true then keep (aBin op x y M) else none
def oMv (x:AV):Option (AV×Eff):=some (x,.keep)
def oAlloc (P:Program) (n:Nat) (t:TypeId) (sz:Nat):Option (AV×Eff):=some (.loc n 1 0 0,.push [⟨.box,t,sz,[zeroOf P t]⟩])
def oStore (sz:Nat) (a x:AV) (M:Mem):Option (AV×Eff):=(aStore false sz a x M).map fun M'=>(.un,.put M')
def oStoreK (sz:Nat) (a x:AV) (M:Mem):Option (AV×Eff):=(aStore true sz a x M).map fun M'=>(.un,.put M')
def oStoreG (P:Program) (t:TypeId) (kp:Bool) (sz:Nat) (a x:AV) (M:Mem):Option (AV×Eff):=(aStoreG P.cellsOf (nilTys P 6 t) kp sz a x M).map fun M'=>(.un,.put M')
def nx (x:Option (AV×Eff)) (d:Option Nat) (e:Env) (M:Mem) (k:Env→Mem→Option (Env×Mem)):Option (Env×Mem):=x.bind fun p=>k (put e d p.1) (p.2.on M)
def nf (x:Option (AV×Eff)) (d:Option Nat) (calm:Bool) (e:Env) (C:List Ob) (k:Env→List Ob→Option (Env×List Ob)):Option (Env×List Ob):=x.bind fun p=>(frontEff calm C p.2).bind fun C'=>k (put e d p.1) C'
def rD (l:List Nat) (front:List Ob→Option (Env×List Ob)) (back:Env→Mem→Option (Env×Mem)) (M:Mem):Option (Env×Mem):=((front []).bind fun q=>back q.1 (M++q.2.map .live)).map fun q=>(prune l q.1,q.2)
def oLen (P:Program) (t:TypeId) (x:AV) (M:Mem):Option (AV×Eff):=if lenTy P t x=true then keep (aLen x M) else none
def oCall (c:Cx) (call:CallF) (th:Bool) (n:Nat) (f:AV) (args:List AV) (M:Mem):Option (AV×Eff):=
 match f with
 | .fn g cap=>aCall c.P.cellsOf c.rw c.wk call th n g (args++cap) M
 | _=>none
theorem callN_eq {c:Cx} {an:Nat→Option Ann} {prim:Nat→List AV→Mem→Option (AV×Mem)} {isPrim:Nat→Bool} {k f:Nat} {args:List AV} {M:Mem} {fn:Func} {a:Ann} {F:St}
  (hp : isPrim f = false) (hf : c.P.funcs[f]? = some fn) (ha : an f = some a) (hb : fn.body = some (fn.body.getD .skip)) (hl : Nat.beq args.length (fn.params.size + fn.nfree) = true) (hn : (fn.name == "runtime.NumGoroutine") = false)
  (he:exec c (callN c an prim isPrim k) fn.ntmps a k (fn.body.getD .skip)=F):callN c an prim isPrim (k + 1) f args M=bFun c.P fn.results.toList F args M:=by
 simp only [callN,hp,hf,ha,Bool.false_eq_true,if_false]
 rw [hb]
 simp only [hl,hn,and_self,if_true]
 rw [he]
section
variable (P:Program) (t:TypeId) (k:IntKind) (a b:Int) (M:Mem) (x y v:AV) (e:Env) (d n:Nat)
theorem bin_geq:oBin P .geq t (.int k a) (.int k b) M=some (.bool (decide (a≥b)),.keep):=by simp [oBin,binTy,aBin,aIntBin,keep]
theorem bin_gtr:oBin P .gtr t (.int k a) (.int k b) M=some (.bool (decide (a > b)),.keep):=by simp [oBin,binTy,aBin,aIntBin,keep]
theorem bin_leq:oBin P .leq t (.int k a) (.int k b) M=some (.bool (decide (a≤b)),.keep):=by simp [oBin,binTy,aBin,aIntBin,keep]
theorem bin_lss:oBin P .lss t (.int k a) (.int k b) M=some (.bool (decide (a < b)),.keep):=by simp [oBin,binTy,aBin,aIntBin,keep]
theorem bin_eql:oBin P .eql t (.int k a) (.int k b) M=some (.bool (a==b),.keep):=by simp [oBin,binTy,aBin,aIntBin,keep]
theorem bin_neq:oBin P .neq t (.int k a) (.int k b) M=some (.bool (a != b),.keep):=by simp [oBin,binTy,aBin,aIntBin,keep]
theorem bin_add:oBin P .add t (.int k a) (.int k b) M=some (.int k (k.wrap (a + b)),.keep):=by simp [oBin,binTy,aBin,aIntBin,keep]
theorem bin_sub:oBin P .sub t (.int k a) (.int k b) M=some (.int k (k.wrap (a - b)),.keep):=by simp [oBin,binTy,aBin,aIntBin,keep]
theorem bin_mul:oBin P .mul t (.int k a) (.int k b) M=some (.int k (k.wrap (a * b)),.keep):=by simp [oBin,binTy,aBin,aIntBin,keep]
end
end Go.Ab
