/- The abstract evaluator of this proof: values, a small store, operations, code with fuel. Definitions alone. -/
import Derived.Test.YtjlalepbhcekoaaAbFix
set_option linter.unusedVariables false
namespace Go.Ab
open Go
inductive AV where
  | undef
  | un
  | int (k:IntKind) (n:Int)
  | bool (b:Bool)
  | ub
  | str (s:List UInt8)
  | agg (cs:List AV)
  | nils
  | sle
  | nilp
  | sl (o:Option TypeId) (es:List (List AV))
  | lit (t:TypeId) (es:List (List AV))
  | pt (o:Option TypeId) (cs:List AV)
  | loc (id L i j:Nat)
  | lsl (id L off n:Nat)
  | fn (f:Nat) (cap:List AV)
  | tup (vs:List AV)
  | nsl (t:TypeId) (es:List (List AV))
  | npt (cs:List AV)
  deriving Inhabited
inductive Kn where
  | box | grow
  deriving DecidableEq
structure Ob where
  kn:Kn
  t:TypeId
  s:Nat
  es:List (List AV)
inductive Ent where
  | dead | pend | live (o:Ob)
abbrev Mem:=List Ent
abbrev Env:=List (Nat×AV)
def eget:Env→Nat→AV
  | [],_=>.undef
  | (t',v)::r,t=>if Nat.beq t' t then v else eget r t
def cval:Value→AV
  | .int k n=>.int k n
  | .bool b=>.bool b
  | .string s=>.str s.data.toList
  | .slice none 0 0=>.nils
  | .pointer none=>.nilp
  | _=>.undef
def oval (e:Env):Operand→AV
  | .tmp t=>eget e t
  | .const v=>cval v
  | .func f=>.fn f []
  | .global _=>.undef
def cellOk:AV→Bool
  | .int .. | .bool _ | .str _ | .nils | .nilp | .sl .. | .lit .. | .lsl .. | .loc ..=>true
  | _=>false
def treeOk:AV→Bool
  | .int .. | .bool _ | .str _ | .nils | .nilp | .sl none _=>true
  | _=>false
def stripC:AV→AV
  | .sl _ es=>.sl none es
  | .lit _ es=>.sl none es
  | .pt _ cs=>.pt none cs
  | v=>v
def vcells0:AV→List AV
  | .agg cs=>cs
  | v=>[v]
def vcells (v:AV):List AV:=(vcells0 v).map stripC
def stripL:AV→AV
  | .lit t es=>.sl (some t) es
  | .pt _ cs=>.pt none cs
  | v=>v
def kcells (kp:Bool) (v:AV):List AV:=
  match kp with
  | true=>(vcells0 v).map stripL
  | false=>vcells v
def getOb (M:Mem) (id L:Nat):Option Ob:=
  match M[id]? with
  | some (.live o)=>if o.es.length=L then some o else none
  | _=>none
def okRef (M:Mem) (id L:Nat):Bool:=(getOb M id L).isSome
def okC (M:Mem) (x:AV):Bool:=
  match x with
  | .lsl id L _ _=>okRef M id L
  | .loc id L _ _=>okRef M id L
  | _=>cellOk x
def aLoad (ag:Bool) (sz:Nat) (x:AV) (M:Mem):Option AV:=
  match x with
  | .pt _ cs=>if ag then (if cs.length=sz then some (.agg cs) else none) else (match cs with | [c]=>some c | _=>none)
  | .npt cs=>if ag then (if cs.length=sz then some (.agg cs) else none) else (match cs with | [c]=>some c | _=>none)
  | .loc id L i j=>(getOb M id L).bind fun o=>(o.es[i]?).bind fun cs=>
      if ag then (if j + sz≤cs.length then some (.agg ((cs.drop j).take sz)) else none) else cs[j]?
  | _=>none
def aStore (kp:Bool) (sz:Nat) (x v:AV) (M:Mem):Option Mem:=
  match x with
  | .loc id L i j=>(getOb M id L).bind fun o=>(o.es[i]?).bind fun cs=>
      if (kcells kp v).length=sz∧j + sz≤cs.length∧(kcells kp v).all (okC M)=true then
        some (M.set id (.live { o with es:=o.es.set i (cs.take j++kcells kp v++cs.drop (j + sz)) }))
      else none
  | _=>none
def aFieldAddr (off sz:Nat) (x:AV) (M:Mem):Option AV:=
  match x with
  | .pt o cs=>if off + sz≤cs.length∧0 < sz then some (.pt none ((cs.drop off).take sz)) else none
  | .loc id L i j=>if okRef M id L=true then some (.loc id L i (j + off)) else none
  | _=>none
def aField (ag:Bool) (off sz:Nat) (x:AV):Option AV:=
  match x with
  | .agg cs=>if ag=true then (if off + sz≤cs.length then some (.agg ((cs.drop off).take sz)) else none) else cs[off]?
  | _=>none
def aIndexS (sz:Nat) (x i:AV) (M:Mem):Option AV:=
  match i with
  | .int _ n=>if 0≤n then
      (match x with
       | .sl _ es=>(es[n.toNat]?).bind fun cs=>if cs.length=sz then some (.pt none cs) else none
       | .lit _ es=>(es[n.toNat]?).bind fun cs=>if cs.length=sz then some (.pt none cs) else none
       | .nsl _ es=>(es[n.toNat]?).bind fun cs=>if cs.length=sz then some (.npt cs) else none
       | .lsl id L off m=>(getOb M id L).bind fun o=>if n < m∧o.s=sz then some (.loc id L (off + n.toNat) 0) else none
       | _=>none)
      else none
  | _=>none
def aIndexP (len sz:Nat) (x i:AV) (M:Mem):Option AV:=
  match i with
  | .int _ n=>if 0≤n∧n < len then
      (match x with
       | .pt _ cs=>if n.toNat * sz + sz≤cs.length then some (.pt none ((cs.drop (n.toNat * sz)).take sz)) else none
       | .loc id L k j=>if okRef M id L=true then some (.loc id L k (j + n.toNat * sz)) else none
       | _=>none)
      else none
  | _=>none
def aIndexA (ag:Bool) (len sz:Nat) (x i:AV):Option AV:=
  match i with
  | .int _ n=>if 0≤n∧n < len then aField ag (n.toNat * sz) sz x else none
  | _=>none
def aIndexB (x i:AV):Option AV:=
  match x,i with
  | .str s,.int _ n=>if 0≤n then (s[n.toNat]?).map fun b=>.int .u8 b.toNat else none
  | _,_=>none
def aNilCheck (x:AV) (M:Mem):Option AV:=
  match x with
  | .pt ..=>some x
  | .loc id L i j=>if okRef M id L=true then some x else none
  | _=>none
def aPick (c a b:AV):Option AV:=
  match c with
  | .bool true=>some a
  | .bool false=>some b
  | _=>none
def aIntBin (op:BinOp) (k:IntKind) (a b:Int):Option AV:=
  match op with
  | .add=>some (.int k (k.wrap (a + b)))
  | .sub=>some (.int k (k.wrap (a - b)))
  | .mul=>some (.int k (k.wrap (a * b)))
  | .quo=>if b=0 then none else some (.int k (k.wrap (a.tdiv b)))
  | .rem=>if b=0 then none else some (.int k (a.tmod b))
  | .and=>some (.int k (k.wrap (BitVec.ofInt k.bits a &&& BitVec.ofInt k.bits b).toNat))
  | .or=>some (.int k (k.wrap (BitVec.ofInt k.bits a ||| BitVec.ofInt k.bits b).toNat))
  | .xor=>some (.int k (k.wrap (BitVec.ofInt k.bits a ^^^ BitVec.ofInt k.bits b).toNat))
  | .eql=>some (.bool (a==b))
  | .neq=>some (.bool (a != b))
  | .lss=>some (.bool (decide (a < b)))
  | .leq=>some (.bool (decide (a≤b)))
  | .gtr=>some (.bool (decide (a > b)))
  | .geq=>some (.bool (decide (a≥b)))
  | _=>none
def aShift (op:BinOp) (k:IntKind) (a b:Int):Option AV:=
  if b < 0 then none else
  match op with
  | .shl=>some (.int k (k.wrap (a * 2 ^ (min b.toNat k.bits))))
  | .shr=>some (.int k (a.fdiv (2 ^ (min b.toNat k.bits))))
  | _=>none
def aStrBin (op:BinOp) (a b:List UInt8):Option AV:=
  match op with
  | .add=>if ((a.length + b.length:Nat):Int) > IntKind.i64.max then none else some (.str (a++b))
  | .eql=>some (.bool (a==b))
  | .neq=>some (.bool (!(a==b)))
  | .lss=>some (.bool (Op.bytesLess a b))
  | .leq=>some (.bool (Op.bytesLess a b || a==b))
  | .gtr=>some (.bool (!(Op.bytesLess a b || a==b)))
  | .geq=>some (.bool (!Op.bytesLess a b))
  | _=>none
def cellEq:AV→AV→Option Bool
  | .int k a,.int k' b=>if k=k' then some (a==b) else none
  | .bool a,.bool b=>some (a==b)
  | .str a,.str b=>some (a==b)
  | _,_=>none
def cellsEq:List AV→List AV→Option Bool
  | [],[]=>some true
  | a::x,b::y=>(cellEq a b).bind fun p=>(cellsEq x y).map fun q=>p && q
  | _,_=>none
def aIsNil (M:Mem):AV→Option Bool
  | .nils=>some true
  | .sle=>some false
  | .sl _ es=>if 0 < es.length then some false else none
  | .lit ..=>some false
  | .lsl id L _ n=>if 0 < n∧okRef M id L=true then some false else none
  | _=>none
def maybeNil (M:Mem):AV→Bool
  | .nils=>true
  | .sl ..=>true
  | .lit ..=>true
  | .lsl id L _ _=>okRef M id L
  | _=>false
def aBin (op:BinOp) (x y:AV) (M:Mem):Option AV:=
  match x,y with
  | .int k a,.int k' b=>
    match op with
    | .shl | .shr=>aShift op k a b
    | _=>if k=k' then aIntBin op k a b else none
  | .str a,.str b=>aStrBin op a b
  | .bool a,.bool b=>(match op with | .eql=>some (.bool (a==b)) | .neq=>some (.bool (!(a==b))) | _=>none)
  | .agg a,.agg b=>(match op with
    | .eql=>(cellsEq a b).map fun q=>.bool q
    | .neq=>(cellsEq a b).map fun q=>.bool (!q)
    | _=>none)
  | x,.nils=>(match op with
    | .eql=>(match aIsNil M x with | some q=>some (.bool q) | none=>if maybeNil M x=true then some .ub else none)
    | .neq=>(match aIsNil M x with | some q=>some (.bool (!q)) | none=>if maybeNil M x=true then some .ub else none)
    | _=>none)
  | _,_=>none
def aUn (op:UnOp) (x:AV):Option AV:=
  match op,x with
  | .neg,.int k n=>some (.int k (k.wrap (0 - n)))
  | .not,.bool b=>some (.bool (!b))
  | _,_=>none
def aConvI (k:IntKind) (x:AV):Option AV:=
  match x with
  | .int _ n=>some (.int k (k.wrap n))
  | _=>none
def bytesOf:List (List AV)→Option (List UInt8)
  | []=>some []
  | [.int .u8 n]::r=>(bytesOf r).map fun q=>UInt8.ofNat n.toNat::q
  | _=>none
def notRow:AV→Bool
  | .lsl ..=>false
  | _=>true
def elems (x:AV) (M:Mem):Option (List (List AV)):=
  match x with
  | .nils=>some []
  | .sle=>some []
  | .sl _ es=>some es
  | .lit _ es=>some es
  | .lsl id L off n=>(getOb M id L).bind fun o=>if off + n≤L then some ((o.es.drop off).take n) else none
  | _=>none
def aConvB (x:AV) (M:Mem):Option AV:=(elems x M).bind fun es=>(bytesOf es).map .str
def aSliceS (lo hi:Option AV) (x:AV):Option AV:=
  match x with
  | .str s=>
    (match hi with | none=>some (s.length:Int) | some (.int _ n)=>some n | _=>none).bind fun h=>
    (match lo with | none=>some 0 | some (.int _ n)=>some n | _=>none).bind fun l=>
    if 0≤l∧l≤h∧h≤s.length then some (.str ((s.drop l.toNat).take (h.toNat - l.toNat))) else none
  | _=>none
def bound (d:Int):Option AV→Option Int
  | none=>some d
  | some (.int _ n)=>some n
  | _=>none
def slLen (M:Mem):AV→Option Nat
  | .nils=>some 0
  | .sl _ es=>some es.length
  | .lit _ es=>some es.length
  | .nsl _ es=>some es.length
  | .lsl id L _ n=>if okRef M id L=true then some n else none
  | .str s=>some s.length
  | _=>none
def aSlice (sz:Nat) (lo hi:Option AV) (x:AV) (M:Mem):Option AV:=
  (slLen M x).bind fun n=>(bound n hi).bind fun h=>(bound 0 lo).bind fun l=>
  if 0≤l∧l≤h∧h≤n then
    (match x with
     | .nils=>some (.sl none [])
     | .sl _ es=>if l=h then some (.sl none []) else if l=0∨((es[l.toNat]?).getD []).length=sz then some (.sl none ((es.drop l.toNat).take (h.toNat - l.toNat))) else none
     | .lit _ es=>if l=h then some (.sl none []) else if l=0∨((es[l.toNat]?).getD []).length=sz then some (.sl none ((es.drop l.toNat).take (h.toNat - l.toNat))) else none
     | .lsl id L off m=>(getOb M id L).bind fun o=>if l=h then some (.sl none []) else if o.s=sz then some (.lsl id L (off + l.toNat) (h.toNat - l.toNat)) else none
     | _=>none)
  else none
def aLen (x:AV) (M:Mem):Option AV:=(slLen M x).map fun (n:Nat)=>AV.int .i64 (n:Int)
def aMax (mx:Bool) (x y:AV):Option AV:=
  match x,y with
  | .int k a,.int _ b=>some (.int k (if mx=true then max a b else min a b))
  | _,_=>none
def aExtract (i:Nat) (x:AV):Option AV:=
  match x with
  | .tup vs=>vs[i]?
  | _=>none
def aFill (M:Mem):List AV→List (Nat×Nat×AV)→Option (List AV)
  | cs,[]=>some cs
  | cs,(off,sz,v)::r=>if (vcells0 v).length=sz∧off + sz≤cs.length∧(vcells0 v).all (okC M)=true then aFill M (cs.take off++vcells0 v++cs.drop (off + sz)) r else none
def aBuild (zero:List AV) (parts:List (Nat×Nat×AV)) (M:Mem):Option AV:=(aFill M zero parts).map .agg
def aParts (kp:Bool) (M:Mem) (sz:Nat):List AV→Option (List (List AV))
  | []=>some []
  | v::r=>if (kcells kp v).length=sz∧(kcells kp v).all (okC M)=true then (aParts kp M sz r).map fun q=>kcells kp v::q else none
def allTree (es:List (List AV)):Bool:=es.all fun c=>c.all treeOk
def nOk:AV→Bool
  | .sl (some _) es=>es.all fun c=>c.all fun | .int .. | .bool _ | .str _=>true | _=>false
  | v=>treeOk v
def allN (es:List (List AV)):Bool:=es.all fun c=>c.all nOk
def treeSl (es:List (List AV)):AV:=if allTree es=true then .sl none es else .undef
def treePt (cs:List AV):AV:=if cs.all treeOk=true∧0 < cs.length then .pt none cs else .undef
def rCell (M:Mem):Nat→AV→AV
  | 0,_=>.undef
  | d + 1,v=>match v with
    | .lsl id L off n=>(match elems (.lsl id L off n) M with
        | some es=>if allTree es=true then .sl none es else treeSl (es.map fun c=>c.map (rCell M d))
        | none=>.undef)
    | .int k n=>.int k n
    | .bool b=>.bool b
    | .str s=>.str s
    | .nils=>.nils
    | .nilp=>.nilp
    | .sl _ es=>.sl none es
    | .lit _ es=>.sl none es
    | .pt _ cs=>.pt none cs
    | _=>.undef
def rArg1 (M:Mem):AV→AV
  | .nils=>.sl none []
  | .loc id L i j=>(match (getOb M id L).bind fun o=>o.es[i]? with
      | some cs=>if (cs.drop j).all treeOk=true∧j < cs.length then .pt none (cs.drop j) else treePt ((cs.drop j).map (rCell M 3))
      | none=>.undef)
  | v=>rCell M 4 v
def rArg (M:Mem):AV→AV
  | .agg cs=>.agg (cs.map (rArg1 M))
  | .fn f cap=>.fn f (cap.map (rArg1 M))
  | v=>rArg1 M v
def rRes1 (M:Mem):AV→AV
  | .lsl id L off n=>(match getOb M id L with
      | some o=>if o.kn = .grow∧off=0∧n≤L∧allTree o.es=true then .sl (some o.t) (o.es.take n) else if o.kn = .grow∧off=0∧n=L∧allN o.es=true then .nsl o.t o.es else rCell M 4 (.lsl id L off n)
      | none=>.undef)
  | .loc id L i j=>(match getOb M id L with
      | some o=>(match o.kn,o.es with | .box,[cs]=>if i=0∧j=0∧cs.all treeOk=true then .pt (some o.t) cs else .undef | _,_=>.undef)
      | none=>.undef)
  | .sl (some t) es=>.sl (some t) es
  | .lit t es=>.sl (some t) es
  | .pt (some t) cs=>.pt (some t) cs
  | v=>rCell M 4 v
def rRes2 (M:Mem):AV→AV
  | .agg cs=>.agg (cs.map (rRes1 M))
  | v=>rRes1 M v
def rRes (M:Mem):AV→AV
  | .tup vs=>.tup (vs.map (rRes2 M))
  | v=>rRes2 M v
def hasRef1:AV→Bool
  | .loc .. | .lsl ..=>true
  | _=>false
def hasRef:AV→Bool
  | .agg cs=>cs.any hasRef1
  | .fn _ cap=>cap.any hasRef1
  | v=>hasRef1 v
def flatC:AV→Bool
  | .int .. | .bool _ | .str _=>true
  | _=>false
def own1:AV→Bool
  | .int .. | .bool _ | .str _ | .nils | .nilp=>true
  | .sl (some _) es=>es.all fun c=>c.all flatC
  | .pt (some _) cs=>cs.all flatC
  | _=>false
def own2:AV→Bool
  | .agg cs=>cs.all own1
  | v=>own1 v
def ownAll:AV→Bool
  | .tup vs=>vs.all own2
  | v=>own2 v
inductive Eff where
  | keep
  | push (l:List Ob)
  | put (M:Mem)
def Eff.on:Eff→Mem→Mem
  | .keep,M=>M
  | .push l,M=>M++l.map .live
  | .put M',_=>M'
def thaw1 (S:TypeId→Nat) (n:Nat):AV→AV×List Ob
  | .sl (some t) es=>(.lsl n es.length 0 es.length,[⟨.grow,t,S t,es⟩])
  | .pt (some t) cs=>(.loc n 1 0 0,[⟨.box,t,S t,[cs]⟩])
  | v=>(v,[])
def thawL (f:Nat→AV→AV×List Ob):Nat→List AV→List AV×List Ob
  | _,[]=>([],[])
  | n,v::r=>((f n v).1::(thawL f (n + (f n v).2.length) r).1,(f n v).2++(thawL f (n + (f n v).2.length) r).2)
def thaw2 (S:TypeId→Nat) (n:Nat):AV→AV×List Ob
  | .agg cs=>(.agg (thawL (thaw1 S) n cs).1,(thawL (thaw1 S) n cs).2)
  | v=>thaw1 S n v
def thaw (S:TypeId→Nat) (n:Nat):AV→AV×List Ob
  | .tup vs=>(.tup (thawL (thaw2 S) n vs).1,(thawL (thaw2 S) n vs).2)
  | v=>thaw2 S n v
def apartT:List Ob→Bool
  | []=>true
  | o::r=>(r.all fun q=>!(Nat.beq o.t q.t)) && apartT r
def thawed (S:TypeId→Nat) (n:Nat) (v:AV):Option (AV×Eff):=
  if ownAll v=true∧apartT (thaw S n v).2=true∧((thaw S n v).2.all fun o=>decide (0 < o.s))=true then some ((thaw S n v).1,.push (thaw S n v).2) else none
def aBox (sz:Nat) (v:AV) (M:Mem):Option AV:=if (vcells v).length=sz∧(vcells v).all treeOk=true∧0 < sz then some (.pt none (vcells v)) else none
def aBoxO (n:Nat) (t:TypeId) (sz:Nat) (v:AV) (M:Mem):Option (AV×Eff):=
  if (vcells v).length=sz∧(vcells v).all (okC M)=true∧0 < sz then some (.loc n 1 0 0,.push [⟨.box,t,sz,[vcells v]⟩]) else none
def aMakeO (n:Nat) (t:TypeId) (sz by_:Nat) (zero:List AV) (l c:AV):Option (AV×Eff):=
  match l,c with
  | .int _ a,.int _ b=>if a=b∧0≤a∧a.toNat * by_≤140737488355328∧a≤140737488355328∧zero.length=sz∧zero.all cellOk=true∧0 < sz then
      some (.lsl n a.toNat 0 a.toNat,.push [⟨.grow,t,sz,List.replicate a.toNat zero⟩]) else none
  | _,_=>none
def aLitI (t:TypeId) (sz:Nat) (vs:List AV) (M:Mem):Option AV:=
  (aParts false M sz vs).bind fun es=>if (es.all fun c=>c.all treeOk)=true∧0 < sz then some (.lit t es) else none
def aLitO (kp:Bool) (n:Nat) (t:TypeId) (sz:Nat) (vs:List AV) (M:Mem):Option (AV×Eff):=
  (aParts kp M sz vs).bind fun es=>if 0 < sz then some (.lsl n es.length 0 es.length,.push [⟨.grow,t,sz,es⟩]) else none
def fits (M:Mem) (sz by_ n:Nat) (src:List (List AV)):Bool:=
  (src.all fun e=>e.length==sz && e.all (okC M)) && decide (0 < sz) && decide ((n + src.length) * by_≤140737488355328) && decide (n + src.length≤140737488355328)
def aAppI (t:TypeId) (sz by_:Nat) (d s:AV) (M:Mem):Option (AV×Eff):=
  (elems s M).bind fun src=>
    if (src.all fun c=>c.all treeOk)=true then
    (match d with
     | .nils=>if fits M sz by_ 0 src=true then some (.sl (some t) src,.keep) else none
     | .lit t' es=>if t'=t∧fits M sz by_ es.length src=true then some (.sl (some t) (es++src),.keep) else none
     | .lsl id L off n=>(getOb M id L).bind fun o=>
         if o.kn = .grow∧o.t=t∧o.s=sz∧off=0∧n=L∧fits M sz by_ L src=true∧(o.es.all fun c=>c.all treeOk)=true then some (.sl (some t) (o.es++src),.put (M.set id .dead)) else none
     | _=>none)
    else none
def aAppO (n0:Nat) (t:TypeId) (sz by_:Nat) (d s:AV) (M:Mem):Option (AV×Eff):=
  (elems s M).bind fun src=>
    (match d with
     | .nils=>if fits M sz by_ 0 src=true then some (.lsl n0 src.length 0 src.length,.push [⟨.grow,t,sz,src⟩]) else none
     | .lit t' es=>if es.isEmpty=true∧t'=t∧0 < src.length∧fits M sz by_ 0 src=true then some (.lsl n0 src.length 0 src.length,.push [⟨.grow,t,sz,src⟩]) else none
     | .lsl id L off n=>(getOb M id L).bind fun o=>
         if o.kn = .grow∧o.t=t∧o.s=sz∧off=0 then
           (if n=L then (if fits M sz by_ L src=true then
               some (.lsl id (L + src.length) 0 (L + src.length),.put (M.set id (.live { o with es:=o.es++src }))) else none)
            else if n + src.length≤L∧fits M sz by_ n src=true then some (.lsl id L 0 (n + src.length),.put (M.set id (.live { o with es:=o.es.take n++src++o.es.drop (n + src.length) }))) else none)
         else none
     | _=>none)
def Program.cellsAgg (P:Program) (t:TypeId):Bool:=
  match P.underlying t with
  | some (.struct _) | some (.array _ _)=>true
  | _=>false
def zeroOf (P:Program) (t:TypeId):List AV:=
  match (P.info? t).bind (·.zero) with
  | some v=>v.cells.toList.map cval
  | none=>[]
def nilTys (P:Program):Nat→TypeId→List Nat
  | 0,_=>[]
  | d + 1,t=>match P.underlying t with
    | some (.slice e)=>[e + 1]
    | some (.struct fs)=>fs.toList.flatMap fun f=>nilTys P d f.type
    | some (.array n e)=>(List.replicate n (nilTys P d e)).flatten
    | _=>[0]
def ghRow (S:TypeId→Nat) (n:Nat):List AV→List Nat→List AV×List Ob
  | [],_=>([],[])
  | x::r,ts=>match x,ts with
    | .nils,(e + 1)::ts'=>(.lsl n 0 0 0::(ghRow S (n + 1) r ts').1,⟨.grow,e,S e,[]⟩::(ghRow S (n + 1) r ts').2)
    | y,ts'=>(y::(ghRow S n r ts'.tail).1,(ghRow S n r ts'.tail).2)
def ghRows (S:TypeId→Nat) (ts:List Nat) (n:Nat):List (List AV)→List (List AV)×List Ob
  | []=>([],[])
  | e::r=>((ghRow S n e ts).1::(ghRows S ts (n + (ghRow S n e ts).2.length) r).1,(ghRow S n e ts).2++(ghRows S ts (n + (ghRow S n e ts).2.length) r).2)
def ghE (S:TypeId→Nat) (ts:TypeId→List Nat) (n:Nat):AV×Eff→Option (AV×Eff)
  | (v,.push [o])=>if ((ghRows S (ts o.t) (n + 1) o.es).2.all fun q=>decide (0 < q.s))=true then some (v,.push (⟨o.kn,o.t,o.s,(ghRows S (ts o.t) (n + 1) o.es).1⟩::(ghRows S (ts o.t) (n + 1) o.es).2)) else none
  | _=>none
def aStoreG (S:TypeId→Nat) (ts:List Nat) (kp:Bool) (sz:Nat) (x v:AV) (M:Mem):Option Mem:=
  match v with
  | .agg cs=>if ((ghRow S M.length cs ts).2.all fun q=>decide (0 < q.s))=true then aStore kp sz x (.agg (ghRow S M.length cs ts).1) (M++(ghRow S M.length cs ts).2.map .live) else none
  | _=>none
def gho (P:Program) (th:Bool) (n:Nat) (x:Option (AV×Eff)):Option (AV×Eff):=if th=true then x.bind (ghE P.cellsOf (nilTys P 6) n) else x
def okT (P:Program) (t:TypeId):Bool:=(P.underlying t).isSome && decide (0 < P.cellsOf t)
def fieldOf (P:Program) (t:TypeId) (j:Nat):Option (Nat×Nat×Bool):=
  match P.underlying t with
  | some (.struct fs)=>(fs[j]?).bind fun f=>if okT P f.type=true then some (f.offset,P.cellsOf f.type,Program.cellsAgg P f.type) else none
  | _=>none
def zOk (P:Program) (e:TypeId):Bool:=((P.info? e).bind (·.zero)).isSome && Nat.beq (zeroOf P e).length (P.cellsOf e)
def elemOfT (P:Program) (t:TypeId):Option TypeId:=
  match P.underlying t with
  | some (.slice e)=>if okT P e=true∧zOk P e=true then some e else none
  | _=>none
def flatTy (P:Program):Nat→TypeId→List Nat
  | 0,_=>[]
  | d + 1,t=>match P.underlying t with
    | some .bool=>[1]
    | some (.int _)=>[0]
    | some .string=>[2]
    | some (.struct fs)=>fs.toList.flatMap fun f=>flatTy P d f.type
    | some (.array n e)=>(List.replicate n (flatTy P d e)).flatten
    | _=>[]
def shape:AV→Nat
  | .int ..=>0
  | .bool _=>1
  | .str _=>2
  | _=>3
def plainT (P:Program):Nat→TypeId→Bool
  | 0,_=>false
  | d + 1,t=>Nat.beq (flatTy P (d + 1) t).length (P.cellsOf t) && match P.underlying t with
    | some .bool | some (.int _) | some .string=>true
    | some (.struct fs) => !P.stoodInHeld t && fs.toList.all (fun f => f.name != "_" && plainT P d f.type && okT P f.type) && laid P 0 fs.toList (P.cellsOf t)
    | some (.array n e)=>plainT P d e && okT P e && Nat.beq (P.cellsOf t) (n * P.cellsOf e)
    | _=>false
where laid (P:Program):Nat→List Field→Nat→Bool
  | off,[],sz=>Nat.beq off sz
  | off,f::r,sz=>Nat.beq f.offset off && laid P (off + P.cellsOf f.type) r sz
def eqShape:List AV→List Nat→Bool
  | [],[]=>true
  | a::r,n::s=>Nat.beq (shape a) n && eqShape r s
  | _,_=>false
def binTy (P:Program) (t:TypeId) (x y:AV):Bool:=
  match x,y with
  | .bool _,.bool _=>(match P.underlying t with | some .bool=>true | _=>false)
  | .agg a,.agg b=>plainT P 8 t && !P.eqGuardType P.depth t && Program.cellsAgg P t && okT P t && eqShape a (flatTy P 8 t)
  | _,.nils=>(match P.underlying t with | some (.slice _)=>true | _=>false)
  | _,_=>true
def placesOf (P:Program) (t:TypeId) (parts:List (Nat×AV)):Option (List (Nat×Nat×AV)):=
  match P.underlying t with
  | some (.struct fs)=>if (fs.toList.all fun f=>okT P f.type)=true then parts.mapM fun p=>(fs[p.1]?).map fun f=>(f.offset,P.cellsOf f.type,p.2) else none
  | some (.array _ e)=>if okT P e=true then some (parts.map fun p=>(p.1 * P.cellsOf e,P.cellsOf e,p.2)) else none
  | _=>none
def lenTy (P:Program) (t:TypeId) (x:AV):Bool:=
  match P.underlying t,x with
  | some .string,.str _=>true
  | some (.slice _),.nils=>true
  | some (.slice _),.sl ..=>true
  | some (.slice _),.lit ..=>true
  | some (.slice _),.nsl ..=>true
  | some (.slice _),.lsl ..=>true
  | _,_=>false
def inOrder:Nat→List (Nat×AV)→Option (List AV)
  | _,[]=>some []
  | n,(i,v)::r=>if Nat.beq i n then (inOrder (n + 1) r).map fun q=>v::q else none
structure Cx where
  P:Program
  rw:Nat→Bool
  wk:Nat→Bool
def wk1:AV→AV
  | .nils=>.sl none []
  | .sl _ es=>.sl none es
  | .lit _ es=>.sl none es
  | v=>v
def wk2:AV→AV
  | .agg cs=>.agg (cs.map wk1)
  | v=>wk1 v
def wkR:AV→AV
  | .tup vs=>.tup (vs.map wk2)
  | v=>wk2 v
abbrev CallF:=Nat→List AV→Mem→Option (AV×Mem)
def frz1 (v:AV) (M:Mem):AV×Mem:=
  match v with
  | .lsl id L off n=>(match getOb M id L with
      | some o=>if o.kn = .grow∧off=0∧n=L∧allTree o.es=true then (.sl (some o.t) o.es,M.set id .dead) else (.lsl id L off n,M)
      | none=>(.lsl id L off n,M))
  | v=>(v,M)
def frzL (f:AV→Mem→AV×Mem):List AV→Mem→List AV×Mem
  | [],M=>([],M)
  | v::r,M=>((f v M).1::(frzL f r (f v M).2).1,(frzL f r (f v M).2).2)
def frz2 (v:AV) (M:Mem):AV×Mem:=
  match v with
  | .agg cs=>(.agg (frzL frz1 cs M).1,(frzL frz1 cs M).2)
  | v=>frz1 v M
def frz (v:AV) (M:Mem):AV×Mem:=
  match v with
  | .tup vs=>(.tup (frzL frz2 vs M).1,(frzL frz2 vs M).2)
  | v=>frz2 v M
def frzBox (x:AV) (M:Mem):Mem:=
  match x with
  | .loc id 1 0 0=>(match getOb M id 1 with
      | some o=>(match o.kn,o.es with
          | .box,[cs]=>(frzL frz1 cs M).2.set id (.live { o with es:=[(frzL frz1 cs M).1.map stripC] })
          | _,_=>M)
      | none=>M)
  | _=>M
def frzAll (e:Env):List Nat→Mem→Mem
  | [],M=>M
  | t::l,M=>frzAll e l (frzBox (eget e t) M)
def aCall (S:TypeId→Nat) (rw wk:Nat→Bool) (call:CallF) (th:Bool) (n:Nat) (f:Nat) (args:List AV) (M:Mem):Option (AV×Eff):=
  if rw f=true then (call f args M).map fun p=>if th=true then ((frz p.1 p.2).1,.put (frz p.1 p.2).2) else (p.1,.put p.2)
  else (call f (args.map (rArg M)) []).bind fun p=>
    if (args.any hasRef=true→ownAll (rRes p.2 p.1)=true) then
      (if th=true then thawed S n (rRes p.2 p.1) else some (if wk f=true then wkR (rRes p.2 p.1) else rRes p.2 p.1,.keep))
    else none
def keep (x:Option AV):Option (AV×Eff):=x.map fun v=>(v,.keep)
def evalOp (c:Cx) (call:CallF) (ob th:Bool) (n:Nat) (o:Oper) (e:Env) (M:Mem):Option (AV×Eff):=
  let P:=c.P
  match o.op with
  | .move x | .assign x=>some (oval e x,.keep)
  | .pick q a b=>keep (aPick (oval e q) (oval e a) (oval e b))
  | .alloc t=>gho P th n (if okT P t=true∧((P.info? t).bind (·.zero)).isSome=true∧(zeroOf P t).length=P.cellsOf t∧0 < P.cellsOf t∧(zeroOf P t).all cellOk=true then some (.loc n 1 0 0,.push [⟨.box,t,P.cellsOf t,[zeroOf P t]⟩]) else none)
  | .box t x=>if ob=true then gho P th n (aBoxO n t (P.cellsOf t) (oval e x) M) else keep (aBox (P.cellsOf t) (oval e x) M)
  | .build t parts=>if okT P t=true∧((P.info? t).bind (·.zero)).isSome=true then keep ((placesOf P t (parts.toList.map fun p=>(p.1,oval e p.2))).bind fun ps=>aBuild (zeroOf P t) ps M) else none
  | .buildSlice t len parts=>(elemOfT P t).bind fun el=>(inOrder 0 (parts.toList.map fun p=>(p.1,oval e p.2))).bind fun vs=>
      if Nat.beq vs.length len∧len * P.cellsOf el≤16777216∧(zeroOf P el).length=P.cellsOf el∧((P.info? el).bind (·.zero)).isSome=true then (if ob=true then aLitO th n el (P.cellsOf el) vs M else keep (aLitI el (P.cellsOf el) vs M)) else none
  | .load t a=>if okT P t=true then keep (aLoad (Program.cellsAgg P t) (P.cellsOf t) (oval e a) M) else none
  | .store t a x=>if okT P t=true then (if th=true then aStoreG P.cellsOf (nilTys P 6 t) ob (P.cellsOf t) (oval e a) (oval e x) M else aStore ob (P.cellsOf t) (oval e a) (oval e x) M).map fun M'=>(.un,.put M') else none
  | .nilCheck x=>keep (aNilCheck (oval e x) M)
  | .binOp op t x y _=>if binTy P t (oval e x) (oval e y)=true then keep (aBin op (oval e x) (oval e y) M) else none
  | .unOp op _ x=>keep (aUn op (oval e x))
  | .convert s d x=>
      (match P.underlying s,P.underlying d with
       | some (.int _),some (.int k)=>keep (aConvI k (oval e x))
       | some (.slice q),some .string=>(match P.underlying q with | some (.int .u8)=>keep (aConvB (oval e x) M) | _=>none)
       | _,_=>none)
  | .makeFunc (.func f) fs cap=>if fs.size=0 then some (.fn f (cap.toList.map (oval e)),.keep) else none
  | .makeSlice t l k=>(elemOfT P t).bind fun el=>if ((P.info? el).bind (·.zero)).isSome=false then none else gho P th n (aMakeO n el (P.cellsOf el) (P.bytesOf el) (zeroOf P el) (oval e l) (oval e k))
  | .slice t x lo hi mx=>if mx.isSome then none else
      (match P.underlying t with
       | some .string=>keep (aSliceS (lo.map (oval e)) (hi.map (oval e)) (oval e x))
       | some (.slice el)=>if okT P el=true then keep (aSlice (P.cellsOf el) (lo.map (oval e)) (hi.map (oval e)) (oval e x) M) else none
       | _=>none)
  | .fieldAddr t x j=>(fieldOf P t j).bind fun q=>keep (aFieldAddr q.1 q.2.1 (oval e x) M)
  | .field t x j=>(fieldOf P t j).bind fun q=>keep (aField q.2.2 q.1 q.2.1 (oval e x))
  | .indexAddr t x i=>
      (match P.underlying t with
       | some (.slice el)=>if okT P el=true then keep (aIndexS (P.cellsOf el) (oval e x) (oval e i) M) else none
       | some (.array len el)=>if 1 < len∧okT P el=true then keep (aIndexP len (P.cellsOf el) (oval e x) (oval e i) M) else none
       | _=>none)
  | .index t x i=>
      (match P.underlying t with
       | some .string=>keep (aIndexB (oval e x) (oval e i))
       | some (.array len el)=>if okT P el=true then keep (aIndexA (Program.cellsAgg P el) len (P.cellsOf el) (oval e x) (oval e i)) else none
       | _=>none)
  | .extract x i=>keep (aExtract i (oval e x))
  | .call { callee:=.value f,args,.. }=>
      (match oval e f with
       | .fn g cap=>aCall P.cellsOf c.rw c.wk call th n g (args.toList.map (oval e)++cap) M
       | _=>none)
  | .call { callee:=.builtin .len,args,argTypes }=>(match args.toList,argTypes.toList with | [x],[t]=>if lenTy P t (oval e x)=true then keep (aLen (oval e x) M) else none | _,_=>none)
  | .call { callee:=.builtin .max,args,.. }=>(match args.toList with | [x,y]=>keep (aMax true (oval e x) (oval e y)) | _=>none)
  | .call { callee:=.builtin .min,args,.. }=>(match args.toList with | [x,y]=>keep (aMax false (oval e x) (oval e y)) | _=>none)
  | .call { callee:=.builtin .append,args,argTypes }=>
      (match args.toList,argTypes.toList with
       | [x,y],[t,u]=>if Nat.beq t u then (elemOfT P t).bind fun el=>
            if ob=true then aAppO n el (P.cellsOf el) (P.bytesOf el) (oval e x) (oval e y) M else aAppI el (P.cellsOf el) (P.bytesOf el) (oval e x) (oval e y) M
          else none
       | _,_=>none)
  | _=>none
def put (e:Env) (d:Option Nat) (v:AV):Env:=
  match d with
  | some t=>(t,v)::e
  | none=>e
def guardVal (ops:Array Oper) (e:Env) (o:Oper):Option (AV×Bool):=
  match o.guard with
  | none=>none
  | some (j,w)=>match (ops[j]?).bind (·.dst) with
    | some t=>some (eget e t,w)
    | none=>some (.undef,w)
def aGuard (g:Option (AV×Bool)) (x:Option (AV×Eff)):Option (AV×Eff):=
  match g with
  | none=>x
  | some (.bool b,w)=>if b==w then x else some (.un,.keep)
  | some (.un,_)=>some (.un,.keep)
  | _=>none
def has (l:List Nat) (i:Nat):Bool:=l.any fun j=>Nat.beq j i
def prune (l:List Nat) (e:Env):Env:=l.map fun t=>(t,eget e t)
def rds (o:Oper):List Nat:=o.op.operands.toList.filterMap fun | .tmp t=>some t | _=>none
def gds (ops:Array Oper) (o:Oper):List Nat:=
  match o.guard with
  | some (j,_)=>((ops[j]?).bind (·.dst)).toList
  | none=>[]
def frontEff (calm:Bool) (C:List Ob):Eff→Option (List Ob)
  | .keep=>some C
  | .push l=>if calm=true then none else some (C++l)
  | .put _=>none
def evalFront (c:Cx) (call:CallF) (ob th calm:List Nat) (ops:Array Oper) (M:Mem):List (Nat×Oper)→Env→List Ob→Option (Env×List Ob)
  | [],e,C=>some (e,C)
  | (i,o)::r,e,C=>(aGuard (guardVal ops e o) (evalOp c call (has ob i) (has th i) (M.length + C.length) o (prune (rds o) e) (if has calm i=true then [] else M))).bind fun p=>
      (frontEff (has calm i) C p.2).bind fun C'=>evalFront c call ob th calm ops M r (put e o.dst p.1) C'
def evalBack (c:Cx) (call:CallF) (ob th:List Nat) (ops:Array Oper):List (Nat×Oper)→Env→Mem→Option (Env×Mem)
  | [],e,M=>some (e,M)
  | (i,o)::r,e,M=>(aGuard (guardVal ops e o) (evalOp c call (has ob i) (has th i) M.length o (prune (rds o) e) M)).bind fun p=>
      evalBack c call ob th ops r (put e o.dst p.1) (p.2.on M)
def numbered:Nat→List Oper→List (Nat×Oper)
  | _,[]=>[]
  | i,o::r=>(i,o)::numbered (i + 1) r
def frontOf (suf:List Nat) (l:List (Nat×Oper)):List (Nat×Oper):=l.filter fun p=>!has suf p.1
def backOf (suf:List Nat) (l:List (Nat×Oper)):List (Nat×Oper):=l.filter fun p=>has suf p.1
def edgesOf (o:Oper):List Nat:=(o.after.toList.filter (Region.binds .any ·)).map (·.on)
def maskOf (ms:List Nat) (o:Oper):Nat:=(edgesOf o).foldl (fun s j=>s ||| (1 <<< j) ||| ms.getD j 0) 0
def masks:List Nat→List Oper→List Nat
  | ms,[]=>ms
  | ms,o::r=>masks (ms++[maskOf ms o]) r
def dstOk (nt:Nat) (o:Oper):Bool:=
  match o.dst with
  | some d=>Nat.blt d nt
  | none=>true
def sameDst (o:Oper) (t:Nat):Bool:=
  match o.dst with
  | some d=>Nat.beq d t
  | none=>false
def isPu (o:Oper):Bool:=match o.op,o.guard with | .extract _ _,none=>true | _,_=>false
def drawOk (ops:Array Oper) (calm suf:List Nat):Bool:=
  let l:=numbered 0 ops.toList
  let ms:=masks [] ops.toList
  (l.all fun p=>l.all fun q=>(rds p.2++gds ops p.2).all fun t=>!sameDst q.2 t || Nat.beq p.1 q.1 ||
      (has (edgesOf p.2) q.1 && Nat.blt q.1 p.1 && (has suf p.1 || !has suf q.1)) || ((ms.getD q.1 0).testBit p.1 && Nat.blt p.1 q.1 && (!has suf p.1 || has suf q.1))) &&
  (l.all fun p=>l.all fun q=>Nat.beq p.1 q.1 || (match p.2.dst with | some t=>!sameDst q.2 t | none=>true)) &&
  (l.all fun p=>(edgesOf p.2).all fun k=>Nat.blt k p.1) &&
  (l.all fun p=>!has suf p.1 || isPu p.2 || l.all fun q=>Nat.beq p.1 q.1 || (if has suf q.1=true then isPu q.2 || Nat.blt p.1 q.1 || (ms.getD p.1 0).testBit q.1 else has calm q.1 || (ms.getD p.1 0).testBit q.1))
def isAl (th:List Nat) (i:Nat) (o:Oper):Bool:=match o.op with | .alloc _=>!has th i | _=>false
abbrev Sty:=List (Nat×(Mem→Prop))
def lives (M:Mem):Nat→List Ob→Prop
  | _,[]=>True
  | n,o::r=>M[n]? = some (.live o)∧lives M (n + 1) r
def frontEffS (calm std al:Bool) (C:List Ob):Eff→Option (List Ob)
  | .keep=>some C
  | .push l=>if std=true then none else if calm=true then (if al=true then some (C++l) else none) else some (C++l)
  | .put _=>none
def styOf (calm std:Bool) (i n:Nat) (op:Mem→Option (AV×Eff)) (p:AV×Eff) (S:Sty):Sty:=
  if std=true then (i,fun M'=>op M'=some p)::S else if calm=true then (match p.2 with | .push l=>(i,fun M'=>lives M' n l)::S | _=>S) else S
def evalFrontS (c:Cx) (call:CallF) (ob th calm std:List Nat) (ops:Array Oper) (M:Mem):List (Nat×Oper)→Env→List Ob→Sty→Option (Env×List Ob×Sty)
  | [],e,C,S=>some (e,C,S)
  | (i,o)::r,e,C,S=>(aGuard (guardVal ops e o) (evalOp c call (has ob i) (has th i) (M.length + C.length) o (prune (rds o) e) (if has calm i=true then [] else M))).bind fun p=>
      (frontEffS (has calm i) (has std i) (isAl th i o) C p.2).bind fun C'=>evalFrontS c call ob th calm std ops M r (put e o.dst p.1) C'
        (styOf (has calm i) (has std i) i (M.length + C.length) (fun M'=>aGuard (guardVal ops e o) (evalOp c call (has ob i) (has th i) (M.length + C.length) o (prune (rds o) e) M')) p S)
def depl (ops:Array Oper) (j:Nat):List Nat:=(List.range ops.size).filter fun i=>((masks [] ops.toList).getD j 0).testBit i
def chk (D:List Nat) (S:Sty) (M:Mem):Prop:=∀ p ∈ S,has D p.1=true∨p.2 M
open Classical in
noncomputable def chkO (D:List Nat) (S:Sty) (M:Mem) (x:Option (Env×Mem)):Option (Env×Mem):=if chk D S M then x else none
noncomputable def evalBackS (c:Cx) (call:CallF) (ob th:List Nat) (ops:Array Oper) (S:Sty):List (Nat×Oper)→Env→Mem→Option (Env×Mem)
  | [],e,M=>some (e,M)
  | (i,o)::r,e,M=>(aGuard (guardVal ops e o) (evalOp c call (has ob i) (has th i) M.length o (prune (rds o) e) M)).bind fun p=>
      chkO (depl ops i) S (p.2.on M) (evalBackS c call ob th ops S r (put e o.dst p.1) (p.2.on M))
structure Reg where
  ob:List Nat
  th:List Nat
  calm:List Nat
  suf:List Nat
  live:List Nat
  std:Option (List Nat)
  fz:List Nat
noncomputable def evalRegion0 (c:Cx) (call:CallF) (nt:Nat) (g:Reg) (ops:Array Oper) (draw:Bool) (e:Env) (M:Mem):Option (Env×Mem):=
  if (ops.toList.all fun o=>dstOk nt o)=true then
    (if draw=true then
      (match g.std with
       | none=>if drawOk ops g.calm g.suf=true then
          (evalFront c call g.ob g.th g.calm ops M (frontOf g.suf (numbered 0 ops.toList)) e []).bind fun q=>evalBack c call g.ob g.th ops (backOf g.suf (numbered 0 ops.toList)) q.1 (M++q.2.map .live)
         else none
       | some std=>if drawOk ops (g.calm++std) g.suf=true then
          (evalFrontS c call g.ob g.th g.calm std ops M (frontOf g.suf (numbered 0 ops.toList)) e [] []).bind fun q=>evalBackS c call g.ob g.th ops q.2.2 (backOf g.suf (numbered 0 ops.toList)) q.1 (M++q.2.1.map .live)
         else none)
     else evalBack c call g.ob g.th ops (numbered 0 ops.toList) e M).map fun q=>(prune g.live q.1,q.2)
  else none
noncomputable def evalRegion (c:Cx) (call:CallF) (nt:Nat) (g:Reg) (ops:Array Oper) (draw:Bool) (e:Env) (M:Mem):Option (Env×Mem):=evalRegion0 c call nt g ops draw e (frzAll e g.fz M)
inductive Ex where
  | nrm | ext (id:Nat) | ret
abbrev St:=Env→Mem→Option (Ex×Env×Mem)
def bReg (r:Env→Mem→Option (Env×Mem)):St:=fun e M=>(r e M).map fun q=>(.nrm,q)
def bSeq (a b:St):St:=fun e M=>(a e M).bind fun q=>match q.1 with | .nrm=>b q.2.1 q.2.2 | x=>some (x,q.2)
open Classical in
noncomputable def joinV (a b:AV):AV:=
  if a=b then a else
  match a,b with
  | .nils,.sl (some t) []=>.sl (some t) []
  | .nils,.lit t []=>.sl (some t) []
  | _,_=>.undef
noncomputable def joinE (l:List Nat) (e1 e2:Env):Env:=l.map fun t=>(t,joinV (eget e1 t) (eget e2 t))
open Classical in
noncomputable def joinO (p q:Option (Ex×Env×Mem)):Option (Ex×Env×Mem):=
  p.bind fun p=>q.bind fun q=>if p.1=q.1∧p.2.2=q.2.2 then some (p.1,joinE (p.2.1.map (·.1)) p.2.1 q.2.1,p.2.2) else none
noncomputable def bCond (x:Operand) (a b:St):St:=fun e M=>match oval e x with | .bool true=>a e M | .bool false=>b e M | .ub=>joinO (a e M) (b e M) | _=>none
def bBlock (id:Nat) (a:St):St:=fun e M=>(a e M).map fun q=>match q.1 with | .ext j=>if Nat.beq j id then (.nrm,q.2) else q | _=>q
def bLoop (l:List Nat) (a:St):Nat→St
  | 0=>fun _ _=>none
  | k + 1=>fun e M=>(a (prune l e) M).bind fun q=>match q.1 with | .nrm=>bLoop l a k q.2.1 q.2.2 | x=>some (x,q.2)
def bEx (x:Ex):St:=fun e M=>some (x,e,M)
def firstReg:Code→Option Nat
  | .region id _ _=>some id
  | .seq a b=>(firstReg a).orElse fun _=>firstReg b
  | .cond _ a b=>(firstReg a).orElse fun _=>firstReg b
  | .block _ a=>firstReg a
  | .loop a=>firstReg a
  | _=>none
structure Ann where
  regs:List (Nat×Reg)
  loops:List (Nat×List Nat)
def look {α:Type}:List (Nat×α)→Nat→Option α
  | [],_=>none
  | (j,x)::r,i=>if Nat.beq j i then some x else look r i
noncomputable def exec (c:Cx) (call:CallF) (nt:Nat) (an:Ann) (k:Nat):Code→St
  | .skip=>bEx .nrm
  | .label _=>bEx .nrm
  | .region id ops draw=>(match look an.regs id with | some g=>bReg (evalRegion c call nt g ops draw) | none=>fun _ _=>none)
  | .seq a b=>bSeq (exec c call nt an k a) (exec c call nt an k b)
  | .cond x a b=>bCond x (exec c call nt an k a) (exec c call nt an k b)
  | .block id a=>bBlock id (exec c call nt an k a)
  | .loop a=>(match (firstReg a).bind (look an.loops) with | some l=>bLoop l (exec c call nt an k a) k | none=>fun _ _=>none)
  | .exit id=>bEx (.ext id)
  | .ret=>bEx .ret
  | _=>fun _ _=>none
def argEnv:Nat→List AV→Env
  | _,[]=>[]
  | i,v::r=>(i,v)::argEnv (i + 1) r
def resOf (P:Program) (e:Env) (M:Mem):ResultVar→Option AV
  | .tmp t=>some (eget e t)
  | .cell a t=>if okT P t=true then aLoad (Program.cellsAgg P t) (P.cellsOf t) (eget e a) M else none
def resAll (P:Program) (e:Env) (M:Mem):List ResultVar→Option (List AV)
  | []=>some []
  | r::s=>(resOf P e M r).bind fun v=>(resAll P e M s).map fun q=>v::q
def oneOr (vs:List AV):AV:=match vs with | [v]=>v | _=>.tup vs
def bFun (P:Program) (rs:List ResultVar) (a:St) (args:List AV) (M:Mem):Option (AV×Mem):=
  (a (argEnv 0 args) M).bind fun q=>match q.1 with
    | .ext _=>none
    | _=>(resAll P q.2.1 q.2.2 rs).map fun vs=>(oneOr vs,q.2.2)
noncomputable def callN (c:Cx) (an:Nat→Option Ann) (prim:Nat→List AV→Mem→Option (AV×Mem)) (isPrim:Nat→Bool):Nat→CallF
  | 0=>fun _ _ _=>none
  | k + 1=>fun f args M=>
    if isPrim f=true then prim f args M else
    match c.P.funcs[f]?,an f with
    | some fn,some a=>(match fn.body with
      | some b => if Nat.beq args.length (fn.params.size + fn.nfree) = true ∧ (fn.name == "runtime.NumGoroutine") = false then bFun c.P fn.results.toList (exec c (callN c an prim isPrim k) fn.ntmps a k b) args M else none
      | none=>none)
    | _,_=>none
end Go.Ab
