/- The abstract evaluator of this proof: values, a small store, operations, code with fuel. Definitions alone. -/
import Derived.Test.YtkdinadmheomfaaGreatAbFix
set_option linter.unusedVariables false
namespace Go.Ab
open Go
inductive AV where
  | undef
  | un
  | int (k:IntKind) (n:Int)
  | bool (b:Bool)
  | ub
  | str (s:List UInt8)
  | agg (cs:List AV)
  | nils
  | sle
  | nilp
  | sl (o:Option TypeId) (es:List (List AV))
  | lit (t:TypeId) (es:List (List AV))
  | pt (o:Option TypeId) (cs:List AV)
  | loc (id L i j:Nat)
  | lsl (id L off n:Nat)
  | fn (f:Nat) (cap:List AV)
  | tup (vs:List AV)
  | nsl (t:TypeId) (es:List (List AV))
  | npt (cs:List AV)
  deriving Inhabited
inductive Kn where
  | box | grow
  deriving DecidableEq
structure Ob where
  kn:Kn
  t:TypeId
  s:Nat
  es:List (List AV)
inductive Ent where
  | dead | pend | live (o:Ob)
abbrev bs:=List Ent
abbrev b4:=List (Nat×AV)
def a3:b4->Nat->AV
  | [],_=>.undef
  | (t',v)::r,t=>if Nat.beq t' t then v else a3 r t
def Dq:Value->AV
  | .int k n=>.int k n
  | .bool b=>.bool b
  | .string s=>.str s.data.toList
  | .slice none 0 0=>.nils
  | .pointer none=>.nilp
  | _=>.undef
def eH (e:b4):Operand->AV
  | .tmp t=>a3 e t
  | .const v=>Dq v
  | .func f=>.fn f []
  | .global _=>.undef
def gB:AV->Bool
  | .int .. | .bool _ | .str _ | .nils | .nilp | .sl .. | .lit .. | .lsl .. | .loc ..=>true
  | _=>false
def cG:AV->Bool
  | .int .. | .bool _ | .str _ | .nils | .nilp | .sl none _=>true
  | _=>false
def so:AV->AV
  | .sl _ es=>.sl none es
  | .lit _ es=>.sl none es
  | .pt _ cs=>.pt none cs
  | v=>v
def im:AV->List AV
  | .agg cs=>cs
  | v=>[v]
def fV (v:AV):List AV:=(im v).map so
def Br:AV->AV
  | .lit t es=>.sl (some t) es
  | .pt _ cs=>.pt none cs
  | v=>v
def ec (kp:Bool) (v:AV):List AV:=
  match kp with
  | true=>(im v).map Br
  | false=>fV v
def jI (M:bs) (id L:Nat):Option Ob:=
  match M[id]? with
  | some (.live o)=>if o.es.length=L then some o else none
  | _=>none
def qA (M:bs) (id L:Nat):Bool:=(jI M id L).isSome
def okC (M:bs) (x:AV):Bool:=
  match x with
  | .lsl id L _ _=>qA M id L
  | .loc id L _ _=>qA M id L
  | _=>gB x
def oK (ag:Bool) (sz:Nat) (x:AV) (M:bs):Option AV:=
  match x with
  | .pt _ cs=>if ag then (if cs.length=sz then some (.agg cs) else none) else (match cs with | [c]=>some c | _=>none)
  | .npt cs=>if ag then (if cs.length=sz then some (.agg cs) else none) else (match cs with | [c]=>some c | _=>none)
  | .loc id L i j=>(jI M id L).bind fun o=>(o.es[i]?).bind fun cs=>
      if ag then (if j + sz<=cs.length then some (.agg ((cs.drop j).take sz)) else none) else cs[j]?
  | _=>none
def ri (kp:Bool) (sz:Nat) (x v:AV) (M:bs):Option bs:=
  match x with
  | .loc id L i j=>(jI M id L).bind fun o=>(o.es[i]?).bind fun cs=>
      if (ec kp v).length=sz/\j + sz<=cs.length/\(ec kp v).all (okC M)=true then
        some (M.set id (.live { o with es:=o.es.set i (cs.take j++ec kp v++cs.drop (j + sz)) }))
      else none
  | _=>none
def kG (off sz:Nat) (x:AV) (M:bs):Option AV:=
  match x with
  | .pt o cs=>if off + sz<=cs.length/\0 < sz then some (.pt none ((cs.drop off).take sz)) else none
  | .loc id L i j=>if qA M id L=true then some (.loc id L i (j + off)) else none
  | _=>none
def x0 (ag:Bool) (off sz:Nat) (x:AV):Option AV:=
  match x with
  | .agg cs=>if ag=true then (if off + sz<=cs.length then some (.agg ((cs.drop off).take sz)) else none) else cs[off]?
  | _=>none
def ol (sz:Nat) (x i:AV) (M:bs):Option AV:=
  match i with
  | .int _ n=>if 0<=n then
      (match x with
       | .sl _ es=>(es[n.toNat]?).bind fun cs=>if cs.length=sz then some (.pt none cs) else none
       | .lit _ es=>(es[n.toNat]?).bind fun cs=>if cs.length=sz then some (.pt none cs) else none
       | .nsl _ es=>(es[n.toNat]?).bind fun cs=>if cs.length=sz then some (.npt cs) else none
       | .lsl id L off m=>(jI M id L).bind fun o=>if n < m/\o.s=sz then some (.loc id L (off + n.toNat) 0) else none
       | _=>none)
      else none
  | _=>none
def cb (len sz:Nat) (x i:AV) (M:bs):Option AV:=
  match i with
  | .int _ n=>if 0<=n/\n < len then
      (match x with
       | .pt _ cs=>if n.toNat * sz + sz<=cs.length then some (.pt none ((cs.drop (n.toNat * sz)).take sz)) else none
       | .loc id L k j=>if qA M id L=true then some (.loc id L k (j + n.toNat * sz)) else none
       | _=>none)
      else none
  | _=>none
def lm (ag:Bool) (len sz:Nat) (x i:AV):Option AV:=
  match i with
  | .int _ n=>if 0<=n/\n < len then x0 ag (n.toNat * sz) sz x else none
  | _=>none
def Bu (x i:AV):Option AV:=
  match x,i with
  | .str s,.int _ n=>if 0<=n then (s[n.toNat]?).map fun b=>.int .u8 b.toNat else none
  | _,_=>none
def n7 (x:AV) (M:bs):Option AV:=
  match x with
  | .pt ..=>some x
  | .loc id L i j=>if qA M id L=true then some x else none
  | _=>none
def AS (c a b:AV):Option AV:=
  match c with
  | .bool true=>some a
  | .bool false=>some b
  | _=>none
def kv (op:BinOp) (k:IntKind) (a b:Int):Option AV:=
  match op with
  | .add=>some (.int k (k.wrap (a + b)))
  | .sub=>some (.int k (k.wrap (a - b)))
  | .mul=>some (.int k (k.wrap (a * b)))
  | .quo=>if b=0 then none else some (.int k (k.wrap (a.tdiv b)))
  | .rem=>if b=0 then none else some (.int k (a.tmod b))
  | .and=>some (.int k (k.wrap (BitVec.ofInt k.bits a &&& BitVec.ofInt k.bits b).toNat))
  | .or=>some (.int k (k.wrap (BitVec.ofInt k.bits a ||| BitVec.ofInt k.bits b).toNat))
  | .xor=>some (.int k (k.wrap (BitVec.ofInt k.bits a ^^^ BitVec.ofInt k.bits b).toNat))
  | .eql=>some (.bool (a==b))
  | .neq=>some (.bool (a != b))
  | .lss=>some (.bool (decide (a < b)))
  | .leq=>some (.bool (decide (a<=b)))
  | .gtr=>some (.bool (decide (a > b)))
  | .geq=>some (.bool (decide (a>=b)))
  | _=>none
def BF (op:BinOp) (k:IntKind) (a b:Int):Option AV:=
  if b < 0 then none else
  match op with
  | .shl=>some (.int k (k.wrap (a * 2 ^ (min b.toNat k.bits))))
  | .shr=>some (.int k (a.fdiv (2 ^ (min b.toNat k.bits))))
  | _=>none
def FA (op:BinOp) (a b:List UInt8):Option AV:=
  match op with
  | .add=>if ((a.length + b.length:Nat):Int) > IntKind.i64.max then none else some (.str (a++b))
  | .eql=>some (.bool (a==b))
  | .neq=>some (.bool (!(a==b)))
  | .lss=>some (.bool (Op.bytesLess a b))
  | .leq=>some (.bool (Op.bytesLess a b || a==b))
  | .gtr=>some (.bool (!(Op.bytesLess a b || a==b)))
  | .geq=>some (.bool (!Op.bytesLess a b))
  | _=>none
def D2:AV->AV->Option Bool
  | .int k a,.int k' b=>if k=k' then some (a==b) else none
  | .bool a,.bool b=>some (a==b)
  | .str a,.str b=>some (a==b)
  | _,_=>none
def pq:List AV->List AV->Option Bool
  | [],[]=>some true
  | a::x,b::y=>(D2 a b).bind fun p=>(pq x y).map fun q=>p && q
  | _,_=>none
def vG (M:bs):AV->Option Bool
  | .nils=>some true
  | .sle=>some false
  | .sl _ es=>if 0 < es.length then some false else none
  | .lit ..=>some false
  | .lsl id L _ n=>if 0 < n/\qA M id L=true then some false else none
  | _=>none
def w6 (M:bs):AV->Bool
  | .nils=>true
  | .sl ..=>true
  | .lit ..=>true
  | .lsl id L _ _=>qA M id L
  | _=>false
def qU (op:BinOp) (x y:AV) (M:bs):Option AV:=
  match x,y with
  | .int k a,.int k' b=>
    match op with
    | .shl | .shr=>BF op k a b
    | _=>if k=k' then kv op k a b else none
  | .str a,.str b=>FA op a b
  | .bool a,.bool b=>(match op with | .eql=>some (.bool (a==b)) | .neq=>some (.bool (!(a==b))) | _=>none)
  | .agg a,.agg b=>(match op with
    | .eql=>(pq a b).map fun q=>.bool q
    | .neq=>(pq a b).map fun q=>.bool (!q)
    | _=>none)
  | x,.nils=>(match op with
    | .eql=>(match vG M x with | some q=>some (.bool q) | none=>if w6 M x=true then some .ub else none)
    | .neq=>(match vG M x with | some q=>some (.bool (!q)) | none=>if w6 M x=true then some .ub else none)
    | _=>none)
  | _,_=>none
def NJ (op:UnOp) (x:AV):Option AV:=
  match op,x with
  | .neg,.int k n=>some (.int k (k.wrap (0 - n)))
  | .not,.bool b=>some (.bool (!b))
  | _,_=>none
def ir (k:IntKind) (x:AV):Option AV:=
  match x with
  | .int _ n=>some (.int k (k.wrap n))
  | _=>none
def bytesOf:List (List AV)->Option (List UInt8)
  | []=>some []
  | [.int .u8 n]::r=>(bytesOf r).map fun q=>UInt8.ofNat n.toNat::q
  | _=>none
def IG:AV->Bool
  | .lsl ..=>false
  | _=>true
def mP (x:AV) (M:bs):Option (List (List AV)):=
  match x with
  | .nils=>some []
  | .sle=>some []
  | .sl _ es=>some es
  | .lit _ es=>some es
  | .lsl id L off n=>(jI M id L).bind fun o=>if off + n<=L then some ((o.es.drop off).take n) else none
  | _=>none
def DC (x:AV) (M:bs):Option AV:=(mP x M).bind fun es=>(bytesOf es).map .str
def BK (F D:Option AV) (x:AV):Option AV:=
  match x with
  | .str s=>
    (match D with | none=>some (s.length:Int) | some (.int _ n)=>some n | _=>none).bind fun h=>
    (match F with | none=>some 0 | some (.int _ n)=>some n | _=>none).bind fun l=>
    if 0<=l/\l<=h/\h<=s.length then some (.str ((s.drop l.toNat).take (h.toNat - l.toNat))) else none
  | _=>none
def z4 (d:Int):Option AV->Option Int
  | none=>some d
  | some (.int _ n)=>some n
  | _=>none
def u9 (M:bs):AV->Option Nat
  | .nils=>some 0
  | .sl _ es=>some es.length
  | .lit _ es=>some es.length
  | .nsl _ es=>some es.length
  | .lsl id L _ n=>if qA M id L=true then some n else none
  | .str s=>some s.length
  | _=>none
def vo (sz:Nat) (F D:Option AV) (x:AV) (M:bs):Option AV:=
  (u9 M x).bind fun n=>(z4 n D).bind fun h=>(z4 0 F).bind fun l=>
  if 0<=l/\l<=h/\h<=n then
    (match x with
     | .nils=>some (.sl none [])
     | .sl _ es=>if l=h then some (.sl none []) else if l=0∨((es[l.toNat]?).getD []).length=sz then some (.sl none ((es.drop l.toNat).take (h.toNat - l.toNat))) else none
     | .lit _ es=>if l=h then some (.sl none []) else if l=0∨((es[l.toNat]?).getD []).length=sz then some (.sl none ((es.drop l.toNat).take (h.toNat - l.toNat))) else none
     | .lsl id L off m=>(jI M id L).bind fun o=>if l=h then some (.sl none []) else if o.s=sz then some (.lsl id L (off + l.toNat) (h.toNat - l.toNat)) else none
     | _=>none)
  else none
def FH (x:AV) (M:bs):Option AV:=(u9 M x).map fun (n:Nat)=>AV.int .i64 (n:Int)
def Kp (D:Bool) (x y:AV):Option AV:=
  match x,y with
  | .int k a,.int _ b=>some (.int k (if D=true then max a b else min a b))
  | _,_=>none
def oD (i:Nat) (x:AV):Option AV:=
  match x with
  | .tup vs=>vs[i]?
  | _=>none
def u7 (M:bs):List AV->List (Nat×Nat×AV)->Option (List AV)
  | cs,[]=>some cs
  | cs,(off,sz,v)::r=>if (im v).length=sz/\off + sz<=cs.length/\(im v).all (okC M)=true then u7 M (cs.take off++im v++cs.drop (off + sz)) r else none
def db (F:List AV) (D:List (Nat×Nat×AV)) (M:bs):Option AV:=(u7 M F D).map .agg
def ui (kp:Bool) (M:bs) (sz:Nat):List AV->Option (List (List AV))
  | []=>some []
  | v::r=>if (ec kp v).length=sz/\(ec kp v).all (okC M)=true then (ui kp M sz r).map fun q=>ec kp v::q else none
def uv (es:List (List AV)):Bool:=es.all fun c=>c.all cG
def NX:AV->Bool
  | .sl (some _) es=>es.all fun c=>c.all fun | .int .. | .bool _ | .str _=>true | _=>false
  | v=>cG v
def Ow (es:List (List AV)):Bool:=es.all fun c=>c.all NX
def z0 (es:List (List AV)):AV:=if uv es=true then .sl none es else .undef
def treePt (cs:List AV):AV:=if cs.all cG=true/\0 < cs.length then .pt none cs else .undef
def ls (M:bs):Nat->AV->AV
  | 0,_=>.undef
  | d + 1,v=>match v with
    | .lsl id L off n=>(match mP (.lsl id L off n) M with
        | some es=>if uv es=true then .sl none es else z0 (es.map fun c=>c.map (ls M d))
        | none=>.undef)
    | .int k n=>.int k n
    | .bool b=>.bool b
    | .str s=>.str s
    | .nils=>.nils
    | .nilp=>.nilp
    | .sl _ es=>.sl none es
    | .lit _ es=>.sl none es
    | .pt _ cs=>.pt none cs
    | _=>.undef
def sW (M:bs):AV->AV
  | .nils=>.sl none []
  | .loc id L i j=>(match (jI M id L).bind fun o=>o.es[i]? with
      | some cs=>if (cs.drop j).all cG=true/\j < cs.length then .pt none (cs.drop j) else treePt ((cs.drop j).map (ls M 3))
      | none=>.undef)
  | v=>ls M 4 v
def xe (M:bs):AV->AV
  | .agg cs=>.agg (cs.map (sW M))
  | .fn f cap=>.fn f (cap.map (sW M))
  | v=>sW M v
def mb (M:bs):AV->AV
  | .lsl id L off n=>(match jI M id L with
      | some o=>if o.kn = .grow/\off=0/\n<=L/\uv o.es=true then .sl (some o.t) (o.es.take n) else if o.kn = .grow/\off=0/\n=L/\Ow o.es=true then .nsl o.t o.es else ls M 4 (.lsl id L off n)
      | none=>.undef)
  | .loc id L i j=>(match jI M id L with
      | some o=>(match o.kn,o.es with | .box,[cs]=>if i=0/\j=0/\cs.all cG=true then .pt (some o.t) cs else .undef | _,_=>.undef)
      | none=>.undef)
  | .sl (some t) es=>.sl (some t) es
  | .lit t es=>.sl (some t) es
  | .pt (some t) cs=>.pt (some t) cs
  | v=>ls M 4 v
def uf (M:bs):AV->AV
  | .agg cs=>.agg (cs.map (mb M))
  | v=>mb M v
def cp (M:bs):AV->AV
  | .tup vs=>.tup (vs.map (uf M))
  | v=>uf M v
def ww:AV->Bool
  | .loc .. | .lsl ..=>true
  | _=>false
def up:AV->Bool
  | .agg cs=>cs.any ww
  | .fn _ cap=>cap.any ww
  | v=>ww v
def oF:AV->Bool
  | .int .. | .bool _ | .str _=>true
  | _=>false
def q9:AV->Bool
  | .int .. | .bool _ | .str _ | .nils | .nilp=>true
  | .sl (some _) es=>es.all fun c=>c.all oF
  | .pt (some _) cs=>cs.all oF
  | _=>false
def zS:AV->Bool
  | .agg cs=>cs.all q9
  | v=>q9 v
def iu:AV->Bool
  | .tup vs=>vs.all zS
  | v=>zS v
inductive Eff where
  | keep
  | push (l:List Ob)
  | put (M:bs)
def Eff.on:Eff->bs->bs
  | .keep,M=>M
  | .push l,M=>M++l.map .live
  | .put M',_=>M'
def rK (S:TypeId->Nat) (n:Nat):AV->AV×List Ob
  | .sl (some t) es=>(.lsl n es.length 0 es.length,[⟨.grow,t,S t,es⟩])
  | .pt (some t) cs=>(.loc n 1 0 0,[⟨.box,t,S t,[cs]⟩])
  | v=>(v,[])
def k7 (f:Nat->AV->AV×List Ob):Nat->List AV->List AV×List Ob
  | _,[]=>([],[])
  | n,v::r=>((f n v).1::(k7 f (n + (f n v).2.length) r).1,(f n v).2++(k7 f (n + (f n v).2.length) r).2)
def s6 (S:TypeId->Nat) (n:Nat):AV->AV×List Ob
  | .agg cs=>(.agg (k7 (rK S) n cs).1,(k7 (rK S) n cs).2)
  | v=>rK S n v
def yE (S:TypeId->Nat) (n:Nat):AV->AV×List Ob
  | .tup vs=>(.tup (k7 (s6 S) n vs).1,(k7 (s6 S) n vs).2)
  | v=>s6 S n v
def xQ:List Ob->Bool
  | []=>true
  | o::r=>(r.all fun q=>!(Nat.beq o.t q.t)) && xQ r
def xz (S:TypeId->Nat) (n:Nat) (v:AV):Option (AV×Eff):=
  if iu v=true/\xQ (yE S n v).2=true/\((yE S n v).2.all fun o=>decide (0 < o.s))=true then some ((yE S n v).1,.push (yE S n v).2) else none
def FW (sz:Nat) (v:AV) (M:bs):Option AV:=if (fV v).length=sz/\(fV v).all cG=true/\0 < sz then some (.pt none (fV v)) else none
def s3 (n:Nat) (t:TypeId) (sz:Nat) (v:AV) (M:bs):Option (AV×Eff):=
  if (fV v).length=sz/\(fV v).all (okC M)=true/\0 < sz then some (.loc n 1 0 0,.push [⟨.box,t,sz,[fV v]⟩]) else none
def v9 (n:Nat) (t:TypeId) (sz F:Nat) (D:List AV) (l c:AV):Option (AV×Eff):=
  match l,c with
  | .int _ a,.int _ b=>if a=b/\0<=a/\a.toNat * F<=140737488355328/\a<=140737488355328/\D.length=sz/\D.all gB=true/\0 < sz then
      some (.lsl n a.toNat 0 a.toNat,.push [⟨.grow,t,sz,List.replicate a.toNat D⟩]) else none
  | _,_=>none
def eX (t:TypeId) (sz:Nat) (vs:List AV) (M:bs):Option AV:=
  (ui false M sz vs).bind fun es=>if (es.all fun c=>c.all cG)=true/\0 < sz then some (.lit t es) else none
def o8 (kp:Bool) (n:Nat) (t:TypeId) (sz:Nat) (vs:List AV) (M:bs):Option (AV×Eff):=
  (ui kp M sz vs).bind fun es=>if 0 < sz then some (.lsl n es.length 0 es.length,.push [⟨.grow,t,sz,es⟩]) else none
def fits (M:bs) (sz D n:Nat) (src:List (List AV)):Bool:=
  (src.all fun e=>e.length==sz && e.all (okC M)) && decide (0 < sz) && decide ((n + src.length) * D<=140737488355328) && decide (n + src.length<=140737488355328)
def rB (t:TypeId) (sz D:Nat) (d s:AV) (M:bs):Option (AV×Eff):=
  (mP s M).bind fun src=>
    if (src.all fun c=>c.all cG)=true then
    (match d with
     | .nils=>if fits M sz D 0 src=true then some (.sl (some t) src,.keep) else none
     | .lit t' es=>if t'=t/\fits M sz D es.length src=true then some (.sl (some t) (es++src),.keep) else none
     | .lsl id L off n=>(jI M id L).bind fun o=>
         if o.kn = .grow/\o.t=t/\o.s=sz/\off=0/\n=L/\fits M sz D L src=true/\(o.es.all fun c=>c.all cG)=true then some (.sl (some t) (o.es++src),.put (M.set id .dead)) else none
     | _=>none)
    else none
def ks (F:Nat) (t:TypeId) (sz D:Nat) (d s:AV) (M:bs):Option (AV×Eff):=
  (mP s M).bind fun src=>
    (match d with
     | .nils=>if fits M sz D 0 src=true then some (.lsl F src.length 0 src.length,.push [⟨.grow,t,sz,src⟩]) else none
     | .lit t' es=>if es.isEmpty=true/\t'=t/\0 < src.length/\fits M sz D 0 src=true then some (.lsl F src.length 0 src.length,.push [⟨.grow,t,sz,src⟩]) else none
     | .lsl id L off n=>(jI M id L).bind fun o=>
         if o.kn = .grow/\o.t=t/\o.s=sz/\off=0 then
           (if n=L then (if fits M sz D L src=true then
               some (.lsl id (L + src.length) 0 (L + src.length),.put (M.set id (.live { o with es:=o.es++src }))) else none)
            else if n + src.length<=L/\fits M sz D n src=true then some (.lsl id L 0 (n + src.length),.put (M.set id (.live { o with es:=o.es.take n++src++o.es.drop (n + src.length) }))) else none)
         else none
     | _=>none)
def Program.cellsAgg (P:Program) (t:TypeId):Bool:=
  match P.underlying t with
  | some (.struct _) | some (.array _ _)=>true
  | _=>false
def b5 (P:Program) (t:TypeId):List AV:=
  match (P.info? t).bind (·.zero) with
  | some v=>v.cells.toList.map Dq
  | none=>[]
def q6 (P:Program):Nat->TypeId->List Nat
  | 0,_=>[]
  | d + 1,t=>match P.underlying t with
    | some (.slice e)=>[e + 1]
    | some (.struct fs)=>fs.toList.flatMap fun f=>q6 P d f.type
    | some (.array n e)=>(List.replicate n (q6 P d e)).flatten
    | _=>[0]
def ey (S:TypeId->Nat) (n:Nat):List AV->List Nat->List AV×List Ob
  | [],_=>([],[])
  | x::r,ts=>match x,ts with
    | .nils,(e + 1)::ts'=>(.lsl n 0 0 0::(ey S (n + 1) r ts').1,⟨.grow,e,S e,[]⟩::(ey S (n + 1) r ts').2)
    | y,ts'=>(y::(ey S n r ts'.tail).1,(ey S n r ts'.tail).2)
def np (S:TypeId->Nat) (ts:List Nat) (n:Nat):List (List AV)->List (List AV)×List Ob
  | []=>([],[])
  | e::r=>((ey S n e ts).1::(np S ts (n + (ey S n e ts).2.length) r).1,(ey S n e ts).2++(np S ts (n + (ey S n e ts).2.length) r).2)
def Oy (S:TypeId->Nat) (ts:TypeId->List Nat) (n:Nat):AV×Eff->Option (AV×Eff)
  | (v,.push [o])=>if ((np S (ts o.t) (n + 1) o.es).2.all fun q=>decide (0 < q.s))=true then some (v,.push (⟨o.kn,o.t,o.s,(np S (ts o.t) (n + 1) o.es).1⟩::(np S (ts o.t) (n + 1) o.es).2)) else none
  | _=>none
def w2 (S:TypeId->Nat) (ts:List Nat) (kp:Bool) (sz:Nat) (x v:AV) (M:bs):Option bs:=
  match v with
  | .agg cs=>if ((ey S M.length cs ts).2.all fun q=>decide (0 < q.s))=true then ri kp sz x (.agg (ey S M.length cs ts).1) (M++(ey S M.length cs ts).2.map .live) else none
  | _=>none
def Ki (P:Program) (th:Bool) (n:Nat) (x:Option (AV×Eff)):Option (AV×Eff):=if th=true then x.bind (Oy P.cellsOf (q6 P 6) n) else x
def qo (P:Program) (t:TypeId):Bool:=(P.underlying t).isSome && decide (0 < P.cellsOf t)
def yZ (P:Program) (t:TypeId) (j:Nat):Option (Nat×Nat×Bool):=
  match P.underlying t with
  | some (.struct fs)=>(fs[j]?).bind fun f=>if qo P f.type=true then some (f.offset,P.cellsOf f.type,Program.cellsAgg P f.type) else none
  | _=>none
def OQ (P:Program) (e:TypeId):Bool:=((P.info? e).bind (·.zero)).isSome && Nat.beq (b5 P e).length (P.cellsOf e)
def wg (P:Program) (t:TypeId):Option TypeId:=
  match P.underlying t with
  | some (.slice e)=>if qo P e=true/\OQ P e=true then some e else none
  | _=>none
def ek (P:Program):Nat->TypeId->List Nat
  | 0,_=>[]
  | d + 1,t=>match P.underlying t with
    | some .bool=>[1]
    | some (.int _)=>[0]
    | some .string=>[2]
    | some (.struct fs)=>fs.toList.flatMap fun f=>ek P d f.type
    | some (.array n e)=>(List.replicate n (ek P d e)).flatten
    | _=>[]
def ET:AV->Nat
  | .int ..=>0
  | .bool _=>1
  | .str _=>2
  | _=>3
def iq (P:Program):Nat->TypeId->Bool
  | 0,_=>false
  | d + 1,t=>Nat.beq (ek P (d + 1) t).length (P.cellsOf t) && match P.underlying t with
    | some .bool | some (.int _) | some .string=>true
    | some (.struct fs) => !P.stoodInHeld t && fs.toList.all (fun f => f.name != "_" && iq P d f.type && qo P f.type) && laid P 0 fs.toList (P.cellsOf t)
    | some (.array n e)=>iq P d e && qo P e && Nat.beq (P.cellsOf t) (n * P.cellsOf e)
    | _=>false
where laid (P:Program):Nat->List Field->Nat->Bool
  | off,[],sz=>Nat.beq off sz
  | off,f::r,sz=>Nat.beq f.offset off && laid P (off + P.cellsOf f.type) r sz
def uG:List AV->List Nat->Bool
  | [],[]=>true
  | a::r,n::s=>Nat.beq (ET a) n && uG r s
  | _,_=>false
def k9 (P:Program) (t:TypeId) (x y:AV):Bool:=
  match x,y with
  | .bool _,.bool _=>(match P.underlying t with | some .bool=>true | _=>false)
  | .agg a,.agg b=>iq P 8 t && !P.eqGuardType P.depth t && Program.cellsAgg P t && qo P t && uG a (ek P 8 t)
  | _,.nils=>(match P.underlying t with | some (.slice _)=>true | _=>false)
  | _,_=>true
def zq (P:Program) (t:TypeId) (D:List (Nat×AV)):Option (List (Nat×Nat×AV)):=
  match P.underlying t with
  | some (.struct fs)=>if (fs.toList.all fun f=>qo P f.type)=true then D.mapM fun p=>(fs[p.1]?).map fun f=>(f.offset,P.cellsOf f.type,p.2) else none
  | some (.array _ e)=>if qo P e=true then some (D.map fun p=>(p.1 * P.cellsOf e,P.cellsOf e,p.2)) else none
  | _=>none
def zj (P:Program) (t:TypeId) (x:AV):Bool:=
  match P.underlying t,x with
  | some .string,.str _=>true
  | some (.slice _),.nils=>true
  | some (.slice _),.sl ..=>true
  | some (.slice _),.lit ..=>true
  | some (.slice _),.nsl ..=>true
  | some (.slice _),.lsl ..=>true
  | _,_=>false
def wP:Nat->List (Nat×AV)->Option (List AV)
  | _,[]=>some []
  | n,(i,v)::r=>if Nat.beq i n then (wP (n + 1) r).map fun q=>v::q else none
structure Cx where
  P:Program
  rw:Nat->Bool
  wk:Nat->Bool
def NE:AV->AV
  | .nils=>.sl none []
  | .sl _ es=>.sl none es
  | .lit _ es=>.sl none es
  | v=>v
def Lt:AV->AV
  | .agg cs=>.agg (cs.map NE)
  | v=>NE v
def As:AV->AV
  | .tup vs=>.tup (vs.map Lt)
  | v=>Lt v
abbrev bh:=Nat->List AV->bs->Option (AV×bs)
def li (v:AV) (M:bs):AV×bs:=
  match v with
  | .lsl id L off n=>(match jI M id L with
      | some o=>if o.kn = .grow/\off=0/\n=L/\uv o.es=true then (.sl (some o.t) o.es,M.set id .dead) else (.lsl id L off n,M)
      | none=>(.lsl id L off n,M))
  | v=>(v,M)
def kY (f:AV->bs->AV×bs):List AV->bs->List AV×bs
  | [],M=>([],M)
  | v::r,M=>((f v M).1::(kY f r (f v M).2).1,(kY f r (f v M).2).2)
def Dn (v:AV) (M:bs):AV×bs:=
  match v with
  | .agg cs=>(.agg (kY li cs M).1,(kY li cs M).2)
  | v=>li v M
def N4 (v:AV) (M:bs):AV×bs:=
  match v with
  | .tup vs=>(.tup (kY Dn vs M).1,(kY Dn vs M).2)
  | v=>Dn v M
def Ad (x:AV) (M:bs):bs:=
  match x with
  | .loc id 1 0 0=>(match jI M id 1 with
      | some o=>(match o.kn,o.es with
          | .box,[cs]=>(kY li cs M).2.set id (.live { o with es:=[(kY li cs M).1.map so] })
          | _,_=>M)
      | none=>M)
  | _=>M
def sm (e:b4):List Nat->bs->bs
  | [],M=>M
  | t::l,M=>sm e l (Ad (a3 e t) M)
def NF:AV->AV
  | .sl _ es=>.sl none es
  | .lit _ es=>.sl none es
  | v=>v
def Gy:AV->AV
  | .tup vs=>.tup (vs.map NF)
  | v=>NF v
def JO (wk:Bool) (args:List AV) (M:bs):List AV×bs:=if wk=true then ((kY li args M).1.map NF,(kY li args M).2) else (args,M)
def ld (S:TypeId->Nat) (rw wk:Nat->Bool) (call:bh) (th:Bool) (n:Nat) (f:Nat) (args:List AV) (M:bs):Option (AV×Eff):=
  if rw f=true then (call f (JO (wk f) args M).1 (JO (wk f) args M).2).map fun p=>if th=true then ((N4 p.1 p.2).1,.put (N4 p.1 p.2).2) else (if wk f=true then Gy p.1 else p.1,.put p.2)
  else (call f (args.map (xe M)) []).bind fun p=>
    if (args.any up=true->iu (cp p.2 p.1)=true) then
      (if th=true then xz S n (cp p.2 p.1) else some (if wk f=true then As (cp p.2 p.1) else cp p.2 p.1,.keep))
    else none
def keep (x:Option AV):Option (AV×Eff):=x.map fun v=>(v,.keep)
def mv (c:Cx) (call:bh) (ob th:Bool) (n:Nat) (o:Oper) (e:b4) (M:bs):Option (AV×Eff):=
  let P:=c.P
  match o.op with
  | .move x | .assign x=>some (eH e x,.keep)
  | .pick q a b=>keep (AS (eH e q) (eH e a) (eH e b))
  | .alloc t=>Ki P th n (if qo P t=true/\((P.info? t).bind (·.zero)).isSome=true/\(b5 P t).length=P.cellsOf t/\0 < P.cellsOf t/\(b5 P t).all gB=true then some (.loc n 1 0 0,.push [⟨.box,t,P.cellsOf t,[b5 P t]⟩]) else none)
  | .box t x=>if ob=true then Ki P th n (s3 n t (P.cellsOf t) (eH e x) M) else keep (FW (P.cellsOf t) (eH e x) M)
  | .build t parts=>if qo P t=true/\((P.info? t).bind (·.zero)).isSome=true then keep ((zq P t (parts.toList.map fun p=>(p.1,eH e p.2))).bind fun D=>db (b5 P t) D M) else none
  | .buildSlice t len parts=>(wg P t).bind fun el=>(wP 0 (parts.toList.map fun p=>(p.1,eH e p.2))).bind fun vs=>
      if Nat.beq vs.length len/\len * P.cellsOf el<=16777216/\(b5 P el).length=P.cellsOf el/\((P.info? el).bind (·.zero)).isSome=true then (if ob=true then o8 th n el (P.cellsOf el) vs M else keep (eX el (P.cellsOf el) vs M)) else none
  | .load t a=>if qo P t=true then keep (oK (Program.cellsAgg P t) (P.cellsOf t) (eH e a) M) else none
  | .store t a x=>if qo P t=true then (if th=true then w2 P.cellsOf (q6 P 6 t) ob (P.cellsOf t) (eH e a) (eH e x) M else ri ob (P.cellsOf t) (eH e a) (eH e x) M).map fun M'=>(.un,.put M') else none
  | .nilCheck x=>keep (n7 (eH e x) M)
  | .binOp op t x y _=>if k9 P t (eH e x) (eH e y)=true then keep (qU op (eH e x) (eH e y) M) else none
  | .unOp op _ x=>keep (NJ op (eH e x))
  | .convert s d x=>
      (match P.underlying s,P.underlying d with
       | some (.int _),some (.int k)=>keep (ir k (eH e x))
       | some (.slice q),some .string=>(match P.underlying q with | some (.int .u8)=>keep (DC (eH e x) M) | _=>none)
       | _,_=>none)
  | .makeFunc (.func f) fs cap=>if fs.size=0 then some (.fn f (cap.toList.map (eH e)),.keep) else none
  | .makeSlice t l k=>(wg P t).bind fun el=>if ((P.info? el).bind (·.zero)).isSome=false then none else Ki P th n (v9 n el (P.cellsOf el) (P.bytesOf el) (b5 P el) (eH e l) (eH e k))
  | .slice t x lo hi mx=>if mx.isSome then none else
      (match P.underlying t with
       | some .string=>keep (BK (lo.map (eH e)) (hi.map (eH e)) (eH e x))
       | some (.slice el)=>if qo P el=true then keep (vo (P.cellsOf el) (lo.map (eH e)) (hi.map (eH e)) (eH e x) M) else none
       | _=>none)
  | .fieldAddr t x j=>(yZ P t j).bind fun q=>keep (kG q.1 q.2.1 (eH e x) M)
  | .field t x j=>(yZ P t j).bind fun q=>keep (x0 q.2.2 q.1 q.2.1 (eH e x))
  | .indexAddr t x i=>
      (match P.underlying t with
       | some (.slice el)=>if qo P el=true then keep (ol (P.cellsOf el) (eH e x) (eH e i) M) else none
       | some (.array len el)=>if 1 < len/\qo P el=true then keep (cb len (P.cellsOf el) (eH e x) (eH e i) M) else none
       | _=>none)
  | .index t x i=>
      (match P.underlying t with
       | some .string=>keep (Bu (eH e x) (eH e i))
       | some (.array len el)=>if qo P el=true then keep (lm (Program.cellsAgg P el) len (P.cellsOf el) (eH e x) (eH e i)) else none
       | _=>none)
  | .extract x i=>keep (oD i (eH e x))
  | .call { callee:=.value f,args,.. }=>
      (match eH e f with
       | .fn g cap=>ld P.cellsOf c.rw c.wk call th n g (args.toList.map (eH e)++cap) M
       | _=>none)
  | .call { callee:=.builtin .len,args,argTypes }=>(match args.toList,argTypes.toList with | [x],[t]=>if zj P t (eH e x)=true then keep (FH (eH e x) M) else none | _,_=>none)
  | .call { callee:=.builtin .max,args,.. }=>(match args.toList with | [x,y]=>keep (Kp true (eH e x) (eH e y)) | _=>none)
  | .call { callee:=.builtin .min,args,.. }=>(match args.toList with | [x,y]=>keep (Kp false (eH e x) (eH e y)) | _=>none)
  | .call { callee:=.builtin .append,args,argTypes }=>
      (match args.toList,argTypes.toList with
       | [x, y], [t, u] => if Nat.beq t u then (wg P t).bind fun el =>
            if ob=true then ks n el (P.cellsOf el) (P.bytesOf el) (eH e x) (eH e y) M else rB el (P.cellsOf el) (P.bytesOf el) (eH e x) (eH e y) M
          else none
       | _,_=>none)
  | _=>none
def put (e:b4) (d:Option Nat) (v:AV):b4:=
  match d with
  | some t=>(t,v)::e
  | none=>e
def j4 (ops:Array Oper) (e:b4) (o:Oper):Option (AV×Bool):=
  match o.guard with
  | none=>none
  | some (j,w)=>match (ops[j]?).bind (·.dst) with
    | some t=>some (a3 e t,w)
    | none=>some (.undef,w)
def gL (g:Option (AV×Bool)) (x:Option (AV×Eff)):Option (AV×Eff):=
  match g with
  | none=>x
  | some (.bool b,w)=>if b==w then x else some (.un,.keep)
  | some (.un,_)=>some (.un,.keep)
  | _=>none
def fg (l:List Nat) (i:Nat):Bool:=l.any fun j=>Nat.beq j i
def prune (l:List Nat) (e:b4):b4:=l.map fun t=>(t,a3 e t)
def rds (o:Oper):List Nat:=o.op.operands.toList.filterMap fun | .tmp t=>some t | _=>none
def Of (ops:Array Oper) (o:Oper):List Nat:=
  match o.guard with
  | some (j,_)=>((ops[j]?).bind (·.dst)).toList
  | none=>[]
def wT (calm:Bool) (C:List Ob):Eff->Option (List Ob)
  | .keep=>some C
  | .push l=>if calm=true then none else some (C++l)
  | .put _=>none
def px (c:Cx) (call:bh) (ob th calm:List Nat) (ops:Array Oper) (M:bs):List (Nat×Oper)->b4->List Ob->Option (b4×List Ob)
  | [],e,C=>some (e,C)
  | (i,o)::r,e,C=>(gL (j4 ops e o) (mv c call (fg ob i) (fg th i) (M.length + C.length) o (prune (rds o) e) (if fg calm i=true then [] else M))).bind fun p=>
      (wT (fg calm i) C p.2).bind fun D=>px c call ob th calm ops M r (put e o.dst p.1) D
def mZ (c:Cx) (call:bh) (ob th:List Nat) (ops:Array Oper):List (Nat×Oper)->b4->bs->Option (b4×bs)
  | [],e,M=>some (e,M)
  | (i,o)::r,e,M=>(gL (j4 ops e o) (mv c call (fg ob i) (fg th i) M.length o (prune (rds o) e) M)).bind fun p=>
      mZ c call ob th ops r (put e o.dst p.1) (p.2.on M)
def dV:Nat->List Oper->List (Nat×Oper)
  | _,[]=>[]
  | i,o::r=>(i,o)::dV (i + 1) r
def wJ (suf:List Nat) (l:List (Nat×Oper)):List (Nat×Oper):=l.filter fun p=>!fg suf p.1
def zW (suf:List Nat) (l:List (Nat×Oper)):List (Nat×Oper):=l.filter fun p=>fg suf p.1
def iX (o:Oper):List Nat:=(o.after.toList.filter (Region.binds .any ·)).map (·.on)
def zi (D:List Nat) (o:Oper):Nat:=(iX o).foldl (fun s j=>s ||| (1 <<< j) ||| D.getD j 0) 0
def oC:List Nat->List Oper->List Nat
  | ms,[]=>ms
  | ms,o::r=>oC (ms++[zi ms o]) r
def Di (nt:Nat) (o:Oper):Bool:=
  match o.dst with
  | some d=>Nat.blt d nt
  | none=>true
def y9 (o:Oper) (t:Nat):Bool:=
  match o.dst with
  | some d=>Nat.beq d t
  | none=>false
def rp (o:Oper):Bool:=match o.op,o.guard with | .extract _ _,none=>true | _,_=>false
def vz (ops:Array Oper) (calm suf:List Nat):Bool:=
  let l:=dV 0 ops.toList
  let D:=oC [] ops.toList
  (l.all fun p=>l.all fun q=>(rds p.2++Of ops p.2).all fun t=>!y9 q.2 t || Nat.beq p.1 q.1 ||
      (fg (iX p.2) q.1 && Nat.blt q.1 p.1 && (fg suf p.1 || !fg suf q.1)) || ((D.getD q.1 0).testBit p.1 && Nat.blt p.1 q.1 && (!fg suf p.1 || fg suf q.1))) &&
  (l.all fun p=>l.all fun q=>Nat.beq p.1 q.1 || (match p.2.dst with | some t=>!y9 q.2 t | none=>true)) &&
  (l.all fun p=>(iX p.2).all fun k=>Nat.blt k p.1) &&
  (l.all fun p=>!fg suf p.1 || rp p.2 || l.all fun q=>Nat.beq p.1 q.1 || (if fg suf q.1=true then rp q.2 || Nat.blt p.1 q.1 || (D.getD p.1 0).testBit q.1 else fg calm q.1 || (D.getD p.1 0).testBit q.1))
def BR (th:List Nat) (i:Nat) (o:Oper):Bool:=match o.op with | .alloc _=>!fg th i | _=>false
abbrev w5:=List (Nat×(bs->Prop))
def AO (M:bs):Nat->List Ob->Prop
  | _,[]=>True
  | n,o::r=>M[n]? = some (.live o)/\AO M (n + 1) r
def rL (calm std al:Bool) (C:List Ob):Eff->Option (List Ob)
  | .keep=>some C
  | .push l=>if std=true then none else if calm=true then (if al=true then some (C++l) else none) else some (C++l)
  | .put _=>none
def EJ (calm std:Bool) (i n:Nat) (op:bs->Option (AV×Eff)) (p:AV×Eff) (S:w5):w5:=
  if std=true then (i,fun M'=>op M'=some p)::S else if calm=true then (match p.2 with | .push l=>(i,fun M'=>AO M' n l)::S | _=>S) else S
def pW (c:Cx) (call:bh) (ob th calm std:List Nat) (ops:Array Oper) (M:bs):List (Nat×Oper)->b4->List Ob->w5->Option (b4×List Ob×w5)
  | [],e,C,S=>some (e,C,S)
  | (i,o)::r,e,C,S=>(gL (j4 ops e o) (mv c call (fg ob i) (fg th i) (M.length + C.length) o (prune (rds o) e) (if fg calm i=true then [] else M))).bind fun p=>
      (rL (fg calm i) (fg std i) (BR th i o) C p.2).bind fun D=>pW c call ob th calm std ops M r (put e o.dst p.1) D
        (EJ (fg calm i) (fg std i) i (M.length + C.length) (fun M'=>gL (j4 ops e o) (mv c call (fg ob i) (fg th i) (M.length + C.length) o (prune (rds o) e) M')) p S)
def NO (ops:Array Oper) (j:Nat):List Nat:=(List.range ops.size).filter fun i=>((oC [] ops.toList).getD j 0).testBit i
def Fp (D:List Nat) (S:w5) (M:bs):Prop:=∀ p ∈ S,fg D p.1=true∨p.2 M
open Classical in
noncomputable def Hp (D:List Nat) (S:w5) (M:bs) (x:Option (b4×bs)):Option (b4×bs):=if Fp D S M then x else none
noncomputable def rH (c:Cx) (call:bh) (ob th:List Nat) (ops:Array Oper) (S:w5):List (Nat×Oper)->b4->bs->Option (b4×bs)
  | [],e,M=>some (e,M)
  | (i,o)::r,e,M=>(gL (j4 ops e o) (mv c call (fg ob i) (fg th i) M.length o (prune (rds o) e) M)).bind fun p=>
      Hp (NO ops i) S (p.2.on M) (rH c call ob th ops S r (put e o.dst p.1) (p.2.on M))
structure Reg where
  ob:List Nat
  th:List Nat
  calm:List Nat
  suf:List Nat
  live:List Nat
  std:Option (List Nat)
  fz:List Nat
noncomputable def tY (c:Cx) (call:bh) (nt:Nat) (g:Reg) (ops:Array Oper) (D:Bool) (e:b4) (M:bs):Option (b4×bs):=
  if (ops.toList.all fun o=>Di nt o)=true then
    (if D=true then
      (match g.std with
       | none=>if vz ops g.calm g.suf=true then
          (px c call g.ob g.th g.calm ops M (wJ g.suf (dV 0 ops.toList)) e []).bind fun q=>mZ c call g.ob g.th ops (zW g.suf (dV 0 ops.toList)) q.1 (M++q.2.map .live)
         else none
       | some std=>if vz ops (g.calm++std) g.suf=true then
          (pW c call g.ob g.th g.calm std ops M (wJ g.suf (dV 0 ops.toList)) e [] []).bind fun q=>rH c call g.ob g.th ops q.2.2 (zW g.suf (dV 0 ops.toList)) q.1 (M++q.2.1.map .live)
         else none)
     else mZ c call g.ob g.th ops (dV 0 ops.toList) e M).map fun q=>(prune g.live q.1,q.2)
  else none
noncomputable def zO (c:Cx) (call:bh) (nt:Nat) (g:Reg) (ops:Array Oper) (D:Bool) (e:b4) (M:bs):Option (b4×bs):=tY c call nt g ops D e (sm e g.fz M)
inductive Ex where
  | nrm | ext (id:Nat) | ret
abbrev St:=b4->bs->Option (Ex×b4×bs)
def ap (r:b4->bs->Option (b4×bs)):St:=fun e M=>(r e M).map fun q=>(.nrm,q)
def ak (a b:St):St:=fun e M=>(a e M).bind fun q=>match q.1 with | .nrm=>b q.2.1 q.2.2 | x=>some (x,q.2)
open Classical in
noncomputable def wq (a b:AV):AV:=
  if a=b then a else
  match a,b with
  | .nils,.sl (some t) []=>.sl (some t) []
  | .nils,.lit t []=>.sl (some t) []
  | _,_=>.undef
noncomputable def Bg (l:List Nat) (D F:b4):b4:=l.map fun t=>(t,wq (a3 D t) (a3 F t))
open Classical in
noncomputable def Lu (p q:Option (Ex×b4×bs)):Option (Ex×b4×bs):=
  p.bind fun p=>q.bind fun q=>if p.1=q.1/\p.2.2=q.2.2 then some (p.1,Bg (p.2.1.map (·.1)) p.2.1 q.2.1,p.2.2) else none
noncomputable def bJ (x:Operand) (a b:St):St:=fun e M=>match eH e x with | .bool true=>a e M | .bool false=>b e M | .ub=>Lu (a e M) (b e M) | _=>none
def bU (id:Nat) (a:St):St:=fun e M=>(a e M).map fun q=>match q.1 with | .ext j=>if Nat.beq j id then (.nrm,q.2) else q | _=>q
def cD (l:List Nat) (a:St):Nat->St
  | 0=>fun _ _=>none
  | k + 1=>fun e M=>(a (prune l e) M).bind fun q=>match q.1 with | .nrm=>cD l a k q.2.1 q.2.2 | x=>some (x,q.2)
def bV (x:Ex):St:=fun e M=>some (x,e,M)
def oP:Code->Option Nat
  | .region id _ _=>some id
  | .seq a b=>(oP a).orElse fun _=>oP b
  | .cond _ a b=>(oP a).orElse fun _=>oP b
  | .block _ a=>oP a
  | .loop a=>oP a
  | _=>none
structure Ann where
  regs:List (Nat×Reg)
  loops:List (Nat×List Nat)
def look {α:Type}:List (Nat×α)->Nat->Option α
  | [],_=>none
  | (j,x)::r,i=>if Nat.beq j i then some x else look r i
noncomputable def cf (c:Cx) (call:bh) (nt:Nat) (an:Ann) (k:Nat):Code->St
  | .skip=>bV .nrm
  | .label _=>bV .nrm
  | .region id ops draw=>(match look an.regs id with | some g=>ap (zO c call nt g ops draw) | none=>fun _ _=>none)
  | .seq a b=>ak (cf c call nt an k a) (cf c call nt an k b)
  | .cond x a b=>bJ x (cf c call nt an k a) (cf c call nt an k b)
  | .block id a=>bU id (cf c call nt an k a)
  | .loop a=>(match (oP a).bind (look an.loops) with | some l=>cD l (cf c call nt an k a) k | none=>fun _ _=>none)
  | .exit id=>bV (.ext id)
  | .ret=>bV .ret
  | _=>fun _ _=>none
def pV:Nat->List AV->b4
  | _,[]=>[]
  | i,v::r=>(i,v)::pV (i + 1) r
def AB (P:Program) (e:b4) (M:bs):ResultVar->Option AV
  | .tmp t=>some (a3 e t)
  | .cell a t=>if qo P t=true then oK (Program.cellsAgg P t) (P.cellsOf t) (a3 e a) M else none
def ju (P:Program) (e:b4) (M:bs):List ResultVar->Option (List AV)
  | []=>some []
  | r::s=>(AB P e M r).bind fun v=>(ju P e M s).map fun q=>v::q
def s2 (vs:List AV):AV:=match vs with | [v]=>v | _=>.tup vs
def CX (P:Program) (rs:List ResultVar) (a:St) (args:List AV) (M:bs):Option (AV×bs):=
  (a (pV 0 args) M).bind fun q=>match q.1 with
    | .ext _=>none
    | _=>(ju P q.2.1 q.2.2 rs).map fun vs=>(s2 vs,q.2.2)
noncomputable def nN (c:Cx) (an:Nat->Option Ann) (prim:Nat->List AV->bs->Option (AV×bs)) (isPrim:Nat->Bool):Nat->bh
  | 0=>fun _ _ _=>none
  | k + 1=>fun f args M=>
    if isPrim f=true then prim f args M else
    match c.P.funcs[f]?,an f with
    | some fn,some a=>(match fn.body with
      | some b => if Nat.beq args.length (fn.params.size + fn.nfree) = true /\ (fn.name == "runtime.NumGoroutine") = false then CX c.P fn.results.toList (cf c (nN c an prim isPrim k) fn.ntmps a k b) args M else none
      | none=>none)
    | _,_=>none
end Go.Ab
