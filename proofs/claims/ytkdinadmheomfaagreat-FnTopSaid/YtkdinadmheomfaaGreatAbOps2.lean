/- More operations that only compute: slices, strings, numbers, comparisons. -/
import Derived.Test.YtkdinadmheomfaaGreatAbOps1
set_option linter.unusedVariables false
set_option linter.unusedSimpArgs false
namespace Go.Ab
open Go Go.RowKit
section
variable {S:TypeId->Nat} {B:Nat} {w:World} {M A:bs} {ρ:Pm}
theorem ur (b:ByteArray):b.size=b.data.toList.length:=by rw [Array.length_toList]; rfl
theorem Ky {V:Nat->Option Obj} {R:gC} {c a b y:AV} {I F G:Value} (h:AS c a b=some y) (D:RC S V B R c I) (J:RC S V B R a F) (N:RC S V B R b G) :
  ∃ q,I = .bool q/\RC S V B R y (if q=true then F else G):=by
 unfold AS at h
 split at h
 ·cases D; obtain rfl:=Option.some.inj h; exact ⟨true,rfl,by simpa using J⟩
 ·cases D; obtain rfl:=Option.some.inj h; exact ⟨false,rfl,by simpa using N⟩
 ·cases h
theorem DQ {V:Nat->Option Obj} {R:gC} {i:Nat} {x y:AV} {v:Value} (h:oD i x=some y) (G:RC S V B R x v) :
  ∃ vs u,v = .tuple vs/\vs[i]? = some u/\RC S V B R y u:=by
 unfold oD at h
 cases x with
 | tup cs=>
  simp only at h
  cases G with
  | tup _ vs I F=>
   have J:=(List.getElem?_eq_some_iff.1 h).1
   have D:i < vs.size:=by omega
   exact ⟨vs,vs[i],rfl,by simp [D],F i y _ h (by simp [D])⟩
 | _=>simp at h
theorem HW (I:fN M A) {x:AV} {v:Value} {n:Nat} (h:u9 M x=some n) (D:RV S B w A ρ x v) :
  (∃ s:ByteArray,v = .string s/\s.size=n/\∃ l,x = .str l/\s.data.toList=l)∨∃ a c,v = .slice a n c:=by
 unfold u9 at h
 cases x with
 | nils=>obtain rfl:=Option.some.inj h; cases D; exact .inr ⟨_,_,rfl⟩
 | sl q es=>
  obtain rfl:=Option.some.inj h
  cases D with
  | slN a c=>exact .inr ⟨_,_,rfl⟩
  | slB=>exact .inr ⟨_,_,rfl⟩
  | slON=>exact .inr ⟨_,_,rfl⟩
  | slO=>exact .inr ⟨_,_,rfl⟩
 | lit t es=>obtain rfl:=Option.some.inj h; cases D; exact .inr ⟨_,_,rfl⟩
 | nsl t es=>obtain rfl:=Option.some.inj h; cases D; exact .inr ⟨_,_,rfl⟩
 | lsl id L off m=>
  simp only at h
  split at h
  ·rename_i G
   obtain rfl:=Option.some.inj h
   obtain ⟨ob,J⟩:=kR G
   rcases jO I D J with ⟨b,cap,_,_,rfl⟩ | ⟨_,_,_,rfl,rfl⟩
   ·exact .inr ⟨_,_,rfl⟩
   ·exact .inr ⟨_,_,rfl⟩
  ·cases h
 | str s=>
  obtain rfl:=Option.some.inj h
  cases D with
  | str _ b F=>exact .inl ⟨b,rfl,by rw [ur,F],s,rfl,F⟩
 | _=>simp at h
theorem MK {P:Program} (I:fN M A) {t ty:TypeId} {x y:AV} {v:Value} (F:zj P t x=true) (h:FH x M=some y) (G:RV S B w A ρ x v) (W:World) :
  ∃ u,(Builtin.len_ #[t] ty #[v]).run P W = .ok u W/\RV S B w A ρ y u:=by
 unfold FH at h
 obtain ⟨n,J,rfl⟩:=Option.map_eq_some_iff.1 h
 rcases HW I J G with ⟨s,rfl,N,l,rfl,O⟩ | ⟨a,c,rfl⟩
 ·unfold zj at F
  cases D:P.underlying t with
  | none=>simp [D] at F
  | some d=>
   rw [D] at F
   cases d <;> simp at F
   refine ⟨.int .i64 n,?_,.int _ _⟩
   simp [Builtin.len_,run_underlying D,goInt,N]
 ·have D:∃ q,P.underlying t=some (.slice q):=by
   unfold zj at F
   cases D:P.underlying t with
   | none=>simp [D] at F
   | some d=>
    rw [D] at F
    cases x <;> cases d <;> simp at F <;> first | exact ⟨_,rfl⟩ | (cases G)
  obtain ⟨q,D⟩:=D
  exact ⟨.int .i64 n,by simp [Builtin.len_,run_underlying D,goInt],.int _ _⟩
theorem KO {P:Program} {op:UnOp} {V:Nat->Option Obj} {R:gC} {x y:AV} {v:Value} (h:NJ op x=some y) (D:RC S V B R x v) (W:World) :
  ∃ u,(Op.unary op v).run P W = .ok u W/\RC S V B R y u:=by
 unfold NJ at h
 split at h
 ·obtain rfl:=Option.some.inj h; cases D; exact ⟨_,rfl,.int _ _⟩
 ·obtain rfl:=Option.some.inj h; cases D; exact ⟨_,rfl,.bool _⟩
 ·cases h
theorem Jx {P:Program} {s d:TypeId} {k k':IntKind} {V:Nat->Option Obj} {R:gC} {x y:AV} {v:Value} (F:P.underlying s=some (.int k')) (D:P.underlying d=some (.int k)) (h:ir k x=some y) (G:RC S V B R x v) (W:World) :
  ∃ u,(convert s d v).run P W = .ok u W/\RC S V B R y u:=by
 unfold ir at h
 split at h
 ·obtain rfl:=Option.some.inj h; cases G
  exact ⟨_,by simp [convert,run_underlying F,run_underlying D,Conv.intToInt],.int _ _⟩
 ·cases h
theorem IN {P:Program} {V:Nat->Option Obj} {R:gC} {D:Bool} {x y z:AV} {v u:Value} (h:Kp D x y=some z) (F:RC S V B R x v) (G:RC S V B R y u) (ts:Array TypeId) (t:TypeId) (W:World) :
  ∃ r,(if D=true then Builtin.max_ ts t #[v,u] else Builtin.min_ ts t #[v,u]).run P W = .ok r W/\RC S V B R z r:=by
 unfold Kp at h
 split at h
 ·obtain rfl:=Option.some.inj h
  cases F
  cases G
  cases D
  ·rename_i k a k' b
   have e:(if b < a then b else a)=min a b:=by rw [Int.min_def]; split <;> split <;> omega
   exact ⟨.int k (min a b),by rw [if_neg (by decide)]; simp [Builtin.min_,Builtin.min2,e],.int _ _⟩
  ·rename_i k a k' b
   have e:(if b > a then b else a)=max a b:=by rw [Int.max_def]; split <;> split <;> omega
   exact ⟨.int k (max a b),by rw [if_pos rfl]; simp [Builtin.max_,Builtin.max2,e],.int _ _⟩
 ·cases h
theorem Nw (b:ByteArray) (i:Nat):b[i]? = b.data.toList[i]? := by
 by_cases h:i < b.size
 ·have D:i < b.data.toList.length:=by rwa [ur] at h
  rw [getElem?_pos b i h,List.getElem?_eq_getElem D]
  rfl
 ·have D:¬ i < b.data.toList.length:=by rwa [ur] at h
  rw [getElem?_neg b i h,List.getElem?_eq_none (by omega)]
theorem F4 {P:Program} {t:TypeId} {V:Nat->Option Obj} {R:gC} (N:P.underlying t=some .string) {x i y:AV} {v u:Value} (h:Bu x i=some y) (O:RC S V B R x v) (I:RC S V B R i u) (W:World) :
  ∃ z,(Instr.index t v u).run P W = .ok z W/\RC S V B R y z:=by
 unfold Bu at h
 split at h
 ·rename_i s k n
  split at h
  ·rename_i D
   obtain ⟨b,F,rfl⟩:=Option.map_eq_some_iff.1 h
   cases I
   cases O with
   | str _ q J=>
    refine ⟨.int .u8 b.toNat,?_,.int _ _⟩
    have G:q[n.toNat]? = some b:=by rw [Nw,J]; exact F
    simp [Instr.index,asIntOf,run_underlying N,D,G]
  ·cases h
 ·cases h
theorem EA {P:Program} {t:TypeId} {V:Nat->Option Obj} {R:gC} (U:qo P t=true) {off:Nat} {x y:AV} {v:Value} (h:x0 (Program.cellsAgg P t) off (P.cellsOf t) x=some y) (Y:RC S V B R x v) (W:World) :
  ∃ cs u,v = .agg cs/\(part t cs off).run P W = .ok u W/\RC S V B R y u:=by
 obtain ⟨d,i,N,O,Z,aa⟩:=ee U
 unfold x0 at h
 cases x with
 | agg cs=>
  simp only at h
  cases Y with
  | agg _ vs ac I=>
   have F:=rQ N W
   have X:=ss O W
   cases hq:Program.cellsAgg P t with
   | true=>
    rw [hq] at h F
    simp only [if_true] at h
    split at h
    ·rename_i ab
     obtain rfl:=Option.some.inj h
     refine ⟨vs,.agg (vs.extract off (off + P.cellsOf t)),rfl,?_,.agg _ _ ?_ (fun j x v J D=>?_)⟩
     ·simp [part,Sem.run_bind,F,X,Z]
     ·simp; omega
     ·have g:=uj J
      refine I (off + j) x v g ?_
      rw [Array.getElem?_extract] at D
      split at D
      ·exact D
      ·cases D
    ·cases h
   | false=>
    rw [hq] at h F
    simp only [Bool.false_eq_true,if_false] at h
    have ad:=(List.getElem?_eq_some_iff.1 h).1
    have G:off < vs.size:=by omega
    exact ⟨vs,vs[off],rfl,by simp [part,Sem.run_bind,F,G],I off y _ h (by simp [G])⟩
 | _=>simp at h
theorem Cj {V:Nat->Option Obj} {R:gC} {d:Int} {o:Option AV} {n:Int} {D:Option Value} (h:z4 d o=some n) (F:o.isNone=D.isNone) (G:∀ a v,o=some a->D=some v->RC S V B R a v) :
  (D=none/\n=d)∨∃ k,D=some (.int k n):=by
 unfold z4 at h
 split at h
 ·obtain rfl:=Option.some.inj h
  cases D with
  | none=>exact .inl ⟨rfl,rfl⟩
  | some v=>simp at F
 ·obtain rfl:=Option.some.inj h
  cases D with
  | none=>simp at F
  | some v=>cases G _ _ rfl rfl; exact .inr ⟨_,rfl⟩
 ·cases h
theorem ny {P:Program} {k:IntKind} {n:Int} {y:Nat} {code:BoundsCode} (D:0<=n) (F:n<=y) (W:World):(Instr.sliceBound (.int k n) y code).run P W = .ok n.toNat W:=by
 simp [Instr.sliceBound,asIntOf,D,F]
theorem sZ {P:Program} {isS:Bool} {len cap:Nat} {G F:Option Value} {l h:Int} (U:len<=cap) (I:0<=l) (O:l<=h) (X:h<=len)
  (el:(G=none/\l=0)∨∃ k,G=some (.int k l)) (J:(F=none/\h=len)∨∃ k,F=some (.int k h)) (W:World) :
  (Instr.sliceBounds isS len cap G F none).run P W = .ok (l.toNat,h.toNat,cap) W:=by
 unfold Instr.sliceBounds
 rcases J with ⟨rfl,rfl⟩ | ⟨k,rfl⟩ <;> rcases el with ⟨rfl,rfl⟩ | ⟨k',rfl⟩
 ·simp
 ·have D:=ny (P:=P) (k:=k') (code:=BoundsCode.sliceB) (y:=len) I O W
  simp [Sem.run_bind,D]
 ·have D:=ny (P:=P) (k:=k) (code:=if isS then BoundsCode.sliceAcap else BoundsCode.sliceAlen) (y:=cap) (n:=h) (by omega) (by omega) W
  simp [Sem.run_bind,D]
 ·have D:=ny (P:=P) (k:=k) (code:=if isS then BoundsCode.sliceAcap else BoundsCode.sliceAlen) (y:=cap) (n:=h) (by omega) (by omega) W
  have N:=ny (P:=P) (k:=k') (code:=BoundsCode.sliceB) (y:=h.toNat) (n:=l) I (by omega) W
  simp [Sem.run_bind,D,N]
theorem BL (s:ByteArray) (l h:Nat):(s.extract l h).data.toList=(s.data.toList.drop l).take (h - l):=by
 rw [ByteArray.data_extract]
 simp [Array.toList_extract,List.extract]
theorem FD {P:Program} {t:TypeId} {V:Nat->Option Obj} {R:gC} (af:P.underlying t=some .string) {U O:Option AV} {F D:Option Value} {x y:AV} {v:Value}
  (h:BK U O x=some y) (ah:RC S V B R x v) (Z:U.isNone=F.isNone) (Y:O.isNone=D.isNone)
  (ac:∀ a v,U=some a->F=some v->RC S V B R a v) (ab:∀ a v,O=some a->D=some v->RC S V B R a v) (W:World) :
  ∃ z,(Instr.sliceAt t v F D none).run P W = .ok z W/\RC S V B R y z:=by
 unfold BK at h
 cases x with
 | str s=>
  simp only at h
  obtain ⟨N,G,h⟩:=Option.bind_eq_some_iff.1 h
  obtain ⟨l,I,h⟩:=Option.bind_eq_some_iff.1 h
  split at h
  ·rename_i J
   obtain rfl:=Option.some.inj h
   cases ah with
   | str _ b X=>
    have ae:b.size=s.length:=by rw [ur,X]
    have el:(F=none/\l=0)∨∃ k,F=some (.int k l):=by
     split at I
     ·obtain rfl:=Option.some.inj I
      cases F with
      | none=>exact .inl ⟨rfl,rfl⟩
      | some v=>simp at Z
     ·obtain rfl:=Option.some.inj I
      cases F with
      | none=>simp at Z
      | some v=>cases ac _ _ rfl rfl; exact .inr ⟨_,rfl⟩
     ·cases I
    have aa:(D=none/\N=(s.length:Int))∨∃ k,D=some (.int k N):=by
     split at G
     ·obtain rfl:=Option.some.inj G
      cases D with
      | none=>exact .inl ⟨rfl,rfl⟩
      | some v=>simp at Y
     ·obtain rfl:=Option.some.inj G
      cases D with
      | none=>simp at Y
      | some v=>cases ab _ _ rfl rfl; exact .inr ⟨_,rfl⟩
     ·cases G
    have ad:=sZ (P:=P) (isS:=false) (len:=s.length) (cap:=s.length) (Nat.le_refl _) J.1 J.2.1 J.2.2 el aa W
    refine ⟨.string (b.extract l.toNat N.toNat),?_,.str _ _ (by rw [BL,X])⟩
    simp [Instr.sliceAt,Instr.slice,run_underlying af,Sem.run_bind,ae,ad]
  ·cases h
 | _=>simp at h
end
end Go.Ab
