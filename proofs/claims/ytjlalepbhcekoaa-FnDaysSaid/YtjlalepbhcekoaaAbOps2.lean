/- More operations that only compute: slices, strings, numbers, comparisons. -/
import Derived.Test.YtjlalepbhcekoaaAbOps1
set_option linter.unusedVariables false
set_option linter.unusedSimpArgs false
namespace Go.Ab
open Go Go.RowKit
section
variable {S:TypeId→Nat} {B:Nat} {w:World} {M A:Mem} {ρ:Pm}
theorem ba_size (b:ByteArray):b.size=b.data.toList.length:=by rw [Array.length_toList]; rfl
theorem pick_rc {V:Nat→Option Obj} {R:RefF} {c a b y:AV} {vc va vb:Value} (h:aPick c a b=some y) (hc:RC S V B R c vc) (ha:RC S V B R a va) (hb:RC S V B R b vb) :
  ∃ q,vc = .bool q∧RC S V B R y (if q=true then va else vb):=by
 unfold aPick at h
 split at h
 ·cases hc; obtain rfl:=Option.some.inj h; exact ⟨true,rfl,by simpa using ha⟩
 ·cases hc; obtain rfl:=Option.some.inj h; exact ⟨false,rfl,by simpa using hb⟩
 ·cases h
theorem extract_rc {V:Nat→Option Obj} {R:RefF} {i:Nat} {x y:AV} {v:Value} (h:aExtract i x=some y) (hx:RC S V B R x v) :
  ∃ vs u,v = .tuple vs∧vs[i]? = some u∧RC S V B R y u:=by
 unfold aExtract at h
 cases x with
 | tup cs=>
  simp only at h
  cases hx with
  | tup _ vs hl hr=>
   have hlt:=(List.getElem?_eq_some_iff.1 h).1
   have hlt':i < vs.size:=by omega
   exact ⟨vs,vs[i],rfl,by simp [hlt'],hr i y _ h (by simp [hlt'])⟩
 | _=>simp at h
theorem slLen_rc (hm:MExt M A) {x:AV} {v:Value} {n:Nat} (h:slLen M x=some n) (hx:RV S B w A ρ x v) :
  (∃ s:ByteArray,v = .string s∧s.size=n∧∃ l,x = .str l∧s.data.toList=l)∨∃ a c,v = .slice a n c:=by
 unfold slLen at h
 cases x with
 | nils=>obtain rfl:=Option.some.inj h; cases hx; exact .inr ⟨_,_,rfl⟩
 | sl q es=>
  obtain rfl:=Option.some.inj h
  cases hx with
  | slN a c=>exact .inr ⟨_,_,rfl⟩
  | slB=>exact .inr ⟨_,_,rfl⟩
  | slON=>exact .inr ⟨_,_,rfl⟩
  | slO=>exact .inr ⟨_,_,rfl⟩
 | lit t es=>obtain rfl:=Option.some.inj h; cases hx; exact .inr ⟨_,_,rfl⟩
 | nsl t es=>obtain rfl:=Option.some.inj h; cases hx; exact .inr ⟨_,_,rfl⟩
 | lsl id L off m=>
  simp only at h
  split at h
  ·rename_i hk
   obtain rfl:=Option.some.inj h
   obtain ⟨ob,ho⟩:=okRef_spec hk
   rcases lsl_inv hm hx ho with ⟨b,cap,_,_,rfl⟩ | ⟨_,_,_,rfl,rfl⟩
   ·exact .inr ⟨_,_,rfl⟩
   ·exact .inr ⟨_,_,rfl⟩
  ·cases h
 | str s=>
  obtain rfl:=Option.some.inj h
  cases hx with
  | str _ b hb=>exact .inl ⟨b,rfl,by rw [ba_size,hb],s,rfl,hb⟩
 | _=>simp at h
theorem len_rc {P:Program} (hm:MExt M A) {t ty:TypeId} {x y:AV} {v:Value} (ht:lenTy P t x=true) (h:aLen x M=some y) (hx:RV S B w A ρ x v) (W:World) :
  ∃ u,(Builtin.len_ #[t] ty #[v]).run P W = .ok u W∧RV S B w A ρ y u:=by
 unfold aLen at h
 obtain ⟨n,hn,rfl⟩:=Option.map_eq_some_iff.1 h
 rcases slLen_rc hm hn hx with ⟨s,rfl,hs,l,rfl,hl⟩ | ⟨a,c,rfl⟩
 ·unfold lenTy at ht
  cases hd:P.underlying t with
  | none=>simp [hd] at ht
  | some d=>
   rw [hd] at ht
   cases d <;> simp at ht
   refine ⟨.int .i64 n,?_,.int _ _⟩
   simp [Builtin.len_,run_underlying hd,goInt,hs]
 ·have hd:∃ q,P.underlying t=some (.slice q):=by
   unfold lenTy at ht
   cases hd:P.underlying t with
   | none=>simp [hd] at ht
   | some d=>
    rw [hd] at ht
    cases x <;> cases d <;> simp at ht <;> first | exact ⟨_,rfl⟩ | (cases hx)
  obtain ⟨q,hd⟩:=hd
  exact ⟨.int .i64 n,by simp [Builtin.len_,run_underlying hd,goInt],.int _ _⟩
theorem unOp_rc {P:Program} {op:UnOp} {V:Nat→Option Obj} {R:RefF} {x y:AV} {v:Value} (h:aUn op x=some y) (hx:RC S V B R x v) (W:World) :
  ∃ u,(Op.unary op v).run P W = .ok u W∧RC S V B R y u:=by
 unfold aUn at h
 split at h
 ·obtain rfl:=Option.some.inj h; cases hx; exact ⟨_,rfl,.int _ _⟩
 ·obtain rfl:=Option.some.inj h; cases hx; exact ⟨_,rfl,.bool _⟩
 ·cases h
theorem convI_rc {P:Program} {s d:TypeId} {k k':IntKind} {V:Nat→Option Obj} {R:RefF} {x y:AV} {v:Value} (hs:P.underlying s=some (.int k')) (hd:P.underlying d=some (.int k)) (h:aConvI k x=some y) (hx:RC S V B R x v) (W:World) :
  ∃ u,(convert s d v).run P W = .ok u W∧RC S V B R y u:=by
 unfold aConvI at h
 split at h
 ·obtain rfl:=Option.some.inj h; cases hx
  exact ⟨_,by simp [convert,run_underlying hs,run_underlying hd,Conv.intToInt],.int _ _⟩
 ·cases h
theorem max_rc {P:Program} {V:Nat→Option Obj} {R:RefF} {mx:Bool} {x y z:AV} {v u:Value} (h:aMax mx x y=some z) (hx:RC S V B R x v) (hy:RC S V B R y u) (ts:Array TypeId) (t:TypeId) (W:World) :
  ∃ r,(if mx=true then Builtin.max_ ts t #[v,u] else Builtin.min_ ts t #[v,u]).run P W = .ok r W∧RC S V B R z r:=by
 unfold aMax at h
 split at h
 ·obtain rfl:=Option.some.inj h
  cases hx
  cases hy
  cases mx
  ·rename_i k a k' b
   have e:(if b < a then b else a)=min a b:=by rw [Int.min_def]; split <;> split <;> omega
   exact ⟨.int k (min a b),by rw [if_neg (by decide)]; simp [Builtin.min_,Builtin.min2,e],.int _ _⟩
  ·rename_i k a k' b
   have e:(if b > a then b else a)=max a b:=by rw [Int.max_def]; split <;> split <;> omega
   exact ⟨.int k (max a b),by rw [if_pos rfl]; simp [Builtin.max_,Builtin.max2,e],.int _ _⟩
 ·cases h
theorem ba_get (b:ByteArray) (i:Nat):b[i]? = b.data.toList[i]? := by
 by_cases h:i < b.size
 ·have h':i < b.data.toList.length:=by rwa [ba_size] at h
  rw [getElem?_pos b i h,List.getElem?_eq_getElem h']
  rfl
 ·have h':¬ i < b.data.toList.length:=by rwa [ba_size] at h
  rw [getElem?_neg b i h,List.getElem?_eq_none (by omega)]
theorem indexB_rc {P:Program} {t:TypeId} {V:Nat→Option Obj} {R:RefF} (ht:P.underlying t=some .string) {x i y:AV} {v u:Value} (h:aIndexB x i=some y) (hx:RC S V B R x v) (hi:RC S V B R i u) (W:World) :
  ∃ z,(Instr.index t v u).run P W = .ok z W∧RC S V B R y z:=by
 unfold aIndexB at h
 split at h
 ·rename_i s k n
  split at h
  ·rename_i h0
   obtain ⟨b,hb,rfl⟩:=Option.map_eq_some_iff.1 h
   cases hi
   cases hx with
   | str _ q hq=>
    refine ⟨.int .u8 b.toNat,?_,.int _ _⟩
    have hg:q[n.toNat]? = some b:=by rw [ba_get,hq]; exact hb
    simp [Instr.index,asIntOf,run_underlying ht,h0,hg]
  ·cases h
 ·cases h
theorem part_rc {P:Program} {t:TypeId} {V:Nat→Option Obj} {R:RefF} (hk:okT P t=true) {off:Nat} {x y:AV} {v:Value} (h:aField (Program.cellsAgg P t) off (P.cellsOf t) x=some y) (hx:RC S V B R x v) (W:World) :
  ∃ cs u,v = .agg cs∧(part t cs off).run P W = .ok u W∧RC S V B R y u:=by
 obtain ⟨d,i,hd,hi,hz,h0⟩:=okT_spec hk
 unfold aField at h
 cases x with
 | agg cs=>
  simp only at h
  cases hx with
  | agg _ vs hl hr=>
   have ha:=run_isAgg hd W
   have hs:=run_sizeOf hi W
   cases hq:Program.cellsAgg P t with
   | true=>
    rw [hq] at h ha
    simp only [if_true] at h
    split at h
    ·rename_i hc
     obtain rfl:=Option.some.inj h
     refine ⟨vs,.agg (vs.extract off (off + P.cellsOf t)),rfl,?_,.agg _ _ ?_ (fun j x v h1 h2=>?_)⟩
     ·simp [part,Sem.run_bind,ha,hs,hz]
     ·simp; omega
     ·have g:=list_mid h1
      refine hr (off + j) x v g ?_
      rw [Array.getElem?_extract] at h2
      split at h2
      ·exact h2
      ·cases h2
    ·cases h
   | false=>
    rw [hq] at h ha
    simp only [Bool.false_eq_true,if_false] at h
    have hlt:=(List.getElem?_eq_some_iff.1 h).1
    have hlt':off < vs.size:=by omega
    exact ⟨vs,vs[off],rfl,by simp [part,Sem.run_bind,ha,hlt'],hr off y _ h (by simp [hlt'])⟩
 | _=>simp at h
theorem bound_rc {V:Nat→Option Obj} {R:RefF} {d:Int} {o:Option AV} {n:Int} {vo:Option Value} (h:bound d o=some n) (hn:o.isNone=vo.isNone) (ho:∀ a v,o=some a→vo=some v→RC S V B R a v) :
  (vo=none∧n=d)∨∃ k,vo=some (.int k n):=by
 unfold bound at h
 split at h
 ·obtain rfl:=Option.some.inj h
  cases vo with
  | none=>exact .inl ⟨rfl,rfl⟩
  | some v=>simp at hn
 ·obtain rfl:=Option.some.inj h
  cases vo with
  | none=>simp at hn
  | some v=>cases ho _ _ rfl rfl; exact .inr ⟨_,rfl⟩
 ·cases h
theorem run_sliceBound {P:Program} {k:IntKind} {n:Int} {y:Nat} {code:BoundsCode} (h0:0≤n) (h1:n≤y) (W:World):(Instr.sliceBound (.int k n) y code).run P W = .ok n.toNat W:=by
 simp [Instr.sliceBound,asIntOf,h0,h1]
theorem run_sliceBounds {P:Program} {isS:Bool} {len cap:Nat} {vl vh:Option Value} {l h:Int} (hc:len≤cap) (h0:0≤l) (hlh:l≤h) (hhn:h≤len)
  (el:(vl=none∧l=0)∨∃ k,vl=some (.int k l)) (eh:(vh=none∧h=len)∨∃ k,vh=some (.int k h)) (W:World) :
  (Instr.sliceBounds isS len cap vl vh none).run P W = .ok (l.toNat,h.toNat,cap) W:=by
 unfold Instr.sliceBounds
 rcases eh with ⟨rfl,rfl⟩ | ⟨k,rfl⟩ <;> rcases el with ⟨rfl,rfl⟩ | ⟨k',rfl⟩
 ·simp
 ·have g1:=run_sliceBound (P:=P) (k:=k') (code:=BoundsCode.sliceB) (y:=len) h0 hlh W
  simp [Sem.run_bind,g1]
 ·have g1:=run_sliceBound (P:=P) (k:=k) (code:=if isS then BoundsCode.sliceAcap else BoundsCode.sliceAlen) (y:=cap) (n:=h) (by omega) (by omega) W
  simp [Sem.run_bind,g1]
 ·have g1:=run_sliceBound (P:=P) (k:=k) (code:=if isS then BoundsCode.sliceAcap else BoundsCode.sliceAlen) (y:=cap) (n:=h) (by omega) (by omega) W
  have g2:=run_sliceBound (P:=P) (k:=k') (code:=BoundsCode.sliceB) (y:=h.toNat) (n:=l) h0 (by omega) W
  simp [Sem.run_bind,g1,g2]
theorem extract_list (s:ByteArray) (l h:Nat):(s.extract l h).data.toList=(s.data.toList.drop l).take (h - l):=by
 rw [ByteArray.data_extract]
 simp [Array.toList_extract,List.extract]
theorem sliceS_rc {P:Program} {t:TypeId} {V:Nat→Option Obj} {R:RefF} (ht:P.underlying t=some .string) {lo hi:Option AV} {vl vh:Option Value} {x y:AV} {v:Value}
  (h:aSliceS lo hi x=some y) (hx:RC S V B R x v) (hl0:lo.isNone=vl.isNone) (hh0:hi.isNone=vh.isNone)
  (hl:∀ a v,lo=some a→vl=some v→RC S V B R a v) (hh:∀ a v,hi=some a→vh=some v→RC S V B R a v) (W:World) :
  ∃ z,(Instr.sliceAt t v vl vh none).run P W = .ok z W∧RC S V B R y z:=by
 unfold aSliceS at h
 cases x with
 | str s=>
  simp only at h
  obtain ⟨hh',e1,h⟩:=Option.bind_eq_some_iff.1 h
  obtain ⟨l,e2,h⟩:=Option.bind_eq_some_iff.1 h
  split at h
  ·rename_i hc
   obtain rfl:=Option.some.inj h
   cases hx with
   | str _ b hb=>
    have hsz:b.size=s.length:=by rw [ba_size,hb]
    have el:(vl=none∧l=0)∨∃ k,vl=some (.int k l):=by
     split at e2
     ·obtain rfl:=Option.some.inj e2
      cases vl with
      | none=>exact .inl ⟨rfl,rfl⟩
      | some v=>simp at hl0
     ·obtain rfl:=Option.some.inj e2
      cases vl with
      | none=>simp at hl0
      | some v=>cases hl _ _ rfl rfl; exact .inr ⟨_,rfl⟩
     ·cases e2
    have eh:(vh=none∧hh'=(s.length:Int))∨∃ k,vh=some (.int k hh'):=by
     split at e1
     ·obtain rfl:=Option.some.inj e1
      cases vh with
      | none=>exact .inl ⟨rfl,rfl⟩
      | some v=>simp at hh0
     ·obtain rfl:=Option.some.inj e1
      cases vh with
      | none=>simp at hh0
      | some v=>cases hh _ _ rfl rfl; exact .inr ⟨_,rfl⟩
     ·cases e1
    have hrun:=run_sliceBounds (P:=P) (isS:=false) (len:=s.length) (cap:=s.length) (Nat.le_refl _) hc.1 hc.2.1 hc.2.2 el eh W
    refine ⟨.string (b.extract l.toNat hh'.toNat),?_,.str _ _ (by rw [extract_list,hb])⟩
    simp [Instr.sliceAt,Instr.slice,run_underlying ht,Sem.run_bind,hsz,hrun]
  ·cases h
 | _=>simp at h
end
end Go.Ab
