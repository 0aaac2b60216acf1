/- Slices of slices, a slice's elements, bytes to text, parts put together. -/
import Derived.Test.YtjlalepbhcekoaaAbOps3
set_option linter.unusedVariables false
set_option linter.unusedSimpArgs false
namespace Go.Ab
open Go Go.RowKit
def Lie (S:TypeId→Nat) (V:Nat→Option Obj) (B:Nat) (R:RefF) (cell:Nat→Option Value) (s:Nat) (es:List (List AV)):Prop:=
 0 < s∧(∀ e ∈ es,e.length=s)∧∃ f:Nat→Nat→Value,(∀ i j,i < es.length→j < s→cell (i * s + j)=some (f i j))∧(∀ (i j:Nat) e x,es[i]? = some e→e[j]? = some x→RC S V B R x (f i j))
theorem Lie.sub {S:TypeId→Nat} {V:Nat→Option Obj} {B:Nat} {R:RefF} {cell:Nat→Option Value} {s:Nat} {es:List (List AV)} (h:Lie S V B R cell s es) (l n:Nat) (hn:l + n≤es.length) :
  Lie S V B R (fun k=>cell (l * s + k)) s ((es.drop l).take n):=by
 obtain ⟨h1,h2,f,h3,h4⟩:=h
 refine ⟨h1,fun e he=>h2 e (List.mem_of_mem_drop (List.mem_of_mem_take he)),fun i j=>f (l + i) j,fun i j hi hj=>?_,fun i j e x he hx=>h4 (l + i) j e x (list_mid he) hx⟩
 have hi':i < n:=by simp at hi; omega
 have:l * s + (i * s + j)=(l + i) * s + j:=by rw [Nat.add_mul,Nat.add_assoc]
 show cell (l * s + (i * s + j))=_
 rw [this]
 exact h3 (l + i) j (by omega) hj
section
variable {S:TypeId→Nat} {B:Nat} {w:World} {M A:Mem} {ρ:Pm}
theorem obj_lie (hA:MR S B w A ρ) {id b cap:Nat} {o:Ob} (h:A[id]? = some (.live o)) (hp:ρ id=some (b,cap)) :
  ∃ cs,w.heap[b]? = some (.cells cs o.t (0,0))∧cs.size=cap * o.s∧o.es.length≤cap∧cap≤maxLen∧Lie S (View w A ρ) B (Ref A ρ) (fun k=>cs[k]?) o.s o.es:=by
 obtain ⟨e1,e2,e3,e4,e5⟩:=hA.obj id o h
 rw [hp] at e5
 obtain ⟨cs,f,k1,k2,k3,k4,k5,k6,k7⟩:=e5
 exact ⟨cs,k1,k2,k3,k4,e2,e3,f,k6,k7⟩
theorem elems_rc (hm:MExt M A) (hA:MR S B w A ρ) {x:AV} {v:Value} {es:List (List AV)} (h:elems x M=some es) (hx:RV S B w A ρ x v) :
  ∃ a c,v = .slice a es.length c∧es.length≤c∧(es=[]∨∃ b off s,a=some ⟨b,off,none⟩∧Lie S (View w A ρ) B (Ref A ρ) (fun k=>w.cell? ⟨b,off + k,none⟩) s es):=by
 unfold elems at h
 cases x with
 | nils=>obtain rfl:=Option.some.inj h; cases hx; exact ⟨_,_,rfl,by simp,.inl rfl⟩
 | sle=>obtain rfl:=Option.some.inj h; cases hx; exact ⟨_,_,rfl,by simp,.inl rfl⟩
 | sl q es'=>
  obtain rfl:=Option.some.inj h
  cases hx with
  | slN a c=>exact ⟨_,_,rfl,by simp,.inl rfl⟩
  | slB es b off c s f he hs hes hc hr hcap htr=>exact ⟨_,_,rfl,hcap,.inr ⟨b,off,s,rfl,hs,hes,f,fun i j hi hj=>cell_of_view (hc i j hi hj),hr⟩⟩
  | slON=>exact ⟨_,_,rfl,by simp,.inl rfl⟩
  | slO t es b cap cs' f hb hB hz hs hl' hmx hes hc hr htr=>
   obtain ⟨_,hw⟩:=View.some hb
   exact ⟨_,_,rfl,hl',.inr ⟨b,0,S t,rfl,hs,hes,f,fun i j hi hj=>by simp [World.cell?,hw,hc i j hi hj],hr⟩⟩
 | lit t es'=>
  obtain rfl:=Option.some.inj h
  cases hx with
  | lit t es b cs' f hb hB hz hs hmx hes hc hr htr=>
   obtain ⟨_,hw⟩:=View.some hb
   exact ⟨_,_,rfl,Nat.le_refl _,.inr ⟨b,0,S t,rfl,hs,hes,f,fun i j hi hj=>by simp [World.cell?,hw,hc i j hi hj],hr⟩⟩
 | lsl id L off n=>
  simp only at h
  obtain ⟨o,ho,h⟩:=Option.bind_eq_some_iff.1 h
  split at h
  ·rename_i hle
   obtain rfl:=Option.some.inj h
   obtain ⟨g1,g2⟩:=getOb_some ho
   rcases lsl_inv hm hx ho with ⟨b,cap,hp,hn,rfl⟩ | ⟨_,h0,h1,rfl,rfl⟩
   ·obtain ⟨cs,k1,k2,k3,k4,k5⟩:=obj_lie hA (hm.live g1) hp
    have hlen:((o.es.drop off).take n).length=n:=by simp; omega
    rw [hlen]
    refine ⟨_,_,rfl,by omega,.inr ⟨b,off * o.s,o.s,rfl,?_⟩⟩
    obtain ⟨p1,p2,f,p3,p4⟩:=k5.sub off n (by omega)
    exact ⟨p1,p2,f,fun i j hi hj=>by have:=p3 i j hi hj; simp only at this; simp [World.cell?,k1,this],p4⟩
   ·exact ⟨none,0,by simp,by simp,.inl (by simp)⟩
  ·cases h
 | _=>simp at h
theorem Lie.sl {V:Nat→Option Obj} {R:RefF} {es:List (List AV)} {b off s c:Nat} (h:Lie S V B R (fun k=>cellV V b (off + k)) s es) (he:es≠[]) (hc:es.length≤c) (htr:∀ e ∈ es,∀ x ∈ e,treeOk x=true):RC S V B R (.sl none es) (.slice (some ⟨b,off,none⟩) es.length c):=by
 obtain ⟨h1,h2,f,h3,h4⟩:=h
 exact .slB es b off c s f he h1 h2 h3 h4 hc htr
theorem slice_sub {V:Nat→Option Obj} {R:RefF} {es:List (List AV)} {b off s c l h sz:Nat} (hL:Lie S V B R (fun k=>cellV V b (off + k)) s es) (hlh:l < h) (hhn:h≤es.length) (hc:es.length≤c) (htr:∀ e ∈ es,∀ x ∈ e,treeOk x=true)
  (hz:l=0∨((es[l]?).getD []).length=sz):RC S V B R (.sl none ((es.drop l).take (h - l))) (.slice (some ⟨b,off + l * sz,none⟩) (h - l) (c - l)):=by
 have hlen:((es.drop l).take (h - l)).length=h - l:=by simp; omega
 have hne:(es.drop l).take (h - l)≠[]:=by intro e; rw [e] at hlen; simp at hlen; omega
 have hs:=hL.sub l (h - l) (by omega)
 have hoff:l * sz=l * s:=by
  rcases hz with rfl | hz
  ·simp
  ·have hlt:l < es.length:=by omega
   rw [List.getElem?_eq_getElem hlt] at hz
   simp only [Option.getD_some] at hz
   rw [← hz,hL.2.1 _ (List.getElem_mem hlt)]
 have:=Lie.sl (b:=b) (off:=off + l * sz) (c:=c - l) (by rw [hoff]; simpa [Nat.add_assoc] using hs) hne (by rw [hlen]; omega) (fun e he=>htr e (List.mem_of_mem_drop (List.mem_of_mem_take he)))
 rwa [hlen] at this
theorem slice_rc {P:Program} (hm:MExt M A) (hA:MR S B w A ρ) {t el:TypeId} (ht:P.underlying t=some (.slice el)) (hk:okT P el=true) {lo hi:Option AV} {vl vh:Option Value} {x y:AV} {v:Value}
  (h:aSlice (P.cellsOf el) lo hi x M=some y) (hxs:∀ s,x≠.str s) (hx:RV S B w A ρ x v) (hl0:lo.isNone=vl.isNone) (hh0:hi.isNone=vh.isNone)
  (hl:∀ a v,lo=some a→vl=some v→RV S B w A ρ a v) (hh:∀ a v,hi=some a→vh=some v→RV S B w A ρ a v) (W:World) :
  ∃ z,(Instr.sliceAt t v vl vh none).run P W = .ok z W∧RV S B w A ρ y z:=by
 obtain ⟨d,i,hd,hi',hz,h0⟩:=okT_spec hk
 unfold aSlice at h
 replace h:=Option.bind_eq_some_iff.1 h
 obtain ⟨n,hn,h⟩:=h
 replace h:=Option.bind_eq_some_iff.1 h
 obtain ⟨hq,e1,h⟩:=h
 replace h:=Option.bind_eq_some_iff.1 h
 obtain ⟨l,e2,h⟩:=h
 split at h
 ·rename_i hc
  obtain ⟨h1,h2,h3⟩:=hc
  have el':(vl=none∧l=0)∨∃ k,vl=some (.int k l):=bound_rc e2 hl0 hl
  have eh':(vh=none∧hq=(n:Int))∨∃ k,vh=some (.int k hq):=bound_rc e1 hh0 hh
  have go:∀ (a:Option Addr) (c:Nat),n≤c→v = .slice a n c →
    (Instr.sliceAt t v vl vh none).run P W = .ok (.slice (if c=l.toNat then a else a.map (·.add (l.toNat * P.cellsOf el))) (hq.toNat - l.toNat) (c - l.toNat)) W:=by
   intro a c hnc hv
   subst hv
   have hb:=run_sliceBounds (P:=P) (isS:=true) (len:=n) (cap:=c) hnc h1 h2 h3 el' eh' W
   have hs:=run_sizeOf hi' W
   simp [Instr.sliceAt,Instr.slice,run_underlying ht,Sem.run_bind,hb,hs,hz]
  have hN:∀ (a:Option Addr) (c:Nat) (f:Addr→Addr),(a=none→c=0)→(if c=l.toNat then a else Option.map f a)=none→c - l.toNat=0:=by
   intro a c f ha h
   have:a=none:=by
    split at h
    ·exact h
    ·simpa using h
   rw [ha this]; simp
  have hn0:∀ (a:Option Addr) (c:Nat),(a=none→c=0)→l=hq→RV S B w A ρ (.sl none []) (.slice a (hq.toNat - l.toNat) c):=by
   intro a c ha e
   subst e
   simp only [Nat.sub_self]
   exact .slN a c ha
  cases x with
  | nils=>
   obtain rfl:=Option.some.inj hn
   obtain rfl:=Option.some.inj h
   cases hx
   exact ⟨_,go _ _ (Nat.le_refl _) rfl,hn0 _ _ (hN _ _ _ (fun _=>rfl)) (by omega)⟩
  | sl q es=>
   obtain rfl:=Option.some.inj hn
   simp only at h
   split at h
   ·rename_i heq
    obtain rfl:=Option.some.inj h
    cases hx with
    | slN a c h=>exact ⟨_,go _ _ (by simp) rfl,hn0 _ _ (hN _ _ _ h) heq⟩
    | slB es b off c s f he hs hes hc hr hcap htr=>exact ⟨_,go _ _ hcap rfl,hn0 _ _ (hN _ _ _ (by intro h; first | rfl | cases h)) heq⟩
    | slON=>exact ⟨_,go _ _ (by simp) rfl,hn0 _ _ (hN _ _ _ (fun _=>rfl)) heq⟩
    | slO t es b cap cs' f hb hB hz hs hl' hmx hes hc hr htr=>exact ⟨_,go _ _ hl' rfl,hn0 _ _ (hN _ _ _ (by intro h; first | rfl | cases h)) heq⟩
   ·rename_i hne
    split at h
    ·rename_i hsz
     obtain rfl:=Option.some.inj h
     have hsz':l.toNat=0∨((es[l.toNat]?).getD []).length=P.cellsOf el:=hsz.imp (fun e=>by omega) id
     cases hx with
     | slN a c=>simp at h3; omega
     | slB es b off c s f he hs hes hc hr hcap htr=>
      have hg:=go _ _ hcap rfl
      rw [if_neg (by omega)] at hg
      refine ⟨_,hg,?_⟩
      simp only [Option.map_some,Addr.add_mid]
      exact slice_sub (s:=s) ⟨hs,hes,f,hc,hr⟩ (by omega) (by omega) hcap htr hsz'
     | slON=>simp at h3; omega
     | slO t es b cap cs' f hb hB hz hs hl' hmx hes hc hr htr=>
      have hg:=go _ _ hl' rfl
      rw [if_neg (by omega)] at hg
      refine ⟨_,hg,?_⟩
      simp only [Option.map_some,Addr.add_mid]
      exact slice_sub (s:=S t) ⟨hs,hes,f,fun i j hi hj=>by simp only [cellV,hb,Nat.zero_add]; exact hc i j hi hj,hr⟩ (by omega) (by omega) hl' htr hsz'
    ·cases h
  | lit t' es=>
   obtain rfl:=Option.some.inj hn
   simp only at h
   cases hx with
   | lit t es b cs' f hb hB hz hs hmx hes hc hr htr=>
    split at h
    ·rename_i heq
     obtain rfl:=Option.some.inj h
     exact ⟨_,go _ _ (Nat.le_refl _) rfl,hn0 _ _ (hN _ _ _ (by intro h; first | rfl | cases h)) heq⟩
    ·rename_i hne
     split at h
     ·rename_i hsz
      obtain rfl:=Option.some.inj h
      have hsz':l.toNat=0∨((es[l.toNat]?).getD []).length=P.cellsOf el:=hsz.imp (fun e=>by omega) id
      have hg:=go _ _ (Nat.le_refl _) rfl
      rw [if_neg (by omega)] at hg
      refine ⟨_,hg,?_⟩
      simp only [Option.map_some,Addr.add_mid]
      exact slice_sub (s:=S _) ⟨hs,hes,f,fun i j hi hj=>by simp only [cellV,hb,Nat.zero_add]; exact hc i j hi hj,hr⟩ (by omega) (by omega) (Nat.le_refl _) htr hsz'
     ·cases h
  | lsl id L off m=>
   simp only [slLen] at hn
   split at hn
   ·rename_i hk
    obtain rfl:=Option.some.inj hn
    simp only at h
    replace h:=Option.bind_eq_some_iff.1 h
    obtain ⟨o,ho,h⟩:=h
    obtain ⟨g1,g2⟩:=getOb_some ho
    rcases lsl_inv hm hx ho with ⟨b,cap,hp,hle,rfl⟩ | ⟨_,_,_,rfl,rfl⟩
    ·obtain ⟨cs,k1,k2,k3,k4,k5⟩:=obj_lie hA (hm.live g1) hp
     split at h
     ·rename_i heq
      obtain rfl:=Option.some.inj h
      exact ⟨_,go _ _ (by omega) rfl,hn0 _ _ (hN _ _ _ (by intro h; first | rfl | cases h)) heq⟩
     ·rename_i hne
      split at h
      ·rename_i hos
       obtain rfl:=Option.some.inj h
       have hg:=go _ _ (show m≤cap - off by omega) rfl
       rw [if_neg (by omega)] at hg
       refine ⟨_,hg,?_⟩
       simp only [Option.map_some,Addr.add_mid]
       have:=lsl_mk (S:=S) (B:=B) (w:=w) hm (off:=off + l.toNat) (n:=hq.toNat - l.toNat) ho hp (by omega)
       rw [Nat.add_mul,hos] at this
       rw [hos,show cap - off - l.toNat=cap - (off + l.toNat) by omega]
       exact this
      ·cases h
    ·split at h
     ·rename_i heq
      obtain rfl:=Option.some.inj h
      exact ⟨_,go _ _ (Nat.le_refl _) rfl,hn0 _ _ (hN _ _ _ (by intro h; first | rfl | cases h)) heq⟩
     ·rename_i hne
      omega
   ·cases hn
  | str s=>exact absurd rfl (hxs s)
  | nsl t es=>simp at h
  | _=>simp [slLen] at hn
 ·cases h
theorem bytesOf_spec:∀ (es:List (List AV)) {s:List UInt8},Go.Ab.bytesOf es=some s→∃ xs:List Int,es=xs.map (fun n=>[AV.int .u8 n])∧s=xs.map fun n=>UInt8.ofNat n.toNat
 | [],s,h=>⟨[],rfl,by simpa [Go.Ab.bytesOf] using h.symm⟩
 | e::r,s,h=>by
  unfold Go.Ab.bytesOf at h
  split at h
  ·rename_i heq; cases heq
  ·rename_i n r' heq
   injection heq with h1 h2
   subst h1; subst h2
   obtain ⟨q,hq,rfl⟩:=Option.map_eq_some_iff.1 h
   obtain ⟨xs,rfl,rfl⟩:=bytesOf_spec _ hq
   exact ⟨n::xs,rfl,rfl⟩
  ·cases h
theorem convB_rc {P:Program} (hm:MExt M A) (hA:MR S B w A ρ) {src dst q:TypeId} (hs:P.underlying src=some (.slice q)) (hq:P.underlying q=some (.int .u8)) (hd:P.underlying dst=some .string) {x y:AV} {v:Value}
  (h:aConvB x M=some y) (hx:RV S B w A ρ x v):∃ u,(convert src dst v).run P w = .ok u w∧RV S B w A ρ y u:=by
 unfold aConvB at h
 obtain ⟨es,he,h⟩:=Option.bind_eq_some_iff.1 h
 obtain ⟨s,hb,rfl⟩:=Option.map_eq_some_iff.1 h
 obtain ⟨xs,rfl,rfl⟩:=bytesOf_spec es hb
 obtain ⟨a,c,rfl,hc,hl⟩:=elems_rc hm hA he hx
 refine ⟨.string (strOfNums xs),?_,.str _ _ (strOfNums_data xs)⟩
 have cells:∀ b off,a=some ⟨b,off,none⟩→(∀ i,i < xs.length→w.cell? ⟨b,off + i,none⟩=some (.int .u8 (xs.getD i 0)))→(convert src dst (.slice a (xs.map (fun n=>[AV.int .u8 n])).length c)).run P w = .ok (.string (strOfNums xs)) w:=by
  intro b off ha hcell
  subst ha
  exact run_convert_bytes_arg w src q hs hq b off _ c xs (by simp) (by simpa using hcell) dst hd
 rcases hl with hn | ⟨b,off,s,rfl,h1,h2,f,h3,h4⟩
 ·have hx0:xs=[]:=by simpa using hn
  subst hx0
  cases a with
  | none=>exact run_convert_bytes_nil w src q hs hq 0 c dst hd
  | some ad=>
   have:=run_convert_bytes_string w src dst q (some ad) 0 c hs hq hd
   refine this.trans ?_
   simp [Conv.bytesToString,loadCells,loadCellsFrom]
   rfl
 ·have hs1:xs≠[]→s=1:=by
   intro hne
   cases xs with
   | nil=>exact absurd rfl hne
   | cons n r=>have:=h2 [AV.int .u8 n] (by simp); simpa using this.symm
  refine cells b off rfl (fun i hi=>?_)
  have h11:=hs1 (by intro e; rw [e] at hi; simp at hi)
  subst h11
  have g3:=h3 i 0 (by simpa using hi) (by omega)
  have g4:=h4 i 0 [AV.int .u8 (xs.getD i 0)] (.int .u8 (xs.getD i 0)) (by simp [List.getD,hi]) rfl
  cases hf:f i 0 <;> rw [hf] at g4 <;> cases g4
  rw [hf] at g3
  simpa using g3
end
end Go.Ab
