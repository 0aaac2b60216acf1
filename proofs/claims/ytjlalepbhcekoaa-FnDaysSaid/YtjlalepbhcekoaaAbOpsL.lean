/- What each operation gives, told by the shapes of what it reads. -/
import Derived.Test.YtjlalepbhcekoaaAbLink
set_option linter.unusedVariables false
namespace Go.Ab
open Go
section
variable {P:Program} {t:TypeId} {k k':IntKind} {a b n:Int} {p q w:Bool} {M:Mem} {x y z v v':AV} {s s':List UInt8} {cs cs':List AV} {o:Ob} {id L i j sz off:Nat} {τ:Type} {c:τ→List AV} {xs ys zs:List τ} {u u':τ}
theorem mvO (hx:x=v):oMv x=some (v,.keep):=by subst hx; rfl
theorem kp (hx:x=v):keep (some x)=some (v,.keep):=by subst hx; rfl
theorem bLss (hx:x = .int k a) (hy:y = .int k b):oBin P .lss t x y M=some (.bool (decide (a < b)),.keep):=by subst hx hy; exact bin_lss ..
theorem bLeq (hx:x = .int k a) (hy:y = .int k b):oBin P .leq t x y M=some (.bool (decide (a≤b)),.keep):=by subst hx hy; exact bin_leq ..
theorem bGtr (hx:x = .int k a) (hy:y = .int k b):oBin P .gtr t x y M=some (.bool (decide (a > b)),.keep):=by subst hx hy; exact bin_gtr ..
theorem bGeq (hx:x = .int k a) (hy:y = .int k b):oBin P .geq t x y M=some (.bool (decide (a≥b)),.keep):=by subst hx hy; exact bin_geq ..
theorem bEql (hx:x = .int k a) (hy:y = .int k b):oBin P .eql t x y M=some (.bool (a==b),.keep):=by subst hx hy; exact bin_eql ..
theorem bNeq (hx:x = .int k a) (hy:y = .int k b):oBin P .neq t x y M=some (.bool (a != b),.keep):=by subst hx hy; exact bin_neq ..
theorem bAdd (hx:x = .int k a) (hy:y = .int k b):oBin P .add t x y M=some (.int k (k.wrap (a + b)),.keep):=by subst hx hy; exact bin_add ..
theorem bSub (hx:x = .int k a) (hy:y = .int k b):oBin P .sub t x y M=some (.int k (k.wrap (a - b)),.keep):=by subst hx hy; exact bin_sub ..
theorem bMul (hx:x = .int k a) (hy:y = .int k b):oBin P .mul t x y M=some (.int k (k.wrap (a * b)),.keep):=by subst hx hy; exact bin_mul ..
theorem bRem (hx:x = .int k a) (hy:y = .int k b) (h:rem k a b=some n):oBin P .rem t x y M=some (.int k n,.keep):=by
 subst hx hy; unfold rem at h; unfold oBin aBin; simp only [binTy,if_true,aIntBin]
 split at h
 ·cases h
 ·rename_i hb; rw [if_neg hb]; cases h; rfl
def iand (k:IntKind) (a b:Int):Int:=k.wrap (BitVec.ofInt k.bits a &&& BitVec.ofInt k.bits b).toNat
theorem bAnd (hx:x = .int k a) (hy:y = .int k b):oBin P .and t x y M=some (.int k (iand k a b),.keep):=by subst hx hy; simp [oBin,binTy,aBin,aIntBin,keep,iand]
theorem bShr (hx:x = .int k a) (hy:y = .int k' b) (h:shr k a b=some n):oBin P .shr t x y M=some (.int k n,.keep):=by
 subst hx hy; unfold shr at h; unfold oBin aBin; simp only [binTy,if_true,aShift]
 split at h
 ·cases h
 ·rename_i hb; rw [if_neg hb]; cases h; rfl
theorem oEql (hb:binTy P t (.bool p) (.bool q)=true) (hx:x = .bool p) (hy:y = .bool q):oBin P .eql t x y M=some (.bool (p==q),.keep):=by subst hx hy; unfold oBin; rw [if_pos hb]; rfl
theorem gNeq (hx:x = .agg cs) (hy:y = .agg cs') (hb:binTy P t (.agg cs) (.agg cs')=true) (h:cellsEq cs cs'=some q):oBin P .neq t x y M=some (.bool (!q),.keep):=by
 subst hx hy; unfold oBin; rw [if_pos hb]; simp [aBin,h,keep]
theorem pkT (hc:z = .bool q) (hq:q=true) (hx:x=v):keep (aPick z x y)=some (v,.keep):=by subst hc hq hx; rfl
theorem pkF (hc:z = .bool q) (hq:q=false) (hx:y=v):keep (aPick z x y)=some (v,.keep):=by subst hc hq hx; rfl
theorem guT {r:AV×Eff} {g:Option (AV×Eff)} (hg:z = .bool q) (hq:q=true) (h:g=some r):aGuard (some (z,true)) g=some r:=by subst hg hq h; rfl
theorem guF {r:AV×Eff} {g:Option (AV×Eff)} (hg:z = .bool q) (hq:q=false) (h:g=some r):aGuard (some (z,false)) g=some r:=by subst hg hq h; rfl
theorem gsT {g:Option (AV×Eff)} (hg:z = .bool q) (hq:q=false):aGuard (some (z,true)) g=some (.un,.keep):=by subst hg hq; rfl
theorem gsF {g:Option (AV×Eff)} (hg:z = .bool q) (hq:q=true):aGuard (some (z,false)) g=some (.un,.keep):=by subst hg hq; rfl
theorem gsU {g:Option (AV×Eff)} (hg:z = .un):aGuard (some (z,w)) g=some (.un,.keep):=by subst hg; rfl
theorem Ev.guT {g:Nat→Option (AV×Eff)} {Q:AV×Eff→Prop} (hg:z = .bool q) (hq:q=true) (h:Ev g Q):Ev (fun k=>aGuard (some (z,true)) (g k)) Q:=by subst hg hq; exact h
theorem Ev.guF {g:Nat→Option (AV×Eff)} {Q:AV×Eff→Prop} (hg:z = .bool q) (hq:q=false) (h:Ev g Q):Ev (fun k=>aGuard (some (z,false)) (g k)) Q:=by subst hg hq; exact h
theorem Ev.gsT {g:Nat→Option (AV×Eff)} (hg:z = .bool q) (hq:q=false):Ev (fun k=>aGuard (some (z,true)) (g k)) (fun p=>p=(.un,.keep)):=by subst hg hq; exact Ev.ret rfl
theorem Ev.gsF {g:Nat→Option (AV×Eff)} (hg:z = .bool q) (hq:q=true):Ev (fun k=>aGuard (some (z,false)) (g k)) (fun p=>p=(.un,.keep)):=by subst hg hq; exact Ev.ret rfl
theorem Ev.gsU {g:Nat→Option (AV×Eff)} (hg:z = .un):Ev (fun k=>aGuard (some (z,w)) (g k)) (fun p=>p=(.un,.keep)):=by subst hg; exact Ev.ret rfl
theorem uNot (hx:x = .bool q):keep (aUn .not x)=some (.bool (!q),.keep):=by subst hx; rfl
theorem cvI (hx:x = .int k' n):keep (aConvI k x)=some (.int k (k.wrap n),.keep):=by subst hx; rfl
theorem exT {vs:List AV} (hx:x = .tup vs) (h:vs[i]? = some v):keep (aExtract i x)=some (v,.keep):=by subst hx; simp [aExtract,h,keep]
theorem ncP {oo:Option TypeId} (hx:x = .pt oo cs):keep (aNilCheck x M)=some (.pt oo cs,.keep):=by subst hx; rfl
theorem ldP {oo:Option TypeId} (hx:x = .pt oo [v]) (hv:v=v'):keep (aLoad false sz x M)=some (v',.keep):=by subst hx hv; rfl
theorem ldPA {oo:Option TypeId} (hx:x = .pt oo cs) (hl:cs.length=sz) (hc:cs=cs'):keep (aLoad true sz x M)=some (.agg cs',.keep):=by subst hx hc; simp [aLoad,hl,keep]
theorem faP {oo:Option TypeId} (hx:x = .pt oo cs) (h:off + sz≤cs.length∧0 < sz) (hc:(cs.drop off).take sz=cs'):keep (aFieldAddr off sz x M)=some (.pt none cs',.keep):=by subst hx hc; simp [aFieldAddr,h,keep]
theorem ixS {oo:Option TypeId} (hx:x = .sl oo (xs.map c)) (hi:y = .int k n) (h:rd xs n=some u) (hc:Fl c sz):keep (aIndexS sz x y M)=some (.pt none (c u),.keep):=by
 obtain ⟨h0,h1⟩:=rd_get h
 subst hx hi
 simp [aIndexS,h0,h1,(hc u).1,keep]
theorem bxI (hx:x=v) (hc:vcells v=cs) (hl:cs.length=sz∧cs.all treeOk=true∧0 < sz):keep (aBox sz x M)=some (.pt none cs,.keep):=by
 subst hx hc; unfold aBox; rw [if_pos hl]; rfl
theorem bxO (hx:x=v) (hc:vcells v=cs) (hl:cs.length=sz∧cs.all (okC M)=true∧0 < sz):aBoxO L t sz x M=some (.loc L 1 0 0,.push [⟨.box,t,sz,[cs]⟩]):=by
 subst hx hc; unfold aBoxO; rw [if_pos hl]
theorem alO (hz:zeroOf P t=cs):oAlloc P L t sz=some (.loc L 1 0 0,.push [⟨.box,t,sz,[cs]⟩]):=by subst hz; rfl
theorem lnN {el:TypeId} (hu:P.underlying t=some (.slice el)) (hx:x = .nils):oLen P t x M=some (.int .i64 0,.keep):=by subst hx; unfold oLen lenTy; rw [hu]; rfl
theorem lnS {el:TypeId} {oo:Option TypeId} (hu:P.underlying t=some (.slice el)) (hx:x = .sl oo (xs.map c)):oLen P t x M=some (.int .i64 (xs.length:Nat),.keep):=by subst hx; unfold oLen lenTy; rw [hu]; simp [aLen,slLen,keep]
theorem lnL {el:TypeId} (hu:P.underlying t=some (.slice el)) (hx:x = .lsl id L off i) (ho:M[id]? = some (.live o)) (hL:o.es.length=L):oLen P t x M=some (.int .i64 (i:Nat),.keep):=by subst hx; unfold oLen lenTy; rw [hu]; simp [aLen,slLen,okRef,getOb_of ho hL,keep]
theorem ncO (hx:x = .loc id L i j) (ho:M[id]? = some (.live o)) (hL:o.es.length=L):keep (aNilCheck x M)=some (.loc id L i j,.keep):=by subst hx; simp [aNilCheck,okRef,getOb_of ho hL,keep]
theorem ldO (hx:x = .loc id L i j) (ho:M[id]? = some (.live o)) (hL:o.es.length=L) (hr:o.es[i]? = some cs) (hc:cs[j]? = some v):keep (aLoad false sz x M)=some (v,.keep):=by
 subst hx; simp [aLoad,getOb_of ho hL,hr,hc,keep]
theorem ldOA (hx:x = .loc id L i j) (ho:M[id]? = some (.live o)) (hL:o.es.length=L) (hr:o.es[i]? = some cs) (hl:j + sz≤cs.length) (hc:(cs.drop j).take sz=cs'):keep (aLoad true sz x M)=some (.agg cs',.keep):=by
 subst hx hc; simp [aLoad,getOb_of ho hL,hr,hl,keep]
theorem faO (hx:x = .loc id L i j) (ho:M[id]? = some (.live o)) (hL:o.es.length=L):keep (aFieldAddr off sz x M)=some (.loc id L i (j + off),.keep):=by subst hx; simp [aFieldAddr,okRef,getOb_of ho hL,keep]
theorem ixO {kn:Kn} (hx:x = .lsl id L off i) (ho:M[id]? = some (.live ⟨kn,t,sz,xs.map c⟩)) (hL:xs.length=L) (hi:y = .int k n) (h0:0≤n) (hn:n < i):keep (aIndexS sz x y M)=some (.loc id L (off + n.toNat) 0,.keep):=by
 subst hx hi; simp [aIndexS,getOb_of ho (by simpa using hL),h0,hn,keep]
theorem stO (hx:x = .loc id L i j) (hv:y=v) (ho:M[id]? = some (.live o)) (hL:o.es.length=L) (hr:o.es[i]? = some cs) (hl:(vcells v).length=sz∧j + sz≤cs.length) (hok:(vcells v).all (okC M)=true) (hc:cs.take j++vcells v++cs.drop (j + sz)=cs') :
  oStore sz x y M=some (.un,.put (M.set id (.live ⟨o.kn,o.t,o.s,o.es.set i cs'⟩))):=by
 subst hx hv hc; simp [oStore,aStore,kcells,getOb_of ho hL,hr,hl.1,hl.2]; simpa using hok
theorem stOK (hx:x = .loc id L i j) (hv:y=v) (ho:M[id]? = some (.live o)) (hL:o.es.length=L) (hr:o.es[i]? = some cs) (hl:(kcells true v).length=sz∧j + sz≤cs.length) (hok:(kcells true v).all (okC M)=true) (hc:cs.take j++kcells true v++cs.drop (j + sz)=cs') :
  oStoreK sz x y M=some (.un,.put (M.set id (.live ⟨o.kn,o.t,o.s,o.es.set i cs'⟩))):=by
 subst hx hv hc; simp [oStoreK,aStore,getOb_of ho hL,hr,hl.1,hl.2]; simpa using hok
theorem stR {kn:Kn} {s:Nat} (hx:x = .loc id L i j) (hv:y=v) (ho:M[id]? = some (.live ⟨kn,t,s,xs.map c⟩)) (hL:xs.length=L) (hr:xs[i]? = some u) (hl:(vcells v).length=sz∧j + sz≤(c u).length) (hok:(vcells v).all (okC M)=true) (hc:(c u).take j++vcells v++(c u).drop (j + sz)=c u') :
  oStore sz x y M=some (.un,.put (M.set id (.live ⟨kn,t,s,(xs.set i u').map c⟩))):=by
 rw [List.map_set]
 exact stO hx hv ho (by simpa using hL) (mapg hr) hl hok hc
theorem litI {vs vs':List AV} {es:List (List AV)} (hv:vs=vs') (hp:aParts false M sz vs'=some es) (hc:(es.all fun r=>r.all treeOk)=true∧0 < sz):keep (aLitI t sz vs M)=some (.lit t es,.keep):=by
 subst hv; unfold aLitI; rw [hp,Option.bind_some,if_pos hc]; rfl
theorem litO {kp:Bool} {vs vs':List AV} (hv:vs=vs') (hp:aParts kp M sz vs'=some (xs.map c)) (hs:0 < sz):aLitO kp L t sz vs M=some (.lsl L xs.length 0 xs.length,.push [⟨.grow,t,sz,xs.map c⟩]):=by
 subst hv; unfold aLitO; rw [hp,Option.bind_some,if_pos hs,List.length_map]
theorem mkO {by_:Nat} {zero:List AV} {l cap:AV} (hl:l = .int k a) (hcap:cap = .int k' a) (h:mkS by_ u a=some xs) (hz:zero=c u) (hf:Fl c sz) (hs:0 < sz):aMakeO L t sz by_ zero l cap=some (.lsl L xs.length 0 xs.length,.push [⟨.grow,t,sz,xs.map c⟩]):=by
 subst hl hcap hz
 unfold mkS at h
 split at h
 ·rename_i hc
  cases h
  unfold aMakeO
  simp only
  rw [if_pos ⟨trivial,hc.1,hc.2.1,hc.2.2,(hf u).1,List.all_eq_true.2 fun y hy=>cellOk_tree (List.all_eq_true.1 (hf u).2 y hy),hs⟩]
  simp
 ·cases h
theorem elS {oo:Option TypeId} (hx:x = .sl oo (xs.map c)):elems x M=some (xs.map c):=by subst hx; rfl
theorem elT (hx:x = .lit t (xs.map c)):elems x M=some (xs.map c):=by subst hx; rfl
theorem apO {by_ n0:Nat} {d src:AV} (hd:d = .lsl id L 0 L) (ho:M[id]? = some (.live ⟨.grow,t,sz,xs.map c⟩)) (hL:L=xs.length) (hs:elems src M=some (ys.map c)) (h:app by_ xs ys=some zs) (hf:Fl c sz) (h0:0 < sz) :
  aAppO n0 t sz by_ d src M=some (.lsl id zs.length 0 zs.length,.put (M.set id (.live ⟨.grow,t,sz,zs.map c⟩))):=by
 subst hd hL
 unfold app at h
 split at h
 ·rename_i hc
  cases h
  unfold aAppO
  rw [hs,Option.bind_some]
  simp only [getOb_of ho (by simp:_=xs.length),Option.bind_some,and_self,if_true]
  rw [if_pos (hf.fits M ys h0 hc.1 hc.2)]
  simp
 ·cases h
theorem aiT {by_:Nat} {d src:AV} (hd:d = .lit t (xs.map c)) (hs:elems src M=some (ys.map c)) (h:app by_ xs ys=some zs) (hf:Fl c sz) (h0:0 < sz) :
  aAppI t sz by_ d src M=some (.sl (some t) (zs.map c),.keep):=by
 subst hd
 unfold app at h
 split at h
 ·rename_i hc
  cases h
  unfold aAppI
  rw [hs,Option.bind_some,if_pos (hf.rows ys)]
  simp only [List.length_map]
  rw [if_pos ⟨trivial,hf.fits M ys h0 hc.1 hc.2⟩,List.map_append]
 ·cases h
theorem bldT {parts ps:List (Nat×Nat×AV)} {zs:List AV} (hz:zeroOf P t=zs) (hp:parts=ps) (hf:aFill M zs ps=some cs):keep (aBuild (zeroOf P t) parts M)=some (.agg cs,.keep):=by
 subst hz hp; simp [aBuild,hf,keep]
theorem fill0 (h:cs=cs'):aFill M cs []=some cs':=by subst h; rfl
theorem fill1 {r:List (Nat×Nat×AV)} {out:List AV} (hl:(vcells0 v).length=sz∧off + sz≤cs.length) (hok:(vcells0 v).all (okC M)=true) (hc:cs.take off++vcells0 v++cs.drop (off + sz)=cs') (h:aFill M cs' r=some out):aFill M cs ((off,sz,v)::r)=some out:=by
 subst hc; simp only [aFill]; rw [if_pos ⟨hl.1,hl.2,hok⟩]; exact h
theorem okL (ho:M[id]? = some (.live o)) (hL:o.es.length=L):okC M (.lsl id L off i)=true:=by simp [okC,okRef,getOb_of ho hL]
theorem all0:([]:List AV).all (okC M)=true:=rfl
theorem all1 (h:okC M x=true) (hr:cs.all (okC M)=true):(x::cs).all (okC M)=true:=by simp [h]; simpa using hr
theorem cns {α:Type} {a a':α} {r r':List α} (h:a=a') (hr:r=r'):a::r=a'::r':=by subst h hr; rfl
theorem pr3 {α:Type} {i j:Nat} {a a':α} (h:a=a'):(i,j,a)=(i,j,a'):=by subst h; rfl
theorem slS {oo:Option TypeId} {lo hi:Option AV} {l h:Int} (hx:x = .sl oo (xs.map c)) (hl:bound 0 lo=some l) (hh:bound xs.length hi=some h) (hr:slc xs l h=some zs) (hf:Fl c sz):keep (aSlice sz lo hi x M)=some (.sl none (zs.map c),.keep):=by
 subst hx
 unfold slc at hr
 split at hr
 ·rename_i hc
  cases hr
  unfold aSlice
  simp only [slLen,List.length_map,Option.bind_some]
  rw [hh,Option.bind_some,hl,Option.bind_some,if_pos hc]
  by_cases he:l=h
  ·subst he; simp [keep]
  ·have hlt:l.toNat < xs.length:=by omega
   rw [if_neg he,if_pos (.inr (by rw [List.getElem?_map,List.getElem?_eq_getElem hlt]; simp [(hf _).1]))]
   simp [keep,List.map_take,List.map_drop]
 ·cases hr
end
end Go.Ab
