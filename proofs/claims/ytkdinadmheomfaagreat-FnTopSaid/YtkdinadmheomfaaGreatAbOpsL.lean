/- What each operation gives, told by the shapes of what it reads. -/
import Derived.Test.YtkdinadmheomfaaGreatAbLink
set_option linter.unusedVariables false
namespace Go.Ab
open Go
section
variable {P:Program} {t:TypeId} {k k':IntKind} {a b n:Int} {p q w:Bool} {M:bs} {x y z v v':AV} {s s':List UInt8} {cs cs':List AV} {o:Ob} {id L i j sz off:Nat} {τ:Type} {c:τ->List AV} {xs ys zs:List τ} {u u':τ}
theorem bp (D:x=v):On x=some (v,.keep):=by subst D; rfl
theorem kp (D:x=v):keep (some x)=some (v,.keep):=by subst D; rfl
theorem dp (D:x = .int k a) (F:y = .int k b):iS P .lss t x y M=some (.bool (decide (a < b)),.keep):=by subst D F; exact K4 ..
theorem yb (D:x = .int k a) (F:y = .int k b):iS P .leq t x y M=some (.bool (decide (a<=b)),.keep):=by subst D F; exact Kv ..
theorem fB (D:x = .int k a) (F:y = .int k b):iS P .gtr t x y M=some (.bool (decide (a > b)),.keep):=by subst D F; exact Kx ..
theorem q5 (D:x = .int k a) (F:y = .int k b):iS P .geq t x y M=some (.bool (decide (a>=b)),.keep):=by subst D F; exact K8 ..
theorem d8 (D:x = .int k a) (F:y = .int k b):iS P .eql t x y M=some (.bool (a==b),.keep):=by subst D F; exact KX ..
theorem gD (D:x = .int k a) (F:y = .int k b):iS P .neq t x y M=some (.bool (a != b),.keep):=by subst D F; exact JY ..
theorem cu (D:x = .int k a) (F:y = .int k b):iS P .add t x y M=some (.int k (k.wrap (a + b)),.keep):=by subst D F; exact J0 ..
theorem lD (D:x = .int k a) (F:y = .int k b):iS P .sub t x y M=some (.int k (k.wrap (a - b)),.keep):=by subst D F; exact Km ..
theorem Cn (D:x = .int k a) (F:y = .int k b):iS P .mul t x y M=some (.int k (k.wrap (a * b)),.keep):=by subst D F; exact K7 ..
theorem Oi (F:x = .int k a) (G:y = .int k b) (h:quo k a b=some n):iS P .quo t x y M=some (.int k n,.keep):=by
 subst F G; unfold quo at h; unfold iS qU; simp only [k9,if_true,kv]
 split at h
 ·cases h
 ·rename_i D; rw [if_neg D]; cases h; rfl
theorem Bx (F:x = .int k a) (G:y = .int k b) (h:rem k a b=some n):iS P .rem t x y M=some (.int k n,.keep):=by
 subst F G; unfold rem at h; unfold iS qU; simp only [k9,if_true,kv]
 split at h
 ·cases h
 ·rename_i D; rw [if_neg D]; cases h; rfl
def Cf (k:IntKind) (a b:Int):Int:=k.wrap (BitVec.ofInt k.bits a &&& BitVec.ofInt k.bits b).toNat
theorem Oa (D:x = .int k a) (F:y = .int k b):iS P .and t x y M=some (.int k (Cf k a b),.keep):=by subst D F; simp [iS,k9,qU,kv,keep,Cf]
theorem NV (F:x = .int k a) (G:y = .int k' b) (h:shr k a b=some n):iS P .shr t x y M=some (.int k n,.keep):=by
 subst F G; unfold shr at h; unfold iS qU; simp only [k9,if_true,BF]
 split at h
 ·cases h
 ·rename_i D; rw [if_neg D]; cases h; rfl
theorem J5 (F:x = .agg cs) (G:y = .agg cs') (D:k9 P t (.agg cs) (.agg cs')=true) (h:pq cs cs'=some q):iS P .neq t x y M=some (.bool (!q),.keep):=by
 subst F G; unfold iS; rw [if_pos D]; simp [qU,h,keep]
theorem cC (D:z = .bool q) (F:q=true) (G:x=v):keep (AS z x y)=some (v,.keep):=by subst D F G; rfl
theorem cU (D:z = .bool q) (F:q=false) (G:y=v):keep (AS z x y)=some (v,.keep):=by subst D F G; rfl
theorem guT {r:AV×Eff} {g:Option (AV×Eff)} (D:z = .bool q) (F:q=true) (h:g=some r):gL (some (z,true)) g=some r:=by subst D F h; rfl
theorem guF {r:AV×Eff} {g:Option (AV×Eff)} (D:z = .bool q) (F:q=false) (h:g=some r):gL (some (z,false)) g=some r:=by subst D F h; rfl
theorem gsT {g:Option (AV×Eff)} (D:z = .bool q) (F:q=false):gL (some (z,true)) g=some (.un,.keep):=by subst D F; rfl
theorem gsF {g:Option (AV×Eff)} (D:z = .bool q) (F:q=true):gL (some (z,false)) g=some (.un,.keep):=by subst D F; rfl
theorem gsU {g:Option (AV×Eff)} (D:z = .un):gL (some (z,w)) g=some (.un,.keep):=by subst D; rfl
theorem Ev.guT {g:Nat->Option (AV×Eff)} {Q:AV×Eff->Prop} (D:z = .bool q) (F:q=true) (h:Ev g Q):Ev (fun k=>gL (some (z,true)) (g k)) Q:=by subst D F; exact h
theorem Ev.guF {g:Nat->Option (AV×Eff)} {Q:AV×Eff->Prop} (D:z = .bool q) (F:q=false) (h:Ev g Q):Ev (fun k=>gL (some (z,false)) (g k)) Q:=by subst D F; exact h
theorem Ev.gsT {g:Nat->Option (AV×Eff)} (D:z = .bool q) (F:q=false):Ev (fun k=>gL (some (z,true)) (g k)) (fun p=>p=(.un,.keep)):=by subst D F; exact Ev.ret rfl
theorem Ev.gsF {g:Nat->Option (AV×Eff)} (D:z = .bool q) (F:q=true):Ev (fun k=>gL (some (z,false)) (g k)) (fun p=>p=(.un,.keep)):=by subst D F; exact Ev.ret rfl
theorem Ev.gsU {g:Nat->Option (AV×Eff)} (D:z = .un):Ev (fun k=>gL (some (z,w)) (g k)) (fun p=>p=(.un,.keep)):=by subst D; exact Ev.ret rfl
theorem eZ (D:x = .bool q):keep (NJ .not x)=some (.bool (!q),.keep):=by subst D; rfl
theorem OH (D:x = .int k n):keep (NJ .neg x)=some (.int k (k.wrap (0 - n)),.keep):=by subst D; rfl
theorem A0 (D:x = .int k' n):keep (ir k x)=some (.int k (k.wrap n),.keep):=by subst D; rfl
theorem eO {vs:List AV} (D:x = .tup vs) (h:vs[i]? = some v):keep (oD i x)=some (v,.keep):=by subst D; simp [oD,h,keep]
theorem fd {D:Option TypeId} (F:x = .pt D cs):keep (n7 x M)=some (.pt D cs,.keep):=by subst F; rfl
theorem cr {G:Option TypeId} (F:x = .pt G [v]) (D:v=v'):keep (oK false sz x M)=some (v',.keep):=by subst F D; rfl
theorem eE {I:Option TypeId} (G:x = .pt I cs) (F:cs.length=sz) (D:cs=cs'):keep (oK true sz x M)=some (.agg cs',.keep):=by subst G D; simp [oK,F,keep]
theorem cW {G:Option TypeId} (F:x = .pt G cs) (h:off + sz<=cs.length/\0 < sz) (D:(cs.drop off).take sz=cs'):keep (kG off sz x M)=some (.pt none cs',.keep):=by subst F D; simp [kG,h,keep]
theorem kJ {N:Option TypeId} (J:x = .sl N (xs.map c)) (I:y = .int k n) (h:rd xs n=some u) (G:Fl c sz):keep (ol sz x y M)=some (.pt none (c u),.keep):=by
 obtain ⟨D,F⟩:=jc h
 subst J I
 simp [ol,D,F,(G u).1,keep]
theorem Oe (J:x = .lit t (xs.map c)) (I:y = .int k n) (h:rd xs n=some u) (G:Fl c sz):keep (ol sz x y M)=some (.pt none (c u),.keep):=by
 obtain ⟨D,F⟩:=jc h
 subst J I
 simp [ol,D,F,(G u).1,keep]
theorem ps (G:x=v) (D:fV v=cs) (F:cs.length=sz/\cs.all cG=true/\0 < sz):keep (FW sz x M)=some (.pt none cs,.keep):=by
 subst G D; unfold FW; rw [if_pos F]; rfl
theorem NL (G:x=v) (D:fV v=cs) (F:cs.length=sz/\cs.all (okC M)=true/\0 < sz):s3 L t sz x M=some (.loc L 1 0 0,.push [⟨.box,t,sz,[cs]⟩]):=by
 subst G D; unfold s3; rw [if_pos F]
theorem lG (D:b5 P t=cs):D8 P L t sz=some (.loc L 1 0 0,.push [⟨.box,t,sz,[cs]⟩]):=by subst D; rfl
theorem i2 {el:TypeId} {G:Option TypeId} (D:P.underlying t=some (.slice el)) (F:x = .sl G (xs.map c)):IJ P t x M=some (.int .i64 (xs.length:Nat),.keep):=by subst F; unfold IJ zj; rw [D]; simp [FH,u9,keep]
theorem Or {el:TypeId} (G:P.underlying t=some (.slice el)) (I:x = .lsl id L off i) (F:M[id]? = some (.live o)) (D:o.es.length=L):IJ P t x M=some (.int .i64 (i:Nat),.keep):=by subst I; unfold IJ zj; rw [G]; simp [FH,u9,qA,gU F D,keep]
theorem mL (G:x = .loc id L i j) (F:M[id]? = some (.live o)) (D:o.es.length=L):keep (n7 x M)=some (.loc id L i j,.keep):=by subst G; simp [n7,qA,gU F D,keep]
theorem e8 (J:x = .loc id L i j) (G:M[id]? = some (.live o)) (D:o.es.length=L) (I:o.es[i]? = some cs) (F:cs[j]? = some v):keep (oK false sz x M)=some (v,.keep):=by
 subst J; simp [oK,gU G D,I,F,keep]
theorem cm (N:x = .loc id L i j) (I:M[id]? = some (.live o)) (D:o.es.length=L) (J:o.es[i]? = some cs) (G:j + sz<=cs.length) (F:(cs.drop j).take sz=cs'):keep (oK true sz x M)=some (.agg cs',.keep):=by
 subst N F; simp [oK,gU I D,J,G,keep]
theorem dQ (G:x = .loc id L i j) (F:M[id]? = some (.live o)) (D:o.es.length=L):keep (kG off sz x M)=some (.loc id L i (j + off),.keep):=by subst G; simp [kG,qA,gU F D,keep]
theorem Do {kn:Kn} (N:x = .lsl id L off i) (J:M[id]? = some (.live ⟨kn,t,sz,xs.map c⟩)) (F:xs.length=L) (G:y = .int k n) (D:0<=n) (I:n < i):keep (ol sz x y M)=some (.loc id L (off + n.toNat) 0,.keep):=by
 subst N G; simp [ol,gU J (by simpa using F),D,I,keep]
theorem dW (U:x = .loc id L i j) (O:y=v) (I:M[id]? = some (.live o)) (F:o.es.length=L) (N:o.es[i]? = some cs) (D:(fV v).length=sz/\j + sz<=cs.length) (J:(fV v).all (okC M)=true) (G:cs.take j++fV v++cs.drop (j + sz)=cs') :
  xo sz x y M=some (.un,.put (M.set id (.live ⟨o.kn,o.t,o.s,o.es.set i cs'⟩))):=by
 subst U O G; simp [xo,ri,ec,gU I F,N,D.1,D.2]; simpa using J
theorem yc (U:x = .loc id L i j) (O:y=v) (I:M[id]? = some (.live o)) (F:o.es.length=L) (N:o.es[i]? = some cs) (D:(ec true v).length=sz/\j + sz<=cs.length) (J:(ec true v).all (okC M)=true) (G:cs.take j++ec true v++cs.drop (j + sz)=cs') :
  Bv sz x y M=some (.un,.put (M.set id (.live ⟨o.kn,o.t,o.s,o.es.set i cs'⟩))):=by
 subst U O G; simp [Bv,ri,gU I F,N,D.1,D.2]; simpa using J
theorem Fv {kn:Kn} {s:Nat} (U:x = .loc id L i j) (O:y=v) (I:M[id]? = some (.live ⟨kn,t,s,xs.map c⟩)) (D:xs.length=L) (N:xs[i]? = some u) (G:(fV v).length=sz/\j + sz<=(c u).length) (J:(fV v).all (okC M)=true) (F:(c u).take j++fV v++(c u).drop (j + sz)=c u') :
  xo sz x y M=some (.un,.put (M.set id (.live ⟨kn,t,s,(xs.set i u').map c⟩))):=by
 rw [List.map_set]
 exact dW U O I (by simpa using D) (Oc N) G J F
theorem kh {vs vs':List AV} {es:List (List AV)} (G:vs=vs') (F:ui false M sz vs'=some es) (D:(es.all fun r=>r.all cG)=true/\0 < sz):keep (eX t sz vs M)=some (.lit t es,.keep):=by
 subst G; unfold eX; rw [F,Option.bind_some,if_pos D]; rfl
theorem Ai {kp:Bool} {vs vs':List AV} (G:vs=vs') (D:ui kp M sz vs'=some (xs.map c)) (F:0 < sz):o8 kp L t sz vs M=some (.lsl L xs.length 0 xs.length,.push [⟨.grow,t,sz,xs.map c⟩]):=by
 subst G; unfold o8; rw [D,Option.bind_some,if_pos F,List.length_map]
theorem OV {F:Nat} {I:List AV} {l cap:AV} (N:l = .int k a) (J:cap = .int k' a) (h:NG F u a=some xs) (X:I=c u) (G:Fl c sz) (O:0 < sz):v9 L t sz F I l cap=some (.lsl L xs.length 0 xs.length,.push [⟨.grow,t,sz,xs.map c⟩]):=by
 subst N J X
 unfold NG at h
 split at h
 ·rename_i D
  cases h
  unfold v9
  simp only
  rw [if_pos ⟨trivial,D.1,D.2.1,D.2.2,(G u).1,List.all_eq_true.2 fun y U=>Db (List.all_eq_true.1 (G u).2 y U),O⟩]
  simp
 ·cases h
theorem NC {F:Option TypeId} (D:x = .sl F (xs.map c)):mP x M=some (xs.map c):=by subst D; rfl
theorem DO (D:x = .lit t (xs.map c)):mP x M=some (xs.map c):=by subst D; rfl
theorem OY {kn:Kn} (G:x = .lsl id L 0 L) (F:M[id]? = some (.live ⟨kn,t,sz,xs.map c⟩)) (D:L=xs.length):mP x M=some (xs.map c):=by
 subst G D; simp [mP,gU F (by simp:_=xs.length)]
 exact List.take_of_length_le (by simp)
theorem Dp {D X:Nat} {d src:AV} (J:d = .lsl id L 0 L) (O:M[id]? = some (.live ⟨.grow,t,sz,xs.map c⟩)) (I:L=xs.length) (U:mP src M=some (ys.map c)) (h:qB D xs ys=some zs) (N:Fl c sz) (G:0 < sz) :
  ks X t sz D d src M=some (.lsl id zs.length 0 zs.length,.put (M.set id (.live ⟨.grow,t,sz,zs.map c⟩))):=by
 subst J I
 unfold qB at h
 split at h
 ·rename_i F
  cases h
  unfold ks
  rw [U,Option.bind_some]
  simp only [gU O (by simp:_=xs.length),Option.bind_some,and_self,if_true]
  rw [if_pos (N.fits M ys G F.1 F.2)]
  simp
 ·cases h
theorem NS {D:Nat} {d src:AV} (J:d = .lit t (xs.map c)) (N:mP src M=some (ys.map c)) (h:qB D xs ys=some zs) (G:Fl c sz) (I:0 < sz) :
  rB t sz D d src M=some (.sl (some t) (zs.map c),.keep):=by
 subst J
 unfold qB at h
 split at h
 ·rename_i F
  cases h
  unfold rB
  rw [N,Option.bind_some,if_pos (G.rows ys)]
  simp only [List.length_map]
  rw [if_pos ⟨trivial,G.fits M ys I F.1 F.2⟩,List.map_append]
 ·cases h
theorem gg {D F:List (Nat×Nat×AV)} {zs:List AV} (J:b5 P t=zs) (I:D=F) (G:u7 M zs F=some cs):keep (db (b5 P t) D M)=some (.agg cs,.keep):=by
 subst J I; simp [db,G,keep]
theorem dz (h:cs=cs'):u7 M cs []=some cs':=by subst h; rfl
theorem gz {r:List (Nat×Nat×AV)} {F:List AV} (D:(im v).length=sz/\off + sz<=cs.length) (I:(im v).all (okC M)=true) (G:cs.take off++im v++cs.drop (off + sz)=cs') (h:u7 M cs' r=some F):u7 M cs ((off,sz,v)::r)=some F:=by
 subst G; simp only [u7]; rw [if_pos ⟨D.1,D.2,I⟩]; exact h
theorem uz (F:M[id]? = some (.live o)) (D:o.es.length=L):okC M (.lsl id L off i)=true:=by simp [okC,qA,gU F D]
theorem sG:([]:List AV).all (okC M)=true:=rfl
theorem g8 (h:okC M x=true) (D:cs.all (okC M)=true):(x::cs).all (okC M)=true:=by simp [h]; simpa using D
theorem b3 {α:Type} {a D:α} {r r':List α} (h:a=D) (F:r=r'):a::r=D::r':=by subst h F; rfl
theorem t6 {α:Type} {i j:Nat} {a D:α} (h:a=D):(i,j,a)=(i,j,D):=by subst h; rfl
theorem ON {Y:Option TypeId} {G F:Option AV} {l h:Int} (X:x = .sl Y (xs.map c)) (O:z4 0 G=some l) (N:z4 xs.length F=some h) (D:NK xs l h=some zs) (J:Fl c sz):keep (vo sz G F x M)=some (.sl none (zs.map c),.keep):=by
 subst X
 unfold NK at D
 split at D
 ·rename_i I
  cases D
  unfold vo
  simp only [u9,List.length_map,Option.bind_some]
  rw [N,Option.bind_some,O,Option.bind_some,if_pos I]
  by_cases he:l=h
  ·subst he; simp [keep]
  ·have U:l.toNat < xs.length:=by omega
   rw [if_neg he,if_pos (.inr (by rw [List.getElem?_map,List.getElem?_eq_getElem U]; simp [(J _).1]))]
   simp [keep,List.map_take,List.map_drop]
 ·cases D
end
end Go.Ab
