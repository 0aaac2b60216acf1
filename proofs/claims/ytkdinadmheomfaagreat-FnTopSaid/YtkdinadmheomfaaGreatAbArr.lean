/- Arrays. -/
import Derived.Test.YtkdinadmheomfaaGreatAbShort
set_option linter.unusedVariables false
namespace Go.Ab
open Go
structure Ar (n:Nat) (τ:Type) where
 l:List τ
 h:l.length=n
 deriving DecidableEq
section
variable {n:Nat} {τ:Type} {c:τ->List AV} {z:τ} {g:Ar n τ} {u u':τ} {i:Int} {sz m j L r id:Nat} {k kk:IntKind} {x y v:AV} {M:bs} {o:Ob} {cs pre post:List AV} {K:τ->AV}
def Ar.get (g:Ar n τ) (z:τ) (j:Nat):τ:=g.l.getD j z
def Ar.set (g:Ar n τ) (j:Nat) (x:τ):Ar n τ:=⟨g.l.set j x,by simp [g.h]⟩
def Ar.rep (n:Nat) (x:τ):Ar n τ:=⟨List.replicate n x,by simp⟩
def bY (c:τ->List AV) (z:τ) (g:Ar n τ):List AV:=(List.range n).flatMap fun j=>c (g.get z j)
def jF (g:Ar n τ) (i:Int):Option τ:=if 0<=i/\i < n then g.l[i.toNat]? else none
theorem m2 (h:jF g i=some u):(0<=i/\i < n)/\i.toNat < n/\g.l[i.toNat]? = some u:=by
 unfold jF at h
 split at h
 ·rename_i D; exact ⟨D,by omega,h⟩
 ·cases h
theorem xP:bY c z g=(g.l.map c).flatten:=by
 unfold bY
 rw [List.flatMap_def]
 congr 1
 refine List.ext_getElem (by simp [g.h]) fun i D G=>?_
 have F:i < g.l.length:=by rw [g.h]; simpa using D
 simp [Ar.get,List.getD_eq_getElem?_getD,F]
theorem Ln:∀ (R:List (List AV)),(∀ q ∈ R,q.length=sz)->R.flatten.length=R.length * sz
 | [],_=>by simp
 | q::R,h=>by
  rw [List.flatten_cons,List.length_append,Ln R (fun q D=>h q (by simp [D])),h q (by simp),List.length_cons,Nat.succ_mul]; omega
theorem BG:∀ (R:List (List AV)) (m:Nat) (q:List AV),(∀ q ∈ R,q.length=sz)->R[m]? = some q->(R.flatten.drop (m * sz)).take sz=q
 | [],m,q,_,h=>by simp at h
 | p::R,0,q,h,D=>by
  simp at D; subst D
  have:=h p (by simp)
  simp [List.flatten_cons,<- this]
 | p::R,m + 1,q,h,D=>by
  have F:=h p (by simp)
  rw [List.flatten_cons,Nat.succ_mul,Nat.add_comm (m * sz) sz,<- F,List.drop_append,List.drop_eq_nil_of_le (by omega)]
  simp only [List.nil_append,Nat.add_sub_cancel_left]
  rw [F]
  exact BG R m q (fun q D=>h q (by simp [D])) (by simpa using D)
theorem Ls:∀ (R:List (List AV)) (m:Nat) (q:List AV),(∀ q ∈ R,q.length=sz)->m < R.length->(R.set m q).flatten=R.flatten.take (m * sz)++(q++R.flatten.drop (m * sz + sz))
 | [],m,q,_,h=>by simp at h
 | p::R,0,q,h,_=>by
  have D:=h p (by simp)
  simp [List.flatten_cons,<- D]
 | p::R,m + 1,q,h,hm=>by
  have D:=h p (by simp)
  rw [List.set_cons_succ,List.flatten_cons,List.flatten_cons,Ls R m q (fun q I=>h q (by simp [I])) (by simpa using hm)]
  have F:(m + 1) * sz=p.length + m * sz:=by rw [Nat.succ_mul,D]; omega
  have G:(m + 1) * sz + sz=p.length + (m * sz + sz):=by rw [F]; omega
  rw [G,F,List.take_length_add_append,List.drop_length_add_append,List.append_assoc]
theorem B8 (D:∀ x,(c x).length=sz):∀ q ∈ g.l.map c,q.length=sz:=by intro q F; obtain ⟨x,_,rfl⟩:=List.mem_map.1 F; exact D x
theorem sy (D:∀ x,(c x).length=sz):(bY c z g).length=n * sz:=by
 rw [xP,Ln _ (B8 D),List.length_map,g.h]
theorem x6 (D:∀ x,(c x).length=sz) (h:g.l[m]? = some u):((bY c z g).drop (m * sz)).take sz=c u:=by
 rw [xP]
 exact BG _ m _ (B8 D) (by rw [List.getElem?_map,h]; rfl)
theorem E0 (D:∀ x,(c x).length=sz) (h:m < n):bY c z (g.set m u)=(bY c z g).take (m * sz)++(c u++(bY c z g).drop (m * sz + sz)):=by
 rw [xP,xP]
 show ((g.l.set m u).map c).flatten=_
 rw [List.map_set]
 exact Ls _ m _ (B8 D) (by rw [List.length_map,g.h]; exact h)
theorem KF {p:AV->Bool} (h:∀ x,(c x).all p=true):(bY c z g).all p=true:=by
 rw [xP,List.all_eq_true]
 intro y D
 obtain ⟨q,F,D⟩:=List.mem_flatten.1 D
 obtain ⟨x,_,rfl⟩:=List.mem_map.1 F
 exact List.all_eq_true.1 (h x) y D
theorem AU (D:∀ x,c x=[K x]) (h:g.l[m]? = some u):(bY c z g)[m]? = some (K u):=by
 have:=BG (sz:=1) (g.l.map c) m (c u) (B8 fun x=>by rw [D]; rfl) (by rw [List.getElem?_map,h]; rfl)
 rw [<- xP (z:=z),D,Nat.mul_one] at this
 have F:=congrArg (fun q=>q[0]?) this
 simpa [List.getElem?_take,List.getElem?_drop] using F
theorem Ge (J:x = .agg (bY c z g)) (I:y = .int kk i) (h:jF g i=some u) (G:∀ x,c x=[K x]):keep (lm false n 1 x y)=some (K u,.keep):=by
 obtain ⟨D,N,F⟩:=m2 h
 subst J I
 simp only [lm,x0,Nat.mul_one,Bool.false_eq_true,if_false]
 rw [if_pos D,AU G F]; rfl
theorem OD (O:x = .agg (bY c z g)) (J:y = .int kk i) (h:jF g i=some u) (D:∀ x,(c x).length=sz):keep (lm true n sz x y)=some (.agg (c u),.keep):=by
 obtain ⟨F,G,I⟩:=m2 h
 subst O J
 have N:i.toNat * sz + sz<=(bY c z g).length:=by rw [sy D,<- Nat.succ_mul]; exact Nat.mul_le_mul_right _ G
 simp only [lm,x0,if_true]
 rw [if_pos F,if_pos N,x6 D I]; rfl
theorem qX {U:Option TypeId} (O:x = .pt U (bY c z g)) (J:y = .int kk i) (h:jF g i=some u) (D:∀ x,(c x).length=sz):keep (cb n sz x y M)=some (.pt none (c u),.keep):=by
 obtain ⟨F,G,I⟩:=m2 h
 subst O J
 have N:i.toNat * sz + sz<=(bY c z g).length:=by rw [sy D,<- Nat.succ_mul]; exact Nat.mul_le_mul_right _ G
 simp only [cb]
 rw [if_pos F,if_pos N,x6 D I]; rfl
theorem l9 (J:x = .loc id L r j) (I:M[id]? = some (.live o)) (F:o.es.length=L) (G:y = .int kk i) (h:jF g i=some u):keep (cb n sz x y M)=some (.loc id L r (j + i.toNat * sz),.keep):=by
 obtain ⟨D,N,O⟩:=m2 h
 subst J G
 simp [cb,D,qA,gU I F,keep]
theorem N0 (U:x = .loc id L r (j + i.toNat * 1)) (J:M[id]? = some (.live o)) (G:o.es.length=L) (O:o.es[r]? = some cs) (I:cs=pre++(bY c z g++post)) (N:pre.length=j) (D:∀ x,c x=[K x]) (h:jF g i=some u):keep (oK false sz x M)=some (K u,.keep):=by
 obtain ⟨X,Y,F⟩:=m2 h
 subst U
 have Z:(bY c z g).length=n:=by rw [sy (sz:=1) (fun x=>by rw [D]; rfl),Nat.mul_one]
 have:cs[j + i.toNat * 1]? = some (K u):=by
  rw [I,Nat.mul_one,<- N,List.getElem?_append_right (by omega),Nat.add_sub_cancel_left,List.getElem?_append_left (by omega),AU D F]
 exact e8 rfl J G O this
theorem F0 (ab:x = .loc id L r (j + i.toNat * sz)) (aa:y=v) (X:M[id]? = some (.live o)) (O:o.es.length=L) (Z:o.es[r]? = some cs) (G:cs=pre++(bY c z g++post)) (I:pre.length=j) (D:∀ x,(c x).length=sz) (J:fV v=c u') (Y:(fV v).all (okC M)=true) (h:jF g i=some u) :
  xo sz x y M=some (.un,.put (M.set id (.live ⟨o.kn,o.t,o.s,o.es.set r (pre++(bY c z (g.set i.toNat u')++post))⟩))):=by
 obtain ⟨ac,F,ad⟩:=m2 h
 have U:=sy (z:=z) (g:=g) D
 have ae:i.toNat * sz + sz<=n * sz:=by rw [<- Nat.succ_mul]; exact Nat.mul_le_mul_right _ F
 have N:j + i.toNat * sz + sz<=cs.length:=by rw [G]; simp only [List.length_append,U,I]; omega
 refine dW ab aa X O Z ⟨by rw [J,D],N⟩ Y ?_
 rw [J,G,E0 D F,<- I,List.take_length_add_append,Nat.add_assoc,List.drop_length_add_append,List.take_append_of_le_length (by omega),List.drop_append_of_le_length (by omega)]
 simp only [List.append_assoc]
theorem Az (D:∀ x,(c x).length=sz) (h:jF g i=some u):bY c z g=(bY c z g).take (i.toNat * sz)++(c u++(bY c z g).drop (i.toNat * sz + sz))/\((bY c z g).take (i.toNat * sz)).length=i.toNat * sz:=by
 obtain ⟨I,F,G⟩:=m2 h
 have N:=sy (z:=z) (g:=g) D
 have J:i.toNat * sz + sz<=n * sz:=by rw [<- Nat.succ_mul]; exact Nat.mul_le_mul_right _ F
 refine ⟨?_,by rw [List.length_take]; omega⟩
 rw [<- x6 (z:=z) D G,<- List.drop_drop,List.take_append_drop,List.take_append_drop]
theorem wR {m:Nat} {Z:Ar m τ} {G:Ar n (Ar m τ)} {F:Ar m τ} {D:Nat} {J:Int} {w:τ} (ah:x = .loc id L r (j + i.toNat * D + J.toNat * 1)) (ac:M[id]? = some (.live o)) (Y:o.es.length=L) (ae:o.es[r]? = some cs) (aa:cs=pre++(bY (bY (n:=m) c z) Z G++post)) (ad:pre.length=j) (af:m=D) (I:∀ x,c x=[K x]) (U:jF G i=some F) (X:jF F J=some w):keep (oK false sz x M)=some (K w,.keep):=by
 have ab:∀ y:Ar m τ,(bY c z y).length=D:=fun y=>by rw [sy (sz:=1) (fun x=>by rw [I]; rfl),Nat.mul_one,af]
 obtain ⟨N,O⟩:=Az (z:=Z) ab U
 refine N0 (c:=c) (z:=z) (pre:=pre++(bY (bY (n:=m) c z) Z G).take (i.toNat * D)) (post:=(bY (bY (n:=m) c z) Z G).drop (i.toNat * D + D)++post) ah ac Y ae ?_ (by rw [List.length_append,ad,O]) I X
 rw [aa]
 conv=>lhs; rw [N]
 simp only [List.append_assoc]
theorem EX {m:Nat} {Z:Ar m τ} {G:Ar n (Ar m τ)} {F:Ar m τ} {D:Nat} {I:Int} {w w':τ} (ak:x = .loc id L r (j + i.toNat * D + I.toNat * sz)) (ai:y=v) (ac:M[id]? = some (.live o)) (aa:o.es.length=L) (af:o.es[r]? = some cs) (ab:cs=pre++(bY (bY (n:=m) c z) Z G++post)) (ae:pre.length=j) (ah:m * sz=D) (N:∀ x,(c x).length=sz) (aj:fV v=c w') (ad:(fV v).all (okC M)=true) (J:jF G i=some F) (Y:jF F I=some w) :
  xo sz x y M=some (.un,.put (M.set id (.live ⟨o.kn,o.t,o.s,o.es.set r (pre++(bY (bY (n:=m) c z) Z (G.set i.toNat (F.set I.toNat w'))++post))⟩))):=by
 have O:∀ y:Ar m τ,(bY c z y).length=D:=fun y=>by rw [sy N,ah]
 obtain ⟨U,X⟩:=Az (z:=Z) O J
 have:=F0 (c:=c) (z:=z) (g:=F) (pre:=pre++(bY (bY (n:=m) c z) Z G).take (i.toNat * D)) (post:=(bY (bY (n:=m) c z) Z G).drop (i.toNat * D + D)++post) ak ai ac aa af (by
  rw [ab]
  conv=>lhs; rw [U]
  simp only [List.append_assoc]) (by rw [List.length_append,ae,X]) N aj ad Y
 rw [this,E0 (z:=Z) O (m2 J).2.1]
 simp only [List.append_assoc]
theorem DS {x:AV} (h:oF x=true):sW M x=x:=by cases x <;> first | rfl | simp [oF] at h
theorem Mi {f:AV->AV} {D F:List AV} (G:∀ x,oF x=true->f x=x) (I:JP c) (h:D.map f=F):(bY c z g++D).map f=bY c z g++F:=by
 rw [List.map_append,h]
 congr 1
 conv=>rhs; rw [<- List.map_id (bY c z g)]
 exact List.map_congr_left fun y J=>G y (List.all_eq_true.1 (KF (z:=z) (g:=g) I) y J)
end
theorem rz {τ:Type} {c:τ->List AV} {xs:List τ} {n:Int} {u:τ} (h:rd xs n=some u):(xs.map c)[0 + n.toNat]? = some (c u):=by rw [Nat.zero_add]; exact Oc (jc h).2
theorem Fw {τ:Type} {xs:List τ} {n:Int} {u:τ} (h:rd xs n=some u):xs[0 + n.toNat]? = some u:=by rw [Nat.zero_add]; exact (jc h).2
theorem si {α:Type} {a b:α} (h:some a=some b):a=b:=Option.some.inj h
theorem LQ {M:bs} {id t s:Nat} {cs:List AV} (D:M[id]? = some (.live ⟨.box,t,s,[cs]⟩)) (h:cs.all cG=true):mb M (.loc id 1 0 0) = .pt (some t) cs:=by
 simp [mb,jI,D,h]
end Go.Ab
