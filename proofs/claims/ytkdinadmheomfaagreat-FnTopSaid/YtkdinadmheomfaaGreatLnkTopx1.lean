/- Printed by a program of ours (ext.py). -/
import Derived.Test.YtkdinadmheomfaaGreatLnkTopx0
set_option linter.unusedVariables false
set_option linter.unusedSimpArgs false
set_option maxRecDepth 100000
set_option maxHeartbeats 20000000
namespace Go.Proofs.YtkdinadmheomfaaGreat
open Go Go.Ab
noncomputable def bT (I:Book) (F:Deal):Option (Int⊕(Int×(List Int)×(List Tally))):=
 (bt I F).bind fun J=>
 if (J != 0)=true then
  some (.inl J)
 else
  (hC I).bind fun (ai,O,Y)=>
  if (F.Kind==1)=true then
   (qB 40 Y [(Tally.mk F.From F.To F.Day F.Amount F.Amount)]).bind fun U=>
   some (.inr (F.Day,O,U))
  else
   (rd Y F.Tally).bind fun D=>
   if (F.Kind==2)=true then
    if (((Tally.mk D.Debtor F.To D.Cut D.Amount D.Left)).Holder==((Tally.mk D.Debtor F.To D.Cut D.Amount D.Left)).Debtor)=true then
     some (.inr (F.Day,O,((Y.set F.Tally.toNat (Tally.mk D.Debtor F.To D.Cut D.Amount D.Left)).set F.Tally.toNat (Tally.mk ((Tally.mk D.Debtor F.To D.Cut D.Amount D.Left)).Debtor ((Tally.mk D.Debtor F.To D.Cut D.Amount D.Left)).Holder ((Tally.mk D.Debtor F.To D.Cut D.Amount D.Left)).Cut ((Tally.mk D.Debtor F.To D.Cut D.Amount D.Left)).Amount 0))))
    else
     some (.inr (F.Day,O,(Y.set F.Tally.toNat (Tally.mk D.Debtor F.To D.Cut D.Amount D.Left))))
   else
    if (F.Kind==3)=true then
     (rd O D.Debtor).bind fun G=>
     (rd O D.Debtor).bind fun X=>
     (rd (O.set D.Debtor.toNat (IntKind.i64.wrap (G - F.Amount))) D.Holder).bind fun N=>
     (rd (O.set D.Debtor.toNat (IntKind.i64.wrap (G - F.Amount))) D.Holder).bind fun Z=>
     some (.inr (F.Day,((O.set D.Debtor.toNat (IntKind.i64.wrap (G - F.Amount))).set D.Holder.toNat (IntKind.i64.wrap (N + F.Amount))),(Y.set F.Tally.toNat (Tally.mk D.Debtor D.Holder D.Cut D.Amount (IntKind.i64.wrap (D.Left - F.Amount))))))
    else
     if (F.Kind==4)=true then
      some (.inr (F.Day,O,(Y.set F.Tally.toNat (Tally.mk D.Debtor D.Holder D.Cut D.Amount 0))))
     else
      some (.inr (F.Day,O,Y))
def zD (r:Int⊕(Int×(List Int)×(List Tally))):AV:=
  match r with
  | (.inl g)=>.tup [.agg [a4 0,.nils,.nils],a4 g]
  | (.inr g)=>.tup [.agg [a4 g.1,.sl (some 2) (g.2.1.map (cI .i64)),.sl (some 80) (g.2.2.map Tally.c)],a4 0]
theorem ka (am:Book) (G:Deal) (r:Int⊕(Int×(List Int)×(List Tally))) (h:bT am G=some r):Ev (fun k=>CN k 88 [.pt none [a4 am.Day,.sl none (am.Cash.map (cI .i64)),.sl none (am.Tallies.map Tally.c)],.pt none [a4 G.Day,.int .i8 G.Kind,a4 G.Tally,a4 G.From,a4 G.To,a4 G.Amount]] []) (fun p=>cp p.2 p.1=zD r):=by
 unfold bT at h
 refine Ev.enter (F:=fun k=>f88 (CN k) k) (fun k=>bH E Tryz.func88 E E E (by decide +kernel) (M7 _ _)) (av (ku (lG cy) fun I dx=>?_))
 have aC:I[([]:bs).length]? = some (.live ⟨.box,27,3,[[a4 0,.nils,.nils]]⟩):=b2 dx
 obtain ⟨dy,c5,h⟩:=ad h
 refine be (Rn (hN E (hN E (hV (.loc ([]:bs).length 1 0 0) E hZ))) fun ek co cq ej=>sN<|sq<|av<|kx (bp co)<|kx (bp cq) (kc (cl (v:=a4 dy) E E (b3 E (b3 E E)) E (v2 am G _ c5) nm)<|be<|Rn (hA co (hA cq (hA ej (hN E hZ)))) fun eT dA dB dC bL=>sN<|av<|kx (bp bL)<|kx (gD E E)<|Rn (hA dA (hA dB (hA dC (hA bL (hN E hZ))))) fun eU dD dE aZ dF bM=>sN ?_))
 rcases aj h with ⟨ba,h⟩ | ⟨ba,h⟩
 ·refine cT bM ba (av<|kx (gg cy E (dz E))<|kx (bp dF)<|kw (yc aZ E aC E E ⟨E,ble E⟩ E E) fun dG c6=>?_)
  have dH:dG[([]:bs).length]? = some (.live ⟨.box,27,3,[[a4 0,.nils,.nils]]⟩):=bc c6 aC
  refine be (Rn (hA aZ (hN E hZ)) fun eV dI d2=>sN<|xx<|sR ?_)
  exact ct h (eC (ag:=true) (sz:=3) ⟨by kernel_rfl,by kernel_rfl,by kernel_rfl⟩ (cm dI dH E E (ble E) E) (bB d2 bK)) E
 obtain ⟨⟨a0,J,N⟩,dk,h⟩:=ad h
 refine cF bM ba (xx<|sN<|av<|kx (bp dD) (Ev.nxcp (Ev.callT (v:=.agg [a4 a0,.sl (some 2) (J.map (cI .i64)),.sl (some 80) (N.map Tally.c)]) E (b3 E E) E (j9 am _ dk) (Bh (v':=.agg [a4 a0,.lsl I.length J.length 0 J.length,.lsl (I.length + 1) N.length 0 N.length]) (l:=[⟨.grow,2,1,J.map (cI .i64)⟩,⟨.grow,80,5,N.map Tally.c⟩]) (Bm (hM E (hM (iB (c:=(cI .i64)) (fun _=>E)) (hM (iB (c:=Tally.c) Tally.flF) sL)))) (by simp [yE,s6,rK,k7,Og,K9]) E E)) fun af bb=>?_))
 have bO:=bS bb aC
 have ac:([]:bs).length≠I.length:=by have:=cv (M:=I) aC; omega
 have bP:af[I.length]? = some (.live ⟨.grow,2,1,J.map (cI .i64)⟩):=ji bb 0 E
 have Z:([]:bs).length≠(I.length + 1):=by have:=cv (M:=I) aC; omega
 have ai:I.length≠(I.length + 1):=by omega
 have bQ:af[(I.length + 1)]? = some (.live ⟨.grow,80,5,N.map Tally.c⟩):=ji bb 1 E
 refine ku (lG cy) fun d3 aM=>?_
 have d4:=bS aM bO
 have ab:=b6 bO
 have bR:=bS aM bP
 have ar:=b6 bP
 have bU:=bS aM bQ
 have ae:=b6 bQ
 have bV:d3[af.length]? = some (.live ⟨.box,27,3,[[a4 0,.nils,.nils]]⟩):=b2 aM
 refine kw (yc E E bV E E ⟨E,ble E⟩ (g8 E (g8 (uz bR (by simp)) (g8 (uz bU (by simp)) sG))) E) fun d5 aN=>?_
 have d6:=a9 aN ab d4
 have d7:=a9 aN ar bR
 have d9:=a9 aN ae bU
 have a1:d5[af.length]? = some (.live ⟨.box,27,3,[[a4 a0,.lsl I.length J.length 0 J.length,.lsl (I.length + 1) N.length 0 N.length]]⟩):=bc aN bV
 refine Rn (hA dE (hA aZ (hV (.loc af.length 1 0 0) E hZ))) fun eW bW ea bX=>sN (av<|kx (bp bW)<|kx (fd E)<|kx (cW E ⟨ble E,blt E⟩ E)<|kx (cr E E)<|kx (dQ bX a1 E)<|kw (dW E E a1 E E ⟨E,ble E⟩ E E) fun eb aO=>?_)
 have ao:=a9 aO ab d6
 have aa:=a9 aO ar d7
 have O:=a9 aO ae d9
 have X:eb[af.length]? = some (.live ⟨.box,27,3,[[a4 G.Day,.lsl I.length J.length 0 J.length,.lsl (I.length + 1) N.length 0 N.length]]⟩):=bc aO a1
 refine Rn (hA bW (hA ea (hA bX hZ))) fun eX bY ec ed=>sN (sq<|av<|kx (bp bY)<|kx (fd E)<|kx (cW E ⟨ble E,blt E⟩ E)<|kx (cr E E)<|kx (d8 E E)<|Rn (hA bY (hA ec (hA ed (hN E hZ)))) fun eY ah cf aA cg=>sN ?_)
 rcases aj h with ⟨bd,h⟩ | ⟨bd,h⟩
 ·obtain ⟨aB,c7,h⟩:=ad h
  refine cT cg bd (sq<|Rd<|kf (dQ aA X E)<|kf (e8 E X E E E)<|kf (bp ah)<|kf (fd E)<|kf (cW E ⟨ble E,blt E⟩ E)<|kf (cr E E)<|kf (bp ah)<|kf (fd E)<|kf (cW E ⟨ble E,blt E⟩ E)<|kf (cr E E)<|kf (bp ah)<|kf (fd E)<|kf (cW E ⟨ble E,blt E⟩ E)<|kf (cr E E)<|kf (bp ah)<|kf (fd E)<|kf (cW E ⟨ble E,blt E⟩ E)<|kf (cr E E)<|kf (bp ah)<|kf (fd E)<|kf (cW E ⟨ble E,blt E⟩ E)<|kf (cr E E)<|kf (gg z1 (b3 (t6 E) (b3 (t6 E) (b3 (t6 E) (b3 (t6 E) (b3 (t6 E) E))))) (gz ⟨E,ble E⟩ E E (gz ⟨E,ble E⟩ E E (gz ⟨E,ble E⟩ E E (gz ⟨E,ble E⟩ E E (gz ⟨E,ble E⟩ E E (dz E)))))))<|kf (kh (b3 E E) E ⟨E,by decide⟩)<|fZ<|kw (Dp E O E (DO (c:=Tally.c) (xs:=[(Tally.mk G.From G.To G.Day G.Amount G.Amount)]) E) c7 Tally.fl (by decide)) fun ee aP=>?_)
  have ef:=a9 aP Z ao
  have eg:=a9 aP ai aa
  have ch:ee[(I.length + 1)]? = some (.live ⟨.grow,80,5,aB.map Tally.c⟩):=bc aP O
  have a2:=a9 aP (Ne.symm ae) X
  refine kx (dQ aA a2 E) (kw (yc E E a2 E E ⟨E,ble E⟩ (g8 (uz ch (by simp)) sG) E) fun ei aQ=>?_)
  have ci:=a9 aQ ab ef
  have cj:=a9 aQ ar eg
  have ck:=a9 aQ ae ch
  have cn:ei[af.length]? = some (.live ⟨.box,27,3,[[a4 G.Day,.lsl I.length J.length 0 J.length,.lsl (I.length + 1) aB.length 0 aB.length]]⟩):=bc aQ a2
  refine Rn (hA cf (hA aA hZ)) fun er bn c8=>sN (av<|kx (cm c8 cn E E (ble E) E)<|kw (yc bn E ci E E ⟨E,ble E⟩ (g8 E (g8 (uz cj (by simp)) (g8 (uz ck (by simp)) sG))) E) fun c9 aD=>?_)
  have da:c9[([]:bs).length]? = some (.live ⟨.box,27,3,[[a4 G.Day,.lsl I.length J.length 0 J.length,.lsl (I.length + 1) aB.length 0 aB.length]]⟩):=bc aD ci
  have db:=a9 aD (Ne.symm ac) cj
  have dc:=a9 aD (Ne.symm Z) ck
  have et:=a9 aD (Ne.symm ab) cn
  refine be (Rn (hA bn (hV (a4 0) E hZ)) fun eu dd df=>sN<|xx<|sR ?_)
  exact ct h (eC (ag:=true) (sz:=3) ⟨by kernel_rfl,by kernel_rfl,by kernel_rfl⟩ (cm dd da E E (ble E) E) (bB df bK)) (jP (hD (oT (hD E (hD (eh db E (de _)) (hD (eh dc E Tally.fl) ru)))) (hD E ru)))
 obtain ⟨D,Y,h⟩:=ad h
 refine cF cg bd (xx<|sN<|sq<|Rd<|kf (dQ aA X E)<|kf (e8 E X E E E)<|kf (bp ah)<|kf (fd E)<|kf (cW E ⟨ble E,blt E⟩ E)<|kf (cr E E)<|kf (Do E O E E (jc Y).1 (oI Y).2)<|r3<|fZ<|Rn (hA ah (hA cf (hA aA (hV (.loc (I.length + 1) N.length (0 + G.Tally.toNat) 0) E hZ)))) fun ev bo dg dh cC=>sN<|sq<|av<|kx (bp bo)<|kx (fd E)<|kx (cW E ⟨ble E,blt E⟩ E)<|kx (cr E E)<|Rn (hA bo (hA dg (hA dh (hA cC (hN E hZ))))) fun ew cD cE cG cH bq=>sN<|bl<|av<|kx (d8 bq E)<|be<|Rn (hA cD (hA cE (hA cG (hA cH (hA bq (hN E hZ)))))) fun ex br bt bu bf bv bw=>sN ?_)
 rcases aj h with ⟨aS,h⟩ | ⟨aS,h⟩
 ·refine cT bw aS (av<|kx (bp bf)<|kx (bp br)<|kx (fd E)<|kx (cW E ⟨ble E,blt E⟩ E)<|kx (cr E E)<|kx (mL E O (by simp))<|kx (dQ E O (by simp))<|kw (Fv (u:=D) (u':=(Tally.mk D.Debtor G.To D.Cut D.Amount D.Left)) E E O E (Fw Y) ⟨E,ble E⟩ E E) fun cJ aw=>?_)
  rw [Nat.zero_add] at aw
  have bg:=a9 aw Z ao
  have bh:=a9 aw ai aa
  have U:cJ[(I.length + 1)]? = some (.live ⟨.grow,80,5,(N.set G.Tally.toNat (Tally.mk D.Debtor G.To D.Cut D.Amount D.Left)).map Tally.c⟩):=bc aw O
  have bi:=a9 aw (Ne.symm ae) X
  have aE:=nC (u':=(Tally.mk D.Debtor G.To D.Cut D.Amount D.Left)) Y
  refine Rn (hA bt (hA bu (hA bf hZ))) fun ey cK cL bj=>sN (sq<|Rd<|kf (bp bj)<|kf (mL E U (by simp))<|kf (dQ E U (by simp))<|kf (e8 E U (by simp) (rz aE) E)<|kf (bp bj)<|kf (mL E U (by simp))<|kf (dQ E U (by simp))<|kf (e8 E U (by simp) (rz aE) E)<|kf (d8 E E)<|fZ<|Rn (hA cK (hA cL (hA bj (hN E hZ)))) fun ez aT bx cM bz=>sN ?_)
  rcases aj h with ⟨a3,h⟩ | ⟨a3,h⟩
  ·refine cT bz a3 (Rg<|kx (bp cM)<|kx (mL E U (by simp))<|kx (dQ E U (by simp))<|kw (Fv (u:=(Tally.mk D.Debtor G.To D.Cut D.Amount D.Left)) (u':=(Tally.mk ((Tally.mk D.Debtor G.To D.Cut D.Amount D.Left)).Debtor ((Tally.mk D.Debtor G.To D.Cut D.Amount D.Left)).Holder ((Tally.mk D.Debtor G.To D.Cut D.Amount D.Left)).Cut ((Tally.mk D.Debtor G.To D.Cut D.Amount D.Left)).Amount 0)) E E U (by simp) (Fw aE) ⟨E,ble E⟩ E E) fun cN ax=>?_)
   rw [Nat.zero_add] at ax
   have bA:=a9 ax Z bg
   have bk:=a9 ax ai bh
   have bm:cN[(I.length + 1)]? = some (.live ⟨.grow,80,5,((N.set G.Tally.toNat (Tally.mk D.Debtor G.To D.Cut D.Amount D.Left)).set G.Tally.toNat (Tally.mk ((Tally.mk D.Debtor G.To D.Cut D.Amount D.Left)).Debtor ((Tally.mk D.Debtor G.To D.Cut D.Amount D.Left)).Holder ((Tally.mk D.Debtor G.To D.Cut D.Amount D.Left)).Cut ((Tally.mk D.Debtor G.To D.Cut D.Amount D.Left)).Amount 0)).map Tally.c⟩):=bc ax U
   have bZ:=a9 ax (Ne.symm ae) bi
   have eO:=nC (u':=(Tally.mk ((Tally.mk D.Debtor G.To D.Cut D.Amount D.Left)).Debtor ((Tally.mk D.Debtor G.To D.Cut D.Amount D.Left)).Holder ((Tally.mk D.Debtor G.To D.Cut D.Amount D.Left)).Cut ((Tally.mk D.Debtor G.To D.Cut D.Amount D.Left)).Amount 0)) aE
   refine Rn (hA aT (hA bx hZ)) fun eA b0 cO=>bN (sN<|av<|kx (cm cO bZ E E (ble E) E)<|kw (yc b0 E bA E E ⟨E,ble E⟩ (g8 E (g8 (uz bk (by simp)) (g8 (uz bm (by simp)) sG))) E) fun cP aF=>?_)
   have cQ:cP[([]:bs).length]? = some (.live ⟨.box,27,3,[[a4 G.Day,.lsl I.length J.length 0 J.length,.lsl (I.length + 1) N.length 0 N.length]]⟩):=bc aF bA
   have cR:=a9 aF (Ne.symm ac) bk
   have cS:=a9 aF (Ne.symm Z) bm
   have eB:=a9 aF (Ne.symm ab) bZ
   refine be (Rn (hA b0 (hV (a4 0) E hZ)) fun eD cU cV=>sN<|xx ?_)
   exact ct h (eC (ag:=true) (sz:=3) ⟨by kernel_rfl,by kernel_rfl,by kernel_rfl⟩ (cm cU cQ E E (ble E) E) (bB cV bK)) (jP (hD (oT (hD E (hD (eh cR E (de _)) (hD (eh cS (by simp) Tally.fl) ru)))) (hD E ru)))
  refine cF bz a3 (xx<|bN<|sN<|av<|kx (cm bx bi E E (ble E) E)<|kw (yc aT E bg E E ⟨E,ble E⟩ (g8 E (g8 (uz bh (by simp)) (g8 (uz U (by simp)) sG))) E) fun cX aG=>?_)
  have cY:cX[([]:bs).length]? = some (.live ⟨.box,27,3,[[a4 G.Day,.lsl I.length J.length 0 J.length,.lsl (I.length + 1) N.length 0 N.length]]⟩):=bc aG bg
  have cZ:=a9 aG (Ne.symm ac) bh
  have c0:=a9 aG (Ne.symm Z) U
  have eE:=a9 aG (Ne.symm ab) bi
  refine be (Rn (hA aT (hV (a4 0) E hZ)) fun eF c1 c2=>sN<|xx ?_)
  exact ct h (eC (ag:=true) (sz:=3) ⟨by kernel_rfl,by kernel_rfl,by kernel_rfl⟩ (cm c1 cY E E (ble E) E) (bB c2 bK)) (jP (hD (oT (hD E (hD (eh cZ E (de _)) (hD (eh c0 (by simp) Tally.fl) ru)))) (hD E ru)))
 refine cF bw aS (av<|kx (d8 bv E)<|be<|Rn (hA br (hA bt (hA bu (hA bf (hA bv (hN E hZ)))))) fun eG b1 b4 aU aV c3 b5=>sN ?_)
 rcases aj h with ⟨a5,h⟩ | ⟨a5,h⟩
 ·obtain ⟨an,a6,h⟩:=ad h
  obtain ⟨c4,aH,h⟩:=ad h
  refine cT b5 a5 (sq<|Rd<|kf (dQ aU X E)<|kf (e8 E X E E E)<|kf (bp aV)<|kf (mL E O (by simp))<|kf (dQ E O (by simp))<|kf (e8 E O (by simp) (rz Y) E)<|kf (Do E aa E E (jc a6).1 (oI a6).2)<|kf (e8 E aa (by simp) (rz a6) E)<|kf (bp b1)<|kf (fd E)<|kf (cW E ⟨ble E,blt E⟩ E)<|kf (cr E E)<|kf (lD E E)<|kf (Do E aa E E (jc aH).1 (oI aH).2)<|fZ<|kw (Fv (u:=c4) (u':=(IntKind.i64.wrap (an - G.Amount))) E E aa E (Fw aH) ⟨E,ble E⟩ E E) fun cw ay=>?_)
  rw [Nat.zero_add] at ay
  have cx:=a9 ay ac ao
  have au:cw[I.length]? = some (.live ⟨.grow,2,1,(J.set D.Debtor.toNat (IntKind.i64.wrap (an - G.Amount))).map (cI .i64)⟩):=bc ay aa
  have aR:=a9 ay (Ne.symm ai) O
  have aW:=a9 ay (Ne.symm ar) X
  have em:=nC (u':=(IntKind.i64.wrap (an - G.Amount))) aH
  obtain ⟨aX,a7,h⟩:=ad h
  obtain ⟨cz,aI,h⟩:=ad h
  refine Rn (hA b1 (hA b4 (hA aU (hA aV hZ)))) fun eH b7 cA b8 b9=>sN (sq<|Rd<|kf (dQ b8 aW E)<|kf (e8 E aW E E E)<|kf (bp b9)<|kf (mL E aR (by simp))<|kf (dQ E aR (by simp))<|kf (e8 E aR (by simp) (rz Y) E)<|kf (Do (D1 (L':=(J.set D.Debtor.toNat (IntKind.i64.wrap (an - G.Amount))).length) E (by simp)) au E E (jc a7).1 (oI a7).2)<|kf (e8 E au (by simp) (rz a7) E)<|kf (bp b7)<|kf (fd E)<|kf (cW E ⟨ble E,blt E⟩ E)<|kf (cr E E)<|kf (cu E E)<|kf (Do (D1 (L':=(J.set D.Debtor.toNat (IntKind.i64.wrap (an - G.Amount))).length) E (by simp)) au E E (jc aI).1 (oI aI).2)<|fZ<|kw (Fv (u:=cz) (u':=(IntKind.i64.wrap (aX + G.Amount))) E E au E (Fw aI) ⟨E,ble E⟩ E E) fun cB az=>?_)
  rw [Nat.zero_add] at az
  have dJ:=a9 az ac cx
  have dK:cB[I.length]? = some (.live ⟨.grow,2,1,((J.set D.Debtor.toNat (IntKind.i64.wrap (an - G.Amount))).set D.Holder.toNat (IntKind.i64.wrap (aX + G.Amount))).map (cI .i64)⟩):=bc az au
  have ak:=a9 az (Ne.symm ai) aR
  have dL:=a9 az (Ne.symm ar) aW
  have en:=nC (u':=(IntKind.i64.wrap (aX + G.Amount))) aI
  refine Rn (hA b7 (hA cA (hA b8 (hA b9 hZ)))) fun eI dM dN dO dP=>sN (Rd<|kf (bp dP)<|kf (mL E ak (by simp))<|kf (dQ E ak (by simp))<|kf (e8 E ak (by simp) (rz Y) E)<|kf (bp dM)<|kf (fd E)<|kf (cW E ⟨ble E,blt E⟩ E)<|kf (cr E E)<|kf (lD E E)<|kf (mL E ak (by simp))<|kf (dQ E ak (by simp))<|fZ<|kw (Fv (u:=D) (u':=(Tally.mk D.Debtor D.Holder D.Cut D.Amount (IntKind.i64.wrap (D.Left - G.Amount)))) E E ak E (Fw Y) ⟨E,ble E⟩ E E) fun dR ap=>?_)
  rw [Nat.zero_add] at ap
  have ca:=a9 ap Z dJ
  have cb:=a9 ap ai dK
  have cc:dR[(I.length + 1)]? = some (.live ⟨.grow,80,5,(N.set G.Tally.toNat (Tally.mk D.Debtor D.Holder D.Cut D.Amount (IntKind.i64.wrap (D.Left - G.Amount)))).map Tally.c⟩):=bc ap ak
  have cd:=a9 ap (Ne.symm ae) dL
  have eo:=nC (u':=(Tally.mk D.Debtor D.Holder D.Cut D.Amount (IntKind.i64.wrap (D.Left - G.Amount)))) Y
  refine Rn (hA dN (hA dO hZ)) fun eJ ce dS=>bN (sN<|av<|kx (cm dS cd E E (ble E) E)<|kw (yc ce E ca E E ⟨E,ble E⟩ (g8 E (g8 (uz cb (by simp)) (g8 (uz cc (by simp)) sG))) E) fun dT aJ=>?_)
  have dU:dT[([]:bs).length]? = some (.live ⟨.box,27,3,[[a4 G.Day,.lsl I.length J.length 0 J.length,.lsl (I.length + 1) N.length 0 N.length]]⟩):=bc aJ ca
  have dV:=a9 aJ (Ne.symm ac) cb
  have dX:=a9 aJ (Ne.symm Z) cc
  have eK:=a9 aJ (Ne.symm ab) cd
  refine be (Rn (hA ce (hV (a4 0) E hZ)) fun eL dY dZ=>sN<|xx ?_)
  exact ct h (eC (ag:=true) (sz:=3) ⟨by kernel_rfl,by kernel_rfl,by kernel_rfl⟩ (cm dY dU E E (ble E) E) (bB dZ bK)) (jP (hD (oT (hD E (hD (eh dV (by simp) (de _)) (hD (eh dX (by simp) Tally.fl) ru)))) (hD E ru)))
 refine cF b5 a5 (av<|kx (d8 c3 E)<|be<|Rn (hA b4 (hA aU (hA aV (hN E hZ)))) fun eM aY bC d0 bD=>sN ?_)
 rcases aj h with ⟨a8,h⟩ | ⟨a8,h⟩
 ·refine cT bD a8 (Rg<|kx (bp d0)<|kx (mL E O (by simp))<|kx (dQ E O (by simp))<|kw (Fv (u:=D) (u':=(Tally.mk D.Debtor D.Holder D.Cut D.Amount 0)) E E O E (Fw Y) ⟨E,ble E⟩ E E) fun d1 aq=>?_)
  rw [Nat.zero_add] at aq
  have bE:=a9 aq Z ao
  have bF:=a9 aq ai aa
  have bG:d1[(I.length + 1)]? = some (.live ⟨.grow,80,5,(N.set G.Tally.toNat (Tally.mk D.Debtor D.Holder D.Cut D.Amount 0)).map Tally.c⟩):=bc aq O
  have bI:=a9 aq (Ne.symm ae) X
  have ep:=nC (u':=(Tally.mk D.Debtor D.Holder D.Cut D.Amount 0)) Y
  refine Rn (hA aY (hA bC hZ)) fun eN bJ di=>bN (sN<|av<|kx (cm di bI E E (ble E) E)<|kw (yc bJ E bE E E ⟨E,ble E⟩ (g8 E (g8 (uz bF (by simp)) (g8 (uz bG (by simp)) sG))) E) fun dj aK=>?_)
  have dl:dj[([]:bs).length]? = some (.live ⟨.box,27,3,[[a4 G.Day,.lsl I.length J.length 0 J.length,.lsl (I.length + 1) N.length 0 N.length]]⟩):=bc aK bE
  have dm:=a9 aK (Ne.symm ac) bF
  have dn:=a9 aK (Ne.symm Z) bG
  have eP:=a9 aK (Ne.symm ab) bI
  refine be (Rn (hA bJ (hV (a4 0) E hZ)) fun eQ dp dq=>sN<|xx ?_)
  exact ct h (eC (ag:=true) (sz:=3) ⟨by kernel_rfl,by kernel_rfl,by kernel_rfl⟩ (cm dp dl E E (ble E) E) (bB dq bK)) (jP (hD (oT (hD E (hD (eh dm E (de _)) (hD (eh dn (by simp) Tally.fl) ru)))) (hD E ru)))
 refine cF bD a8 (xx<|bN<|sN<|av<|kx (cm bC X E E (ble E) E)<|kw (yc aY E ao E E ⟨E,ble E⟩ (g8 E (g8 (uz aa (by simp)) (g8 (uz O (by simp)) sG))) E) fun dr aL=>?_)
 have ds:dr[([]:bs).length]? = some (.live ⟨.box,27,3,[[a4 G.Day,.lsl I.length J.length 0 J.length,.lsl (I.length + 1) N.length 0 N.length]]⟩):=bc aL ao
 have dt:=a9 aL (Ne.symm ac) aa
 have du:=a9 aL (Ne.symm Z) O
 have eR:=a9 aL (Ne.symm ab) X
 refine be (Rn (hA aY (hV (a4 0) E hZ)) fun eS dv dw=>sN<|xx ?_)
 exact ct h (eC (ag:=true) (sz:=3) ⟨by kernel_rfl,by kernel_rfl,by kernel_rfl⟩ (cm dv ds E E (ble E) E) (bB dw bK)) (jP (hD (oT (hD E (hD (eh dt E (de _)) (hD (eh du E Tally.fl) ru)))) (hD E ru)))
abbrev ih:=Int
abbrev my:=Unit⊕Unit
def pa (D:Ar 16 Int) (s:ih) (e:b4) (M:bs):Prop:=a3 e 1 = .pt none (bY (cI .i8) 0 D)/\a3 e 3 = a4 s
def uQ (D:Ar 16 Int) (r:my) (x:Ex) (e:b4) (M:bs):Prop:=
  match r with
  | (.inl g)=>x = .ret/\a3 e 2 = .bool false
  | (.inr g)=>x = .ext 0/\True
noncomputable def hK (F:Ar 16 Int):ih->Option (ih⊕my):=fun D=>
 if (decide (D < 16))=true then
  (jF F D).bind fun G=>
  if (decide (G < (-3)))=true then
   some (.inr (.inl ()))
  else
   (jF F D).bind fun I=>
   if (decide (I > 3))=true then
    some (.inr (.inl ()))
   else
    some (.inl (IntKind.i64.wrap (D + 1)))
 else
  some (.inr (.inr ()))
theorem pc (F:Ar 16 Int) (s:ih) (r:ih⊕my) (h:hK F s=some r) (e:b4) (M:bs) (O:pa F s e M):Ev (fun k=>(H9 (CN k) k (prune [1,3] e) M).bind fun q=>some q) (bQ (pa F) (uQ F) r):=by
 revert h O
 revert s
 intro af h O
 unfold hK at h
 obtain ⟨ak,am⟩:=O
 generalize U:prune [1,3] e=aE
 have an:=bZ U.symm E ak
 have X:=bZ U.symm E am
 refine sq (av<|kx (bp X)<|kx (dp E E)<|Rn (hV (.pt none (bY (cI .i8) 0 F)) an (hV (a4 af) X (hN E hZ))) fun ar G I Y=>sN ?_)
 rcases aj h with ⟨J,h⟩ | ⟨J,h⟩
 ·obtain ⟨au,ah,h⟩:=ad h
  refine cT Y J (xx<|sN<|sq<|bl<|av<|kx (bp I)<|kx (qX (c:=(cI .i8)) (z:=0) (g:=F) G E ah (fun _=>E))<|kx (cr E E)<|kx (dp E E)<|kx (bp E) ?_)
  rcases aj h with ⟨D,h⟩ | ⟨D,h⟩
  ·refine kx (gsF E D) (kx (gsF E D)<|kx (gsF E D)<|kx (gsF E D)<|kx (cC E D E)<|Rn (hA G (hA I (hV (.bool true) E hZ))) fun aw ax ay ao=>sN<|cT ao E<|av<|be<|Rn (hV (.bool false) E hZ) fun az ap=>sN<|xx<|bR<|sR ?_)
   exact lr h ⟨E,ap⟩
  obtain ⟨aA,ai,h⟩:=ad h
  refine kx (guF E D (bp I)) (kx (guF E D (qX (c:=(cI .i8)) (z:=0) (g:=F) G E ai (fun _=>E)))<|kx (guF E D (cr E E))<|kx (guF E D (fB E E))<|kx (cU E D E)<|Rn (hA G (hA I (hN E hZ))) fun aB aq aa Z=>sN ?_)
  rcases aj h with ⟨N,h⟩ | ⟨N,h⟩
  ·refine cT Z N (av<|be<|Rn (hV (.bool false) E hZ) fun aC ab=>sN<|xx<|bR<|sR ?_)
   exact lr h ⟨E,ab⟩
  refine cF Z N (xx<|bN<|sN<|Rg<|kx (bp aa)<|kx (cu E E)<|be<|Rn (hA aq (hN E hZ)) fun aD ac ae=>?_)
  exact jd h ⟨ac,ae⟩
 refine cF Y J (xx<|sE ?_)
 exact md h ⟨E,trivial⟩
noncomputable def l5 (D:Ar 16 Int):Option Bool:=
 (Lw (hK D) 0).bind fun r=>match r with
 | (.inl _)=>
  some false
 | (.inr _)=>
  some true
def w8 (r:Bool):AV:=.bool r
theorem xK (D:Ar 16 Int) (r:Bool) (h:l5 D=some r):Ev (fun k=>CN k 82 [.agg (bY (cI .i8) 0 D)] []) (fun p=>cp p.2 p.1=w8 r):=by
 unfold l5 at h
 obtain ⟨O,I,h⟩:=ad h
 refine Ev.enter (F:=fun k=>f82 (CN k) k) (fun k=>bH E Tryz.func82 E E E (by decide +kernel) (Ms _ _)) (av<|kx (ps E E ⟨E,E,by decide⟩)<|be<|Rn (hN E hZ) fun af Y=>sN<|sq<|av<|be<|Rn (hA Y (hV (a4 0) E hZ)) fun ah J N=>sN<|bl ?_)
 rcases O with _ | _
 ·refine Ev.loop (pc D) I ⟨J,N⟩ fun x Z aa G=>?_
  obtain ⟨rfl,U⟩:=G
  refine bR (sR ?_)
  exact ct h (bB U bK) E
 refine Ev.loop (pc D) I ⟨J,N⟩ fun x ab ac G=>?_
 obtain ⟨rfl,_⟩:=G
 refine bE (sN<|av<|be<|Rn (hV (.bool true) E hZ) fun ae X=>sN<|xx ?_)
 exact ct h (bB X bK) E
abbrev gY:=Int×Int
abbrev lv:=Int
def ot (D:Ar 6 Int) (s:gY) (e:b4) (M:bs):Prop:=a3 e 1 = .pt none (bY (cI .i16) 0 D)/\a3 e 3 = a4 s.1/\a3 e 4 = a4 s.2
def ue (D:Ar 6 Int) (g:lv) (x:Ex) (e:b4) (M:bs):Prop:=x = .ext 0/\a3 e 3 = a4 g
noncomputable def ft (F:Ar 6 Int):gY->Option (gY⊕lv):=fun (O,J)=>
 if (decide (J < 6))=true then
  (jF F J).bind fun D=>
  (jw).bind fun G=>
  (rd G J).bind fun I=>
  some (.inl ((IntKind.i64.wrap (O + (IntKind.i64.wrap ((IntKind.i64.wrap D) * I)))),(IntKind.i64.wrap (J + 1))))
 else
  some (.inr O)
theorem tQ (D:Ar 6 Int) (s:gY) (r:gY⊕lv) (h:ft D s=some r) (e:b4) (M:bs) (au:ot D s e M):Ev (fun k=>(JD (CN k) k (prune [1,3,4] e) M).bind fun q=>some q) (bQ (ot D) (ue D) r):=by
 obtain ⟨ae,af⟩:=s
 unfold ft at h
 obtain ⟨am,an,ao⟩:=au
 generalize F:prune [1,3,4] e=aG
 have ap:=bZ F.symm E am
 have aq:=bZ F.symm E an
 have J:=bZ F.symm E ao
 refine sq (av<|kx (bp J)<|kx (dp E E)<|Rn (hV (.pt none (bY (cI .i16) 0 D)) ap (hV (a4 ae) aq (hV (a4 af) J (hN E hZ)))) fun aw N O I U=>sN ?_)
 rcases aj h with ⟨G,h⟩ | ⟨G,h⟩
 ·obtain ⟨ax,ah,h⟩:=ad h
  obtain ⟨ar,ai,h⟩:=ad h
  obtain ⟨ay,ak,h⟩:=ad h
  refine cT U G (xx<|sN<|sq<|bl<|Rd<|kf (bp O)<|kf (bp I)<|kf (qX (c:=(cI .i16)) (z:=0) (g:=D) N E ah (fun _=>E))<|kf (cr E E)<|kf (A0 E)<|fc (cl (v:=.sl (some 2) (ar.map (cI .i64))) E E E E (qz  _ ai) nm)<|kf (bp I)<|kf (kJ E E ak (de _))<|kf (cr E E)<|kf (Cn E E)<|kf (cu E E)<|r3<|fZ<|Rn (hA N (hN E (hA I hZ))) fun az X Y Z=>bN<|sN<|Rg<|kx (bp Z)<|kx (cu E E)<|be<|Rn (hA X (hA Y (hN E hZ))) fun aA aa ab ac=>?_)
  exact jd h ⟨aa,ab,ac⟩
 refine cF U G (xx<|sE ?_)
 exact md h ⟨E,O⟩
noncomputable def kV (F:Ar 6 Int):Option Int:=
 (Lw (ft F) (0,0)).bind fun D=>
 some D
def vN (r:Int):AV:=a4 r
theorem wA (D:Ar 6 Int) (r:Int) (h:kV D=some r):Ev (fun k=>CN k 81 [.agg (bY (cI .i16) 0 D)] []) (fun p=>cp p.2 p.1=vN r):=by
 unfold kV at h
 obtain ⟨ab,G,h⟩:=ad h
 refine Ev.enter (F:=fun k=>f81 (CN k) k) (fun k=>bH E Tryz.func81 E E E (by decide +kernel) (L1 _ _)) (av<|kx (ps E E ⟨E,E,by decide⟩)<|be<|Rn (hN E hZ) fun ah Y=>sN<|av<|be<|Rn (hA Y (hV (a4 0) E hZ)) fun ai Z aa=>sN<|sq<|av<|be<|Rn (hA Z (hA aa (hV (a4 0) E hZ))) fun aj J N O=>sN<|bl (Ev.loop (tQ D) G ⟨J,N,O⟩ fun x ac ae I=>?_))
 obtain ⟨rfl,U⟩:=I
 refine bE (sN<|av<|kx (bp U)<|be<|Rn (hN E hZ) fun af X=>sN<|xx ?_)
 exact ct h (bB X bK) E
abbrev ij:=Int
abbrev mu:=Unit⊕Unit
def pd (D:Ar 6 Int) (s:ij) (e:b4) (M:bs):Prop:=a3 e 1 = .pt none (bY (cI .i16) 0 D)/\a3 e 3 = a4 s
def uV (D:Ar 6 Int) (r:mu) (x:Ex) (e:b4) (M:bs):Prop:=
  match r with
  | (.inl g)=>x = .ret/\a3 e 2 = .bool false
  | (.inr g)=>x = .ext 0/\True
noncomputable def fY (F:Ar 6 Int):ij->Option (ij⊕mu):=fun D=>
 if (decide (D < 6))=true then
  (jF F D).bind fun G=>
  if (decide (G < 0))=true then
   some (.inr (.inl ()))
  else
   (jF F D).bind fun I=>
   if (decide (I > 1000))=true then
    some (.inr (.inl ()))
   else
    some (.inl (IntKind.i64.wrap (D + 1)))
 else
  some (.inr (.inr ()))
theorem pi (F:Ar 6 Int) (s:ij) (r:ij⊕mu) (h:fY F s=some r) (e:b4) (M:bs) (O:pd F s e M):Ev (fun k=>(Hj (CN k) k (prune [1,3] e) M).bind fun q=>some q) (bQ (pd F) (uV F) r):=by
 revert h O
 revert s
 intro af h O
 unfold fY at h
 obtain ⟨ak,am⟩:=O
 generalize U:prune [1,3] e=aE
 have an:=bZ U.symm E ak
 have X:=bZ U.symm E am
 refine sq (av<|kx (bp X)<|kx (dp E E)<|Rn (hV (.pt none (bY (cI .i16) 0 F)) an (hV (a4 af) X (hN E hZ))) fun ar G I Y=>sN ?_)
 rcases aj h with ⟨J,h⟩ | ⟨J,h⟩
 ·obtain ⟨au,ah,h⟩:=ad h
  refine cT Y J (xx<|sN<|sq<|bl<|av<|kx (bp I)<|kx (qX (c:=(cI .i16)) (z:=0) (g:=F) G E ah (fun _=>E))<|kx (cr E E)<|kx (dp E E)<|kx (bp E) ?_)
  rcases aj h with ⟨D,h⟩ | ⟨D,h⟩
  ·refine kx (gsF E D) (kx (gsF E D)<|kx (gsF E D)<|kx (gsF E D)<|kx (cC E D E)<|Rn (hA G (hA I (hV (.bool true) E hZ))) fun aw ax ay ao=>sN<|cT ao E<|av<|be<|Rn (hV (.bool false) E hZ) fun az ap=>sN<|xx<|bR<|sR ?_)
   exact lr h ⟨E,ap⟩
  obtain ⟨aA,ai,h⟩:=ad h
  refine kx (guF E D (bp I)) (kx (guF E D (qX (c:=(cI .i16)) (z:=0) (g:=F) G E ai (fun _=>E)))<|kx (guF E D (cr E E))<|kx (guF E D (fB E E))<|kx (cU E D E)<|Rn (hA G (hA I (hN E hZ))) fun aB aq aa Z=>sN ?_)
  rcases aj h with ⟨N,h⟩ | ⟨N,h⟩
  ·refine cT Z N (av<|be<|Rn (hV (.bool false) E hZ) fun aC ab=>sN<|xx<|bR<|sR ?_)
   exact lr h ⟨E,ab⟩
  refine cF Z N (xx<|bN<|sN<|Rg<|kx (bp aa)<|kx (cu E E)<|be<|Rn (hA aq (hN E hZ)) fun aD ac ae=>?_)
  exact jd h ⟨ac,ae⟩
 refine cF Y J (xx<|sE ?_)
 exact md h ⟨E,trivial⟩
noncomputable def lR (D:Ar 6 Int):Option Bool:=
 (Lw (fY D) 0).bind fun r=>match r with
 | (.inl _)=>
  some false
 | (.inr _)=>
  some true
def wt (r:Bool):AV:=.bool r
theorem xp (D:Ar 6 Int) (r:Bool) (h:lR D=some r):Ev (fun k=>CN k 80 [.agg (bY (cI .i16) 0 D)] []) (fun p=>cp p.2 p.1=wt r):=by
 unfold lR at h
 obtain ⟨O,I,h⟩:=ad h
 refine Ev.enter (F:=fun k=>f80 (CN k) k) (fun k=>bH E Tryz.func80 E E E (by decide +kernel) (Ml _ _)) (av<|kx (ps E E ⟨E,E,by decide⟩)<|be<|Rn (hN E hZ) fun af Y=>sN<|sq<|av<|be<|Rn (hA Y (hV (a4 0) E hZ)) fun ah J N=>sN<|bl ?_)
 rcases O with _ | _
 ·refine Ev.loop (pi D) I ⟨J,N⟩ fun x Z aa G=>?_
  obtain ⟨rfl,U⟩:=G
  refine bR (sR ?_)
  exact ct h (bB U bK) E
 refine Ev.loop (pi D) I ⟨J,N⟩ fun x ab ac G=>?_
 obtain ⟨rfl,_⟩:=G
 refine bE (sN<|av<|be<|Rn (hV (.bool true) E hZ) fun ae X=>sN<|xx ?_)
 exact ct h (bB X bK) E
abbrev jy:=Int×Int
abbrev oh:=Int
def qJ (D:List Notch) (s:jy) (e:b4) (M:bs):Prop:=a3 e 0 = .sl none (D.map Notch.c)/\a3 e 3 = a4 s.1/\a3 e 4 = a4 s.2
def wz (D:List Notch) (g:oh) (x:Ex) (e:b4) (M:bs):Prop:=x = .ext 0/\a3 e 3 = a4 g
noncomputable def hT (D:List Notch):jy->Option (jy⊕oh):=fun (O,J)=>
 if (decide (J < (D.length:Int)))=true then
  (jw).bind fun F=>
  (rd D J).bind fun G=>
  (rd F G.Kind).bind fun I=>
  some (.inl ((IntKind.i64.wrap (O + I)),(IntKind.i64.wrap (J + 1))))
 else
  some (.inr O)
theorem wV (D:List Notch) (s:jy) (r:jy⊕oh) (h:hT D s=some r) (e:b4) (M:bs) (au:qJ D s e M):Ev (fun k=>(HA (CN k) k (prune [0,3,4] e) M).bind fun q=>some q) (bQ (qJ D) (wz D) r):=by
 obtain ⟨af,ah⟩:=s
 unfold hT at h
 obtain ⟨an,ao,ap⟩:=au
 generalize F:prune [0,3,4] e=aG
 have I:=bZ F.symm E an
 have aq:=bZ F.symm E ao
 have J:=bZ F.symm E ap
 refine sq (av<|kx (bp J)<|kx (bp I)<|kx (i2 Tryz.underlying46 E)<|kx (dp E E)<|Rn (hV (.sl none (D.map Notch.c)) I (hV (a4 af) aq (hV (a4 ah) J (hN E hZ)))) fun aw N O U X=>sN ?_)
 rcases aj h with ⟨G,h⟩ | ⟨G,h⟩
 ·obtain ⟨ar,ai,h⟩:=ad h
  obtain ⟨ax,ak,h⟩:=ad h
  obtain ⟨ay,am,h⟩:=ad h
  refine cT X G (xx<|sN<|sq<|bl<|Rd<|kf (bp O)<|fc (cl (v:=.sl (some 2) (ar.map (cI .i64))) E E E E (qz  _ ai) nm)<|kf (bp N)<|kf (bp U)<|kf (kJ E E ak Notch.fl)<|kf (cW E ⟨ble E,blt E⟩ E)<|kf (cr E E)<|kf (kJ E E am (de _))<|kf (cr E E)<|kf (cu E E)<|r3<|fZ<|Rn (hA N (hN E (hA U hZ))) fun az Y Z aa=>bN<|sN<|Rg<|kx (bp aa)<|kx (cu E E)<|be<|Rn (hA Y (hA Z (hN E hZ))) fun aA ab ac ae=>?_)
  exact jd h ⟨ab,ac,ae⟩
 refine cF X G (xx<|sE ?_)
 exact md h ⟨E,O⟩
noncomputable def oy (F:List Notch):Option Int:=
 (Lw (hT F) (0,0)).bind fun D=>
 some D
def yG (r:Int):AV:=a4 r
theorem zA (D:List Notch) (r:Int) (h:oy D=some r):Ev (fun k=>CN k 79 [.sl none (D.map Notch.c)] []) (fun p=>cp p.2 p.1=yG r):=by
 unfold oy at h
 obtain ⟨ab,G,h⟩:=ad h
 refine Ev.enter (F:=fun k=>f79 (CN k) k) (fun k=>bH E Tryz.func79 E E E (by decide +kernel) (MQ _ _)) (av<|be<|Rn (hN E hZ) fun ah Y=>sN<|av<|be<|Rn (hA Y (hV (a4 0) E hZ)) fun ai Z aa=>sN<|sq<|av<|be<|Rn (hA Z (hA aa (hV (a4 0) E hZ))) fun aj J N O=>sN<|bl (Ev.loop (wV D) G ⟨J,N,O⟩ fun x ac ae I=>?_))
 obtain ⟨rfl,U⟩:=I
 refine bE (sN<|av<|kx (bp U)<|be<|Rn (hN E hZ) fun af X=>sN<|xx ?_)
 exact ct h (bB X bK) E
noncomputable def mg (D:Half):Option Bool:=
 (jZ D.Notches).bind fun F=>
 if F=true then
  (l5 D.Grain).bind fun G=>
  some G
 else
  some false
def zg (r:Bool):AV:=.bool r
theorem qV (G:Half) (r:Bool) (h:mg G=some r):Ev (fun k=>CN k 78 [.pt none (.bool G.Stock::(.sl none (G.Notches.map Notch.c)::((bY (cI .i8) 0 G.Grain)++([]:List AV))))] []) (fun p=>cp p.2 p.1=zg r):=by
 unfold mg at h
 obtain ⟨X,J,h⟩:=ad h
 refine Ev.enter (F:=fun k=>f78 (CN k) k) (fun k=>bH E Tryz.func78 E E E (by decide +kernel) (Nx _ _)) (av<|be<|Rn (hN E hZ) fun aa I=>sN<|av<|kx (bp I)<|kx (fd E)<|kx (cW E ⟨ble E,blt E⟩ E)<|kx (cr E E) (kc (cl (v:=.bool X) E E (b3 E E) E (v7 G.Notches _ J) nm)<|kx (bp E) ?_))
 rcases aj h with ⟨D,h⟩ | ⟨D,h⟩
 ·obtain ⟨Y,N,h⟩:=ad h
  refine kx (guT E D (bp I)) (kx (guT E D (fd E))<|kx (guT E D (cW E ⟨ble E,blt E⟩ E))<|kx (guT E D (eE E E E)) (kc (Ev.guT E D (cl (v:=.bool Y) E E (b3 E E) E (xK G.Grain _ N) nm))<|kx (cC E D E)<|be<|Rn (hN E hZ) fun ab O=>sN<|xx ?_))
  exact ct h (bB O bK) E
 refine kx (gsT E D) (kx (gsT E D)<|kx (gsT E D)<|kx (gsT E D) (kc (Ev.gsT E D)<|kx (cU E D E)<|be<|Rn (hV (.bool false) E hZ) fun Z U=>sN<|xx ?_))
 exact ct h (bB U bK) E
def jT (I:Ar 16 Int) (J:Ar 16 Int) (N:Int) (D:Int) (F:Int) (G:Int) (O:Int) (g:Bool) (q:oZ):Prop:=q.1 = .nrm/\a3 q.2.1 2 = a4 N/\a3 q.2.1 3 = .pt none (bY (cI .i8) 0 I)/\a3 q.2.1 4 = .pt none (bY (cI .i8) 0 J)/\a3 q.2.1 7 = a4 D/\a3 q.2.1 8 = a4 F/\a3 q.2.1 9 = .int .i8 (IntKind.i8.wrap (G + O))/\a3 q.2.1 26 = .bool g
abbrev fj:=Int×Int
abbrev jS:=Unit⊕Int
def mH (D:Ar 16 Int) (F:Ar 16 Int) (G:Int) (s:fj) (e:b4) (M:bs):Prop:=a3 e 2 = a4 G/\a3 e 3 = .pt none (bY (cI .i8) 0 D)/\a3 e 4 = .pt none (bY (cI .i8) 0 F)/\a3 e 7 = a4 s.1/\a3 e 8 = a4 s.2
def rI (F:Ar 16 Int) (G:Ar 16 Int) (D:Int) (r:jS) (x:Ex) (e:b4) (M:bs):Prop:=
  match r with
  | (.inl g)=>x = .ret/\a3 e 6 = .bool false
  | (.inr g)=>x = .ext 0/\a3 e 2 = a4 D/\a3 e 7 = a4 g
noncomputable def d4 (G:Ar 16 Int) (I:Ar 16 Int):fj->Option (fj⊕jS):=fun (O,J)=>
 if (decide (J < 16))=true then
  (jF G J).bind fun D=>
  (jF I J).bind fun F=>
  (if (decide ((IntKind.i8.wrap (D + F)) < (-1)))=true then
   some true
  else
   some (decide ((IntKind.i8.wrap (D + F)) > 1))).bind fun N=>
  if N=true then
   some (.inr (.inl ()))
  else
   if ((IntKind.i8.wrap (D + F)) != 0)=true then
    some (.inl ((IntKind.i64.wrap (O + 1)),(IntKind.i64.wrap (J + 1))))
   else
    some (.inl (O,(IntKind.i64.wrap (J + 1))))
 else
  some (.inr (.inr O))
theorem mI (D:Ar 16 Int) (F:Ar 16 Int) (G:Int) (s:fj) (r:fj⊕jS) (h:d4 D F s=some r) (e:b4) (M:bs) (bv:mH D F G s e M):Ev (fun k=>(Iu (CN k) k (prune [2,3,4,7,8] e) M).bind fun q=>some q) (bQ (mH D F G) (rI D F G) r):=by
 obtain ⟨J,N⟩:=s
 unfold d4 at h
 obtain ⟨bk,bm,bn,bo,bq⟩:=bv
 generalize O:prune [2,3,4,7,8] e=ce
 have br:=bZ O.symm E bk
 have bt:=bZ O.symm E bm
 have bu:=bZ O.symm E bn
 have aP:=bZ O.symm E bo
 have af:=bZ O.symm E bq
 refine sq (av<|kx (bp af)<|kx (dp E E)<|Rn (hV (a4 G) br (hV (.pt none (bY (cI .i8) 0 D)) bt (hV (.pt none (bY (cI .i8) 0 F)) bu (hV (a4 J) aP (hV (a4 N) af (hN E hZ)))))) fun bA ah ai ak am ab an=>sN ?_)
 rcases aj h with ⟨Z,h⟩ | ⟨Z,h⟩
 ·obtain ⟨ac,aG,h⟩:=ad h
  obtain ⟨ae,aH,h⟩:=ad h
  obtain ⟨ay,X,h⟩:=ad h
  refine cT an Z (xx<|sN<|sq<|bl<|sq<|Rd<|kf (bp ab)<|kf (qX (c:=(cI .i8)) (z:=0) (g:=D) ai E aG (fun _=>E))<|kf (cr E E)<|kf (bp ab)<|kf (qX (c:=(cI .i8)) (z:=0) (g:=F) ak E aH (fun _=>E))<|kf (cr E E)<|kf (cu E E)<|r3<|fZ<|Rn (hA ah (hA ai (hA ak (hA am (hA ab (hN E hZ)))))) fun bB ao ap aq ar au U=>sN<|sq<|sq ?_)
  refine Ev.cut (Q1:=jT D F G J N ac ae ay) (by
      have h:=X
      refine Rg (kx (bp U)<|kx (dp E E)<|kx (bp E) ?_)
      rcases aj h with ⟨I,h⟩ | ⟨I,h⟩
      ·refine kx (gsF E I) (kx (gsF E I)<|kx (cC E I E)<|Rn (hA ao (hA ap (hA aq (hA ar (hA au (hA U (hV (.bool true) E hZ))))))) fun bC aQ aR aS aT aU aV aW=>?_)
       obtain rfl:=si h
       exact kd (show jT D F G J N ac ae _ _ from ⟨E,aQ,aR,aS,aT,aU,aV,aW⟩)
      refine kx (guF E I (bp U)) (kx (guF E I (fB E E))<|kx (cU E I E)<|Rn (hA ao (hA ap (hA aq (hA ar (hA au (hA U (hN E hZ))))))) fun bD aX aY aZ a0 a1 a2 a3=>?_)
      obtain rfl:=si h
      exact kd (show jT D F G J N ac ae _ _ from ⟨E,aX,aY,aZ,a0,a1,a2,a3⟩)) ?_
  revert h X
  revert ay
  intro bE X h
  intro x bF bG aF
  obtain ⟨rfl,a5,a6,a7,a8,a9,ba,aw⟩:=aF
  refine sN ?_
  rcases aj h with ⟨aa,h⟩ | ⟨aa,h⟩
  ·refine cT aw aa (av<|be<|Rn (hV (.bool false) E hZ) fun bH aO=>sN<|xx<|sR<|bR<|sR ?_)
   exact lr h ⟨E,aO⟩
  refine cF aw aa (xx<|sN<|av<|kx (bp ba)<|kx (gD E E)<|Rn (hV (a4 G) a5 (hV (.pt none (bY (cI .i8) 0 D)) a6 (hV (.pt none (bY (cI .i8) 0 F)) a7 (hV (a4 J) a8 (hV (a4 N) a9 (hN E hZ)))))) fun bI ax az aA aB aC aD=>sN ?_)
  rcases aj h with ⟨Y,h⟩ | ⟨Y,h⟩
  ·refine cT aD Y (Rg<|kx (bp aB)<|kx (cu E E)<|be<|Rn (hA ax (hA az (hA aA (hN E (hA aC hZ))))) fun bw aI aJ aK aL aM=>bN<|sN<|Rg<|kx (bp aM)<|kx (cu E E)<|be<|Rn (hA aI (hA aJ (hA aK (hA aL (hN E hZ))))) fun bx aN aE bb bc bd=>?_)
   exact jd h ⟨aN,aE,bb,bc,bd⟩
  refine cF aD Y (xx<|bN<|sN<|Rg<|kx (bp aC)<|kx (cu E E)<|be<|Rn (hA ax (hA az (hA aA (hA aB (hN E hZ))))) fun bz bf bg bh bi bj=>?_)
  exact jd h ⟨bf,bg,bh,bi,bj⟩
 refine cF an Z (xx<|sE ?_)
 exact md h ⟨E,ah,am⟩
noncomputable def iI (D:Ar 16 Int) (F:Ar 16 Int) (G:Int):Option Bool:=
 (Lw (d4 D F) (0,0)).bind fun r=>match r with
 | (.inl _)=>
  some false
 | (.inr J)=>
  some (decide (J<=G))
def ti (r:Bool):AV:=.bool r
theorem tM (D:Ar 16 Int) (G:Ar 16 Int) (I:Int) (r:Bool) (h:iI D G I=some r):Ev (fun k=>CN k 77 [.agg (bY (cI .i8) 0 D),.agg (bY (cI .i8) 0 G),a4 I] []) (fun p=>cp p.2 p.1=ti r):=by
 unfold iI at h
 obtain ⟨aa,N,h⟩:=ad h
 refine Ev.enter (F:=fun k=>f77 (CN k) k) (fun k=>bH E Tryz.func77 E E E (by decide +kernel) (MO _ _)) (av<|kx (ps E E ⟨E,E,by decide⟩)<|kx (ps E E ⟨E,E,by decide⟩)<|be<|Rn (hN E (hN E (hN E hZ))) fun az aj ak am=>sN<|av<|be<|Rn (hA aj (hA ak (hA am (hV (a4 0) E hZ)))) fun aA an ao ah ai=>sN<|sq<|av<|be<|Rn (hA an (hA ao (hA ah (hA ai (hV (a4 0) E hZ))))) fun ar O U X Y Z=>sN<|bl ?_)
 rcases aa with _ | aw
 ·refine Ev.loop (mI D G I) N ⟨O,U,X,Y,Z⟩ fun x au ax J=>?_
  obtain ⟨rfl,ab⟩:=J
  refine bR (sR ?_)
  exact ct h (bB ab bK) E
 refine Ev.loop (mI D G I) N ⟨O,U,X,Y,Z⟩ fun x ay ap J=>?_
 obtain ⟨rfl,ac,ae⟩:=J
 refine bE (sN<|av<|kx (bp ae)<|kx (bp ac)<|kx (yb E E)<|be<|Rn (hN E hZ) fun aq af=>sN<|xx ?_)
 exact ct h (bB af bK) E
abbrev ex:=Int
abbrev i4:=Unit⊕Unit
def lp (D:List Notch) (F:List Notch) (s:ex) (e:b4) (M:bs):Prop:=a3 e 0 = .sl none (D.map Notch.c)/\a3 e 1 = .sl none (F.map Notch.c)/\a3 e 5 = a4 s
def qw (D:List Notch) (F:List Notch) (r:i4) (x:Ex) (e:b4) (M:bs):Prop:=
  match r with
  | (.inl g)=>x = .ret/\a3 e 4 = .bool false
  | (.inr g)=>x = .ext 0/\True
noncomputable def dG (I:List Notch) (J:List Notch):ex->Option (ex⊕i4):=fun D=>
 if (decide (D < (I.length:Int)))=true then
  (rd I D).bind fun F=>
  (rd J D).bind fun G=>
  if ((F.Kind==G.Kind) && ((F.At==G.At) && true))=true then
   some (.inl (IntKind.i64.wrap (D + 1)))
  else
   some (.inr (.inl ()))
 else
  some (.inr (.inr ()))
theorem lq (D:List Notch) (F:List Notch) (s:ex) (r:ex⊕i4) (h:dG D F s=some r) (e:b4) (M:bs) (O:lp D F s e M):Ev (fun k=>(Jk (CN k) k (prune [0,1,5] e) M).bind fun q=>some q) (bQ (lp D F) (qw D F) r):=by
 revert h O
 revert s
 intro am h O
 unfold dG at h
 obtain ⟨ap,aq,ar⟩:=O
 generalize G:prune [0,1,5] e=aG
 have U:=bZ G.symm E ap
 have au:=bZ G.symm E aq
 have X:=bZ G.symm E ar
 refine sq (av<|kx (bp X)<|kx (bp U)<|kx (i2 Tryz.underlying46 E)<|kx (dp E E)<|Rn (hV (.sl none (D.map Notch.c)) U (hV (.sl none (F.map Notch.c)) au (hV (a4 am) X (hN E hZ)))) fun ax Y Z N aa=>sN ?_)
 rcases aj h with ⟨I,h⟩ | ⟨I,h⟩
 ·obtain ⟨ay,an,h⟩:=ad h
  obtain ⟨az,ao,h⟩:=ad h
  refine cT aa I (xx<|sN<|sq<|bl<|sq<|Rd<|kf (bp Y)<|kf (bp N)<|kf (kJ E E an Notch.fl)<|kf (eE E E E)<|kf (bp Z)<|kf (bp N)<|kf (kJ E E ao Notch.fl)<|kf (eE E E E)<|kf (J5 E E (by kernel_rfl) E)<|fZ<|Rn (hA Y (hA Z (hA N (hN E hZ)))) fun aA aw ac ae ab=>sN ?_)
  rcases aj h with ⟨J,h⟩ | ⟨J,h⟩
  ·refine cF ab (nt J) (xx<|bN<|sN<|Rg<|kx (bp ae)<|kx (cu E E)<|be<|Rn (hA aw (hA ac (hN E hZ))) fun aB af ah ai=>?_)
   exact jd h ⟨af,ah,ai⟩
  refine cT ab (nt J) (av<|be<|Rn (hV (.bool false) E hZ) fun aC ak=>sN<|xx<|bR<|sR ?_)
  exact lr h ⟨E,ak⟩
 refine cF aa I (xx<|sE ?_)
 exact md h ⟨E,trivial⟩
noncomputable def gX (D:List Notch) (F:List Notch):Option Bool:=
 if ((D.length:Int) != (F.length:Int))=true then
  some false
 else
  (Lw (dG D F) 0).bind fun r=>match r with
  | (.inl _)=>
   some false
  | (.inr _)=>
   some true
def rE (r:Bool):AV:=.bool r
theorem sj (D:List Notch) (G:List Notch) (r:Bool) (h:gX D G=some r):Ev (fun k=>CN k 76 [.sl none (D.map Notch.c),.sl none (G.map Notch.c)] []) (fun p=>cp p.2 p.1=rE r):=by
 unfold gX at h
 refine Ev.enter (F:=fun k=>f76 (CN k) k) (fun k=>bH E Tryz.func76 E E E (by decide +kernel) (Nt _ _)) (av<|be<|Rn (hN E (hN E hZ)) fun au Y Z=>sN<|sq<|av<|kx (bp Y)<|kx (i2 Tryz.underlying46 E)<|kx (bp Z)<|kx (i2 Tryz.underlying46 E)<|kx (gD E E)<|Rn (hA Y (hA Z (hN E hZ))) fun aw ah ai aa=>sN ?_)
 rcases aj h with ⟨I,h⟩ | ⟨I,h⟩
 ·refine cT aa I (av<|be<|Rn (hV (.bool false) E hZ) fun ak ab=>sN<|xx<|sR ?_)
  exact ct h (bB ab bK) E
 obtain ⟨ac,N,h⟩:=ad h
 refine cF aa I (xx<|sN<|sq<|av<|be<|Rn (hA ah (hA ai (hV (a4 0) E hZ))) fun am O U X=>sN<|bl ?_)
 rcases ac with _ | _
 ·refine Ev.loop (lq D G) N ⟨O,U,X⟩ fun x an ao J=>?_
  obtain ⟨rfl,ae⟩:=J
  refine bR (sR ?_)
  exact ct h (bB ae bK) E
 refine Ev.loop (lq D G) N ⟨O,U,X⟩ fun x ap aq J=>?_
 obtain ⟨rfl,_⟩:=J
 refine bE (sN<|av<|be<|Rn (hV (.bool true) E hZ) fun ar af=>sN<|xx ?_)
 exact ct h (bB af bK) E
def nD (D:Half) (F:Half) (G:Int) (g:Bool) (q:oZ):Prop:=q.1 = .nrm/\a3 q.2.1 0 = .pt none (.bool D.Stock::(.sl none (D.Notches.map Notch.c)::((bY (cI .i8) 0 D.Grain)++([]:List AV))))/\a3 q.2.1 1 = .pt none (.bool F.Stock::(.sl none (F.Notches.map Notch.c)::((bY (cI .i8) 0 F.Grain)++([]:List AV))))/\a3 q.2.1 2 = a4 G/\a3 q.2.1 14 = .bool g
noncomputable def pl (D:Half) (F:Half) (N:Int):Option Int:=
 ((mg D).bind fun O=>
 if O=true then
  (mg F).bind fun G=>
  some (!G)
 else
  some true).bind fun I=>
 if I=true then
  some 1
 else
  (dm N 0 16).bind fun J=>
  if J=true then
   if D.Stock=true then
    if F.Stock=true then
     some 4
    else
     some 0
   else
    some 4
  else
   some 2
def xV (r:Int):AV:=a4 r
theorem yL (G:Half) (I:Half) (N:Int) (r:Int) (h:pl G I N=some r):Ev (fun k=>CN k 75 [.pt none (.bool G.Stock::(.sl none (G.Notches.map Notch.c)::((bY (cI .i8) 0 G.Grain)++([]:List AV)))),.pt none (.bool I.Stock::(.sl none (I.Notches.map Notch.c)::((bY (cI .i8) 0 I.Grain)++([]:List AV)))),a4 N] []) (fun p=>cp p.2 p.1=xV r):=by
 unfold pl at h
 obtain ⟨ab,O,h⟩:=ad h
 refine Ev.enter (F:=fun k=>f75 (CN k) k) (fun k=>bH E Tryz.func75 E E E (by decide +kernel) (LM _ _)) (av<|be<|Rn (hN E (hN E (hN E hZ))) fun a0 Z aa ah=>sN<|sq<|sq ?_)
 refine Ev.cut (Q1:=nD G I N ab) (by
     have h:=O
     obtain ⟨aM,aG,h⟩:=ad h
     refine Rg (kx (bp Z) (kc (cl (v:=.bool aM) E E (b3 E E) E (qV G _ aG) nm)<|kx (eZ E)<|kx (bp E) ?_))
     rcases aj h with ⟨J,h⟩ | ⟨J,h⟩
     ·obtain ⟨aH,aI,h⟩:=ad h
      refine kx (guF E (nt J) (bp aa)) (kc (Ev.guF E (nt J) (cl (v:=.bool aH) E E (b3 E E) E (qV I _ aI) nm))<|kx (guF E (nt J) (eZ E))<|kx (cU E (nt J) E)<|Rn (hA Z (hA aa (hA ah (hN E hZ)))) fun aO aJ aK aL ai=>?_)
      obtain rfl:=si h
      exact kd (show nD G I N _ _ from ⟨E,aJ,aK,aL,ai⟩)
     refine kx (gsF E (nt J)) (kc (Ev.gsF E (nt J))<|kx (gsF E (nt J))<|kx (cC E (nt J) E)<|Rn (hA Z (hA aa (hA ah (hV (.bool true) E hZ)))) fun aP ak am an ao=>?_)
     obtain rfl:=si h
     exact kd (show nD G I N _ _ from ⟨E,ak,am,an,ao⟩)) ?_
 revert h O
 revert ab
 intro aQ O h
 intro x aR aS aE
 obtain ⟨rfl,ap,aq,ar,ac⟩:=aE
 refine sN ?_
 rcases aj h with ⟨U,h⟩ | ⟨U,h⟩
 ·refine cT ac U (av<|be<|Rn (hV (a4 1) E hZ) fun aN au=>sN<|xx<|sR ?_)
  exact ct h (bB au bK) E
 obtain ⟨aw,aF,h⟩:=ad h
 refine cF ac U (xx<|sN<|sq<|av<|kx (bp ar) (kc (cl (v:=.bool aw) E E (b3 E (b3 E (b3 E E))) E (dn N 0 16 _ aF) nm)<|kx (eZ E)<|Rn (hV (.pt none (.bool G.Stock::(.sl none (G.Notches.map Notch.c)::((bY (cI .i8) 0 G.Grain)++([]:List AV))))) ap (hV (.pt none (.bool I.Stock::(.sl none (I.Notches.map Notch.c)::((bY (cI .i8) 0 I.Grain)++([]:List AV))))) aq (hN E hZ))) fun aT ax ay ae=>sN ?_))
 rcases aj h with ⟨X,h⟩ | ⟨X,h⟩
 ·refine cF ae (nt X) (xx<|sN<|sq<|av<|kx (bp ax)<|kx (fd E)<|kx (cW E ⟨ble E,blt E⟩ E)<|kx (cr E E)<|kx (eZ E)<|kx (bp E) ?_)
  rcases aj h with ⟨D,h⟩ | ⟨D,h⟩
  ·refine kx (guF E (nt D) (bp ay)) (kx (guF E (nt D) (fd E))<|kx (guF E (nt D) (cW E ⟨ble E,blt E⟩ E))<|kx (guF E (nt D) (cr E E))<|kx (cU E (nt D) E)<|Rn (hN E hZ) fun aU af=>sN ?_)
   rcases aj h with ⟨Y,h⟩ | ⟨Y,h⟩
   ·refine cT af Y (av<|be<|Rn (hV (a4 4) E hZ) fun aV az=>sN<|xx<|sR ?_)
    exact ct h (bB az bK) E
   refine cF af Y (xx<|sN<|av<|be<|Rn (hV (a4 0) E hZ) fun aW aA=>sN<|xx ?_)
   exact ct h (bB aA bK) E
  refine kx (gsF E (nt D)) (kx (gsF E (nt D))<|kx (gsF E (nt D))<|kx (gsF E (nt D))<|kx (cC E (nt D) E)<|Rn (hV (.bool true) E hZ) fun aX aB=>sN<|cT aB E<|av<|be<|Rn (hV (a4 4) E hZ) fun aY aC=>sN<|xx<|sR ?_)
  exact ct h (bB aC bK) E
 refine cT ae (nt X) (av<|be<|Rn (hV (a4 2) E hZ) fun aZ aD=>sN<|xx<|sR ?_)
 exact ct h (bB aD bK) E
noncomputable def fk (D:Int):Option Int:=
 (rd [1,12,240,4800,24000,240000] D).bind fun F=>
 some F
def zo (r:Int):AV:=a4 r
theorem ke (D:Int) (r:Int) (h:fk D=some r):Ev (fun k=>CN k 70 [a4 D] []) (fun p=>cp p.2 p.1=zo r):=by
 unfold fk at h
 obtain ⟨U,G,h⟩:=ad h
 refine Ev.enter (F:=fun k=>f70 (CN k) k) (fun k=>bH E Tryz.func70 E E E (by decide +kernel) (MG _ _)) (av<|be<|Rn (hN E hZ) fun N I=>sN<|av<|kx (kh (b3 E (b3 E (b3 E (b3 E (b3 E (b3 E E)))))) E ⟨E,by decide⟩)<|kx (bp I)<|kx (Oe E E G (de _))<|kx (cr E E)<|be<|Rn (hN E hZ) fun O J=>sN<|xx ?_)
 exact ct h (bB J bK) E
abbrev ew:=Int×Int
abbrev ja:=Int
def ln (D:Ar 6 Int) (s:ew) (e:b4) (M:bs):Prop:=a3 e 3 = a4 s.1/\a3 e 6 = .agg (bY (cI .i64) 0 D)/\a3 e 7 = a4 s.2
def qt (D:Ar 6 Int) (g:ja) (x:Ex) (e:b4) (M:bs):Prop:=x = .ext 0/\a3 e 3 = a4 g
noncomputable def dH (F:Ar 6 Int):ew->Option (ew⊕ja):=fun (O,J)=>
 if (decide (J < 6))=true then
  (jF F J).bind fun D=>
  (fk J).bind fun G=>
  some (.inl ((IntKind.i64.wrap (O + (IntKind.i64.wrap (D * G)))),(IntKind.i64.wrap (J + 1))))
 else
  some (.inr O)
theorem qv (D:Ar 6 Int) (s:ew) (r:ew⊕ja) (h:dH D s=some r) (e:b4) (M:bs) (az:ln D s e M):Ev (fun k=>(IE (CN k) k (prune [3,6,7] e) M).bind fun q=>some q) (bQ (ln D) (qt D) r):=by
 obtain ⟨am,J⟩:=s
 unfold dH at h
 obtain ⟨ap,aq,ar⟩:=az
 generalize F:prune [3,6,7] e=aK
 have au:=bZ F.symm E ap
 have aw:=bZ F.symm E aq
 have N:=bZ F.symm E ar
 refine av (kx (dp N E)<|Rn (hV (a4 am) au (hV (.agg (bY (cI .i64) 0 D)) aw (hV (a4 J) N (hN E hZ)))) fun aA O U I X=>sN<|sq ?_)
 rcases aj h with ⟨G,h⟩ | ⟨G,h⟩
 ·obtain ⟨aB,an,h⟩:=ad h
  obtain ⟨ax,ao,h⟩:=ad h
  refine cT X G (xx<|sN<|sq<|bl<|av<|kx (bp I)<|kx (Ge (K:=AV.int .i64) (c:=(cI .i64)) (z:=0) (g:=D) U I an (fun _=>E))<|be<|be<|Rn (hA O (hN E (hN E (hA U (hA I hZ))))) fun aC ay Y Z aa ab=>sN<|Rg<|kx (bp ay)<|kx (bp Z)<|kx (bp Y) (kc (cl (v:=a4 ax) E E (b3 E E) E (ke J _ ao) nm)<|kx (Cn E E)<|kx (cu E E)<|be<|Rn (hN E (hA aa (hA ab hZ))) fun aD ac ae af=>bN<|sN<|Rg<|kx (cu af E)<|be<|Rn (hA ac (hA ae (hN E hZ))) fun aE ah ai ak=>?_))
  exact jd h ⟨ah,ai,ak⟩
 refine cF X G (xx<|sE ?_)
 exact md h ⟨E,O⟩
noncomputable def gT (F:Ar 6 Int):Option Int:=
 (Lw (dH F) (0,0)).bind fun D=>
 some D
def rn (r:Int):AV:=a4 r
theorem su (D:Ar 6 Int) (r:Int) (h:gT D=some r):Ev (fun k=>CN k 74 [.agg (bY (cI .i64) 0 D)] []) (fun p=>cp p.2 p.1=rn r):=by
 unfold gT at h
 obtain ⟨ab,G,h⟩:=ad h
 refine Ev.enter (F:=fun k=>f74 (CN k) k) (fun k=>bH E Tryz.func74 E E E (by decide +kernel) (LK _ _)) (av<|kx (ps E E ⟨E,E,by decide⟩)<|be<|Rn (hN E hZ) fun ah Y=>sN<|av<|be<|Rn (hA Y (hV (a4 0) E hZ)) fun ai Z aa=>sN<|sq<|av<|kx (eE Z E E)<|be<|Rn (hA aa (hN E (hV (a4 0) E hZ))) fun aj J N O=>sN<|bl (Ev.loop (qv D) G ⟨J,N,O⟩ fun x ac ae I=>?_))
 obtain ⟨rfl,U⟩:=I
 refine bE (sN<|av<|kx (bp U)<|be<|Rn (hN E hZ) fun af X=>sN<|xx ?_)
 exact ct h (bB X bK) E
abbrev gV:=Int×(Ar 6 Int)
abbrev lz:=(Ar 6 Int)
def oL (G:Ar 6 Int) (D:Nat) (F:Nat) (s:gV) (e:b4) (M:bs):Prop:=a3 e 2 = .loc D 1 0 0/\a3 e 3 = .loc F 1 0 0/\a3 e 7 = .agg (bY (cI .i16) 0 G)/\a3 e 8 = a4 s.1/\M[D]? = some (.live ⟨.box,118,6,[(bY (cI .i64) 0 (Ar.rep 6 0))]⟩)/\M[F]? = some (.live ⟨.box,118,6,[(bY (cI .i64) 0 s.2)]⟩)
def t9 (G:Ar 6 Int) (D:Nat) (F:Nat) (g:lz) (x:Ex) (e:b4) (M:bs):Prop:=x = .ext 0/\a3 e 2 = .loc D 1 0 0/\a3 e 3 = .loc F 1 0 0/\M[D]? = some (.live ⟨.box,118,6,[(bY (cI .i64) 0 (Ar.rep 6 0))]⟩)/\M[F]? = some (.live ⟨.box,118,6,[(bY (cI .i64) 0 g)]⟩)
noncomputable def gK (F:Ar 6 Int):gV->Option (gV⊕lz):=fun (J,O)=>
 if (decide (J < 6))=true then
  (jF F J).bind fun D=>
  (jF O J).bind fun G=>
  some (.inl ((IntKind.i64.wrap (J + 1)),(O.set J.toNat (IntKind.i64.wrap D))))
 else
  some (.inr O)
theorem tO (F:Ar 6 Int) (G:Nat) (D:Nat) (an:G≠D) (s:gV) (r:gV⊕lz) (h:gK F s=some r) (e:b4) (M:bs) (aO:oL F G D s e M):Ev (fun k=>(Hq (CN k) k (prune [2,3,7,8] e) M).bind fun q=>some q) (bQ (oL F G D) (t9 F G D) r):=by
 obtain ⟨U,X⟩:=s
 unfold gK at h
 obtain ⟨ap,aq,ar,au,aa,J⟩:=aO
 generalize I:prune [2,3,7,8] e=bd
 have aw:=bZ I.symm E ap
 have ax:=bZ I.symm E aq
 have ay:=bZ I.symm E ar
 have ab:=bZ I.symm E au
 refine av (kx (dp ab E)<|Rn (hV (.loc G 1 0 0) aw (hV (.loc D 1 0 0) ax (hV (.agg (bY (cI .i16) 0 F)) ay (hV (a4 U) ab (hN E hZ))))) fun aP ac ae af O ah=>sN<|sq ?_)
 rcases aj h with ⟨N,h⟩ | ⟨N,h⟩
 ·obtain ⟨ai,ao,h⟩:=ad h
  obtain ⟨aQ,Y,h⟩:=ad h
  refine cT ah N (xx<|sN<|sq<|bl<|av<|kx (bp O)<|kx (Ge (K:=AV.int .i16) (c:=(cI .i16)) (z:=0) (g:=F) af O ao (fun _=>E))<|be<|be<|Rn (hA ac (hA ae (hN E (hN E (hA af (hA O hZ)))))) fun aR az ak aA aB aC aD=>sN<|Rg<|kx (bp aA)<|kx (bp aB)<|kx (A0 E)<|kx (l9 ak J E E Y)<|kw (F0 (c:=(cI .i64)) (z:=0) (g:=X) (pre:=[]) (post:=[]) (u':=(IntKind.i64.wrap ai)) E E J E E E E (fun _=>E) E E Y) fun aE Z=>?_)
  have aF:=a9 Z an aa
  have aG:aE[D]? = some (.live ⟨.box,118,6,[(bY (cI .i64) 0 (X.set U.toNat (IntKind.i64.wrap ai)))]⟩):=bc Z J
  refine Rn (hA az (hA ak (hA aC (hA aD hZ)))) fun aS aH aI aJ aK=>bN (sN<|Rg<|kx (cu aK E)<|be<|Rn (hA aH (hA aI (hA aJ (hN E hZ)))) fun aT aL am aM aN=>?_)
  exact jd h ⟨aL,am,aM,aN,aF,aG⟩
 refine cF ah N (xx<|sE ?_)
 exact md h ⟨E,ac,ae,aa,J⟩
noncomputable def kX (F:Ar 6 Int):Option ((Ar 6 Int)):=
 (Lw (gK F) (0,(Ar.rep 6 0))).bind fun D=>
 some D
def vm (r:(Ar 6 Int)):AV:=.agg (bY (cI .i64) 0 r)
theorem wc (I:Ar 6 Int) (r:(Ar 6 Int)) (h:kX I=some r):Ev (fun k=>CN k 73 [.agg (bY (cI .i16) 0 I)] []) (fun p=>cp p.2 p.1=vm r):=by
 unfold kX at h
 refine Ev.enter (F:=fun k=>f73 (CN k) k) (fun k=>bH E Tryz.func73 E E E (by decide +kernel) (Mu _ _)) (av<|kx (ps E E ⟨E,E,by decide⟩) (ku (lG wr) fun D ax=>?_))
 have ab:D[([]:bs).length]? = some (.live ⟨.box,118,6,[(bY (cI .i64) 0 (Ar.rep 6 0))]⟩):=b2 ax
 refine Rn (hN E (hV (.loc ([]:bs).length 1 0 0) E hZ)) fun aJ aB aC=>sN (av<|kx (gg wr E (dz E)) (ku (lG wr) fun ay O=>?_))
 have az:=bS O ab
 have G:=b6 ab
 have X:ay[D.length]? = some (.live ⟨.box,118,6,[(bY (cI .i64) 0 (Ar.rep 6 0))]⟩):=b2 O
 refine kw (dW E E X E E ⟨E,ble E⟩ E E) fun aA U=>?_
 have ac:=a9 U G az
 have ae:aA[D.length]? = some (.live ⟨.box,118,6,[(bY (cI .i64) 0 (Ar.rep 6 0))]⟩):=bc U X
 obtain ⟨J,ap,h⟩:=ad h
 refine Rn (hA aB (hA aC (hV (.loc D.length 1 0 0) E hZ))) fun aF af ah ai=>sN (sq<|av<|kx (eE af E E)<|be<|Rn (hA ah (hA ai (hN E (hV (a4 0) E hZ)))) fun aG aj ak am an=>sN<|bl (Ev.loop (tO I (([]:bs).length) D.length G) ap ⟨aj,ak,am,an,ac,ae⟩ fun x aH aI aq=>?_))
 obtain ⟨rfl,Y,ao,Z,aa⟩:=aq
 refine bE (sN<|av<|kx (cm (cs':=(bY (cI .i64) 0 J)) ao aa E E (ble E) E)<|kw (dW Y E Z E E ⟨E,ble E⟩ E E) fun ar N=>?_)
 have au:ar[([]:bs).length]? = some (.live ⟨.box,118,6,[(bY (cI .i64) 0 J)]⟩):=bc N Z
 have aD:=a9 N (Ne.symm G) aa
 refine Rn (hV (.loc ([]:bs).length 1 0 0) Y hZ) fun aE aw=>sN (xx ?_)
 exact ct h (eC (ag:=true) (sz:=6) ⟨by kernel_rfl,by kernel_rfl,by kernel_rfl⟩ (cm (cs':=(bY (cI .i64) 0 J)) aw au E E (ble E) E) bK) E
abbrev gq:=Int
abbrev kH:=Unit⊕Unit
def n1 (D:Ar 6 Int) (s:gq) (e:b4) (M:bs):Prop:=a3 e 5 = .agg (bY (cI .i16) 0 D)/\a3 e 6 = a4 s
def tD (D:Ar 6 Int) (r:kH) (x:Ex) (e:b4) (M:bs):Prop:=
  match r with
  | (.inl g)=>x = .ret/\a3 e 2 = .bool false
  | (.inr g)=>x = .ext 0/\True
noncomputable def eM (G:Ar 6 Int):gq->Option (gq⊕kH):=fun D=>
 if (decide (D < 6))=true then
  (jF G D).bind fun F=>
  if (decide (F < 0))=true then
   some (.inr (.inl ()))
  else
   if (decide (F > 1000))=true then
    some (.inr (.inl ()))
   else
    some (.inl (IntKind.i64.wrap (D + 1)))
 else
  some (.inr (.inr ()))
theorem nJ (F:Ar 6 Int) (s:gq) (r:gq⊕kH) (h:eM F s=some r) (e:b4) (M:bs) (J:n1 F s e M):Ev (fun k=>(HE (CN k) k (prune [5,6] e) M).bind fun q=>some q) (bQ (n1 F) (tD F) r):=by
 revert h J
 revert s
 intro an h J
 unfold eM at h
 obtain ⟨ap,aq⟩:=J
 generalize N:prune [5,6] e=aG
 have ar:=bZ N.symm E ap
 have O:=bZ N.symm E aq
 refine av (kx (dp O E)<|Rn (hV (.agg (bY (cI .i16) 0 F)) ar (hV (a4 an) O (hN E hZ))) fun aw U X Y=>sN<|sq ?_)
 rcases aj h with ⟨G,h⟩ | ⟨G,h⟩
 ·obtain ⟨ax,ao,h⟩:=ad h
  refine cT Y G (xx<|sN<|sq<|bl<|av<|kx (Ge (K:=AV.int .i16) (c:=(cI .i16)) (z:=0) (g:=F) U X ao (fun _=>E))<|be<|Rn (hN E (hA U (hA X hZ))) fun ay Z aa ab=>sN<|av<|kx (bp Z)<|kx (dp E E)<|kx (bp E) ?_)
  rcases aj h with ⟨D,h⟩ | ⟨D,h⟩
  ·refine kx (gsF E D) (kx (gsF E D)<|kx (cC E D E)<|Rn (hA aa (hA ab (hV (.bool true) E hZ))) fun az aA aB au=>sN<|cT au E<|av<|be<|Rn (hV (.bool false) E hZ) fun aC ae=>sN<|xx<|bR<|sR ?_)
   exact lr h ⟨E,ae⟩
  refine kx (guF E D (bp Z)) (kx (guF E D (fB E E))<|kx (cU E D E)<|Rn (hA aa (hA ab (hN E hZ))) fun aD af ah ac=>sN ?_)
  rcases aj h with ⟨I,h⟩ | ⟨I,h⟩
  ·refine cT ac I (av<|be<|Rn (hV (.bool false) E hZ) fun aE ai=>sN<|xx<|bR<|sR ?_)
   exact lr h ⟨E,ai⟩
  refine cF ac I (xx<|bN<|sN<|Rg<|kx (cu ah E)<|be<|Rn (hA af (hN E hZ)) fun aF ak am=>?_)
  exact jd h ⟨ak,am⟩
 refine cF Y G (xx<|sE ?_)
 exact md h ⟨E,trivial⟩
noncomputable def j2 (D:Ar 6 Int):Option Bool:=
 (Lw (eM D) 0).bind fun r=>match r with
 | (.inl _)=>
  some false
 | (.inr _)=>
  some true
def uJ (r:Bool):AV:=.bool r
theorem vl (D:Ar 6 Int) (r:Bool) (h:j2 D=some r):Ev (fun k=>CN k 72 [.agg (bY (cI .i16) 0 D)] []) (fun p=>cp p.2 p.1=uJ r):=by
 unfold j2 at h
 obtain ⟨O,I,h⟩:=ad h
 refine Ev.enter (F:=fun k=>f72 (CN k) k) (fun k=>bH E Tryz.func72 E E E (by decide +kernel) (L6 _ _)) (av<|kx (ps E E ⟨E,E,by decide⟩)<|be<|Rn (hN E hZ) fun af Y=>sN<|sq<|av<|kx (eE Y E E)<|be<|Rn (hN E (hV (a4 0) E hZ)) fun ah J N=>sN<|bl ?_)
 rcases O with _ | _
 ·refine Ev.loop (nJ D) I ⟨J,N⟩ fun x Z aa G=>?_
  obtain ⟨rfl,U⟩:=G
  refine bR (sR ?_)
  exact ct h (bB U bK) E
 refine Ev.loop (nJ D) I ⟨J,N⟩ fun x ab ac G=>?_
 obtain ⟨rfl,_⟩:=G
 refine bE (sN<|av<|be<|Rn (hV (.bool true) E hZ) fun ae X=>sN<|xx ?_)
 exact ct h (bB X bK) E
abbrev e7:=Int×(Ar 6 Int)
abbrev jC:=Unit⊕((Ar 6 Int))
def lJ (G:Ar 6 Int) (D:Nat) (F:Nat) (s:e7) (e:b4) (M:bs):Prop:=a3 e 2 = .loc D 1 0 0/\a3 e 4 = .loc F 1 0 0/\a3 e 8 = .agg (bY (cI .i64) 0 G)/\a3 e 9 = a4 s.1/\M[D]? = some (.live ⟨.box,60,6,[(bY (cI .i16) 0 (Ar.rep 6 0))]⟩)/\M[F]? = some (.live ⟨.box,60,6,[(bY (cI .i16) 0 s.2)]⟩)
def qW (G:Ar 6 Int) (D:Nat) (F:Nat) (r:jC) (x:Ex) (e:b4) (M:bs):Prop:=
  match r with
  | (.inl g)=>x = .ret/\a3 e 2 = .loc D 1 0 0/\a3 e 3 = a4 3/\M[D]? = some (.live ⟨.box,60,6,[(bY (cI .i16) 0 (Ar.rep 6 0))]⟩)
  | (.inr g)=>x = .ext 0/\a3 e 2 = .loc D 1 0 0/\a3 e 4 = .loc F 1 0 0/\M[D]? = some (.live ⟨.box,60,6,[(bY (cI .i16) 0 (Ar.rep 6 0))]⟩)/\M[F]? = some (.live ⟨.box,60,6,[(bY (cI .i16) 0 g)]⟩)
noncomputable def ep (F:Ar 6 Int):e7->Option (e7⊕jC):=fun (J,O)=>
 if (decide (J < 6))=true then
  (jF F J).bind fun D=>
  if (decide (D > 1000))=true then
   some (.inr (.inl ()))
  else
   (jF O J).bind fun G=>
   some (.inl ((IntKind.i64.wrap (J + 1)),(O.set J.toNat (IntKind.i16.wrap D))))
 else
  some (.inr (.inr O))
theorem lL (G:Ar 6 Int) (D:Nat) (F:Nat) (ah:D≠F) (s:e7) (r:e7⊕jC) (h:ep G s=some r) (e:b4) (M:bs) (a1:lJ G D F s e M):Ev (fun k=>(IX (CN k) k (prune [2,4,8,9] e) M).bind fun q=>some q) (bQ (lJ G D F) (qW G D F) r):=by
 obtain ⟨ai,ak⟩:=s
 unfold ep at h
 obtain ⟨aD,aE,aF,aG,N,I⟩:=a1
 generalize J:prune [2,4,8,9] e=bA
 have aH:=bZ J.symm E aD
 have aI:=bZ J.symm E aE
 have aJ:=bZ J.symm E aF
 have ap:=bZ J.symm E aG
 refine av (kx (dp ap E)<|Rn (hV (.loc D 1 0 0) aH (hV (.loc F 1 0 0) aI (hV (.agg (bY (cI .i64) 0 G)) aJ (hV (a4 ai) ap (hN E hZ))))) fun a2 aq ar Z X aa=>sN<|sq ?_)
 rcases aj h with ⟨O,h⟩ | ⟨O,h⟩
 ·obtain ⟨ab,aw,h⟩:=ad h
  refine cT aa O (xx<|sN<|sq<|bl<|av<|kx (bp X)<|kx (Ge (K:=AV.int .i64) (c:=(cI .i64)) (z:=0) (g:=G) Z X aw (fun _=>E))<|be<|be<|Rn (hA aq (hA ar (hN E (hN E (hA Z (hA X hZ)))))) fun a3 aK aL au ac aM aN=>sN<|sq<|av<|kx (bp ac)<|kx (fB E E)<|Rn (hA aK (hA aL (hA au (hA ac (hA aM (hA aN (hN E hZ))))))) fun a5 Y ae aO aP aQ aR af=>sN ?_)
  rcases aj h with ⟨U,h⟩ | ⟨U,h⟩
  ·refine cT af U (av<|kx (gg vv E (dz E))<|kw (dW Y E N E E ⟨E,ble E⟩ E E) fun aS am=>?_)
   have aT:aS[D]? = some (.live ⟨.box,60,6,[(bY (cI .i16) 0 (Ar.rep 6 0))]⟩):=bc am N
   have a6:=a9 am (Ne.symm ah) I
   refine be (Rn (hA Y (hV (a4 3) E hZ)) fun a7 aU aV=>sN<|xx<|sR<|bR<|sR ?_)
   exact lr h ⟨E,aU,aV,aT⟩
  obtain ⟨a8,an,h⟩:=ad h
  refine cF af U (xx<|sN<|Rg<|kx (bp aO)<|kx (bp aP)<|kx (A0 E)<|kx (l9 ae I E E an)<|kw (F0 (c:=(cI .i16)) (z:=0) (g:=ak) (pre:=[]) (post:=[]) (u':=(IntKind.i16.wrap ab)) E E I E E E E (fun _=>E) E E an) fun aW ao=>?_)
  have aX:=a9 ao ah N
  have aY:aW[F]? = some (.live ⟨.box,60,6,[(bY (cI .i16) 0 (ak.set ai.toNat (IntKind.i16.wrap ab)))]⟩):=bc ao I
  refine Rn (hA Y (hA ae (hA aQ (hA aR hZ)))) fun ba aZ a0 ax ay=>bN (sN<|Rg<|kx (cu ay E)<|be<|Rn (hA aZ (hA a0 (hA ax (hN E hZ)))) fun bb az aA aB aC=>?_)
  exact jd h ⟨az,aA,aB,aC,aX,aY⟩
 refine cF aa O (xx<|sE ?_)
 exact md h ⟨E,aq,ar,N,I⟩
noncomputable def hX (D:Ar 6 Int):Option ((Ar 6 Int)×Int):=
 (Lw (ep D) (0,(Ar.rep 6 0))).bind fun r=>match r with
 | (.inl _)=>
  some ((Ar.rep 6 0),3)
 | (.inr J)=>
  some (J,0)
def sC (r:(Ar 6 Int)×Int):AV:=.tup [.agg (bY (cI .i16) 0 r.1),a4 r.2]
theorem tw (I:Ar 6 Int) (r:(Ar 6 Int)×Int) (h:hX I=some r):Ev (fun k=>CN k 71 [.agg (bY (cI .i64) 0 I)] []) (fun p=>cp p.2 p.1=sC r):=by
 unfold hX at h
 refine Ev.enter (F:=fun k=>f71 (CN k) k) (fun k=>bH E Tryz.func71 E E E (by decide +kernel) (MN _ _)) (av<|kx (ps E E ⟨E,E,by decide⟩) (ku (lG vv) fun D ay=>?_))
 have am:D[([]:bs).length]? = some (.live ⟨.box,60,6,[(bY (cI .i16) 0 (Ar.rep 6 0))]⟩):=b2 ay
 refine be (Rn (hN E (hV (.loc ([]:bs).length 1 0 0) E hZ)) fun aQ aG aH=>sN<|av<|kx (gg vv E (dz E)) (ku (lG vv) fun az U=>?_))
 have aA:=bS U am
 have G:=b6 am
 have ac:az[D.length]? = some (.live ⟨.box,60,6,[(bY (cI .i16) 0 (Ar.rep 6 0))]⟩):=b2 U
 refine kw (dW E E ac E E ⟨E,ble E⟩ E E) fun aB X=>?_
 have ae:=a9 X G aA
 have af:aB[D.length]? = some (.live ⟨.box,60,6,[(bY (cI .i16) 0 (Ar.rep 6 0))]⟩):=bc X ac
 obtain ⟨aF,N,h⟩:=ad h
 refine Rn (hA aG (hA aH (hV (.loc D.length 1 0 0) E hZ))) fun aP aC aD aE=>sN (sq<|av<|kx (eE aC E E)<|be<|Rn (hA aD (hA aE (hN E (hV (a4 0) E hZ)))) fun aI ah ai aj ak=>sN<|bl ?_)
 rcases aF with _ | Y
 ·refine Ev.loop (lL I (([]:bs).length) D.length G) N ⟨ah,ai,aj,ak,ae,af⟩ fun x aJ aK J=>?_
  obtain ⟨rfl,an,ao,ap⟩:=J
  refine bR (sR ?_)
  exact ct h (eC (ag:=true) (sz:=6) ⟨by kernel_rfl,by kernel_rfl,by kernel_rfl⟩ (cm (cs':=(bY (cI .i16) 0 (Ar.rep 6 0))) an ap E E (ble E) E) (bB ao bK)) E
 refine Ev.loop (lL I (([]:bs).length) D.length G) N ⟨ah,ai,aj,ak,ae,af⟩ fun x aL aM J=>?_
 obtain ⟨rfl,Z,aq,aa,ab⟩:=J
 refine bE (sN<|av<|kx (cm (cs':=(bY (cI .i16) 0 Y)) aq ab E E (ble E) E)<|kw (dW Z E aa E E ⟨E,ble E⟩ E E) fun ar O=>?_)
 have au:ar[([]:bs).length]? = some (.live ⟨.box,60,6,[(bY (cI .i16) 0 Y)]⟩):=bc O aa
 have aN:=a9 O (Ne.symm G) ab
 refine be (Rn (hV (.loc ([]:bs).length 1 0 0) Z (hV (a4 0) E hZ)) fun aO aw ax=>sN<|xx ?_)
 exact ct h (eC (ag:=true) (sz:=6) ⟨by kernel_rfl,by kernel_rfl,by kernel_rfl⟩ (cm (cs':=(bY (cI .i16) 0 Y)) aw au E E (ble E) E) (bB ax bK)) E
noncomputable def gc (D:Int):Option Bool:=
 if (decide (D>=0))=true then
  some (decide (D<=100000000))
 else
  some false
def xb (r:Bool):AV:=.bool r
theorem oe (G:Int) (r:Bool) (h:gc G=some r):Ev (fun k=>CN k 69 [a4 G] []) (fun p=>cp p.2 p.1=xb r):=by
 unfold gc at h
 refine Ev.enter (F:=fun k=>f69 (CN k) k) (fun k=>bH E Tryz.func69 E E E (by decide +kernel) (Nd _ _)) (av<|be<|Rn (hN E hZ) fun O I=>sN<|av<|kx (bp I)<|kx (q5 E E)<|kx (bp E) ?_)
 rcases aj h with ⟨D,h⟩ | ⟨D,h⟩
 ·refine kx (guT E D (bp I)) (kx (guT E D (yb E E))<|kx (cC E D E)<|be<|Rn (hN E hZ) fun U N=>sN<|xx ?_)
  exact ct h (bB N bK) E
 refine kx (gsT E D) (kx (gsT E D)<|kx (cU E D E)<|be<|Rn (hV (.bool false) E hZ) fun X J=>sN<|xx ?_)
 exact ct h (bB J bK) E
abbrev ib:=Int×Int
abbrev mf:=Int
def pj (D:Half) (s:ib) (e:b4) (M:bs):Prop:=a3 e 3 = a4 s.1/\a3 e 7 = .sl none (D.Notches.map Notch.c)/\a3 e 8 = a4 (D.Notches.length:Int)/\a3 e 9 = a4 s.2
def uX (D:Half) (g:mf) (x:Ex) (e:b4) (M:bs):Prop:=x = .ext 0/\a3 e 3 = a4 g
noncomputable def fT (D:Half):ib->Option (ib⊕mf):=fun (O,J)=>
 if (decide (J < (D.Notches.length:Int)))=true then
  (rd D.Notches J).bind fun F=>
  (fk (IntKind.i64.wrap F.Kind)).bind fun G=>
  some (.inl ((IntKind.i64.wrap (O + G)),(IntKind.i64.wrap (J + 1))))
 else
  some (.inr O)
theorem uO (D:Half) (s:ib) (r:ib⊕mf) (h:fT D s=some r) (e:b4) (M:bs) (aL:pj D s e M):Ev (fun k=>(HG (CN k) k (prune [3,7,8,9] e) M).bind fun q=>some q) (bQ (pj D) (uX D) r):=by
 obtain ⟨aE,aF⟩:=s
 unfold fT at h
 obtain ⟨aK,ab,ac,ae⟩:=aL
 generalize F:prune [3,7,8,9] e=a8
 have af:=bZ F.symm E aK
 have ah:=bZ F.symm E ab
 have J:=bZ F.symm E ac
 have N:=bZ F.symm E ae
 refine av (kx (dp N J)<|Rn (hV (a4 aE) af (hV (.sl none (D.Notches.map Notch.c)) ah (hV (a4 (D.Notches.length:Int)) J (hV (a4 aF) N (hN E hZ))))) fun aM O U ai X Y=>sN<|sq ?_)
 rcases aj h with ⟨G,h⟩ | ⟨G,h⟩
 ·obtain ⟨I,aG,h⟩:=ad h
  refine cT Y G (xx<|sN<|sq<|bl<|av<|kx (kJ U X aG Notch.fl)<|kx (eE E E E) (ku (lG y6) fun ak aH=>?_))
  have Z:ak[M.length]? = some (.live ⟨.box,109,2,[[.int .i8 0,.int .i16 0]]⟩):=b2 aH
  refine kw (dW E E Z E E ⟨E,ble E⟩ E E) fun am aI=>?_
  have aa:am[M.length]? = some (.live ⟨.box,109,2,[[.int .i8 I.Kind,.int .i16 I.At]]⟩):=bc aI Z
  obtain ⟨an,aJ,h⟩:=ad h
  refine Rn (hA O (hV (.loc M.length 1 0 0) E (hA U (hA ai (hA X hZ))))) fun aN ao ap aq ar au=>sN (Rg<|kx (bp ao)<|kx (dQ ap aa E)<|kx (e8 E aa E E E)<|kx (A0 E) (kc (cl (v:=a4 an) E E (b3 E E) E (ke (IntKind.i64.wrap I.Kind) _ aJ) nm)<|kx (cu E E)<|be<|Rn (hN E (hA aq (hA ar (hA au hZ)))) fun aO aw ax ay az=>bN<|sN<|Rg<|kx (cu az E)<|be<|Rn (hA aw (hA ax (hA ay (hN E hZ)))) fun aP aA aB aC aD=>?_))
  exact jd h ⟨aA,aB,aC,aD⟩
 refine cF Y G (xx<|sE ?_)
 exact md h ⟨E,O⟩
noncomputable def l4 (F:Half):Option Int:=
 (Lw (fT F) (0,0)).bind fun D=>
 some D
def wv (r:Int):AV:=a4 r
theorem xu (D:Half) (r:Int) (h:l4 D=some r):Ev (fun k=>CN k 68 [.agg (.bool D.Stock::(.sl none (D.Notches.map Notch.c)::((bY (cI .i8) 0 D.Grain)++([]:List AV))))] []) (fun p=>cp p.2 p.1=wv r):=by
 unfold l4 at h
 obtain ⟨ac,G,h⟩:=ad h
 refine Ev.enter (F:=fun k=>f68 (CN k) k) (fun k=>bH E Tryz.func68 E E E (by decide +kernel) (M2 _ _)) (av<|kx (ps E E ⟨E,E,by decide⟩)<|be<|Rn (hN E hZ) fun ai Z=>sN<|av<|be<|Rn (hA Z (hV (a4 0) E hZ)) fun aj aa ab=>sN<|sq<|av<|kx (cW aa ⟨ble E,blt E⟩ E)<|kx (cr E E)<|kx (i2 Tryz.underlying46 E)<|be<|Rn (hA ab (hN E (hN E (hV (a4 0) E hZ)))) fun ak J N O U=>sN<|bl (Ev.loop (uO D) G ⟨J,N,O,U⟩ fun x ae af I=>?_))
 obtain ⟨rfl,X⟩:=I
 refine bE (sN<|av<|kx (bp X)<|be<|Rn (hN E hZ) fun ah Y=>sN<|xx ?_)
 exact ct h (bB Y bK) E
noncomputable def uA (D:Half) (F:Half) (I:Int):Option Bool:=
 (fM D.Notches F.Notches).bind fun J=>
 if J=true then
  (kT D.Grain F.Grain I).bind fun G=>
  some G
 else
  some false
def Aj (r:Bool):AV:=.bool r
theorem BE (G:Half) (I:Half) (J:Int) (r:Bool) (h:uA G I J=some r):Ev (fun k=>CN k 67 [.agg (.bool G.Stock::(.sl none (G.Notches.map Notch.c)::((bY (cI .i8) 0 G.Grain)++([]:List AV)))),.agg (.bool I.Stock::(.sl none (I.Notches.map Notch.c)::((bY (cI .i8) 0 I.Grain)++([]:List AV)))),a4 J] []) (fun p=>cp p.2 p.1=Aj r):=by
 unfold uA at h
 obtain ⟨ac,U,h⟩:=ad h
 refine Ev.enter (F:=fun k=>f67 (CN k) k) (fun k=>bH E Tryz.func67 E E E (by decide +kernel) (MV _ _)) (av<|kx (ps E E ⟨E,E,by decide⟩)<|kx (ps E E ⟨E,E,by decide⟩)<|be<|Rn (hN E (hN E (hN E hZ))) fun ah ab N O=>sN<|av<|kx (cW N ⟨ble E,blt E⟩ E)<|kx (cr E E)<|kx (cW O ⟨ble E,blt E⟩ E)<|kx (cr E E) (kc (cl (v:=.bool ac) E E (b3 E (b3 E E)) E (tj G.Notches I.Notches _ U) nm)<|kx (bp E) ?_))
 rcases aj h with ⟨D,h⟩ | ⟨D,h⟩
 ·obtain ⟨X,Y,h⟩:=ad h
  refine kx (guT E D (cW N ⟨ble E,blt E⟩ E)) (kx (guT E D (eE E E E))<|kx (guT E D (cW O ⟨ble E,blt E⟩ E))<|kx (guT E D (eE E E E))<|kx (guT E D (bp ab)) (kc (Ev.guT E D (cl (v:=.bool X) E E (b3 E (b3 E (b3 E E))) E (wN G.Grain I.Grain J _ Y) nm))<|kx (cC E D E)<|be<|Rn (hN E hZ) fun ae Z=>sN<|xx ?_))
  exact ct h (bB Z bK) E
 refine kx (gsT E D) (kx (gsT E D)<|kx (gsT E D)<|kx (gsT E D)<|kx (gsT E D) (kc (Ev.gsT E D)<|kx (cU E D E)<|be<|Rn (hV (.bool false) E hZ) fun af aa=>sN<|xx ?_))
 exact ct h (bB aa bK) E
noncomputable def qy (D:Int):Option Bool:=
 if (decide (D>=0))=true then
  some (decide (D<=16))
 else
  some false
def yH (r:Bool):AV:=.bool r
theorem zw (G:Int) (r:Bool) (h:qy G=some r):Ev (fun k=>CN k 66 [a4 G] []) (fun p=>cp p.2 p.1=yH r):=by
 unfold qy at h
 refine Ev.enter (F:=fun k=>f66 (CN k) k) (fun k=>bH E Tryz.func66 E E E (by decide +kernel) (Np _ _)) (av<|be<|Rn (hN E hZ) fun O I=>sN<|av<|kx (bp I)<|kx (q5 E E)<|kx (bp E) ?_)
 rcases aj h with ⟨D,h⟩ | ⟨D,h⟩
 ·refine kx (guT E D (bp I)) (kx (guT E D (yb E E))<|kx (cC E D E)<|be<|Rn (hN E hZ) fun U N=>sN<|xx ?_)
  exact ct h (bB N bK) E
 refine kx (gsT E D) (kx (gsT E D)<|kx (cU E D E)<|be<|Rn (hV (.bool false) E hZ) fun X J=>sN<|xx ?_)
 exact ct h (bB J bK) E
abbrev gw:=Int
abbrev kP:=Unit⊕Unit
def nP (D:Ar 16 Int) (s:gw) (e:b4) (M:bs):Prop:=a3 e 5 = .agg (bY (cI .i8) 0 D)/\a3 e 6 = a4 s
def tC (D:Ar 16 Int) (r:kP) (x:Ex) (e:b4) (M:bs):Prop:=
  match r with
  | (.inl g)=>x = .ret/\a3 e 2 = .bool false
  | (.inr g)=>x = .ext 0/\True
noncomputable def f0 (G:Ar 16 Int):gw->Option (gw⊕kP):=fun D=>
 if (decide (D < 16))=true then
  (jF G D).bind fun F=>
  if (decide (F < (-3)))=true then
   some (.inr (.inl ()))
  else
   if (decide (F > 3))=true then
    some (.inr (.inl ()))
   else
    some (.inl (IntKind.i64.wrap (D + 1)))
 else
  some (.inr (.inr ()))
theorem nU (F:Ar 16 Int) (s:gw) (r:gw⊕kP) (h:f0 F s=some r) (e:b4) (M:bs) (J:nP F s e M):Ev (fun k=>(I1 (CN k) k (prune [5,6] e) M).bind fun q=>some q) (bQ (nP F) (tC F) r):=by
 revert h J
 revert s
 intro an h J
 unfold f0 at h
 obtain ⟨ap,aq⟩:=J
 generalize N:prune [5,6] e=aG
 have ar:=bZ N.symm E ap
 have O:=bZ N.symm E aq
 refine av (kx (dp O E)<|Rn (hV (.agg (bY (cI .i8) 0 F)) ar (hV (a4 an) O (hN E hZ))) fun aw U X Y=>sN<|sq ?_)
 rcases aj h with ⟨G,h⟩ | ⟨G,h⟩
 ·obtain ⟨ax,ao,h⟩:=ad h
  refine cT Y G (xx<|sN<|sq<|bl<|av<|kx (Ge (K:=AV.int .i8) (c:=(cI .i8)) (z:=0) (g:=F) U X ao (fun _=>E))<|be<|Rn (hN E (hA U (hA X hZ))) fun ay Z aa ab=>sN<|av<|kx (bp Z)<|kx (dp E E)<|kx (bp E) ?_)
  rcases aj h with ⟨D,h⟩ | ⟨D,h⟩
  ·refine kx (gsF E D) (kx (gsF E D)<|kx (cC E D E)<|Rn (hA aa (hA ab (hV (.bool true) E hZ))) fun az aA aB au=>sN<|cT au E<|av<|be<|Rn (hV (.bool false) E hZ) fun aC ae=>sN<|xx<|bR<|sR ?_)
   exact lr h ⟨E,ae⟩
  refine kx (guF E D (bp Z)) (kx (guF E D (fB E E))<|kx (cU E D E)<|Rn (hA aa (hA ab (hN E hZ))) fun aD af ah ac=>sN ?_)
  rcases aj h with ⟨I,h⟩ | ⟨I,h⟩
  ·refine cT ac I (av<|be<|Rn (hV (.bool false) E hZ) fun aE ai=>sN<|xx<|bR<|sR ?_)
   exact lr h ⟨E,ai⟩
  refine cF ac I (xx<|bN<|sN<|Rg<|kx (cu ah E)<|be<|Rn (hA af (hN E hZ)) fun aF ak am=>?_)
  exact jd h ⟨ak,am⟩
 refine cF Y G (xx<|sE ?_)
 exact md h ⟨E,trivial⟩
noncomputable def iy (D:Ar 16 Int):Option Bool:=
 (Lw (f0 D) 0).bind fun r=>match r with
 | (.inl _)=>
  some false
 | (.inr _)=>
  some true
def uU (r:Bool):AV:=.bool r
theorem qe (D:Ar 16 Int) (r:Bool) (h:iy D=some r):Ev (fun k=>CN k 60 [.agg (bY (cI .i8) 0 D)] []) (fun p=>cp p.2 p.1=uU r):=by
 unfold iy at h
 obtain ⟨O,I,h⟩:=ad h
 refine Ev.enter (F:=fun k=>f60 (CN k) k) (fun k=>bH E Tryz.func60 E E E (by decide +kernel) (M5 _ _)) (av<|kx (ps E E ⟨E,E,by decide⟩)<|be<|Rn (hN E hZ) fun af Y=>sN<|sq<|av<|kx (eE Y E E)<|be<|Rn (hN E (hV (a4 0) E hZ)) fun ah J N=>sN<|bl ?_)
 rcases O with _ | _
 ·refine Ev.loop (nU D) I ⟨J,N⟩ fun x Z aa G=>?_
  obtain ⟨rfl,U⟩:=G
  refine bR (sR ?_)
  exact ct h (bB U bK) E
 refine Ev.loop (nU D) I ⟨J,N⟩ fun x ab ac G=>?_
 obtain ⟨rfl,_⟩:=G
 refine bE (sN<|av<|be<|Rn (hV (.bool true) E hZ) fun ae X=>sN<|xx ?_)
 exact ct h (bB X bK) E
def lC (D:Half) (g:Bool) (q:oZ):Prop:=q.1 = .nrm/\a3 q.2.1 1 = .pt none (.bool D.Stock::(.sl none (D.Notches.map Notch.c)::((bY (cI .i8) 0 D.Grain)++([]:List AV))))/\a3 q.2.1 14 = .bool g
def jf (D:Half) (G:Int) (I:Notch) (F:Nat) (g:Bool) (q:oZ):Prop:=q.1 = .nrm/\a3 q.2.1 1 = .pt none (.bool D.Stock::(.sl none (D.Notches.map Notch.c)::((bY (cI .i8) 0 D.Grain)++([]:List AV))))/\a3 q.2.1 3 = a4 G/\a3 q.2.1 4 = .loc F 1 0 0/\a3 q.2.1 16 = .sl none (D.Notches.map Notch.c)/\a3 q.2.1 17 = a4 (D.Notches.length:Int)/\a3 q.2.1 18 = a4 G/\a3 q.2.1 37 = .bool g/\q.2.2[F]? = some (.live ⟨.box,109,2,[[.int .i8 I.Kind,.int .i16 I.At]]⟩)
abbrev gW:=Int
abbrev ly:=Unit⊕Unit
def oo (D:Half) (s:gW) (e:b4) (M:bs):Prop:=a3 e 1 = .pt none (.bool D.Stock::(.sl none (D.Notches.map Notch.c)::((bY (cI .i8) 0 D.Grain)++([]:List AV))))/\a3 e 16 = .sl none (D.Notches.map Notch.c)/\a3 e 17 = a4 (D.Notches.length:Int)/\a3 e 18 = a4 s
def tX (D:Half) (r:ly) (x:Ex) (e:b4) (M:bs):Prop:=
  match r with
  | (.inl g)=>x = .ret/\a3 e 2 = .bool false
  | (.inr g)=>x = .ext 0/\True
noncomputable def co (G:Half):gW->Option (gW⊕ly):=fun D=>
 if (decide (D < (G.Notches.length:Int)))=true then
  (rd G.Notches D).bind fun F=>
  ((oM (IntKind.i64.wrap F.Kind)).bind fun U=>
  if U=true then
   if (decide (F.At < 0))=true then
    some true
   else
    (jj F).bind fun X=>
    some (decide (X > 200))
  else
   some true).bind fun I=>
  if I=true then
   some (.inr (.inl ()))
  else
   if (decide (D > 0))=true then
    (rd G.Notches (IntKind.i64.wrap (D - 1))).bind fun J=>
    (jj J).bind fun N=>
    if (decide ((IntKind.i64.wrap F.At)<=N))=true then
     some (.inr (.inl ()))
    else
     (rd G.Notches (IntKind.i64.wrap (D - 1))).bind fun O=>
     if (decide (F.Kind > O.Kind))=true then
      some (.inr (.inl ()))
     else
      some (.inl (IntKind.i64.wrap (D + 1)))
   else
    some (.inl (IntKind.i64.wrap (D + 1)))
 else
  some (.inr (.inr ()))
theorem ov (F:Half) (s:gW) (r:gW⊕ly) (h:co F s=some r) (e:b4) (M:bs) (aw:oo F s e M):Ev (fun k=>(HK (CN k) k (prune [1,16,17,18] e) M).bind fun q=>some q) (bQ (oo F) (tX F) r):=by
 revert h aw
 revert s
 intro N h aw
 unfold co at h
 obtain ⟨a6,a7,a8,a9⟩:=aw
 generalize Z:prune [1,16,17,18] e=df
 have ba:=bZ Z.symm E a6
 have aN:=bZ Z.symm E a7
 have aB:=bZ Z.symm E a8
 have aC:=bZ Z.symm E a9
 refine av (kx (dp aC aB)<|Rn (hV (.pt none (.bool F.Stock::(.sl none (F.Notches.map Notch.c)::((bY (cI .i8) 0 F.Grain)++([]:List AV))))) ba (hV (.sl none (F.Notches.map Notch.c)) aN (hV (a4 (F.Notches.length:Int)) aB (hV (a4 N) aC (hN E hZ))))) fun ce aO aD bD ac aE=>sN<|sq ?_)
 rcases aj h with ⟨ap,h⟩ | ⟨ap,h⟩
 ·obtain ⟨O,aL,h⟩:=ad h
  refine cT aE ap (xx<|sN<|sq<|bl<|av<|kx (bp ac)<|kx (kJ aD ac aL Notch.fl)<|kx (eE E E E) (ku (lG y6) fun bE aM=>?_))
  have aF:bE[M.length]? = some (.live ⟨.box,109,2,[[.int .i8 0,.int .i16 0]]⟩):=b2 aM
  refine be (kw (dW E E aF E E ⟨E,ble E⟩ E E) fun bF aG=>?_)
  have U:bF[M.length]? = some (.live ⟨.box,109,2,[[.int .i8 O.Kind,.int .i16 O.At]]⟩):=bc aG aF
  obtain ⟨ax,am,h⟩:=ad h
  refine Rn (hA aO (hN E (hV (.loc M.length 1 0 0) E (hA aD (hA bD (hA ac hZ)))))) fun cf ae af X ah ai ak=>sN (sq<|sq ?_)
  refine Ev.cut (Q1:=jf F N O M.length ax) (by
      have h:=am
      obtain ⟨bG,bb,h⟩:=ad h
      refine Rg (kx (dQ X U E)<|kx (e8 E U E E E)<|kx (A0 E) (kc (cl (v:=.bool bG) E E (b3 E E) E (zf (IntKind.i64.wrap O.Kind) _ bb) nm)<|kx (eZ E)<|kx (bp E) ?_))
      rcases aj h with ⟨I,h⟩ | ⟨I,h⟩
      ·refine kx (guF E (nt I) (dQ X U E)) (kx (guF E (nt I) (e8 E U E E E))<|kx (guF E (nt I) (dp E E))<|kx (cU E (nt I) E)<|kx (bp E) ?_)
       rcases aj h with ⟨J,h⟩ | ⟨J,h⟩
       ·refine kx (gsF E J) (kc (Ev.gsF E J)<|kx (gsF E J)<|kx (cC E J E)<|Rn (hA ae (hA af (hA X (hA ah (hA ai (hA ak (hV (.bool true) E hZ))))))) fun cg bH bI bJ bK bL bM bO=>?_)
        obtain rfl:=si h
        exact kd (show jf F N O M.length _ _ from ⟨E,bH,bI,bJ,bK,bL,bM,bO,U⟩)
       obtain ⟨bP,bd,h⟩:=ad h
       refine kx (guF E J (cm X U E E (ble E) E)) (kc (Ev.guF E J (cl (v:=a4 bP) E E (b3 E E) E (qL O _ bd) nm))<|kx (guF E J (fB E E))<|kx (cU E J E)<|Rn (hA ae (hA af (hA X (hA ah (hA ai (hA ak (hN E hZ))))))) fun ch bS bw bx bz bA bB bC=>?_)
       obtain rfl:=si h
       exact kd (show jf F N O M.length _ _ from ⟨E,bS,bw,bx,bz,bA,bB,bC,U⟩)
      refine kx (gsF E (nt I)) (kx (gsF E (nt I))<|kx (gsF E (nt I))<|kx (cC E (nt I) E)<|be<|kx (gsF E E) (kc (Ev.gsF E E)<|kx (gsF E E)<|kx (cC E E E)<|Rn (hA ae (hA af (hA X (hA ah (hA ai (hA ak (hV (.bool true) E hZ))))))) fun ci bf bg bh bi bj bk bm=>?_))
      obtain rfl:=si h
      exact kd (show jf F N O M.length _ _ from ⟨E,bf,bg,bh,bi,bj,bk,bm,U⟩)) ?_
  revert h am
  revert ax
  intro bT am h
  intro x bU bV aH
  obtain ⟨rfl,Y,aq,ay,ar,au,ab,az,aa⟩:=aH
  refine sN ?_
  rcases aj h with ⟨an,h⟩ | ⟨an,h⟩
  ·refine cT az an (av<|be<|Rn (hV (.bool false) E hZ) fun bW bn=>sN<|xx<|sR<|bR<|sR ?_)
   exact lr h ⟨E,bn⟩
  refine cF az an (xx<|sN<|sq<|Rd<|kf (bp aq)<|kf (fB E E)<|kf (bp E) ?_)
  rcases aj h with ⟨D,h⟩ | ⟨D,h⟩
  ·obtain ⟨bo,aI,h⟩:=ad h
   obtain ⟨bq,aJ,h⟩:=ad h
   refine kf (guT E D (dQ ay aa E)) (kf (guT E D (e8 E aa E E E))<|kf (guT E D (A0 E))<|kf (guT E D (cW Y ⟨ble E,blt E⟩ E))<|kf (guT E D (cr E E))<|kf (guT E D (bp aq))<|kf (guT E D (lD E E))<|kf (guT E D (kJ E E aI Notch.fl))<|kf (guT E D (eE E E E))<|fc (Ev.guT E D (cl (v:=a4 bq) E E (b3 E E) E (qL bo _ aJ) nm))<|kf (guT E D (yb E E))<|kf (guT E D (bp E)) ?_)
   rcases aj h with ⟨G,h⟩ | ⟨G,h⟩
   ·refine kf (gsF E G) (kf (gsF E G)<|kf (gsF E G)<|kf (gsF E G)<|kf (gsF E G)<|kf (gsF E G)<|kf (gsF E G)<|kf (gsF E G)<|kf (gsF E G)<|kf (gsF E G)<|kf (guT E D (cC E G E))<|kf (cC E D E)<|fZ<|Rn (hV (.pt none (.bool F.Stock::(.sl none (F.Notches.map Notch.c)::((bY (cI .i8) 0 F.Grain)++([]:List AV))))) Y (hV (.sl none (F.Notches.map Notch.c)) ar (hV (a4 (F.Notches.length:Int)) au (hV (a4 N) ab (hV (.bool true) E hZ))))) fun bX b0 b1 b5 b6 br=>sN<|cT br E<|av<|be<|Rn (hV (.bool false) E hZ) fun b7 bt=>sN<|xx<|bR<|sR ?_)
    exact lr h ⟨E,bt⟩
   obtain ⟨b8,aK,h⟩:=ad h
   refine kf (guF E G (dQ ay aa E)) (kf (guF E G (e8 E aa E E E))<|kf (guF E G (cW Y ⟨ble E,blt E⟩ E))<|kf (guF E G (cr E E))<|kf (guF E G (bp aq))<|kf (guF E G (lD E E))<|kf (guF E G (kJ E E aK Notch.fl))<|kf (guF E G (cW E ⟨ble E,blt E⟩ E))<|kf (guF E G (cr E E))<|kf (guF E G (fB E E))<|kf (guT E D (cU E G E))<|kf (cC E D E)<|fZ<|Rn (hV (.pt none (.bool F.Stock::(.sl none (F.Notches.map Notch.c)::((bY (cI .i8) 0 F.Grain)++([]:List AV))))) Y (hV (.sl none (F.Notches.map Notch.c)) ar (hV (a4 (F.Notches.length:Int)) au (hV (a4 N) ab (hN E hZ))))) fun b9 bu bv aP aQ aA=>sN ?_)
   rcases aj h with ⟨ao,h⟩ | ⟨ao,h⟩
   ·refine cT aA ao (av<|be<|Rn (hV (.bool false) E hZ) fun ca aR=>sN<|xx<|bR<|sR ?_)
    exact lr h ⟨E,aR⟩
   refine cF aA ao (xx<|bN<|sN<|Rg<|kx (cu aQ E)<|be<|Rn (hA bu (hA bv (hA aP (hN E hZ)))) fun cb aS aT aU aV=>?_)
   exact jd h ⟨aS,aT,aU,aV⟩
  refine kf (gsT E D) (kf (gsT E D)<|kf (gsT E D)<|kf (gsT E D)<|kf (gsT E D)<|kf (gsT E D)<|kf (gsT E D)<|kf (gsT E D)<|kf (gsT E D)<|fc (Ev.gsT E D)<|kf (gsT E D)<|kf (gsT E D)<|kf (gsU E)<|kf (gsU E)<|kf (gsU E)<|kf (gsU E)<|kf (gsU E)<|kf (gsU E)<|kf (gsU E)<|kf (gsU E)<|kf (gsU E)<|kf (gsU E)<|kf (gsT E D)<|kf (cU E D E)<|fZ<|Rn (hV (.pt none (.bool F.Stock::(.sl none (F.Notches.map Notch.c)::((bY (cI .i8) 0 F.Grain)++([]:List AV))))) Y (hV (.sl none (F.Notches.map Notch.c)) ar (hV (a4 (F.Notches.length:Int)) au (hV (a4 N) ab (hV (.bool false) E hZ))))) fun cc aW aX aY aZ a0=>sN<|cF a0 E<|xx<|bN<|sN<|Rg<|kx (cu aZ E)<|be<|Rn (hA aW (hA aX (hA aY (hN E hZ)))) fun cd a1 a2 a3 a5=>?_)
  exact jd h ⟨a1,a2,a3,a5⟩
 refine cF aE ap (xx<|sE ?_)
 exact md h ⟨E,trivial⟩
noncomputable def gp (D:Half):Option Bool:=
 (if (decide ((D.Notches.length:Int) > 60))=true then
  some true
 else
  (iy D.Grain).bind fun F=>
  some (!F)).bind fun G=>
 if G=true then
  some false
 else
  (Lw (co D) 0).bind fun r=>match r with
  | (.inl _)=>
   some false
  | (.inr _)=>
   some true
def vP (r:Bool):AV:=.bool r
theorem kt (D:Half) (r:Bool) (h:gp D=some r):Ev (fun k=>CN k 65 [.agg (.bool D.Stock::(.sl none (D.Notches.map Notch.c)::((bY (cI .i8) 0 D.Grain)++([]:List AV))))] []) (fun p=>cp p.2 p.1=vP r):=by
 unfold gp at h
 obtain ⟨X,J,h⟩:=ad h
 refine Ev.enter (F:=fun k=>f65 (CN k) k) (fun k=>bH E Tryz.func65 E E E (by decide +kernel) (Mz _ _)) (av<|kx (ps E E ⟨E,E,by decide⟩)<|be<|Rn (hN E hZ) fun aH I=>sN<|sq<|sq ?_)
 refine Ev.cut (Q1:=lC D X) (by
     have h:=J
     refine Rg (kx (cW I ⟨ble E,blt E⟩ E)<|kx (cr E E)<|kx (i2 Tryz.underlying46 E)<|kx (fB E E)<|kx (bp E) ?_)
     rcases aj h with ⟨G,h⟩ | ⟨G,h⟩
     ·refine kx (gsF E G) (kx (gsF E G) (kc (Ev.gsF E G)<|kx (gsF E G)<|kx (cC E G E)<|Rn (hA I (hV (.bool true) E hZ)) fun aI ar au=>?_))
      obtain rfl:=si h
      exact kd (show lC D _ _ from ⟨E,ar,au⟩)
     obtain ⟨ap,aq,h⟩:=ad h
     refine kx (guF E G (cW I ⟨ble E,blt E⟩ E)) (kx (guF E G (eE E E E)) (kc (Ev.guF E G (cl (v:=.bool ap) E E (b3 E E) E (qe D.Grain _ aq) nm))<|kx (guF E G (eZ E))<|kx (cU E G E)<|Rn (hA I (hN E hZ)) fun aB af ah=>?_))
     obtain rfl:=si h
     exact kd (show lC D _ _ from ⟨E,af,ah⟩)) ?_
 revert h J
 revert X
 intro aC J h
 intro x aD aE ak
 obtain ⟨rfl,Y,Z⟩:=ak
 refine sN ?_
 rcases aj h with ⟨O,h⟩ | ⟨O,h⟩
 ·refine cT Z O (av<|be<|Rn (hV (.bool false) E hZ) fun aF ai=>sN<|xx<|sR ?_)
  exact ct h (bB ai bK) E
 obtain ⟨am,U,h⟩:=ad h
 refine cF Z O (xx<|sN<|sq<|av<|kx (cW Y ⟨ble E,blt E⟩ E)<|kx (cr E E)<|kx (i2 Tryz.underlying46 E)<|be<|Rn (hV (.pt none (.bool D.Stock::(.sl none (D.Notches.map Notch.c)::((bY (cI .i8) 0 D.Grain)++([]:List AV))))) Y (hN E (hN E (hV (a4 0) E hZ)))) fun aG aa ab ac ae=>sN<|bl ?_)
 rcases am with _ | _
 ·refine Ev.loop (ov D) U ⟨aa,ab,ac,ae⟩ fun x aw ax N=>?_
  obtain ⟨rfl,an⟩:=N
  refine bR (sR ?_)
  exact ct h (bB an bK) E
 refine Ev.loop (ov D) U ⟨aa,ab,ac,ae⟩ fun x ay az N=>?_
 obtain ⟨rfl,_⟩:=N
 refine bE (sN<|av<|be<|Rn (hV (.bool true) E hZ) fun aA ao=>sN<|xx ?_)
 exact ct h (bB ao bK) E
abbrev g5:=Int×Int×(Ar 16 Int)
abbrev lE:=Int×(Ar 16 Int)
def oq (D:Nat) (F:Nat) (s:g5) (e:b4) (M:bs):Prop:=a3 e 0 = .int .u32 s.1/\a3 e 2 = .loc D 1 0 0/\a3 e 4 = .loc F 1 0 0/\a3 e 5 = a4 s.2.1/\M[D]? = some (.live ⟨.box,49,16,[(bY (cI .i8) 0 (Ar.rep 16 0))]⟩)/\M[F]? = some (.live ⟨.box,49,16,[(bY (cI .i8) 0 s.2.2)]⟩)
def tW (D:Nat) (F:Nat) (g:lE) (x:Ex) (e:b4) (M:bs):Prop:=x = .ext 0/\a3 e 0 = .int .u32 g.1/\a3 e 2 = .loc D 1 0 0/\a3 e 4 = .loc F 1 0 0/\M[D]? = some (.live ⟨.box,49,16,[(bY (cI .i8) 0 (Ar.rep 16 0))]⟩)/\M[F]? = some (.live ⟨.box,49,16,[(bY (cI .i8) 0 g.2)]⟩)
noncomputable def gI:g5->Option (g5⊕lE):=fun (O,J,Y)=>
 if (decide (J < 16))=true then
  (quo .u32 (IntKind.u32.wrap ((IntKind.u32.wrap (1664525 * O)) + 1013904223)) 65536).bind fun D=>
  (rem .u32 D 7).bind fun F=>
  (jF Y J).bind fun G=>
  some (.inl ((IntKind.u32.wrap ((IntKind.u32.wrap (1664525 * O)) + 1013904223)),(IntKind.i64.wrap (J + 1)),(Y.set J.toNat (IntKind.i8.wrap ((IntKind.i8.wrap F) - 3)))))
 else
  some (.inr (O,Y))
theorem tJ (F:Nat) (D:Nat) (an:F≠D) (s:g5) (r:g5⊕lE) (h:gI s=some r) (e:b4) (M:bs) (aN:oq F D s e M):Ev (fun k=>(If (CN k) k (prune [0,2,4,5] e) M).bind fun q=>some q) (bQ (oq F D) (tW F D) r):=by
 obtain ⟨ao,O,U⟩:=s
 unfold gI at h
 obtain ⟨ar,au,aw,ax,Z,I⟩:=aN
 generalize G:prune [0,2,4,5] e=bd
 have ay:=bZ G.symm E ar
 have az:=bZ G.symm E au
 have aA:=bZ G.symm E aw
 have aa:=bZ G.symm E ax
 refine sq (av<|kx (bp aa)<|kx (dp E E)<|Rn (hV (.int .u32 ao) ay (hV (.loc F 1 0 0) az (hV (.loc D 1 0 0) aA (hV (a4 O) aa (hN E hZ))))) fun aO ab ac ae aB af=>sN ?_)
 rcases aj h with ⟨J,h⟩ | ⟨J,h⟩
 ·obtain ⟨aP,ap,h⟩:=ad h
  obtain ⟨ah,aq,h⟩:=ad h
  obtain ⟨aQ,X,h⟩:=ad h
  refine cT af J (xx<|sN<|sq<|bl<|av<|kx (bp ab)<|kx (Cn E E)<|kx (cu E E)<|be<|Rn (hN E (hA ac (hA ae (hA aB hZ)))) fun aR ai aC ak N=>sN<|Rg<|kx (bp N)<|kx (bp ai)<|kx (Oi E E ap)<|kx (Bx E E aq)<|kx (A0 E)<|kx (lD E E)<|kx (l9 ak I E E X)<|kw (F0 (c:=(cI .i8)) (z:=0) (g:=U) (pre:=[]) (post:=[]) (u':=(IntKind.i8.wrap ((IntKind.i8.wrap ah) - 3))) E E I E E E E (fun _=>E) E E X) fun aD Y=>?_)
  have aE:=a9 Y an Z
  have aF:aD[D]? = some (.live ⟨.box,49,16,[(bY (cI .i8) 0 (U.set O.toNat (IntKind.i8.wrap ((IntKind.i8.wrap ah) - 3))))]⟩):=bc Y I
  refine Rn (hA ai (hA aC (hA ak (hA N hZ)))) fun aS aG aH aI aJ=>bN (sN<|Rg<|kx (bp aJ)<|kx (cu E E)<|be<|Rn (hA aG (hA aH (hA aI (hN E hZ)))) fun aT aK am aL aM=>?_)
  exact jd h ⟨aK,am,aL,aM,aE,aF⟩
 refine cF af J (xx<|sE ?_)
 exact md h ⟨E,ab,ac,ae,Z,I⟩
noncomputable def kA (D:Int):Option ((Ar 16 Int)×Int):=
 (Lw (gI) (D,0,(Ar.rep 16 0))).bind fun (J,O)=>
 some (O,J)
def vU (r:(Ar 16 Int)×Int):AV:=.tup [.agg (bY (cI .i8) 0 r.1),.int .u32 r.2]
theorem wM (O:Int) (r:(Ar 16 Int)×Int) (h:kA O=some r):Ev (fun k=>CN k 64 [.int .u32 O] []) (fun p=>cp p.2 p.1=vU r):=by
 unfold kA at h
 refine Ev.enter (F:=fun k=>f64 (CN k) k) (fun k=>bH E Tryz.func64 E E E (by decide +kernel) (Na _ _)) (av (ku (lG xY) fun D aA=>?_))
 have ab:D[([]:bs).length]? = some (.live ⟨.box,49,16,[(bY (cI .i8) 0 (Ar.rep 16 0))]⟩):=b2 aA
 refine be (Rn (hN E (hV (.loc ([]:bs).length 1 0 0) E hZ)) fun aM aD aE=>sN<|av<|kx (gg xY E (dz E)) (ku (lG xY) fun aB N=>?_))
 have aC:=bS N ab
 have G:=b6 ab
 have Z:aB[D.length]? = some (.live ⟨.box,49,16,[(bY (cI .i8) 0 (Ar.rep 16 0))]⟩):=b2 N
 refine kw (dW E E Z E E ⟨E,ble E⟩ E E) fun ac U=>?_
 have ae:=a9 U G aC
 have af:ac[D.length]? = some (.live ⟨.box,49,16,[(bY (cI .i8) 0 (Ar.rep 16 0))]⟩):=bc U Z
 obtain ⟨⟨aH,I⟩,ai,h⟩:=ad h
 refine Rn (hA aD (hA aE (hV (.loc D.length 1 0 0) E hZ))) fun aI ah aj ak=>sN (sq<|av<|be<|Rn (hA ah (hA aj (hA ak (hV (a4 0) E hZ)))) fun aJ am an ao ap=>sN<|bl (Ev.loop (tJ (([]:bs).length) D.length G) ai ⟨am,an,ao,ap,ae,af⟩ fun x aK aL au=>?_))
 obtain ⟨rfl,aq,aa,ar,X,Y⟩:=au
 refine bE (sN<|av<|kx (cm (cs':=(bY (cI .i8) 0 I)) ar Y E E (ble E) E)<|kx (bp aq)<|kw (dW aa E X E E ⟨E,ble E⟩ E E) fun aw J=>?_)
 have ax:aw[([]:bs).length]? = some (.live ⟨.box,49,16,[(bY (cI .i8) 0 I)]⟩):=bc J X
 have aF:=a9 J (Ne.symm G) Y
 refine be (Rn (hV (.loc ([]:bs).length 1 0 0) aa (hN E hZ)) fun aG ay az=>sN<|xx ?_)
 exact ct h (eC (ag:=true) (sz:=16) ⟨by kernel_rfl,by kernel_rfl,by kernel_rfl⟩ (cm (cs':=(bY (cI .i8) 0 I)) ay ax E E (ble E) E) (bB az bK)) E
abbrev hS:=Int×(Ar 16 Int)
abbrev mn:=(Ar 16 Int)
def pb (D:Nat) (F:Nat) (s:hS) (e:b4) (M:bs):Prop:=a3 e 1 = .loc D 1 0 0/\a3 e 2 = .loc F 1 0 0/\a3 e 4 = a4 s.1/\M[D]? = some (.live ⟨.box,49,16,[(bY (cI .i8) 0 s.2)]⟩)/\M[F]? = some (.live ⟨.box,49,16,[(bY (cI .i8) 0 (Ar.rep 16 0))]⟩)
def uH (D:Nat) (F:Nat) (g:mn) (x:Ex) (e:b4) (M:bs):Prop:=x = .ext 0/\a3 e 1 = .loc D 1 0 0/\a3 e 2 = .loc F 1 0 0/\M[D]? = some (.live ⟨.box,49,16,[(bY (cI .i8) 0 g)]⟩)/\M[F]? = some (.live ⟨.box,49,16,[(bY (cI .i8) 0 (Ar.rep 16 0))]⟩)
noncomputable def js:hS->Option (hS⊕mn):=fun (J,O)=>
 if (decide (J < 16))=true then
  (jF O J).bind fun D=>
  (jF O J).bind fun F=>
  some (.inl ((IntKind.i64.wrap (J + 1)),(O.set J.toNat (IntKind.i8.wrap (0 - D)))))
 else
  some (.inr O)
theorem uP (D:Nat) (G:Nat) (am:D≠G) (s:hS) (r:hS⊕mn) (h:js s=some r) (e:b4) (M:bs) (aG:pb D G s e M):Ev (fun k=>(Jf (CN k) k (prune [1,2,4] e) M).bind fun q=>some q) (bQ (pb D G) (uH D G) r):=by
 obtain ⟨X,I⟩:=s
 unfold js at h
 obtain ⟨an,ao,ap,F,ab⟩:=aG
 generalize J:prune [1,2,4] e=aT
 have aq:=bZ J.symm E an
 have ar:=bZ J.symm E ao
 have ac:=bZ J.symm E ap
 refine av (kx (dp ac E)<|Rn (hV (.loc D 1 0 0) aq (hV (.loc G 1 0 0) ar (hV (a4 X) ac (hN E hZ)))) fun aI ae af ah ai=>sN<|sq ?_)
 rcases aj h with ⟨N,h⟩ | ⟨N,h⟩
 ·obtain ⟨ak,Y,h⟩:=ad h
  obtain ⟨aJ,Z,h⟩:=ad h
  refine cT ai N (xx<|sN<|sq<|bl<|av<|kx (bp ah)<|be<|Rn (hA ae (hA af (hN E (hA ah hZ)))) fun aK O au U aw=>sN<|Rg<|kx (bp U)<|kx (bp U)<|kx (l9 O F E E Y)<|kx (N0 (K:=AV.int .i8) (c:=(cI .i8)) (z:=0) (g:=I) (pre:=[]) (post:=[]) E F E E E E (fun _=>E) Y)<|kx (OH E)<|kx (l9 O F E E Z)<|kw (F0 (c:=(cI .i8)) (z:=0) (g:=I) (pre:=[]) (post:=[]) (u':=(IntKind.i8.wrap (0 - ak))) E E F E E E E (fun _=>E) E E Z) fun ax aa=>?_)
  have ay:ax[D]? = some (.live ⟨.box,49,16,[(bY (cI .i8) 0 (I.set X.toNat (IntKind.i8.wrap (0 - ak))))]⟩):=bc aa F
  have az:=a9 aa (Ne.symm am) ab
  refine Rn (hA O (hA au (hA aw hZ))) fun aH aA aB aC=>bN (sN<|Rg<|kx (cu aC E)<|be<|Rn (hA aA (hA aB (hN E hZ))) fun aL aD aE aF=>?_)
  exact jd h ⟨aD,aE,aF,ay,az⟩
 refine cF ai N (xx<|sE ?_)
 exact md h ⟨E,ae,af,F,ab⟩
noncomputable def lK (F:Ar 16 Int):Option ((Ar 16 Int)):=
 (Lw (js) (0,F)).bind fun D=>
 some D
def wl (r:(Ar 16 Int)):AV:=.agg (bY (cI .i8) 0 r)
theorem xF (I:Ar 16 Int) (r:(Ar 16 Int)) (h:lK I=some r):Ev (fun k=>CN k 63 [.agg (bY (cI .i8) 0 I)] []) (fun p=>cp p.2 p.1=wl r):=by
 unfold lK at h
 refine Ev.enter (F:=fun k=>f63 (CN k) k) (fun k=>bH E Tryz.func63 E E E (by decide +kernel) (Nc _ _)) (av (ku (NL E E ⟨E,E,by decide⟩) fun D ah=>?_))
 have Z:D[([]:bs).length]? = some (.live ⟨.box,49,16,[(bY (cI .i8) 0 I)]⟩):=b2 ah
 refine ku (lG xY) fun aa N=>?_
 have ar:=bS N Z
 have O:=b6 Z
 have ai:aa[D.length]? = some (.live ⟨.box,49,16,[(bY (cI .i8) 0 (Ar.rep 16 0))]⟩):=b2 N
 obtain ⟨G,ae,h⟩:=ad h
 refine Rn (hV (.loc ([]:bs).length 1 0 0) E (hV (.loc D.length 1 0 0) E hZ)) fun au aj ak=>sN (sq<|av<|be<|Rn (hA aj (hA ak (hV (a4 0) E hZ))) fun aw am an ao=>sN<|bl (Ev.loop (uP (([]:bs).length) D.length O) ae ⟨am,an,ao,ar,ai⟩ fun x ax ay af=>?_))
 obtain ⟨rfl,ap,U,X,Y⟩:=af
 refine bE (sN<|av<|kx (cm (cs':=(bY (cI .i8) 0 G)) ap X E E (ble E) E)<|kw (dW U E Y E E ⟨E,ble E⟩ E E) fun aq J=>?_)
 have az:=a9 J O X
 have ab:aq[D.length]? = some (.live ⟨.box,49,16,[(bY (cI .i8) 0 G)]⟩):=bc J Y
 refine Rn (hV (.loc D.length 1 0 0) U hZ) fun aA ac=>sN (xx ?_)
 exact ct h (eC (ag:=true) (sz:=16) ⟨by kernel_rfl,by kernel_rfl,by kernel_rfl⟩ (cm (cs':=(bY (cI .i8) 0 G)) ac ab E E (ble E) E) bK) E
noncomputable def fW (D:List Notch):Option ((List Notch)):=
 (qB 4 ([]:List Notch) D).bind fun F=>
 some F
def sH (r:(List Notch)):AV:=.sl (some 109) (r.map Notch.c)
theorem tm (D:List Notch) (r:(List Notch)) (h:fW D=some r):Ev (fun k=>CN k 62 [.sl none (D.map Notch.c)] []) (fun p=>cp p.2 p.1=sH r):=by
  refine Ev.prim E ?_
  by_cases hn:D=[]
  · subst hn
    have e:r=[]:=by simpa [fW,qB] using h.symm
    subst e
    exact Ev.nilBoth (by kernel_rfl) (by kernel_rfl)
  · have U:0 < D.length:=List.length_pos_iff.2 hn
    refine Ev.nilNot (by simpa using hn) ?_
    unfold fW at h
    obtain ⟨aa,I,h⟩:=ad h
    refine Ev.enter0 (F:=fun _=>f62 (OG 2) 2) (fun k=>bH E Tryz.func62 E E E (by decide +kernel) (Ns _ _)) (av<|be<|Rn (hN E hZ) fun Y G=>sN<|sq<|av<|kx (bp G)<|kx (GV Tryz.underlying46 U E E)<|Rn (hA G (hV (.bool false) E hZ)) fun Z N O=>sN<|cF O E<|xx<|sN<|av<|kx (kh E E ⟨E,by decide⟩)<|kx (bp N)<|kx (NS (c:=Notch.c) (xs:=([]:List Notch)) E (NC E) I Notch.fl (by decide))<|be<|Rn (hN E hZ) fun X J=>sN<|xx ?_)
    exact ct h (bB J bK) E
abbrev gA:=Int×Int×(List Notch)
abbrev kE:=Unit⊕(Int×Int×(List Notch))
def nK (F:Int) (D:Nat) (s:gA) (e:b4) (M:bs):Prop:=a3 e 0 = a4 s.1/\a3 e 4 = .lsl D s.2.2.length 0 s.2.2.length/\a3 e 5 = a4 s.2.1/\a3 e 6 = a4 F/\M[D]? = some (.live ⟨.grow,109,2,s.2.2.map Notch.c⟩)
def tx (F:Int) (D:Nat) (r:kE) (x:Ex) (e:b4) (M:bs):Prop:=
  match r with
  | (.inl g)=>x = .ret/\a3 e 2 = .nils/\a3 e 3 = a4 3
  | (.inr g)=>x = .ext 2/\a3 e 0 = a4 g.1/\a3 e 4 = .lsl D g.2.2.length 0 g.2.2.length/\a3 e 5 = a4 g.2.1/\a3 e 6 = a4 F/\M[D]? = some (.live ⟨.grow,109,2,g.2.2.map Notch.c⟩)
noncomputable def dE (D:Int):gA->Option (gA⊕kE):=fun (O,Y,aa)=>
 (fk D).bind fun J=>
 if (decide (O>=J))=true then
  (qB 4 aa [(Notch.mk (IntKind.i8.wrap D) (IntKind.i16.wrap Y))]).bind fun F=>
  (mw D).bind fun G=>
  if (decide ((F.length:Int) > 60))=true then
   some (.inr (.inl ()))
  else
   (fk D).bind fun I=>
   some (.inl ((IntKind.i64.wrap (O - I)),(IntKind.i64.wrap (Y + (IntKind.i64.wrap (G + 1)))),F))
 else
  some (.inr (.inr (O,Y,aa)))
theorem nY (D:Int) (F:Nat) (s:gA) (r:gA⊕kE) (h:dE D s=some r) (e:b4) (M:bs) (aW:nK D F s e M):Ev (fun k=>(IA (CN k) k (prune [0,4,5,6] e) M).bind fun q=>some q) (bQ (nK D F) (tx D F) r):=by
 obtain ⟨ap,ac,ae⟩:=s
 unfold dE at h
 obtain ⟨aL,aM,aN,aO,N⟩:=aW
 generalize G:prune [0,4,5,6] e=bz
 have ak:=bZ G.symm E aL
 have aP:=bZ G.symm E aM
 have aQ:=bZ G.symm E aN
 have am:=bZ G.symm E aO
 obtain ⟨aR,aq,h⟩:=ad h
 refine sq (av<|kx (bp ak)<|kx (bp am) (kc (cl (v:=a4 aR) E E (b3 E E) E (ke D _ aq) nm)<|kx (q5 E E)<|Rn (hV (a4 ap) ak (hV (.lsl F ae.length 0 ae.length) aP (hV (a4 ac) aQ (hA am (hN E hZ))))) fun aX an Y O U Z=>sN ?_))
 rcases aj h with ⟨J,h⟩ | ⟨J,h⟩
 ·obtain ⟨X,ar,h⟩:=ad h
  refine cT Z J (xx<|sN<|sq<|bl<|av<|kx (bp Y)<|kx (bp U)<|kx (A0 E)<|kx (bp O)<|kx (A0 E)<|kx (gg y6 (b3 (t6 E) (b3 (t6 E) E)) (gz ⟨E,ble E⟩ E E (gz ⟨E,ble E⟩ E E (dz E))))<|kx (kh (b3 E E) E ⟨E,by decide⟩)<|kw (Dp E N E (DO (c:=Notch.c) (xs:=[(Notch.mk (IntKind.i8.wrap D) (IntKind.i16.wrap ac))]) E) ar Notch.fl (by decide)) fun aS au=>?_)
  have aa:aS[F]? = some (.live ⟨.grow,109,2,X.map Notch.c⟩):=bc au N
  obtain ⟨aw,ax,h⟩:=ad h
  refine be (Rn (hA an (hV (.lsl F X.length 0 X.length) E (hA O (hA U hZ)))) fun aY aT aU aV ab=>sN<|av<|kx (bp aV)<|kx (bp ab) (kc (cl (v:=a4 aw) E E (b3 E E) E (vc D _ ax) nm)<|kx (cu E E)<|kx (cu E E)<|be<|Rn (hA aT (hA aU (hN E (hA ab hZ)))) fun aZ ay af az aA=>sN<|av<|kx (bp af)<|kx (Or Tryz.underlying46 E aa (by simp))<|kx (fB E E)<|Rn (hA ay (hA af (hA az (hA aA (hN E hZ))))) fun a0 aB aC aD ah ai=>sN ?_))
  rcases aj h with ⟨I,h⟩ | ⟨I,h⟩
  ·refine cT ai I (av<|be<|be<|Rn (hV .nils E (hV (a4 3) E hZ)) fun a1 aE aF=>sN<|xx<|bR<|sR ?_)
   exact lr h ⟨E,aE,aF⟩
  obtain ⟨aG,aK,h⟩:=ad h
  refine cF ai I (xx<|bN<|sN<|Rg<|kx (bp aB)<|kx (bp ah) (kc (cl (v:=a4 aG) E E (b3 E E) E (ke D _ aK) nm)<|kx (lD E E)<|be<|Rn (hN E (hA aC (hA aD (hA ah hZ)))) fun a2 aH aI aJ ao=>?_))
  exact jd h ⟨aH,aI,aJ,ao,aa⟩
 refine cF Z J (xx<|sE ?_)
 exact md h ⟨E,an,Y,O,U,N⟩
abbrev gk:=Int×Int×Int×(List Notch)
abbrev kS:=Unit⊕((List Notch))
def nO (D:Nat) (s:gk) (e:b4) (M:bs):Prop:=a3 e 0 = a4 s.1/\a3 e 4 = .lsl D s.2.2.2.length 0 s.2.2.2.length/\a3 e 5 = a4 s.2.1/\a3 e 6 = a4 s.2.2.1/\M[D]? = some (.live ⟨.grow,109,2,s.2.2.2.map Notch.c⟩)
def tz (D:Nat) (r:kS) (x:Ex) (e:b4) (M:bs):Prop:=
  match r with
  | (.inl g)=>x = .ret/\a3 e 2 = .nils/\a3 e 3 = a4 3
  | (.inr g)=>x = .ext 0/\a3 e 4 = .lsl D g.length 0 g.length/\M[D]? = some (.live ⟨.grow,109,2,g.map Notch.c⟩)
noncomputable def da:gk->Option (gk⊕kS):=fun (Y,aa,J,O)=>
 if (decide (J>=0))=true then
  (Lw (dE J) (Y,aa,O)).bind fun r=>match r with
  | (.inl _)=>
   some (.inr (.inl ()))
  | (.inr (ab,ac,ae))=>
   some (.inl (ab,ac,(IntKind.i64.wrap (J - 1)),ae))
 else
  some (.inr (.inr O))
theorem nI (D:Nat) (s:gk) (r:gk⊕kS) (h:da s=some r) (e:b4) (M:bs) (aI:nO D s e M):Ev (fun k=>(ID (CN k) k (prune [0,4,5,6] e) M).bind fun q=>some q) (bQ (nO D) (tz D) r):=by
 obtain ⟨aF,aG,G,X⟩:=s
 unfold da at h
 obtain ⟨ay,az,aA,aB,N⟩:=aI
 generalize F:prune [0,4,5,6] e=bd
 have aC:=bZ F.symm E ay
 have aD:=bZ F.symm E az
 have aE:=bZ F.symm E aA
 have Z:=bZ F.symm E aB
 refine sq (av<|kx (bp Z)<|kx (q5 E E)<|Rn (hV (a4 aF) aC (hV (.lsl D X.length 0 X.length) aD (hV (a4 aG) aE (hV (a4 G) Z (hN E hZ))))) fun aO aa O ab ac ae=>sN ?_)
 rcases aj h with ⟨J,h⟩ | ⟨J,h⟩
 ·obtain ⟨aH,U,h⟩:=ad h
  refine cT ae J (xx<|sN<|sq<|bl<|bl ?_)
  rcases aH with _ | ⟨af,ah,Y⟩
  ·refine Ev.loop (nY G D) U ⟨aa,O,ab,ac,N⟩ fun x aK aL I=>?_
   obtain ⟨rfl,ai,ak⟩:=I
   refine bR (bR<|sR ?_)
   exact lr h ⟨E,ai,ak⟩
  refine Ev.loop (nY G D) U ⟨aa,O,ab,ac,N⟩ fun x aJ aM I=>?_
  obtain ⟨rfl,am,an,ao,ap,aq⟩:=I
  refine bE (bN<|sN<|Rg<|kx (bp ap)<|kx (lD E E)<|be<|Rn (hV (a4 af) am (hV (.lsl D Y.length 0 Y.length) an (hV (a4 ah) ao (hN E hZ)))) fun aN ar au aw ax=>?_)
  exact jd h ⟨ar,au,aw,ax,aq⟩
 refine cF ae J (xx<|sE ?_)
 exact md h ⟨E,O,N⟩
noncomputable def j7 (D:Int):Option ((List Notch)×Int):=
 (gc D).bind fun G=>
 if G=true then
  (Lw (da) (D,0,5,([]:List Notch))).bind fun r=>match r with
  | (.inl _)=>
   some (([]:List Notch),3)
  | (.inr J)=>
   (gp (Half.mk false J (Ar.rep 16 0))).bind fun F=>
   if F=true then
    some (J,0)
   else
    some (([]:List Notch),3)
 else
  some (([]:List Notch),2)
def u3 (r:(List Notch)×Int):AV:=.tup [.sl none (r.1.map Notch.c),a4 r.2]
theorem vQ (I:Int) (r:(List Notch)×Int) (h:j7 I=some r):Ev (fun k=>CN k 61 [a4 I] []) (fun p=>As (cp p.2 p.1)=u3 r/\iu (cp p.2 p.1)=true):=by
 unfold j7 at h
 obtain ⟨aG,au,h⟩:=ad h
 refine Ev.enter (F:=fun k=>f61 (CN k) k) (fun k=>bH E Tryz.func61 E E E (by decide +kernel) (Mq _ _)) (av<|be<|be<|Rn (hN E hZ) fun aR af=>sN<|sq<|av<|kx (bp af) (kc (cl (v:=.bool aG) E E (b3 E E) E (oe I _ au) nm)<|kx (eZ E)<|Rn (hA af (hN E hZ)) fun aS aF ah=>sN ?_))
 rcases aj h with ⟨N,h⟩ | ⟨N,h⟩
 ·refine cF ah (nt N) (xx<|sN<|av (ku (Ai (xs:=([]:List Notch)) (c:=Notch.c) E E (by decide)) fun aw aB=>?_))
  have Z:aw[([]:bs).length]? = some (.live ⟨.grow,109,2,([]:List Notch).map Notch.c⟩):=b2 aB
  obtain ⟨aC,U,h⟩:=ad h
  refine be (be<|Rn (hA aF (hV (.lsl ([]:bs).length ([]:List Notch).length 0 ([]:List Notch).length) E (hV (a4 0) E hZ))) fun aQ ax ay az=>sN<|sq<|av<|be<|Rn (hA ax (hA ay (hA az (hV (a4 5) E hZ)))) fun aH aa ab ac ae=>sN<|bl ?_)
  rcases aC with _ | J
  ·refine Ev.loop (nI (([]:bs).length)) U ⟨aa,ab,ac,ae,Z⟩ fun x aI aJ D=>?_
   obtain ⟨rfl,aD,aE⟩:=D
   refine bR (sR ?_)
   obtain rfl:=si h
   exact eR (bB aD (bB aE bK)) (AA (y:=.tup [.nils,a4 3]) E E (dL (hM E (hM E sL))))
  refine Ev.loop (nI (([]:bs).length)) U ⟨aa,ab,ac,ae,Z⟩ fun x aK aL D=>?_
  obtain ⟨rfl,X,O⟩:=D
  obtain ⟨ai,aA,h⟩:=ad h
  refine bE (sN<|sq<|av<|kx (bp X)<|kx (gg qk (b3 (t6 E) E) (gz (cs':=(.bool false::(.lsl ([]:bs).length J.length 0 J.length::((bY (cI .i8) 0 (Ar.rep 16 0))++([]:List AV))))) ⟨E,ble E⟩ (g8 (uz O (by simp)) sG) E (dz E))) (kc (cl (v:=.bool ai) E E (b3 E E) (zV (MS (hD E (hD (y7 O E Notch.fl) (Mi (fun _=>DS) (fun _=>E) ru)))) ER) (kt (Half.mk false J (Ar.rep 16 0)) _ aA) (fun _=>E))<|kx (eZ E)<|Rn (hV (.lsl ([]:bs).length J.length 0 J.length) X (hN E hZ)) fun aM ak Y=>sN ?_))
  rcases aj h with ⟨G,h⟩ | ⟨G,h⟩
  ·refine cF Y (nt G) (xx<|sN<|av<|kx (bp ak)<|be<|be<|Rn (hV (.lsl ([]:bs).length J.length 0 J.length) E (hV (a4 0) E hZ)) fun aN am an=>sN<|xx ?_)
   obtain rfl:=si h
   exact eR (bB am (bB an bK)) (AA (y:=.tup [.sl (some 109) (J.map Notch.c),a4 0]) (jP (hD (eh O E Notch.fl) (hD E ru))) E (dL (hM (iR (c:=Notch.c) Notch.flF) (hM E sL))))
  refine cT Y (nt G) (av<|be<|be<|Rn (hV .nils E (hV (a4 3) E hZ)) fun aO ao ap=>sN<|xx<|sR ?_)
  obtain rfl:=si h
  exact eR (bB ao (bB ap bK)) (AA (y:=.tup [.nils,a4 3]) E E (dL (hM E (hM E sL))))
 refine cT ah (nt N) (av<|be<|be<|Rn (hV .nils E (hV (a4 2) E hZ)) fun aP aq ar=>sN<|xx<|sR ?_)
 obtain rfl:=si h
 exact eR (bB aq (bB ar bK)) (AA (y:=.tup [.nils,a4 2]) E E (dL (hM E (hM E sL))))
noncomputable def pn (D:Book) (F:Int):Option Int:=
 (jm D F).bind fun (r6,r7)=>
 (rd D.Cash F).bind fun G=>
 some (IntKind.i64.wrap ((IntKind.i64.wrap (G + r6)) - r7))
def xA (r:Int):AV:=a4 r
theorem yK (D:Book) (G:Int) (r:Int) (h:pn D G=some r):Ev (fun k=>CN k 58 [.agg [a4 D.Day,.sl none (D.Cash.map (cI .i64)),.sl none (D.Tallies.map Tally.c)],a4 G] []) (fun p=>cp p.2 p.1=xA r):=by
 unfold pn at h
 obtain ⟨⟨ab,ac⟩,O,h⟩:=ad h
 obtain ⟨ae,N,h⟩:=ad h
 refine Ev.enter (F:=fun k=>f58 (CN k) k) (fun k=>bH E Tryz.func58 E E E (by decide +kernel) (LV _ _)) (av<|kx (ps E E ⟨E,E,by decide⟩)<|be<|Rn (hN E (hN E hZ)) fun ah I J=>sN<|av<|kx (eE J E E)<|kx (bp I) (kc (cl (v:=.tup [a4 ab,a4 ac]) E E (b3 E (b3 E E)) E (uK D G _ O) nm)<|be<|kx (eO E E)<|kx (eO E E)<|be<|be<|Rn (hA I (hA J (hN E (hN E hZ)))) fun ai U X Y Z=>sN<|av<|kx (cW X ⟨ble E,blt E⟩ E)<|kx (cr E E)<|kx (bp U)<|kx (kJ E E N (de _))<|kx (cr E E)<|kx (bp Y)<|kx (cu E E)<|kx (bp Z)<|kx (lD E E)<|be<|Rn (hN E hZ) fun af aa=>sN<|xx ?_))
 exact ct h (bB aa bK) E
def gR (D:Book) (g:Bool) (q:oZ):Prop:=q.1 = .nrm/\a3 q.2.1 1 = .pt none [a4 D.Day,.sl none (D.Cash.map (cI .i64)),.sl none (D.Tallies.map Tally.c)]/\a3 q.2.1 3 = a4 (D.Cash.length:Int)/\a3 q.2.1 29 = .bool g
abbrev g4:=Int
abbrev lu:=Unit⊕Unit
def oB (D:Book) (s:g4) (e:b4) (M:bs):Prop:=a3 e 1 = .pt none [a4 D.Day,.sl none (D.Cash.map (cI .i64)),.sl none (D.Tallies.map Tally.c)]/\a3 e 3 = a4 (D.Cash.length:Int)/\a3 e 31 = .sl none (D.Cash.map (cI .i64))/\a3 e 32 = a4 (D.Cash.length:Int)/\a3 e 33 = a4 s
def ua (D:Book) (r:lu) (x:Ex) (e:b4) (M:bs):Prop:=
  match r with
  | (.inl g)=>x = .ret/\a3 e 2 = .bool false
  | (.inr g)=>x = .ext 0/\a3 e 1 = .pt none [a4 D.Day,.sl none (D.Cash.map (cI .i64)),.sl none (D.Tallies.map Tally.c)]/\a3 e 3 = a4 (D.Cash.length:Int)
noncomputable def fu (F:Book):g4->Option (g4⊕lu):=fun D=>
 if (decide (D < (F.Cash.length:Int)))=true then
  (rd F.Cash D).bind fun G=>
  (gc G).bind fun I=>
  if I=true then
   some (.inl (IntKind.i64.wrap (D + 1)))
  else
   some (.inr (.inl ()))
 else
  some (.inr (.inr ()))
theorem oA (D:Book) (s:g4) (r:g4⊕lu) (h:fu D s=some r) (e:b4) (M:bs) (J:oB D s e M):Ev (fun k=>(GL (CN k) k (prune [1,3,31,32,33] e) M).bind fun q=>some q) (bQ (oB D) (ua D) r):=by
 revert h J
 revert s
 intro aG h J
 unfold fu at h
 obtain ⟨ak,am,an,ao,ap⟩:=J
 generalize F:prune [1,3,31,32,33] e=bf
 have aq:=bZ F.symm E ak
 have ar:=bZ F.symm E am
 have au:=bZ F.symm E an
 have O:=bZ F.symm E ao
 have U:=bZ F.symm E ap
 refine av (kx (dp U O)<|Rn (hV (.pt none [a4 D.Day,.sl none (D.Cash.map (cI .i64)),.sl none (D.Tallies.map Tally.c)]) aq (hV (a4 (D.Cash.length:Int)) ar (hV (.sl none (D.Cash.map (cI .i64))) au (hV (a4 (D.Cash.length:Int)) O (hV (a4 aG) U (hN E hZ)))))) fun aQ X Y Z aw aa ab=>sN<|sq ?_)
 rcases aj h with ⟨I,h⟩ | ⟨I,h⟩
 ·obtain ⟨ax,aH,h⟩:=ad h
  obtain ⟨ay,aI,h⟩:=ad h
  refine cT ab I (xx<|sN<|sq<|bl<|av<|kx (kJ Z aa aH (de _))<|kx (cr E E)<|be<|Rn (hA X (hA Y (hN E (hA Z (hA aw (hA aa hZ)))))) fun aR az aA aB aC aD aE=>sN<|av<|kx (bp aB) (kc (cl (v:=.bool ay) E E (b3 E E) E (oe ax _ aI) nm)<|kx (eZ E)<|Rn (hA az (hA aA (hA aC (hA aD (hA aE (hN E hZ)))))) fun aS aF ac aN aJ aK N=>sN ?_))
  rcases aj h with ⟨G,h⟩ | ⟨G,h⟩
  ·refine cF N (nt G) (xx<|bN<|sN<|Rg<|kx (cu aK E)<|be<|Rn (hA aF (hA ac (hA aN (hA aJ (hN E hZ))))) fun aO aL aM ae af ah=>?_)
   exact jd h ⟨aL,aM,ae,af,ah⟩
  refine cT N (nt G) (av<|be<|Rn (hV (.bool false) E hZ) fun aP ai=>sN<|xx<|bR<|sR ?_)
  exact lr h ⟨E,ai⟩
 refine cF ab I (xx<|sE ?_)
 exact md h ⟨E,X,Y⟩
abbrev g6:=Int×Int
abbrev lF:=Unit⊕Unit
def ow (D:Book) (s:g6) (e:b4) (M:bs):Prop:=a3 e 1 = .pt none [a4 D.Day,.sl none (D.Cash.map (cI .i64)),.sl none (D.Tallies.map Tally.c)]/\a3 e 3 = a4 (D.Cash.length:Int)/\a3 e 6 = a4 s.1/\a3 e 42 = .sl none (D.Tallies.map Tally.c)/\a3 e 43 = a4 (D.Tallies.length:Int)/\a3 e 44 = a4 s.2
def ug (D:Book) (r:lF) (x:Ex) (e:b4) (M:bs):Prop:=
  match r with
  | (.inl g)=>x = .ret/\a3 e 2 = .bool false
  | (.inr g)=>x = .ext 2/\True
noncomputable def fq (F:Book):g6->Option (g6⊕lF):=fun (Y,O)=>
 if (decide (O < (F.Tallies.length:Int)))=true then
  (rd F.Tallies O).bind fun D=>
  (jq (F.Cash.length:Int) [D.Debtor,D.Holder]).bind fun G=>
  if G=true then
   if (decide (D.Cut < Y))=true then
    some (.inr (.inl ()))
   else
    if (decide (D.Cut > F.Day))=true then
     some (.inr (.inl ()))
    else
     if (decide (D.Amount < 1))=true then
      some (.inr (.inl ()))
     else
      if (decide (D.Amount > 100000000))=true then
       some (.inr (.inl ()))
      else
       if (decide (D.Left < 0))=true then
        some (.inr (.inl ()))
       else
        if (decide (D.Left > D.Amount))=true then
         some (.inr (.inl ()))
        else
         if (D.Debtor==D.Holder)=true then
          if (D.Left != 0)=true then
           some (.inr (.inl ()))
          else
           some (.inl (D.Cut,(IntKind.i64.wrap (O + 1))))
         else
          some (.inl (D.Cut,(IntKind.i64.wrap (O + 1))))
  else
   some (.inr (.inl ()))
 else
  some (.inr (.inr ()))
theorem oJ (N:Book) (s:g6) (r:g6⊕lF) (h:fq N s=some r) (e:b4) (M:bs) (bV:ow N s e M):Ev (fun k=>(Fc (CN k) k (prune [1,3,6,42,43,44] e) M).bind fun q=>some q) (bQ (ow N) (ug N) r):=by
 obtain ⟨aC,aD⟩:=s
 unfold fq at h
 obtain ⟨aE,aF,aG,aH,aI,aJ⟩:=bV
 generalize ai:prune [1,3,6,42,43,44] e=cO
 have aK:=bZ ai.symm E aE
 have aL:=bZ ai.symm E aF
 have ax:=bZ ai.symm E aG
 have ba:=bZ ai.symm E aH
 have an:=bZ ai.symm E aI
 have ao:=bZ ai.symm E aJ
 refine av (kx (dp ao an)<|Rn (hV (.pt none [a4 N.Day,.sl none (N.Cash.map (cI .i64)),.sl none (N.Tallies.map Tally.c)]) aK (hV (a4 (N.Cash.length:Int)) aL (hV (a4 aC) ax (hV (.sl none (N.Tallies.map Tally.c)) ba (hV (a4 (N.Tallies.length:Int)) an (hV (a4 aD) ao (hN E hZ))))))) fun bW bb bd bf ap bg aq ar=>sN<|sq ?_)
 rcases aj h with ⟨am,h⟩ | ⟨am,h⟩
 ·obtain ⟨ah,ay,h⟩:=ad h
  refine cT ar am (xx<|sN<|sq<|bl<|av<|kx (kJ ap aq ay Tally.fl)<|kx (eE E E E) (ku (lG z1) fun bh az=>?_))
  have au:bh[M.length]? = some (.live ⟨.box,80,5,[[a4 0,a4 0,a4 0,a4 0,a4 0]]⟩):=b2 az
  refine kw (dW E E au E E ⟨E,ble E⟩ E E) fun bi aA=>?_
  have D:bi[M.length]? = some (.live ⟨.box,80,5,[[a4 ah.Debtor,a4 ah.Holder,a4 ah.Cut,a4 ah.Amount,a4 ah.Left]]⟩):=bc aA au
  obtain ⟨bj,aB,h⟩:=ad h
  refine Rn (hA bb (hA bd (hA bf (hV (.loc M.length 1 0 0) E (hA ap (hA bg (hA aq hZ))))))) fun bX U X bk F ac ae af=>sN (sq<|av<|kx (bp X)<|kx (dQ F D E)<|kx (e8 E D E E E)<|kx (dQ F D E)<|kx (e8 E D E E E)<|kx (kh (b3 E (b3 E E)) E ⟨E,by decide⟩) (kc (cl (v:=.bool bj) E E (b3 E (b3 E E)) E (qK (N.Cash.length:Int) [ah.Debtor,ah.Holder] _ aB) nm)<|kx (eZ E)<|kx (bp E) ?_))
  rcases aj h with ⟨O,h⟩ | ⟨O,h⟩
  ·refine kx (guF E (nt O) (dQ F D E)) (kx (guF E (nt O) (e8 E D E E E))<|kx (guF E (nt O) (bp bk))<|kx (guF E (nt O) (dp E E))<|kx (cU E (nt O) E)<|kx (bp E) ?_)
   rcases aj h with ⟨I,h⟩ | ⟨I,h⟩
   ·refine kx (gsF E I) (kx (gsF E I)<|kx (gsF E I)<|kx (gsF E I)<|kx (gsF E I)<|kx (cC E I E)<|be<|kx (gsF E E)<|kx (gsF E E)<|kx (gsF E E)<|kx (cC E E E)<|be<|kx (gsF E E)<|kx (gsF E E)<|kx (gsF E E)<|kx (cC E E E)<|be<|kx (gsF E E)<|kx (gsF E E)<|kx (gsF E E)<|kx (cC E E E)<|be<|kx (gsF E E)<|kx (gsF E E)<|kx (gsF E E)<|kx (gsF E E)<|kx (gsF E E)<|kx (cC E E E)<|be<|kx (gsF E E)<|kx (gsF E E)<|kx (gsF E E)<|kx (gsF E E)<|kx (gsF E E)<|kx (gsF E E)<|kx (gsU E)<|kx (gsU E)<|kx (gsU E)<|kx (gsF E E)<|kx (cC E E E)<|Rn (hA U (hA X (hA F (hA ac (hA ae (hA af (hV (.bool true) E hZ))))))) fun bY b0 b1 b5 b6 b7 cJ bm=>sN<|cT bm E<|av<|be<|Rn (hV (.bool false) E hZ) fun cK bn=>sN<|xx<|sR<|bR<|sR ?_)
    exact lr h ⟨E,bn⟩
   refine kx (guF E I (dQ F D E)) (kx (guF E I (e8 E D E E E))<|kx (guF E I (cW U ⟨ble E,blt E⟩ E))<|kx (guF E I (cr E E))<|kx (guF E I (fB E E))<|kx (cU E I E)<|kx (bp E) ?_)
   rcases aj h with ⟨Y,h⟩ | ⟨Y,h⟩
   ·refine kx (gsF E Y) (kx (gsF E Y)<|kx (gsF E Y)<|kx (cC E Y E)<|be<|kx (gsF E E)<|kx (gsF E E)<|kx (gsF E E)<|kx (cC E E E)<|be<|kx (gsF E E)<|kx (gsF E E)<|kx (gsF E E)<|kx (cC E E E)<|be<|kx (gsF E E)<|kx (gsF E E)<|kx (gsF E E)<|kx (gsF E E)<|kx (gsF E E)<|kx (cC E E E)<|be<|kx (gsF E E)<|kx (gsF E E)<|kx (gsF E E)<|kx (gsF E E)<|kx (gsF E E)<|kx (gsF E E)<|kx (gsU E)<|kx (gsU E)<|kx (gsU E)<|kx (gsF E E)<|kx (cC E E E)<|Rn (hA U (hA X (hA F (hA ac (hA ae (hA af (hV (.bool true) E hZ))))))) fun cL cM cN cP cQ cR cS bo=>sN<|cT bo E<|av<|be<|Rn (hV (.bool false) E hZ) fun cV bq=>sN<|xx<|sR<|bR<|sR ?_)
    exact lr h ⟨E,bq⟩
   refine kx (guF E Y (dQ F D E)) (kx (guF E Y (e8 E D E E E))<|kx (guF E Y (dp E E))<|kx (cU E Y E)<|kx (bp E) ?_)
   rcases aj h with ⟨Z,h⟩ | ⟨Z,h⟩
   ·refine kx (gsF E Z) (kx (gsF E Z)<|kx (gsF E Z)<|kx (cC E Z E)<|be<|kx (gsF E E)<|kx (gsF E E)<|kx (gsF E E)<|kx (cC E E E)<|be<|kx (gsF E E)<|kx (gsF E E)<|kx (gsF E E)<|kx (gsF E E)<|kx (gsF E E)<|kx (cC E E E)<|be<|kx (gsF E E)<|kx (gsF E E)<|kx (gsF E E)<|kx (gsF E E)<|kx (gsF E E)<|kx (gsF E E)<|kx (gsU E)<|kx (gsU E)<|kx (gsU E)<|kx (gsF E E)<|kx (cC E E E)<|Rn (hA U (hA X (hA F (hA ac (hA ae (hA af (hV (.bool true) E hZ))))))) fun cX cY cZ c0 c1 c2 c3 br=>sN<|cT br E<|av<|be<|Rn (hV (.bool false) E hZ) fun c4 bt=>sN<|xx<|sR<|bR<|sR ?_)
    exact lr h ⟨E,bt⟩
   refine kx (guF E Z (dQ F D E)) (kx (guF E Z (e8 E D E E E))<|kx (guF E Z (fB E E))<|kx (cU E Z E)<|kx (bp E) ?_)
   rcases aj h with ⟨aa,h⟩ | ⟨aa,h⟩
   ·refine kx (gsF E aa) (kx (gsF E aa)<|kx (gsF E aa)<|kx (cC E aa E)<|be<|kx (gsF E E)<|kx (gsF E E)<|kx (gsF E E)<|kx (gsF E E)<|kx (gsF E E)<|kx (cC E E E)<|be<|kx (gsF E E)<|kx (gsF E E)<|kx (gsF E E)<|kx (gsF E E)<|kx (gsF E E)<|kx (gsF E E)<|kx (gsU E)<|kx (gsU E)<|kx (gsU E)<|kx (gsF E E)<|kx (cC E E E)<|Rn (hA U (hA X (hA F (hA ac (hA ae (hA af (hV (.bool true) E hZ))))))) fun c5 c6 cd ce cf cg ch bu=>sN<|cT bu E<|av<|be<|Rn (hV (.bool false) E hZ) fun ci aO=>sN<|xx<|sR<|bR<|sR ?_)
    exact lr h ⟨E,aO⟩
   refine kx (guF E aa (dQ F D E)) (kx (guF E aa (e8 E D E E E))<|kx (guF E aa (dp E E))<|kx (cU E aa E)<|kx (bp E) ?_)
   rcases aj h with ⟨J,h⟩ | ⟨J,h⟩
   ·refine kx (gsF E J) (kx (gsF E J)<|kx (gsF E J)<|kx (gsF E J)<|kx (gsF E J)<|kx (cC E J E)<|be<|kx (gsF E E)<|kx (gsF E E)<|kx (gsF E E)<|kx (gsF E E)<|kx (gsF E E)<|kx (gsF E E)<|kx (gsU E)<|kx (gsU E)<|kx (gsU E)<|kx (gsF E E)<|kx (cC E E E)<|Rn (hA U (hA X (hA F (hA ac (hA ae (hA af (hV (.bool true) E hZ))))))) fun cj ck cm cn co cp cq aP=>sN<|cT aP E<|av<|be<|Rn (hV (.bool false) E hZ) fun ct aQ=>sN<|xx<|sR<|bR<|sR ?_)
    exact lr h ⟨E,aQ⟩
   refine kx (guF E J (dQ F D E)) (kx (guF E J (e8 E D E E E))<|kx (guF E J (dQ F D E))<|kx (guF E J (e8 E D E E E))<|kx (guF E J (fB E E))<|kx (cU E J E)<|kx (bp E) ?_)
   rcases aj h with ⟨G,h⟩ | ⟨G,h⟩
   ·refine kx (gsF E G) (kx (gsF E G)<|kx (gsF E G)<|kx (gsF E G)<|kx (gsF E G)<|kx (gsF E G)<|kx (gsU E)<|kx (gsU E)<|kx (gsU E)<|kx (gsF E G)<|kx (cC E G E)<|Rn (hA U (hA X (hA F (hA ac (hA ae (hA af (hV (.bool true) E hZ))))))) fun cv cw cx cy cz cA cB aR=>sN<|cT aR E<|av<|be<|Rn (hV (.bool false) E hZ) fun cD aS=>sN<|xx<|sR<|bR<|sR ?_)
    exact lr h ⟨E,aS⟩
   refine kx (guF E G (dQ F D E)) (kx (guF E G (e8 E D E E E))<|kx (guF E G (dQ F D E))<|kx (guF E G (e8 E D E E E))<|kx (guF E G (d8 E E))<|kx (guF E G (bp E)) ?_)
   rcases aj h with ⟨ab,h⟩ | ⟨ab,h⟩
   ·refine kx (guT E ab (dQ F D E)) (kx (guT E ab (e8 E D E E E))<|kx (guT E ab (gD E E))<|kx (guF E G (cC E ab E))<|kx (cU E G E)<|Rn (hA U (hA X (hA F (hA ac (hA ae (hA af (hN E hZ))))))) fun cE aT aU aV aW aX aY aw=>sN ?_)
    rcases aj h with ⟨ak,h⟩ | ⟨ak,h⟩
    ·refine cT aw ak (av<|be<|Rn (hV (.bool false) E hZ) fun cG aZ=>sN<|xx<|sR<|bR<|sR ?_)
     exact lr h ⟨E,aZ⟩
    refine cF aw ak (xx<|sN<|Rg<|kx (dQ aV D E)<|kx (e8 E D E E E)<|be<|Rn (hA aT (hA aU (hN E (hA aW (hA aX (hA aY hZ)))))) fun cH a0 a1 a2 a3 a5 a6=>bN<|sN<|Rg<|kx (cu a6 E)<|be<|Rn (hA a0 (hA a1 (hA a2 (hA a3 (hA a5 (hN E hZ)))))) fun b8 a7 a8 a9 aM aN bF=>?_)
    exact jd h ⟨a7,a8,a9,aM,aN,bF⟩
   refine kx (gsT E ab) (kx (gsT E ab)<|kx (gsT E ab)<|kx (guF E G (cU E ab E))<|kx (cU E G E)<|Rn (hA U (hA X (hA F (hA ac (hA ae (hA af (hV (.bool false) E hZ))))))) fun b9 bG bH bI bJ bK bL bM=>sN<|cF bM E<|xx<|sN<|Rg<|kx (dQ bI D E)<|kx (e8 E D E E E)<|be<|Rn (hA bG (hA bH (hN E (hA bJ (hA bK (hA bL hZ)))))) fun ca bO bP bS bT bU bv=>bN<|sN<|Rg<|kx (cu bv E)<|be<|Rn (hA bO (hA bP (hA bS (hA bT (hA bU (hN E hZ)))))) fun cb bw bx bz bA bB bC=>?_)
   exact jd h ⟨bw,bx,bz,bA,bB,bC⟩
  refine kx (gsF E (nt O)) (kx (gsF E (nt O))<|kx (gsF E (nt O))<|kx (gsF E (nt O))<|kx (cC E (nt O) E)<|be<|kx (gsF E E)<|kx (gsF E E)<|kx (gsF E E)<|kx (gsF E E)<|kx (gsF E E)<|kx (cC E E E)<|be<|kx (gsF E E)<|kx (gsF E E)<|kx (gsF E E)<|kx (cC E E E)<|be<|kx (gsF E E)<|kx (gsF E E)<|kx (gsF E E)<|kx (cC E E E)<|be<|kx (gsF E E)<|kx (gsF E E)<|kx (gsF E E)<|kx (cC E E E)<|be<|kx (gsF E E)<|kx (gsF E E)<|kx (gsF E E)<|kx (gsF E E)<|kx (gsF E E)<|kx (cC E E E)<|be<|kx (gsF E E)<|kx (gsF E E)<|kx (gsF E E)<|kx (gsF E E)<|kx (gsF E E)<|kx (gsF E E)<|kx (gsU E)<|kx (gsU E)<|kx (gsU E)<|kx (gsF E E)<|kx (cC E E E)<|Rn (hA U (hA X (hA F (hA ac (hA ae (hA af (hV (.bool true) E hZ))))))) fun cc c7 c8 c9 da db dc bD=>sN<|cT bD E<|av<|be<|Rn (hV (.bool false) E hZ) fun dd bE=>sN<|xx<|sR<|bR<|sR ?_)
  exact lr h ⟨E,bE⟩
 refine cF ar am (xx<|sE ?_)
 exact md h ⟨E,trivial⟩
noncomputable def ia (D:Book):Option Bool:=
 ((ie D.Day).bind fun G=>
 if G=true then
  if (decide ((D.Cash.length:Int) < 1))=true then
   some true
  else
   if (decide ((D.Cash.length:Int) > 16))=true then
    some true
   else
    some (decide ((D.Tallies.length:Int) > 40))
 else
  some true).bind fun F=>
 if F=true then
  some false
 else
  (Lw (fu D) 0).bind fun r=>match r with
  | (.inl _)=>
   some false
  | (.inr _)=>
   (Lw (fq D) (0,0)).bind fun r=>match r with
   | (.inl _)=>
    some false
   | (.inr _)=>
    some true
def vu (r:Bool):AV:=.bool r
theorem mV (D:Book) (r:Bool) (h:ia D=some r):Ev (fun k=>CN k 41 [.agg [a4 D.Day,.sl none (D.Cash.map (cI .i64)),.sl none (D.Tallies.map Tally.c)]] []) (fun p=>cp p.2 p.1=vu r):=by
 unfold ia at h
 obtain ⟨an,U,h⟩:=ad h
 refine Ev.enter (F:=fun k=>f41 (CN k) k) (fun k=>bH E Tryz.func41 E E E (by decide +kernel) (Nk _ _)) (av<|kx (ps E E ⟨E,E,by decide⟩)<|be<|Rn (hN E hZ) fun bm ay=>sN<|av<|kx (cW ay ⟨ble E,blt E⟩ E)<|kx (cr E E)<|kx (i2 Tryz.underlying24 E)<|be<|Rn (hA ay (hN E hZ)) fun bn N O=>sN<|sq<|sq ?_)
 refine Ev.cut (Q1:=gR D an) (by
     have h:=U
     obtain ⟨aY,aJ,h⟩:=ad h
     refine Rg (kx (cW N ⟨ble E,blt E⟩ E)<|kx (cr E E) (kc (cl (v:=.bool aY) E E (b3 E E) E (nz D.Day _ aJ) nm)<|kx (eZ E)<|kx (bp E) ?_))
     rcases aj h with ⟨I,h⟩ | ⟨I,h⟩
     ·refine kx (guF E (nt I) (bp O)) (kx (guF E (nt I) (dp E E))<|kx (cU E (nt I) E)<|kx (bp E) ?_)
      rcases aj h with ⟨J,h⟩ | ⟨J,h⟩
      ·refine kx (gsF E J) (kx (gsF E J)<|kx (cC E J E)<|be<|kx (gsF E E)<|kx (gsF E E)<|kx (gsF E E)<|kx (gsF E E)<|kx (cC E E E)<|Rn (hA N (hA O (hV (.bool true) E hZ))) fun a2 aK aL aM=>?_)
       obtain rfl:=si h
       exact kd (show gR D _ _ from ⟨E,aK,aL,aM⟩)
      refine kx (guF E J (bp O)) (kx (guF E J (fB E E))<|kx (cU E J E)<|kx (bp E) ?_)
      rcases aj h with ⟨G,h⟩ | ⟨G,h⟩
      ·refine kx (gsF E G) (kx (gsF E G)<|kx (gsF E G)<|kx (gsF E G)<|kx (cC E G E)<|Rn (hA N (hA O (hV (.bool true) E hZ))) fun a3 aN aO az=>?_)
       obtain rfl:=si h
       exact kd (show gR D _ _ from ⟨E,aN,aO,az⟩)
      refine kx (guF E G (cW N ⟨ble E,blt E⟩ E)) (kx (guF E G (cr E E))<|kx (guF E G (i2 Tryz.underlying25 E))<|kx (guF E G (fB E E))<|kx (cU E G E)<|Rn (hA N (hA O (hN E hZ))) fun a5 aQ aR aS=>?_)
      obtain rfl:=si h
      exact kd (show gR D _ _ from ⟨E,aQ,aR,aS⟩)
     refine kx (gsF E (nt I)) (kx (gsF E (nt I))<|kx (cC E (nt I) E)<|be<|kx (gsF E E)<|kx (gsF E E)<|kx (cC E E E)<|be<|kx (gsF E E)<|kx (gsF E E)<|kx (gsF E E)<|kx (gsF E E)<|kx (cC E E E)<|Rn (hA N (hA O (hV (.bool true) E hZ))) fun a6 aT aU aV=>?_)
     obtain rfl:=si h
     exact kd (show gR D _ _ from ⟨E,aT,aU,aV⟩)) ?_
 revert h U
 revert an
 intro a7 U h
 intro x a8 a9 aP
 obtain ⟨rfl,aa,aW,ab⟩:=aP
 refine sN ?_
 rcases aj h with ⟨Z,h⟩ | ⟨Z,h⟩
 ·refine cT ab Z (av<|be<|Rn (hV (.bool false) E hZ) fun ba aX=>sN<|xx<|sR ?_)
  exact ct h (bB aX bK) E
 obtain ⟨aA,ak,h⟩:=ad h
 refine cF ab Z (xx<|sN<|sq<|av<|kx (cW aa ⟨ble E,blt E⟩ E)<|kx (cr E E)<|kx (i2 Tryz.underlying24 E)<|be<|Rn (hV (.pt none [a4 D.Day,.sl none (D.Cash.map (cI .i64)),.sl none (D.Tallies.map Tally.c)]) aa (hV (a4 (D.Cash.length:Int)) aW (hN E (hN E (hV (a4 0) E hZ))))) fun bb ac ae af ah ai=>sN<|bl ?_)
 rcases aA with _ | _
 ·refine Ev.loop (oA D) ak ⟨ac,ae,af,ah,ai⟩ fun x bc bd X=>?_
  obtain ⟨rfl,aB⟩:=X
  refine bR (sR ?_)
  exact ct h (bB aB bK) E
 refine Ev.loop (oA D) ak ⟨ac,ae,af,ah,ai⟩ fun x bf bg X=>?_
 obtain ⟨rfl,aC,aD⟩:=X
 obtain ⟨aE,am,h⟩:=ad h
 refine bE (sN<|av<|be<|Rn (hV (.pt none [a4 D.Day,.sl none (D.Cash.map (cI .i64)),.sl none (D.Tallies.map Tally.c)]) aC (hV (a4 (D.Cash.length:Int)) aD (hV (a4 0) E hZ))) fun bh ao aF aG=>sN<|sq<|av<|kx (cW ao ⟨ble E,blt E⟩ E)<|kx (cr E E)<|kx (i2 Tryz.underlying25 E)<|be<|Rn (hA ao (hA aF (hA aG (hN E (hN E (hV (a4 0) E hZ)))))) fun bi ap aq ar au aw ax=>sN<|bl ?_)
 rcases aE with _ | _
 ·refine Ev.loop (oJ D) am ⟨ap,aq,ar,au,aw,ax⟩ fun x bj bk Y=>?_
  obtain ⟨rfl,aH⟩:=Y
  refine bR (sR ?_)
  exact ct h (bB aH bK) E
 refine Ev.loop (oJ D) am ⟨ap,aq,ar,au,aw,ax⟩ fun x aZ a0 Y=>?_
 obtain ⟨rfl,_⟩:=Y
 refine bE (sN<|av<|be<|Rn (hV (.bool true) E hZ) fun a1 aI=>sN<|xx ?_)
 exact ct h (bB aI bK) E
noncomputable def j5 (D:Book) (G:Int):Option Int:=
 (ia D).bind fun I=>
 if I=true then
  (jq (D.Cash.length:Int) [G]).bind fun F=>
  if F=true then
   some 0
  else
   some 2
 else
  some 1
def uT (r:Int):AV:=a4 r
theorem vn (D:Book) (J:Int) (r:Int) (h:j5 D J=some r):Ev (fun k=>CN k 57 [.agg [a4 D.Day,.sl none (D.Cash.map (cI .i64)),.sl none (D.Tallies.map Tally.c)],a4 J] []) (fun p=>cp p.2 p.1=uT r):=by
 unfold j5 at h
 obtain ⟨ai,Y,h⟩:=ad h
 refine Ev.enter (F:=fun k=>f57 (CN k) k) (fun k=>bH E Tryz.func57 E E E (by decide +kernel) (M8 _ _)) (av<|kx (ps E E ⟨E,E,by decide⟩)<|be<|Rn (hN E (hN E hZ)) fun ap af U=>sN<|sq<|bl<|av<|kx (eE U E E) (kc (cl (v:=.bool ai) E E (b3 E E) E (mV D _ Y) nm)<|kx (eZ E)<|be<|Rn (hA af (hA U (hN E hZ))) fun aq ah Z N=>sN ?_))
 rcases aj h with ⟨G,h⟩ | ⟨G,h⟩
 ·obtain ⟨aa,X,h⟩:=ad h
  refine cF N (nt G) (av<|kx (cW Z ⟨ble E,blt E⟩ E)<|kx (cr E E)<|kx (i2 Tryz.underlying24 E)<|kx (bp ah)<|kx (kh (b3 E E) E ⟨E,by decide⟩) (kc (cl (v:=.bool aa) E E (b3 E (b3 E E)) E (qK (D.Cash.length:Int) [J] _ X) nm)<|kx (eZ E)<|be<|Rn (hN E hZ) fun ak O=>sN ?_))
  rcases aj h with ⟨I,h⟩ | ⟨I,h⟩
  ·refine cF O (nt I) (xx<|bN<|sN<|av<|be<|Rn (hV (a4 0) E hZ) fun am ab=>sN<|xx ?_)
   exact ct h (bB ab bK) E
  refine cT O (nt I) (av<|be<|Rn (hV (a4 2) E hZ) fun an ac=>sN<|xx<|bR<|sR ?_)
  exact ct h (bB ac bK) E
 refine cT N (nt G) (av<|be<|Rn (hV (a4 1) E hZ) fun ao ae=>sN<|xx<|bR<|sR ?_)
 exact ct h (bB ae bK) E
abbrev k8:=Int×(List Int)
abbrev qh:=(List Int)
def sX (F:List Debt) (G:List Int) (D:Nat) (s:k8) (e:b4) (M:bs):Prop:=a3 e 5 = .lsl D s.2.length 0 s.2.length/\a3 e 10 = .sl none (F.map Debt.c)/\a3 e 11 = a4 (F.length:Int)/\a3 e 12 = a4 s.1/\M[D]? = some (.live ⟨.grow,2,1,s.2.map (cI .i64)⟩)/\s.2.length=G.length
def yw (G:List Debt) (F:List Int) (D:Nat) (g:qh) (x:Ex) (e:b4) (M:bs):Prop:=x = .ext 0/\a3 e 5 = .lsl D g.length 0 g.length/\M[D]? = some (.live ⟨.grow,2,1,g.map (cI .i64)⟩)/\g.length=F.length
noncomputable def jN (G:List Debt):k8->Option (k8⊕qh):=fun (Y,O)=>
 if (decide (Y < (G.length:Int)))=true then
  (rd G Y).bind fun D=>
  (rd O D.From).bind fun F=>
  (rd O D.From).bind fun J=>
  (rd (O.set D.From.toNat (IntKind.i64.wrap (F - D.Amount))) D.To).bind fun I=>
  (rd (O.set D.From.toNat (IntKind.i64.wrap (F - D.Amount))) D.To).bind fun N=>
  some (.inl ((IntKind.i64.wrap (Y + 1)),((O.set D.From.toNat (IntKind.i64.wrap (F - D.Amount))).set D.To.toNat (IntKind.i64.wrap (I + D.Amount)))))
 else
  some (.inr O)
theorem yF (I:List Debt) (ap:List Int) (F:Nat) (s:k8) (r:k8⊕qh) (h:jN I s=some r) (e:b4) (M:bs) (bd:sX I ap F s e M):Ev (fun k=>(GB (CN k) k (prune [5,10,11,12] e) M).bind fun q=>some q) (bQ (sX I ap F) (yw I ap F) r):=by
 obtain ⟨aG,G⟩:=s
 unfold jN at h
 obtain ⟨aU,aV,aW,aX,ae,J⟩:=bd
 generalize aa:prune [5,10,11,12] e=bL
 have aY:=bZ aa.symm E aU
 have aZ:=bZ aa.symm E aV
 have au:=bZ aa.symm E aW
 have aw:=bZ aa.symm E aX
 refine av (kx (dp aw au)<|Rn (hV (.lsl F G.length 0 G.length) aY (hV (.sl none (I.map Debt.c)) aZ (hV (a4 (I.length:Int)) au (hV (a4 aG) aw (hN E hZ))))) fun bi ax ay a0 az aA=>sN<|sq ?_)
 rcases aj h with ⟨ah,h⟩ | ⟨ah,h⟩
 ·obtain ⟨D,aH,h⟩:=ad h
  refine cT aA ah (xx<|sN<|sq<|bl<|av<|kx (kJ ay az aH Debt.fl)<|kx (eE E E E) (ku (lG vx) fun a1 aq=>?_))
  have a2:=bS aq ae
  have ai:=b6 ae
  have aB:a1[M.length]? = some (.live ⟨.box,82,3,[[a4 0,a4 0,a4 0]]⟩):=b2 aq
  refine kw (dW E E aB E E ⟨E,ble E⟩ E E) fun a3 ar=>?_
  have O:=a9 ar ai a2
  have U:a3[M.length]? = some (.live ⟨.box,82,3,[[a4 D.From,a4 D.To,a4 D.Amount]]⟩):=bc ar aB
  obtain ⟨N,ak,h⟩:=ad h
  obtain ⟨a5,ab,h⟩:=ad h
  refine Rn (hA ax (hV (.loc M.length 1 0 0) E (hA ay (hA a0 (hA az hZ))))) fun bj aC af a6 a7 a8=>sN (sq<|Rd<|kf (bp aC)<|kf (dQ af U E)<|kf (e8 E U E E E)<|kf (Do E O E E (jc ak).1 (oI ak).2)<|kf (e8 E O (by simp [J]) (rz ak) E)<|kf (dQ af U E)<|kf (e8 E U E E E)<|kf (lD E E)<|kf (Do E O E E (jc ab).1 (oI ab).2)<|fZ<|kw (Fv (u:=a5) (u':=(IntKind.i64.wrap (N - D.Amount))) E E O E (Fw ab) ⟨E,ble E⟩ E E) fun ba am=>?_)
  rw [Nat.zero_add] at am
  have X:ba[F]? = some (.live ⟨.grow,2,1,(G.set D.From.toNat (IntKind.i64.wrap (N - D.Amount))).map (cI .i64)⟩):=bc am O
  have Y:=a9 am (Ne.symm ai) U
  have bf:=nC (u':=(IntKind.i64.wrap (N - D.Amount))) ab
  obtain ⟨Z,an,h⟩:=ad h
  obtain ⟨bb,ac,h⟩:=ad h
  refine Rn (hA aC (hA af (hA a6 (hA a7 (hA a8 hZ))))) fun bk aD aE aN aO aP=>sN (Rd<|kf (bp (D1 (L':=(G.set D.From.toNat (IntKind.i64.wrap (N - D.Amount))).length) aD (by simp [J])))<|kf (dQ aE Y E)<|kf (e8 E Y E E E)<|kf (Do E X E E (jc an).1 (oI an).2)<|kf (e8 E X (by simp [J]) (rz an) E)<|kf (dQ aE Y E)<|kf (e8 E Y E E E)<|kf (cu E E)<|kf (Do E X E E (jc ac).1 (oI ac).2)<|fZ<|kw (Fv (u:=bb) (u':=(IntKind.i64.wrap (Z + D.Amount))) E E X E (Fw ac) ⟨E,ble E⟩ E E) fun aQ ao=>?_)
  rw [Nat.zero_add] at ao
  have aR:aQ[F]? = some (.live ⟨.grow,2,1,((G.set D.From.toNat (IntKind.i64.wrap (N - D.Amount))).set D.To.toNat (IntKind.i64.wrap (Z + D.Amount))).map (cI .i64)⟩):=bc ao X
  have bm:=a9 ao (Ne.symm ai) Y
  have bg:=nC (u':=(IntKind.i64.wrap (Z + D.Amount))) ac
  refine Rn (hA aD (hA aN (hA aO (hA aP hZ)))) fun bn aS aT aI aJ=>bN (sN<|Rg<|kx (cu aJ E)<|be<|Rn (hA aS (hA aT (hA aI (hN E hZ)))) fun bh aK aL aM aF=>?_)
  exact jd h ⟨(D1 (L':=((G.set D.From.toNat (IntKind.i64.wrap (N - D.Amount))).set D.To.toNat (IntKind.i64.wrap (Z + D.Amount))).length) aK (by simp [J])),aL,aM,aF,aR,(by first | rfl | simp [J])⟩
 refine cF aA ah (xx<|sE ?_)
 exact md h ⟨E,ax,ae,(by first | rfl | simp [J])⟩
noncomputable def uy (F:Int) (G:List Debt):Option ((List Int)):=
 (NG 8 0 F).bind fun I=>
 (Lw (jN G) (0,I)).bind fun D=>
 some D
def Av (r:(List Int)):AV:=.sl (some 2) (r.map (cI .i64))
theorem B5 (J:Int) (G:List Debt) (r:(List Int)) (h:uy J G=some r):Ev (fun k=>CN k 56 [a4 J,.sl none (G.map Debt.c)] []) (fun p=>cp p.2 p.1=Av r):=by
 unfold uy at h
 obtain ⟨D,aa,h⟩:=ad h
 refine Ev.enter (F:=fun k=>f56 (CN k) k) (fun k=>bH E Tryz.func56 E E E (by decide +kernel) (Mn _ _)) (av<|be<|Rn (hN E (hN E hZ)) fun ax am an=>sN<|av<|kx (bp am) (ku (OV E E aa (c:=(cI .i64)) NT (de _) (by decide)) fun N ab=>?_))
 have ac:N[([]:bs).length]? = some (.live ⟨.grow,2,1,D.map (cI .i64)⟩):=b2 ab
 obtain ⟨I,O,h⟩:=ad h
 refine be (Rn (hA an (hV (.lsl ([]:bs).length D.length 0 D.length) E hZ)) fun ap ae af=>sN<|sq<|av<|kx (bp ae)<|kx (i2 Tryz.underlying35 E)<|be<|Rn (hA af (hN E (hN E (hV (a4 0) E hZ)))) fun aq ah ai aj ak=>sN<|bl (Ev.loop (yF G D (([]:bs).length)) O ⟨ah,ai,aj,ak,ac,E⟩ fun x au aw U=>?_))
 obtain ⟨rfl,X,Y,ar⟩:=U
 refine bE (sN<|av<|kx (bp X)<|be<|Rn (hV (.lsl ([]:bs).length I.length 0 I.length) E hZ) fun ao Z=>sN<|xx ?_)
 exact ct h (bB Z bK) (eh Y E (de _))
def iT (D:Int) (F:List Debt) (g:Bool) (q:oZ):Prop:=q.1 = .nrm/\a3 q.2.1 0 = a4 D/\a3 q.2.1 1 = .sl none (F.map Debt.c)/\a3 q.2.1 17 = .bool g
abbrev gy:=Int
abbrev la:=Unit⊕Unit
def nQ (F:Int) (D:List Debt) (s:gy) (e:b4) (M:bs):Prop:=a3 e 0 = a4 F/\a3 e 18 = .sl none (D.map Debt.c)/\a3 e 19 = a4 (D.length:Int)/\a3 e 20 = a4 s
def tG (D:Int) (F:List Debt) (r:la) (x:Ex) (e:b4) (M:bs):Prop:=
  match r with
  | (.inl g)=>x = .ret/\a3 e 4 = .bool false
  | (.inr g)=>x = .ext 0/\True
noncomputable def fO (G:Int) (I:List Debt):gy->Option (gy⊕la):=fun F=>
 if (decide (F < (I.length:Int)))=true then
  (rd I F).bind fun D=>
  if (decide (D.From < 0))=true then
   some (.inr (.inl ()))
  else
   if (decide (D.From>=G))=true then
    some (.inr (.inl ()))
   else
    if (decide (D.To < 0))=true then
     some (.inr (.inl ()))
    else
     if (decide (D.To>=G))=true then
      some (.inr (.inl ()))
     else
      if (D.From==D.To)=true then
       some (.inr (.inl ()))
      else
       if (decide (D.Amount < 1))=true then
        some (.inr (.inl ()))
       else
        if (decide (D.Amount > 100000000))=true then
         some (.inr (.inl ()))
        else
         some (.inl (IntKind.i64.wrap (F + 1)))
 else
  some (.inr (.inr ()))
theorem nX (ac:Int) (ab:List Debt) (s:gy) (r:gy⊕la) (h:fO ac ab s=some r) (e:b4) (M:bs) (ak:nQ ac ab s e M):Ev (fun k=>(I5 (CN k) k (prune [0,18,19,20] e) M).bind fun q=>some q) (bQ (nQ ac ab) (tG ac ab) r):=by
 revert h ak
 revert s
 intro ax h ak
 unfold fO at h
 obtain ⟨aU,aV,aW,aX⟩:=ak
 generalize ae:prune [0,18,19,20] e=ci
 have aY:=bZ ae.symm E aU
 have aZ:=bZ ae.symm E aV
 have au:=bZ ae.symm E aW
 have am:=bZ ae.symm E aX
 refine av (kx (dp am au)<|Rn (hV (a4 ac) aY (hV (.sl none (ab.map Debt.c)) aZ (hV (a4 (ab.length:Int)) au (hV (a4 ax) am (hN E hZ))))) fun bL a0 an a1 ao ap=>sN<|sq ?_)
 rcases aj h with ⟨ah,h⟩ | ⟨ah,h⟩
 ·obtain ⟨ai,ay,h⟩:=ad h
  refine cT ap ah (xx<|sN<|sq<|bl<|av<|kx (kJ an ao ay Debt.fl)<|kx (eE E E E) (ku (lG vx) fun a2 az=>?_))
  have aq:a2[M.length]? = some (.live ⟨.box,82,3,[[a4 0,a4 0,a4 0]]⟩):=b2 az
  refine kw (dW E E aq E E ⟨E,ble E⟩ E E) fun a3 aA=>?_
  have D:a3[M.length]? = some (.live ⟨.box,82,3,[[a4 ai.From,a4 ai.To,a4 ai.Amount]]⟩):=bc aA aq
  refine Rn (hA a0 (hV (.loc M.length 1 0 0) E (hA an (hA a1 (hA ao hZ))))) fun bM U X Y Z aa=>sN (av<|kx (dQ X D E)<|kx (e8 E D E E E)<|kx (dp E E)<|kx (bp E) ?_)
  rcases aj h with ⟨I,h⟩ | ⟨I,h⟩
  ·refine kx (gsF E I) (kx (gsF E I)<|kx (gsF E I)<|kx (gsF E I)<|kx (cC E I E)<|be<|kx (gsF E E)<|kx (gsF E E)<|kx (gsF E E)<|kx (cC E E E)<|be<|kx (gsF E E)<|kx (gsF E E)<|kx (gsF E E)<|kx (gsF E E)<|kx (cC E E E)<|be<|kx (gsF E E)<|kx (gsF E E)<|kx (gsF E E)<|kx (gsF E E)<|kx (gsF E E)<|kx (cC E E E)<|be<|kx (gsF E E)<|kx (gsF E E)<|kx (gsF E E)<|kx (cC E E E)<|be<|kx (gsF E E)<|kx (gsF E E)<|kx (gsF E E)<|kx (cC E E E)<|Rn (hA U (hA Y (hA Z (hA aa (hV (.bool true) E hZ))))) fun bO bP bS bT bx a5=>sN<|cT a5 E<|av<|be<|Rn (hV (.bool false) E hZ) fun bz aO=>sN<|xx<|bR<|sR ?_)
   exact lr h ⟨E,aO⟩
  refine kx (guF E I (dQ X D E)) (kx (guF E I (e8 E D E E E))<|kx (guF E I (bp U))<|kx (guF E I (q5 E E))<|kx (cU E I E)<|kx (bp E) ?_)
  rcases aj h with ⟨O,h⟩ | ⟨O,h⟩
  ·refine kx (gsF E O) (kx (gsF E O)<|kx (gsF E O)<|kx (cC E O E)<|be<|kx (gsF E E)<|kx (gsF E E)<|kx (gsF E E)<|kx (gsF E E)<|kx (cC E E E)<|be<|kx (gsF E E)<|kx (gsF E E)<|kx (gsF E E)<|kx (gsF E E)<|kx (gsF E E)<|kx (cC E E E)<|be<|kx (gsF E E)<|kx (gsF E E)<|kx (gsF E E)<|kx (cC E E E)<|be<|kx (gsF E E)<|kx (gsF E E)<|kx (gsF E E)<|kx (cC E E E)<|Rn (hA U (hA Y (hA Z (hA aa (hV (.bool true) E hZ))))) fun bA bB bC bD bE aB=>sN<|cT aB E<|av<|be<|Rn (hV (.bool false) E hZ) fun a8 aC=>sN<|xx<|bR<|sR ?_)
   exact lr h ⟨E,aC⟩
  refine kx (guF E O (dQ X D E)) (kx (guF E O (e8 E D E E E))<|kx (guF E O (dp E E))<|kx (cU E O E)<|kx (bp E) ?_)
  rcases aj h with ⟨G,h⟩ | ⟨G,h⟩
  ·refine kx (gsF E G) (kx (gsF E G)<|kx (gsF E G)<|kx (gsF E G)<|kx (cC E G E)<|be<|kx (gsF E E)<|kx (gsF E E)<|kx (gsF E E)<|kx (gsF E E)<|kx (gsF E E)<|kx (cC E E E)<|be<|kx (gsF E E)<|kx (gsF E E)<|kx (gsF E E)<|kx (cC E E E)<|be<|kx (gsF E E)<|kx (gsF E E)<|kx (gsF E E)<|kx (cC E E E)<|Rn (hA U (hA Y (hA Z (hA aa (hV (.bool true) E hZ))))) fun a9 ba bb bd bf aD=>sN<|cT aD E<|av<|be<|Rn (hV (.bool false) E hZ) fun bg aE=>sN<|xx<|bR<|sR ?_)
   exact lr h ⟨E,aE⟩
  refine kx (guF E G (dQ X D E)) (kx (guF E G (e8 E D E E E))<|kx (guF E G (bp U))<|kx (guF E G (q5 E E))<|kx (cU E G E)<|kx (bp E) ?_)
  rcases aj h with ⟨F,h⟩ | ⟨F,h⟩
  ·refine kx (gsF E F) (kx (gsF E F)<|kx (gsF E F)<|kx (gsF E F)<|kx (gsF E F)<|kx (cC E F E)<|be<|kx (gsF E E)<|kx (gsF E E)<|kx (gsF E E)<|kx (cC E E E)<|be<|kx (gsF E E)<|kx (gsF E E)<|kx (gsF E E)<|kx (cC E E E)<|Rn (hA U (hA Y (hA Z (hA aa (hV (.bool true) E hZ))))) fun bh bi bj bk bm aF=>sN<|cT aF E<|av<|be<|Rn (hV (.bool false) E hZ) fun bn aG=>sN<|xx<|bR<|sR ?_)
   exact lr h ⟨E,aG⟩
  refine kx (guF E F (dQ X D E)) (kx (guF E F (e8 E D E E E))<|kx (guF E F (dQ X D E))<|kx (guF E F (e8 E D E E E))<|kx (guF E F (d8 E E))<|kx (cU E F E)<|kx (bp E) ?_)
  rcases aj h with ⟨J,h⟩ | ⟨J,h⟩
  ·refine kx (gsF E J) (kx (gsF E J)<|kx (gsF E J)<|kx (cC E J E)<|be<|kx (gsF E E)<|kx (gsF E E)<|kx (gsF E E)<|kx (cC E E E)<|Rn (hA U (hA Y (hA Z (hA aa (hV (.bool true) E hZ))))) fun bo bq br bt bu aH=>sN<|cT aH E<|av<|be<|Rn (hV (.bool false) E hZ) fun bv aI=>sN<|xx<|bR<|sR ?_)
   exact lr h ⟨E,aI⟩
  refine kx (guF E J (dQ X D E)) (kx (guF E J (e8 E D E E E))<|kx (guF E J (dp E E))<|kx (cU E J E)<|kx (bp E) ?_)
  rcases aj h with ⟨N,h⟩ | ⟨N,h⟩
  ·refine kx (gsF E N) (kx (gsF E N)<|kx (gsF E N)<|kx (cC E N E)<|Rn (hA U (hA Y (hA Z (hA aa (hV (.bool true) E hZ))))) fun bw a6 a7 bF bG aJ=>sN<|cT aJ E<|av<|be<|Rn (hV (.bool false) E hZ) fun bH aK=>sN<|xx<|bR<|sR ?_)
   exact lr h ⟨E,aK⟩
  refine kx (guF E N (dQ X D E)) (kx (guF E N (e8 E D E E E))<|kx (guF E N (fB E E))<|kx (cU E N E)<|Rn (hA U (hA Y (hA Z (hA aa (hN E hZ))))) fun bI aL aM aN aw ar=>sN ?_)
  rcases aj h with ⟨af,h⟩ | ⟨af,h⟩
  ·refine cT ar af (av<|be<|Rn (hV (.bool false) E hZ) fun bJ aP=>sN<|xx<|bR<|sR ?_)
   exact lr h ⟨E,aP⟩
  refine cF ar af (xx<|bN<|sN<|Rg<|kx (cu aw E)<|be<|Rn (hA aL (hA aM (hA aN (hN E hZ)))) fun bK aQ aR aS aT=>?_)
  exact jd h ⟨aQ,aR,aS,aT⟩
 refine cF ap ah (xx<|sE ?_)
 exact md h ⟨E,trivial⟩
noncomputable def iw (D:Int) (F:List Debt):Option Bool:=
 (if (decide (D < 1))=true then
  some true
 else
  if (decide (D > 16))=true then
   some true
  else
   some (decide ((F.length:Int) > 60))).bind fun G=>
 if G=true then
  some false
 else
  (Lw (fO D F) 0).bind fun r=>match r with
  | (.inl _)=>
   some false
  | (.inr _)=>
   some true
def uZ (r:Bool):AV:=.bool r
theorem pJ (G:Int) (I:List Debt) (r:Bool) (h:iw G I=some r):Ev (fun k=>CN k 55 [a4 G,.sl none (I.map Debt.c)] []) (fun p=>cp p.2 p.1=uZ r):=by
 unfold iw at h
 obtain ⟨aa,U,h⟩:=ad h
 refine Ev.enter (F:=fun k=>f55 (CN k) k) (fun k=>bH E Tryz.func55 E E E (by decide +kernel) (Mj _ _)) (av<|be<|Rn (hN E (hN E hZ)) fun aP N O=>sN<|sq<|sq ?_)
 refine Ev.cut (Q1:=iT G I aa) (by
     have h:=U
     refine Rg (kx (bp N)<|kx (dp E E)<|kx (bp E) ?_)
     rcases aj h with ⟨J,h⟩ | ⟨J,h⟩
     ·refine kx (gsF E J) (kx (gsF E J)<|kx (cC E J E)<|be<|kx (gsF E E)<|kx (gsF E E)<|kx (gsF E E)<|kx (cC E E E)<|Rn (hA N (hA O (hV (.bool true) E hZ))) fun aQ aB aC az=>?_)
      obtain rfl:=si h
      exact kd (show iT G I _ _ from ⟨E,aB,aC,az⟩)
     refine kx (guF E J (bp N)) (kx (guF E J (fB E E))<|kx (cU E J E)<|kx (bp E) ?_)
     rcases aj h with ⟨D,h⟩ | ⟨D,h⟩
     ·refine kx (gsF E D) (kx (gsF E D)<|kx (gsF E D)<|kx (cC E D E)<|Rn (hA N (hA O (hV (.bool true) E hZ))) fun aI aA ai ak=>?_)
      obtain rfl:=si h
      exact kd (show iT G I _ _ from ⟨E,aA,ai,ak⟩)
     refine kx (guF E D (bp O)) (kx (guF E D (i2 Tryz.underlying35 E))<|kx (guF E D (fB E E))<|kx (cU E D E)<|Rn (hA N (hA O (hN E hZ))) fun aJ am an ao=>?_)
     obtain rfl:=si h
     exact kd (show iT G I _ _ from ⟨E,am,an,ao⟩)) ?_
 revert h U
 revert aa
 intro aK U h
 intro x aL aM au
 obtain ⟨rfl,ap,aq,ab⟩:=au
 refine sN ?_
 rcases aj h with ⟨Y,h⟩ | ⟨Y,h⟩
 ·refine cT ab Y (av<|be<|Rn (hV (.bool false) E hZ) fun aN ar=>sN<|xx<|sR ?_)
  exact ct h (bB ar bK) E
 obtain ⟨aw,Z,h⟩:=ad h
 refine cF ab Y (xx<|sN<|sq<|av<|kx (bp aq)<|kx (i2 Tryz.underlying35 E)<|be<|Rn (hA ap (hN E (hN E (hV (a4 0) E hZ)))) fun aO ac ae af ah=>sN<|bl ?_)
 rcases aw with _ | _
 ·refine Ev.loop (nX G I) Z ⟨ac,ae,af,ah⟩ fun x aD aE X=>?_
  obtain ⟨rfl,ax⟩:=X
  refine bR (sR ?_)
  exact ct h (bB ax bK) E
 refine Ev.loop (nX G I) Z ⟨ac,ae,af,ah⟩ fun x aF aG X=>?_
 obtain ⟨rfl,_⟩:=X
 refine bE (sN<|av<|be<|Rn (hV (.bool true) E hZ) fun aH ay=>sN<|xx ?_)
 exact ct h (bB ay bK) E
abbrev iF:=Int
abbrev nF:=Unit⊕Unit
def pC (D:List Debt) (F:List Debt) (s:iF) (e:b4) (M:bs):Prop:=a3 e 0 = .sl none (D.map Debt.c)/\a3 e 1 = .sl none (F.map Debt.c)/\a3 e 5 = a4 s
def vy (D:List Debt) (F:List Debt) (r:nF) (x:Ex) (e:b4) (M:bs):Prop:=
  match r with
  | (.inl g)=>x = .ret/\a3 e 4 = .bool false
  | (.inr g)=>x = .ext 0/\True
noncomputable def iD (I:List Debt) (J:List Debt):iF->Option (iF⊕nF):=fun D=>
 if (decide (D < (I.length:Int)))=true then
  (rd I D).bind fun F=>
  (rd J D).bind fun G=>
  if ((F.From==G.From) && ((F.To==G.To) && ((F.Amount==G.Amount) && true)))=true then
   some (.inl (IntKind.i64.wrap (D + 1)))
  else
   some (.inr (.inl ()))
 else
  some (.inr (.inr ()))
theorem pH (D:List Debt) (F:List Debt) (s:iF) (r:iF⊕nF) (h:iD D F s=some r) (e:b4) (M:bs) (O:pC D F s e M):Ev (fun k=>(JF (CN k) k (prune [0,1,5] e) M).bind fun q=>some q) (bQ (pC D F) (vy D F) r):=by
 revert h O
 revert s
 intro am h O
 unfold iD at h
 obtain ⟨ap,aq,ar⟩:=O
 generalize G:prune [0,1,5] e=aG
 have U:=bZ G.symm E ap
 have au:=bZ G.symm E aq
 have X:=bZ G.symm E ar
 refine sq (av<|kx (bp X)<|kx (bp U)<|kx (i2 Tryz.underlying35 E)<|kx (dp E E)<|Rn (hV (.sl none (D.map Debt.c)) U (hV (.sl none (F.map Debt.c)) au (hV (a4 am) X (hN E hZ)))) fun ax Y Z N aa=>sN ?_)
 rcases aj h with ⟨I,h⟩ | ⟨I,h⟩
 ·obtain ⟨ay,an,h⟩:=ad h
  obtain ⟨az,ao,h⟩:=ad h
  refine cT aa I (xx<|sN<|sq<|bl<|sq<|Rd<|kf (bp Y)<|kf (bp N)<|kf (kJ E E an Debt.fl)<|kf (eE E E E)<|kf (bp Z)<|kf (bp N)<|kf (kJ E E ao Debt.fl)<|kf (eE E E E)<|kf (J5 E E (by kernel_rfl) E)<|fZ<|Rn (hA Y (hA Z (hA N (hN E hZ)))) fun aA aw ac ae ab=>sN ?_)
  rcases aj h with ⟨J,h⟩ | ⟨J,h⟩
  ·refine cF ab (nt J) (xx<|bN<|sN<|Rg<|kx (bp ae)<|kx (cu E E)<|be<|Rn (hA aw (hA ac (hN E hZ))) fun aB af ah ai=>?_)
   exact jd h ⟨af,ah,ai⟩
  refine cT ab (nt J) (av<|be<|Rn (hV (.bool false) E hZ) fun aC ak=>sN<|xx<|bR<|sR ?_)
  exact lr h ⟨E,ak⟩
 refine cF aa I (xx<|sE ?_)
 exact md h ⟨E,trivial⟩
noncomputable def mO (D:List Debt) (F:List Debt):Option Bool:=
 if ((D.length:Int) != (F.length:Int))=true then
  some false
 else
  (Lw (iD D F) 0).bind fun r=>match r with
  | (.inl _)=>
   some false
  | (.inr _)=>
   some true
def xU (r:Bool):AV:=.bool r
theorem yr (D:List Debt) (G:List Debt) (r:Bool) (h:mO D G=some r):Ev (fun k=>CN k 54 [.sl none (D.map Debt.c),.sl none (G.map Debt.c)] []) (fun p=>cp p.2 p.1=xU r):=by
 unfold mO at h
 refine Ev.enter (F:=fun k=>f54 (CN k) k) (fun k=>bH E Tryz.func54 E E E (by decide +kernel) (LT _ _)) (av<|be<|Rn (hN E (hN E hZ)) fun au Y Z=>sN<|sq<|av<|kx (bp Y)<|kx (i2 Tryz.underlying35 E)<|kx (bp Z)<|kx (i2 Tryz.underlying35 E)<|kx (gD E E)<|Rn (hA Y (hA Z (hN E hZ))) fun aw ah ai aa=>sN ?_)
 rcases aj h with ⟨I,h⟩ | ⟨I,h⟩
 ·refine cT aa I (av<|be<|Rn (hV (.bool false) E hZ) fun ak ab=>sN<|xx<|sR ?_)
  exact ct h (bB ab bK) E
 obtain ⟨ac,N,h⟩:=ad h
 refine cF aa I (xx<|sN<|sq<|av<|be<|Rn (hA ah (hA ai (hV (a4 0) E hZ))) fun am O U X=>sN<|bl ?_)
 rcases ac with _ | _
 ·refine Ev.loop (pH D G) N ⟨O,U,X⟩ fun x an ao J=>?_
  obtain ⟨rfl,ae⟩:=J
  refine bR (sR ?_)
  exact ct h (bB ae bK) E
 refine Ev.loop (pH D G) N ⟨O,U,X⟩ fun x ap aq J=>?_
 obtain ⟨rfl,_⟩:=J
 refine bE (sN<|av<|be<|Rn (hV (.bool true) E hZ) fun ar af=>sN<|xx ?_)
 exact ct h (bB af bK) E
abbrev hP:=Int×Int
abbrev mm:=Int
def o7 (F:Ar 16 (Ar 16 Int)) (D:List Int) (s:hP) (e:b4) (M:bs):Prop:=a3 e 0 = .pt none (bY (bY (n:=16) (cI .i64) 0) (Ar.rep 16 0) F)/\a3 e 1 = .sl none (D.map (cI .i64))/\a3 e 5 = a4 (D.length:Int)/\a3 e 6 = a4 s.1/\a3 e 7 = a4 s.2
def u0 (D:Ar 16 (Ar 16 Int)) (F:List Int) (g:mm) (x:Ex) (e:b4) (M:bs):Prop:=x = .ext 0/\a3 e 6 = a4 g
noncomputable def f1 (G:Ar 16 (Ar 16 Int)) (D:List Int):hP->Option (hP⊕mm):=fun (O,J)=>
 if (decide ((IntKind.i64.wrap (J + 1)) < (D.length:Int)))=true then
  (rd D J).bind fun F=>
  (rd D (IntKind.i64.wrap (J + 1))).bind fun I=>
  (jF G F).bind fun N=>
  (jF N I).bind fun U=>
  (kI O U).bind fun X=>
  some (.inl (X,(IntKind.i64.wrap (J + 1))))
 else
  some (.inr O)
theorem uN (D:Ar 16 (Ar 16 Int)) (F:List Int) (s:hP) (r:hP⊕mm) (h:f1 D F s=some r) (e:b4) (M:bs) (aK:o7 D F s e M):Ev (fun k=>(H4 (CN k) k (prune [0,1,5,6,7] e) M).bind fun q=>some q) (bQ (o7 D F) (u0 D F) r):=by
 obtain ⟨O,aC⟩:=s
 unfold f1 at h
 obtain ⟨aI,aJ,ab,ac,ae⟩:=aK
 generalize G:prune [0,1,5,6,7] e=aV
 have af:=bZ G.symm E aI
 have ah:=bZ G.symm E aJ
 have U:=bZ G.symm E ab
 have ai:=bZ G.symm E ac
 have X:=bZ G.symm E ae
 refine sq (av<|kx (bp X)<|kx (cu E E)<|kx (bp U)<|kx (dp E E)<|Rn (hV (.pt none (bY (bY (n:=16) (cI .i64) 0) (Ar.rep 16 0) D)) af (hV (.sl none (F.map (cI .i64))) ah (hV (a4 (F.length:Int)) U (hV (a4 O) ai (hV (a4 aC) X (hN E hZ)))))) fun aM Y J ak Z N aa=>sN ?_)
 rcases aj h with ⟨I,h⟩ | ⟨I,h⟩
 ·obtain ⟨aL,aD,h⟩:=ad h
  obtain ⟨aN,aE,h⟩:=ad h
  obtain ⟨am,aF,h⟩:=ad h
  obtain ⟨an,aG,h⟩:=ad h
  obtain ⟨ao,aH,h⟩:=ad h
  refine cT aa I (xx<|sN<|sq<|bl<|Rd<|kf (bp Z)<|kf (bp Y)<|kf (bp J)<|kf (bp N)<|kf (kJ E E aD (de _))<|kf (cr E E)<|kf (bp J)<|kf (bp N)<|kf (cu E E)<|kf (kJ E E aE (de _))<|kf (cr E E)<|kf (fd E)<|kf (qX (c:=(bY (n:=16) (cI .i64) 0)) (z:=(Ar.rep 16 0)) (g:=D) E E aF (fun _=>E))<|kf (qX (c:=(cI .i64)) (z:=0) (g:=am) E E aG (fun _=>E))<|kf (cr E E)<|fc (cl (v:=a4 ao) E E (b3 E (b3 E E)) E (tU O an _ aH) nm)<|r3<|fZ<|Rn (hA Y (hA J (hA ak (hN E (hA N hZ))))) fun aO ap aq ar au aw=>bN<|sN<|Rg<|kx (bp aw)<|kx (cu E E)<|be<|Rn (hA ap (hA aq (hA ar (hA au (hN E hZ))))) fun aP ax ay az aA aB=>?_)
  exact jd h ⟨ax,ay,az,aA,aB⟩
 refine cF aa I (xx<|sE ?_)
 exact md h ⟨E,Z⟩
noncomputable def lX (F:Ar 16 (Ar 16 Int)) (D:List Int):Option Int:=
 (rd D (IntKind.i64.wrap ((D.length:Int) - 1))).bind fun G=>
 (rd D 0).bind fun I=>
 (jF F G).bind fun J=>
 (jF J I).bind fun N=>
 (Lw (f1 F D) (N,0)).bind fun O=>
 some O
def wd (r:Int):AV:=a4 r
theorem xH (D:Ar 16 (Ar 16 Int)) (G:List Int) (r:Int) (h:lX D G=some r):Ev (fun k=>CN k 52 [.pt none (bY (bY (n:=16) (cI .i64) 0) (Ar.rep 16 0) D),.sl none (G.map (cI .i64))] []) (fun p=>cp p.2 p.1=wd r):=by
 unfold lX at h
 obtain ⟨au,U,h⟩:=ad h
 obtain ⟨aw,X,h⟩:=ad h
 obtain ⟨ac,Y,h⟩:=ad h
 obtain ⟨ax,Z,h⟩:=ad h
 obtain ⟨ay,aa,h⟩:=ad h
 refine Ev.enter (F:=fun k=>f52 (CN k) k) (fun k=>bH E Tryz.func52 E E E (by decide +kernel) (LC _ _)) (av<|be<|Rn (hN E (hN E hZ)) fun aE ar J=>sN<|av<|kx (bp J)<|kx (i2 Tryz.underlying24 E)<|be<|Rn (hA ar (hA J (hN E hZ))) fun aF N I O=>sN<|sq<|Rd<|kf (bp N)<|kf (bp I)<|kf (bp O)<|kf (lD E E)<|kf (kJ E E U (de _))<|kf (cr E E)<|kf (bp I)<|kf (kJ E E X (de _))<|kf (cr E E)<|kf (fd E)<|kf (qX (c:=(bY (n:=16) (cI .i64) 0)) (z:=(Ar.rep 16 0)) (g:=D) E E Y (fun _=>E))<|kf (qX (c:=(cI .i64)) (z:=0) (g:=ac) E E Z (fun _=>E))<|kf (cr E E)<|r3<|fZ<|Rn (hA N (hA I (hA O (hN E hZ)))) fun az ae af ah ai=>sN<|sq<|av<|be<|Rn (hA ae (hA af (hA ah (hA ai (hV (a4 0) E hZ))))) fun aA aj ak am an ao=>sN<|bl (Ev.loop (uN D G) aa ⟨aj,ak,am,an,ao⟩ fun x aB aC ab=>?_))
 obtain ⟨rfl,ap⟩:=ab
 refine bE (sN<|av<|kx (bp ap)<|be<|Rn (hN E hZ) fun aD aq=>sN<|xx ?_)
 exact ct h (bB aq bK) E
def o1 (D:Int) (F:List Debt) (g:Bool) (q:oZ):Prop:=q.1 = .nrm/\a3 q.2.1 0 = a4 D/\a3 q.2.1 1 = .sl none (F.map Debt.c)/\a3 q.2.1 14 = .bool g
abbrev jX:=Int
abbrev oY:=Unit⊕Unit
def rT (D:Int) (F:List Debt) (s:jX) (e:b4) (M:bs):Prop:=a3 e 0 = a4 D/\a3 e 1 = .sl none (F.map Debt.c)/\a3 e 5 = a4 s
def x4 (D:Int) (F:List Debt) (r:oY) (x:Ex) (e:b4) (M:bs):Prop:=
  match r with
  | (.inl g)=>x = .ret/\a3 e 4 = .bool false
  | (.inr g)=>x = .ext 0/\True
noncomputable def kb (G:Int) (I:List Debt):jX->Option (jX⊕oY):=fun F=>
 if (decide (F < (I.length:Int)))=true then
  (rd I F).bind fun D=>
  (d3 G D.From).bind fun J=>
  if J=true then
   (d3 G D.To).bind fun N=>
   if N=true then
    if (D.From==D.To)=true then
     some (.inr (.inl ()))
    else
     (dm D.Amount 1 100000000).bind fun O=>
     if O=true then
      some (.inl (IntKind.i64.wrap (F + 1)))
     else
      some (.inr (.inl ()))
   else
    some (.inr (.inl ()))
  else
   some (.inr (.inl ()))
 else
  some (.inr (.inr ()))
theorem rl (I:Int) (N:List Debt) (s:jX) (r:jX⊕oY) (h:kb I N s=some r) (e:b4) (M:bs) (ac:rT I N s e M):Ev (fun k=>(HQ (CN k) k (prune [0,1,5] e) M).bind fun q=>some q) (bQ (rT I N) (x4 I N) r):=by
 revert h ac
 revert s
 intro aN h ac
 unfold kb at h
 obtain ⟨az,aA,aB⟩:=ac
 generalize Y:prune [0,1,5] e=bq
 have aC:=bZ Y.symm E az
 have ae:=bZ Y.symm E aA
 have af:=bZ Y.symm E aB
 refine sq (av<|kx (bp af)<|kx (bp ae)<|kx (i2 Tryz.underlying35 E)<|kx (dp E E)<|Rn (hV (a4 I) aC (hV (.sl none (N.map Debt.c)) ae (hV (a4 aN) af (hN E hZ)))) fun a6 aD ah ai ak=>sN ?_)
 rcases aj h with ⟨Z,h⟩ | ⟨Z,h⟩
 ·obtain ⟨ab,ao,h⟩:=ad h
  obtain ⟨aE,ap,h⟩:=ad h
  refine cT ak Z (xx<|sN<|sq<|bl<|av<|kx (bp ah)<|kx (bp ai)<|kx (kJ E E ao Debt.fl)<|be<|Rn (hA aD (hA ah (hA ai (hN E hZ)))) fun a7 J U X O=>sN<|sq<|Rd<|kf (bp J)<|kf (bp O)<|kf (fd E)<|kf (cW E ⟨ble E,blt E⟩ E)<|kf (cr E E)<|fc (cl (v:=.bool aE) E E (b3 E (b3 E E)) E (gG I ab.From _ ap) nm)<|kf (eZ E)<|kf (bp E) ?_)
  rcases aj h with ⟨F,h⟩ | ⟨F,h⟩
  ·obtain ⟨aF,aq,h⟩:=ad h
   refine kf (guF E (nt F) (bp J)) (kf (guF E (nt F) (bp O))<|kf (guF E (nt F) (fd E))<|kf (guF E (nt F) (cW E ⟨ble E,blt E⟩ E))<|kf (guF E (nt F) (cr E E))<|fc (Ev.guF E (nt F) (cl (v:=.bool aF) E E (b3 E (b3 E E)) E (gG I ab.To _ aq) nm))<|kf (guF E (nt F) (eZ E))<|kf (cU E (nt F) E)<|kf (bp E) ?_)
   rcases aj h with ⟨D,h⟩ | ⟨D,h⟩
   ·refine kf (guF E (nt D) (bp O)) (kf (guF E (nt D) (fd E))<|kf (guF E (nt D) (cW E ⟨ble E,blt E⟩ E))<|kf (guF E (nt D) (cr E E))<|kf (guF E (nt D) (bp O))<|kf (guF E (nt D) (fd E))<|kf (guF E (nt D) (cW E ⟨ble E,blt E⟩ E))<|kf (guF E (nt D) (cr E E))<|kf (guF E (nt D) (d8 E E))<|kf (cU E (nt D) E)<|kf (bp E) ?_)
    rcases aj h with ⟨G,h⟩ | ⟨G,h⟩
    ·refine kf (gsF E G) (kf (gsF E G)<|kf (gsF E G)<|kf (gsF E G)<|fc (Ev.gsF E G)<|kf (gsF E G)<|kf (cC E G E)<|fZ<|Rn (hA J (hA U (hA X (hV (.bool true) E hZ)))) fun a8 a9 ba aQ aG=>sN<|cT aG E<|av<|be<|Rn (hV (.bool false) E hZ) fun aR aH=>sN<|xx<|bR<|sR ?_)
     exact lr h ⟨E,aH⟩
    obtain ⟨aI,ar,h⟩:=ad h
    refine kf (guF E G (bp O)) (kf (guF E G (fd E))<|kf (guF E G (cW E ⟨ble E,blt E⟩ E))<|kf (guF E G (cr E E))<|fc (Ev.guF E G (cl (v:=.bool aI) E E (b3 E (b3 E (b3 E E))) E (dn ab.Amount 1 100000000 _ ar) nm))<|kf (guF E G (eZ E))<|kf (cU E G E)<|fZ<|Rn (hA J (hA U (hA X (hN E hZ)))) fun aS aJ aK aL am=>sN ?_)
    rcases aj h with ⟨aa,h⟩ | ⟨aa,h⟩
    ·refine cF am (nt aa) (xx<|bN<|sN<|Rg<|kx (bp aL)<|kx (cu E E)<|be<|Rn (hA aJ (hA aK (hN E hZ))) fun aT aM an aO=>?_)
     exact jd h ⟨aM,an,aO⟩
    refine cT am (nt aa) (av<|be<|Rn (hV (.bool false) E hZ) fun aU aP=>sN<|xx<|bR<|sR ?_)
    exact lr h ⟨E,aP⟩
   refine kf (gsF E (nt D)) (kf (gsF E (nt D))<|kf (gsF E (nt D))<|kf (gsF E (nt D))<|kf (gsF E (nt D))<|kf (gsF E (nt D))<|kf (gsF E (nt D))<|kf (gsF E (nt D))<|kf (gsF E (nt D))<|kf (cC E (nt D) E)<|r3<|kf (gsF E E)<|kf (gsF E E)<|kf (gsF E E)<|kf (gsF E E)<|fc (Ev.gsF E E)<|kf (gsF E E)<|kf (cC E E E)<|fZ<|Rn (hA J (hA U (hA X (hV (.bool true) E hZ)))) fun aV aW aX aY au=>sN<|cT au E<|av<|be<|Rn (hV (.bool false) E hZ) fun aZ aw=>sN<|xx<|bR<|sR ?_)
   exact lr h ⟨E,aw⟩
  refine kf (gsF E (nt F)) (kf (gsF E (nt F))<|kf (gsF E (nt F))<|kf (gsF E (nt F))<|kf (gsF E (nt F))<|fc (Ev.gsF E (nt F))<|kf (gsF E (nt F))<|kf (cC E (nt F) E)<|r3<|kf (gsF E E)<|kf (gsF E E)<|kf (gsF E E)<|kf (gsF E E)<|kf (gsF E E)<|kf (gsF E E)<|kf (gsF E E)<|kf (gsF E E)<|kf (gsF E E)<|kf (cC E E E)<|r3<|kf (gsF E E)<|kf (gsF E E)<|kf (gsF E E)<|kf (gsF E E)<|fc (Ev.gsF E E)<|kf (gsF E E)<|kf (cC E E E)<|fZ<|Rn (hA J (hA U (hA X (hV (.bool true) E hZ)))) fun a0 a1 a2 a3 ax=>sN<|cT ax E<|av<|be<|Rn (hV (.bool false) E hZ) fun a5 ay=>sN<|xx<|bR<|sR ?_)
  exact lr h ⟨E,ay⟩
 refine cF ak Z (xx<|sE ?_)
 exact md h ⟨E,trivial⟩
noncomputable def qb (D:Int) (F:List Debt):Option Bool:=
 ((dm D 1 16).bind fun I=>
 if I=true then
  some (decide ((F.length:Int) > 60))
 else
  some true).bind fun G=>
 if G=true then
  some false
 else
  (Lw (kb D F) 0).bind fun r=>match r with
  | (.inl _)=>
   some false
  | (.inr _)=>
   some true
def zG (r:Bool):AV:=.bool r
theorem Ah (G:Int) (I:List Debt) (r:Bool) (h:qb G I=some r):Ev (fun k=>CN k 50 [a4 G,.sl none (I.map Debt.c)] []) (fun p=>cp p.2 p.1=zG r):=by
 unfold qb at h
 obtain ⟨Z,J,h⟩:=ad h
 refine Ev.enter (F:=fun k=>f50 (CN k) k) (fun k=>bH E Tryz.func50 E E E (by decide +kernel) (LZ _ _)) (av<|be<|Rn (hN E (hN E hZ)) fun aL U X=>sN<|sq<|sq ?_)
 refine Ev.cut (Q1:=o1 G I Z) (by
     have h:=J
     obtain ⟨az,au,h⟩:=ad h
     refine Rg (kx (bp U) (kc (cl (v:=.bool az) E E (b3 E (b3 E (b3 E E))) E (dn G 1 16 _ au) nm)<|kx (eZ E)<|kx (bp E) ?_))
     rcases aj h with ⟨D,h⟩ | ⟨D,h⟩
     ·refine kx (guF E (nt D) (bp X)) (kx (guF E (nt D) (i2 Tryz.underlying35 E))<|kx (guF E (nt D) (fB E E))<|kx (cU E (nt D) E)<|Rn (hA U (hA X (hN E hZ))) fun aM aw ax ay=>?_)
      obtain rfl:=si h
      exact kd (show o1 G I _ _ from ⟨E,aw,ax,ay⟩)
     refine kx (gsF E (nt D)) (kx (gsF E (nt D))<|kx (gsF E (nt D))<|kx (cC E (nt D) E)<|Rn (hA U (hA X (hV (.bool true) E hZ))) fun aF af ah ai=>?_)
     obtain rfl:=si h
     exact kd (show o1 G I _ _ from ⟨E,af,ah,ai⟩)) ?_
 revert h J
 revert Z
 intro aG J h
 intro x aH aI ao
 obtain ⟨rfl,ak,am,aa⟩:=ao
 refine sN ?_
 rcases aj h with ⟨O,h⟩ | ⟨O,h⟩
 ·refine cT aa O (av<|be<|Rn (hV (.bool false) E hZ) fun aJ an=>sN<|xx<|sR ?_)
  exact ct h (bB an bK) E
 obtain ⟨ap,Y,h⟩:=ad h
 refine cF aa O (xx<|sN<|sq<|av<|be<|Rn (hV (a4 G) ak (hV (.sl none (I.map Debt.c)) am (hV (a4 0) E hZ))) fun aK ab ac ae=>sN<|bl ?_)
 rcases ap with _ | _
 ·refine Ev.loop (rl G I) Y ⟨ab,ac,ae⟩ fun x aA aB N=>?_
  obtain ⟨rfl,aq⟩:=N
  refine bR (sR ?_)
  exact ct h (bB aq bK) E
 refine Ev.loop (rl G I) Y ⟨ab,ac,ae⟩ fun x aC aD N=>?_
 obtain ⟨rfl,_⟩:=N
 refine bE (sN<|av<|be<|Rn (hV (.bool true) E hZ) fun aE ar=>sN<|xx ?_)
 exact ct h (bB ar bK) E
abbrev gr:=Int×(List Debt)
abbrev kM:=Unit⊕((List Debt))
def nT (I:Ar 16 (Ar 16 Int)) (D:Int) (G:Ar 16 Int) (F:Nat) (s:gr) (e:b4) (M:bs):Prop:=a3 e 4 = .lsl F s.2.length 0 s.2.length/\a3 e 5 = a4 D/\a3 e 10 = .agg (bY (bY (n:=16) (cI .i64) 0) (Ar.rep 16 0) I)/\a3 e 11 = a4 D/\a3 e 15 = .agg (bY (cI .i64) 0 G)/\a3 e 16 = a4 s.1/\M[F]? = some (.live ⟨.grow,82,3,s.2.map Debt.c⟩)
def s9 (G:Ar 16 (Ar 16 Int)) (F:Int) (I:Ar 16 Int) (D:Nat) (r:kM) (x:Ex) (e:b4) (M:bs):Prop:=
  match r with
  | (.inl g)=>x = .ret/\a3 e 2 = .nils/\a3 e 3 = a4 3
  | (.inr g)=>x = .ext 2/\a3 e 4 = .lsl D g.length 0 g.length/\a3 e 10 = .agg (bY (bY (n:=16) (cI .i64) 0) (Ar.rep 16 0) G)/\a3 e 11 = a4 F/\M[D]? = some (.live ⟨.grow,82,3,g.map Debt.c⟩)
noncomputable def dF (F:Int) (I:Ar 16 Int):gr->Option (gr⊕kM):=fun (J,O)=>
 if (decide (J < 16))=true then
  (jF I J).bind fun D=>
  if (decide (D > 100000000))=true then
   some (.inr (.inl ()))
  else
   if (decide (D > 0))=true then
    (qB 24 O [(Debt.mk F J D)]).bind fun G=>
    some (.inl ((IntKind.i64.wrap (J + 1)),G))
   else
    some (.inl ((IntKind.i64.wrap (J + 1)),O))
 else
  some (.inr (.inr O))
theorem nZ (J:Ar 16 (Ar 16 Int)) (D:Int) (I:Ar 16 Int) (F:Nat) (s:gr) (r:gr⊕kM) (h:dF D I s=some r) (e:b4) (M:bs) (bx:nT J D I F s e M):Ev (fun k=>(I9 (CN k) k (prune [4,5,10,11,15,16] e) M).bind fun q=>some q) (bQ (nT J D I F) (s9 J D I F) r):=by
 obtain ⟨aC,ao⟩:=s
 unfold dF at h
 obtain ⟨a2,a3,a5,a6,a7,a8,N⟩:=bx
 generalize G:prune [4,5,10,11,15,16] e=cq
 have a9:=bZ G.symm E a2
 have aM:=bZ G.symm E a3
 have aN:=bZ G.symm E a5
 have bv:=bZ G.symm E a6
 have bw:=bZ G.symm E a7
 have an:=bZ G.symm E a8
 refine av (kx (dp an E)<|Rn (hV (.lsl F ao.length 0 ao.length) a9 (hV (a4 D) aM (hV (.agg (bY (bY (n:=16) (cI .i64) 0) (Ar.rep 16 0) J)) aN (hV (a4 D) bv (hV (.agg (bY (cI .i64) 0 I)) bw (hA an (hN E hZ))))))) fun bG ap aD aq ar au Y aw=>sN<|sq ?_)
 rcases aj h with ⟨O,h⟩ | ⟨O,h⟩
 ·obtain ⟨aE,az,h⟩:=ad h
  refine cT aw O (xx<|sN<|sq<|bl<|av<|kx (bp Y)<|kx (Ge (K:=AV.int .i64) (c:=(cI .i64)) (z:=0) (g:=I) au Y az (fun _=>E))<|be<|be<|Rn (hA ap (hA aD (hN E (hN E (hA aq (hA ar (hA au (hA Y hZ)))))))) fun bz aF aG aH ax aI aJ aK aL=>sN<|sq<|av<|kx (bp ax)<|kx (fB E E)<|Rn (hA aF (hA aG (hA aH (hA ax (hA aI (hA aJ (hA aK (hA aL (hN E hZ))))))))) fun bA ay ba bb ab bd bf bg bh ac=>sN ?_)
  rcases aj h with ⟨U,h⟩ | ⟨U,h⟩
  ·refine cT ac U (av<|be<|be<|Rn (hV .nils E (hV (a4 3) E hZ)) fun bB bi bj=>sN<|xx<|sR<|bR<|sR ?_)
   exact lr h ⟨E,bi,bj⟩
  refine cF ac U (xx<|sN<|av<|kx (bp ab)<|kx (fB E E)<|Rn (hA ay (hA ba (hA bb (hA ab (hA bd (hA bf (hA bg (hA bh (hN E hZ))))))))) fun bC ae Z bk bm af ah ai ak am=>sN ?_)
  rcases aj h with ⟨X,h⟩ | ⟨X,h⟩
  ·obtain ⟨aa,aA,h⟩:=ad h
   refine cT am X (Rg<|kx (bp ae)<|kx (bp Z)<|kx (bp bk)<|kx (bp bm)<|kx (gg vx (b3 (t6 E) (b3 (t6 E) (b3 (t6 E) E))) (gz ⟨E,ble E⟩ E E (gz ⟨E,ble E⟩ E E (gz ⟨E,ble E⟩ E E (dz E)))))<|kx (kh (b3 E E) E ⟨E,by decide⟩)<|kw (Dp E N E (DO (c:=Debt.c) (xs:=[(Debt.mk D aC aE)]) E) aA Debt.fl (by decide)) fun bn aB=>?_)
   have bo:bn[F]? = some (.live ⟨.grow,82,3,aa.map Debt.c⟩):=bc aB N
   refine be (Rn (hV (.lsl F aa.length 0 aa.length) E (hA Z (hA af (hA ah (hA ai (hA ak hZ)))))) fun bD bq br bt bu aO aP=>bN<|sN<|Rg<|kx (cu aP E)<|be<|Rn (hA bq (hA br (hA bt (hA bu (hA aO (hN E hZ)))))) fun bE aQ aR aS aT aU aV=>?_)
   exact jd h ⟨aQ,aR,aS,aT,aU,aV,bo⟩
  refine cF am X (xx<|bN<|sN<|Rg<|kx (cu ak E)<|be<|Rn (hA ae (hA Z (hA af (hA ah (hA ai (hN E hZ)))))) fun bF aW aX aY aZ a0 a1=>?_)
  exact jd h ⟨aW,aX,aY,aZ,a0,a1,N⟩
 refine cF aw O (xx<|sE ?_)
 exact md h ⟨E,ap,aq,ar,N⟩
abbrev go:=Int×(List Debt)
abbrev kC:=Unit⊕((List Debt))
def nV (F:Ar 16 (Ar 16 Int)) (D:Nat) (s:go) (e:b4) (M:bs):Prop:=a3 e 4 = .lsl D s.2.length 0 s.2.length/\a3 e 10 = .agg (bY (bY (n:=16) (cI .i64) 0) (Ar.rep 16 0) F)/\a3 e 11 = a4 s.1/\M[D]? = some (.live ⟨.grow,82,3,s.2.map Debt.c⟩)
def tB (F:Ar 16 (Ar 16 Int)) (D:Nat) (r:kC) (x:Ex) (e:b4) (M:bs):Prop:=
  match r with
  | (.inl g)=>x = .ret/\a3 e 2 = .nils/\a3 e 3 = a4 3
  | (.inr g)=>x = .ext 0/\a3 e 4 = .lsl D g.length 0 g.length/\M[D]? = some (.live ⟨.grow,82,3,g.map Debt.c⟩)
noncomputable def d5 (D:Ar 16 (Ar 16 Int)):go->Option (go⊕kC):=fun (J,O)=>
 if (decide (J < 16))=true then
  (jF D J).bind fun F=>
  (Lw (dF J F) (0,O)).bind fun r=>match r with
  | (.inl _)=>
   some (.inr (.inl ()))
  | (.inr Y)=>
   some (.inl ((IntKind.i64.wrap (J + 1)),Y))
 else
  some (.inr (.inr O))
theorem n2 (D:Ar 16 (Ar 16 Int)) (F:Nat) (s:go) (r:go⊕kC) (h:d5 D s=some r) (e:b4) (M:bs) (aW:nV D F s e M):Ev (fun k=>(Is (CN k) k (prune [4,10,11] e) M).bind fun q=>some q) (bQ (nV D F) (tB D F) r):=by
 obtain ⟨I,ai⟩:=s
 unfold d5 at h
 obtain ⟨aJ,aK,aL,U⟩:=aW
 generalize N:prune [4,10,11] e=bz
 have aw:=bZ N.symm E aJ
 have aM:=bZ N.symm E aK
 have an:=bZ N.symm E aL
 refine av (kx (dp an E)<|Rn (hV (.lsl F ai.length 0 ai.length) aw (hV (.agg (bY (bY (n:=16) (cI .i64) 0) (Ar.rep 16 0) D)) aM (hV (a4 I) an (hN E hZ)))) fun aX ao ap X aq=>sN<|sq ?_)
 rcases aj h with ⟨O,h⟩ | ⟨O,h⟩
 ·obtain ⟨G,ax,h⟩:=ad h
  refine cT aq O (xx<|sN<|sq<|bl<|av<|kx (bp X)<|kx (OD (c:=(bY (n:=16) (cI .i64) 0)) (z:=(Ar.rep 16 0)) (g:=D) ap X ax (fun _=>E)) (ku (lG LI) fun aN ak=>?_))
  have aO:=bS ak U
  have ay:=b6 U
  have au:aN[M.length]? = some (.live ⟨.box,89,16,[(bY (cI .i64) 0 (Ar.rep 16 0))]⟩):=b2 ak
  refine be (kw (dW E E au E E ⟨E,ble E⟩ E E) fun aP am=>?_)
  have Y:=a9 am ay aO
  have aQ:aP[M.length]? = some (.live ⟨.box,89,16,[(bY (cI .i64) 0 G)]⟩):=bc am au
  obtain ⟨az,ah,h⟩:=ad h
  refine Rn (hA ao (hN E (hV (.loc M.length 1 0 0) E (hA ap (hA X hZ))))) fun aY aR aS aT aU aV=>sN (av<|kx (cm (cs':=(bY (cI .i64) 0 G)) aT aQ E E (ble E) E)<|be<|Rn (hA aR (hA aS (hA aU (hA aV (hN E (hV (a4 0) E hZ)))))) fun aZ Z aa ab ac ae af=>sN<|bl ?_)
  rcases az with _ | ar
  ·refine Ev.loop (nZ D I G F) ah ⟨Z,aa,ab,ac,ae,af,Y⟩ fun x a0 a1 J=>?_
   obtain ⟨rfl,aA,aB⟩:=J
   refine bR (bR<|sR ?_)
   exact lr h ⟨E,aA,aB⟩
  refine Ev.loop (nZ D I G F) ah ⟨Z,aa,ab,ac,ae,af,Y⟩ fun x a2 a3 J=>?_
  obtain ⟨rfl,aC,aD,aE,aF⟩:=J
  refine bE (bN<|sN<|Rg<|kx (cu aE E)<|be<|Rn (hV (.lsl F ar.length 0 ar.length) aC (hV (.agg (bY (bY (n:=16) (cI .i64) 0) (Ar.rep 16 0) D)) aD (hN E hZ))) fun a5 aG aH aI=>?_)
  exact jd h ⟨aG,aH,aI,aF⟩
 refine cF aq O (xx<|sE ?_)
 exact md h ⟨E,ao,U⟩
noncomputable def eB (D:Ar 16 (Ar 16 Int)):Option (Unit⊕((List Debt))):=
 (Lw (d5 D) (0,([]:List Debt))).bind fun r=>match r with
 | (.inl _)=>
  some (.inl ())
 | (.inr J)=>
  if (decide ((J.length:Int) > 60))=true then
   some (.inl ())
  else
   some (.inr J)
def uI (r:Unit⊕((List Debt))):AV:=
  match r with
  | (.inl g)=>.tup [.nils,a4 3]
  | (.inr g)=>.tup [.sl (some 82) (g.map Debt.c),a4 0]
theorem fR (D:Ar 16 (Ar 16 Int)) (r:Unit⊕((List Debt))) (h:eB D=some r):Ev (fun k=>CN k 49 [.agg (bY (bY (n:=16) (cI .i64) 0) (Ar.rep 16 0) D)] []) (fun p=>cp p.2 p.1=uI r):=by
 unfold eB at h
 refine Ev.enter (F:=fun k=>f49 (CN k) k) (fun k=>bH E Tryz.func49 E E E (by decide +kernel) (Lz _ _)) (av<|kx (ps E E ⟨E,E,by decide⟩)<|be<|be<|Rn (hN E hZ) fun aE au=>sN<|av (ku (Ai (xs:=([]:List Debt)) (c:=Debt.c) E E (by decide)) fun ac ae=>?_))
 have ab:ac[([]:bs).length]? = some (.live ⟨.grow,82,3,([]:List Debt).map Debt.c⟩):=b2 ae
 obtain ⟨ai,N,h⟩:=ad h
 refine be (Rn (hA au (hV (.lsl ([]:bs).length ([]:List Debt).length 0 ([]:List Debt).length) E hZ)) fun aF af ah=>sN<|sq<|av<|kx (eE af E E)<|be<|Rn (hA ah (hN E (hV (a4 0) E hZ))) fun aD Y Z aa=>sN<|bl ?_)
 rcases ai with _ | J
 ·refine Ev.loop (n2 D (([]:bs).length)) N ⟨Y,Z,aa,ab⟩ fun x aw ax G=>?_
  obtain ⟨rfl,ak,am⟩:=G
  refine bR (sR ?_)
  exact ct h (bB ak (bB am bK)) E
 refine Ev.loop (n2 D (([]:bs).length)) N ⟨Y,Z,aa,ab⟩ fun x ay az G=>?_
 obtain ⟨rfl,O,U⟩:=G
 refine bE (sN<|sq<|av<|kx (bp O)<|kx (Or Tryz.underlying35 E U (by simp))<|kx (fB E E)<|Rn (hV (.lsl ([]:bs).length J.length 0 J.length) O (hN E hZ)) fun aA an X=>sN ?_)
 rcases aj h with ⟨I,h⟩ | ⟨I,h⟩
 ·refine cT X I (av<|be<|be<|Rn (hV .nils E (hV (a4 3) E hZ)) fun aB ao ap=>sN<|xx<|sR ?_)
  exact ct h (bB ao (bB ap bK)) E
 refine cF X I (xx<|sN<|av<|kx (bp an)<|be<|be<|Rn (hV (.lsl ([]:bs).length J.length 0 J.length) E (hV (a4 0) E hZ)) fun aC aq ar=>sN<|xx ?_)
 exact ct h (bB aq (bB ar bK)) (jP (hD (eh U E Debt.fl) (hD E ru)))
abbrev jk:=Int×(Ar 16 (Ar 16 Int))
abbrev oa:=(Ar 16 (Ar 16 Int))
def qD (G:List Debt) (D:Nat) (F:Nat) (s:jk) (e:b4) (M:bs):Prop:=a3 e 2 = .loc D 1 0 0/\a3 e 3 = .loc F 1 0 0/\a3 e 7 = .sl none (G.map Debt.c)/\a3 e 8 = a4 (G.length:Int)/\a3 e 9 = a4 s.1/\M[D]? = some (.live ⟨.box,91,256,[(bY (bY (n:=16) (cI .i64) 0) (Ar.rep 16 0) (Ar.rep 16 (Ar.rep 16 0)))]⟩)/\M[F]? = some (.live ⟨.box,91,256,[(bY (bY (n:=16) (cI .i64) 0) (Ar.rep 16 0) s.2)]⟩)
def wj (G:List Debt) (D:Nat) (F:Nat) (g:oa) (x:Ex) (e:b4) (M:bs):Prop:=x = .ext 0/\a3 e 2 = .loc D 1 0 0/\a3 e 3 = .loc F 1 0 0/\M[D]? = some (.live ⟨.box,91,256,[(bY (bY (n:=16) (cI .i64) 0) (Ar.rep 16 0) (Ar.rep 16 (Ar.rep 16 0)))]⟩)/\M[F]? = some (.live ⟨.box,91,256,[(bY (bY (n:=16) (cI .i64) 0) (Ar.rep 16 0) g)]⟩)
noncomputable def ii (F:List Debt):jk->Option (jk⊕oa):=fun (Y,O)=>
 if (decide (Y < (F.length:Int)))=true then
  (rd F Y).bind fun D=>
  (jF O D.From).bind fun I=>
  (jF I D.To).bind fun J=>
  (jF O D.From).bind fun G=>
  (jF G D.To).bind fun N=>
  some (.inl ((IntKind.i64.wrap (Y + 1)),(O.set D.From.toNat (G.set D.To.toNat (IntKind.i64.wrap (J + D.Amount))))))
 else
  some (.inr O)
theorem wE (N:List Debt) (O:Nat) (J:Nat) (aD:O≠J) (s:jk) (r:jk⊕oa) (h:ii N s=some r) (e:b4) (M:bs) (bg:qD N O J s e M):Ev (fun k=>(I2 (CN k) k (prune [2,3,7,8,9] e) M).bind fun q=>some q) (bQ (qD N O J) (wj N O J) r):=by
 obtain ⟨aE,ab⟩:=s
 unfold ii at h
 obtain ⟨a0,a1,a2,a3,a5,ah,ai⟩:=bg
 generalize U:prune [2,3,7,8,9] e=bM
 have a6:=bZ U.symm E a0
 have a7:=bZ U.symm E a1
 have a8:=bZ U.symm E a2
 have ak:=bZ U.symm E a3
 have am:=bZ U.symm E a5
 refine av (kx (dp am ak)<|Rn (hV (.loc O 1 0 0) a6 (hV (.loc J 1 0 0) a7 (hV (.sl none (N.map Debt.c)) a8 (hV (a4 (N.length:Int)) ak (hV (a4 aE) am (hN E hZ)))))) fun bk an ao ap ba aq ar=>sN<|sq ?_)
 rcases aj h with ⟨ac,h⟩ | ⟨ac,h⟩
 ·obtain ⟨D,aF,h⟩:=ad h
  refine cT ar ac (xx<|sN<|sq<|bl<|av<|kx (kJ ap aq aF Debt.fl)<|kx (eE E E E) (ku (lG vx) fun bb ae=>?_))
  have bd:=bS ae ah
  have aG:=b6 ah
  have bf:=bS ae ai
  have ax:=b6 ai
  have au:bb[M.length]? = some (.live ⟨.box,82,3,[[a4 0,a4 0,a4 0]]⟩):=b2 ae
  refine kw (dW E E au E E ⟨E,ble E⟩ E E) fun aO af=>?_
  have aP:=a9 af aG bd
  have F:=a9 af ax bf
  have I:aO[M.length]? = some (.live ⟨.box,82,3,[[a4 D.From,a4 D.To,a4 D.Amount]]⟩):=bc af au
  obtain ⟨bm,ay,h⟩:=ad h
  obtain ⟨aw,az,h⟩:=ad h
  obtain ⟨aQ,aA,h⟩:=ad h
  obtain ⟨bn,aB,h⟩:=ad h
  refine Rn (hA an (hA ao (hV (.loc M.length 1 0 0) E (hA ap (hA ba (hA aq hZ)))))) fun bo aR X Y aS aT aU=>sN (Rd<|kf (dQ Y I E)<|kf (e8 E I E E E)<|kf (dQ Y I E)<|kf (e8 E I E E E)<|kf (l9 X F E E ay)<|kf (l9 E F E E az)<|kf (wR (K:=AV.int .i64) (c:=(cI .i64)) (z:=0) (Z:=(Ar.rep 16 0)) (G:=ab) (pre:=[]) (post:=[]) E F E E E E E (fun _=>E) ay az)<|kf (dQ Y I E)<|kf (e8 E I E E E)<|kf (cu E E)<|kf (l9 X F E E aA)<|kf (l9 E F E E aB)<|fZ<|kw (EX (c:=(cI .i64)) (z:=0) (Z:=(Ar.rep 16 0)) (G:=ab) (pre:=[]) (post:=[]) (w':=(IntKind.i64.wrap (aw + D.Amount))) E E F E E E E E (fun _=>E) E E aA aB) fun aV aa=>?_)
  have aH:=a9 aa aD aP
  have aI:aV[J]? = some (.live ⟨.box,91,256,[(bY (bY (n:=16) (cI .i64) 0) (Ar.rep 16 0) (ab.set D.From.toNat (aQ.set D.To.toNat (IntKind.i64.wrap (aw + D.Amount)))))]⟩):=bc aa F
  have bh:=a9 aa (Ne.symm ax) I
  refine Rn (hA aR (hA X (hA aS (hA aT (hA aU hZ))))) fun bi aJ aK aL aM aN=>bN (sN<|Rg<|kx (cu aN E)<|be<|Rn (hA aJ (hA aK (hA aL (hA aM (hN E hZ))))) fun bj aC aW aX aY aZ=>?_)
  exact jd h ⟨aC,aW,aX,aY,aZ,aH,aI⟩
 refine cF ar ac (xx<|sE ?_)
 exact md h ⟨E,an,ao,ah,ai⟩
noncomputable def mz (F:List Debt):Option ((Ar 16 (Ar 16 Int))):=
 (Lw (ii F) (0,(Ar.rep 16 (Ar.rep 16 0)))).bind fun D=>
 some D
def yv (r:(Ar 16 (Ar 16 Int))):AV:=.agg (bY (bY (n:=16) (cI .i64) 0) (Ar.rep 16 0) r)
theorem tI (J:List Debt) (r:(Ar 16 (Ar 16 Int))) (h:mz J=some r):Ev (fun k=>CN k 46 [.sl none (J.map Debt.c)] []) (fun p=>cp p.2 p.1=yv r):=by
 unfold mz at h
 refine Ev.enter (F:=fun k=>f46 (CN k) k) (fun k=>bH E Tryz.func46 E E E (by decide +kernel) (MC _ _)) (av (ku (lG BZ) fun D az=>?_))
 have ab:D[([]:bs).length]? = some (.live ⟨.box,91,256,[(bY (bY (n:=16) (cI .i64) 0) (Ar.rep 16 0) (Ar.rep 16 (Ar.rep 16 0)))]⟩):=b2 az
 refine Rn (hN E (hV (.loc ([]:bs).length 1 0 0) E hZ)) fun aK aC aD=>sN (av<|kx (gg BZ E (dz E)) (ku (lG BZ) fun aA O=>?_))
 have aB:=bS O ab
 have G:=b6 ab
 have aa:aA[D.length]? = some (.live ⟨.box,91,256,[(bY (bY (n:=16) (cI .i64) 0) (Ar.rep 16 0) (Ar.rep 16 (Ar.rep 16 0)))]⟩):=b2 O
 refine kw (dW E E aa E E ⟨E,ble E⟩ E E) fun ac U=>?_
 have ae:=a9 U G aB
 have af:ac[D.length]? = some (.live ⟨.box,91,256,[(bY (bY (n:=16) (cI .i64) 0) (Ar.rep 16 0) (Ar.rep 16 (Ar.rep 16 0)))]⟩):=bc U aa
 obtain ⟨I,aq,h⟩:=ad h
 refine Rn (hA aC (hA aD (hV (.loc D.length 1 0 0) E hZ))) fun aI ah ai aj=>sN (sq<|av<|kx (bp ah)<|kx (i2 Tryz.underlying35 E)<|be<|Rn (hA ai (hA aj (hN E (hN E (hV (a4 0) E hZ))))) fun aJ ak am an ao ap=>sN<|bl (Ev.loop (wE J (([]:bs).length) D.length G) aq ⟨ak,am,an,ao,ap,ae,af⟩ fun x aE aF ar=>?_))
 obtain ⟨rfl,X,au,Y,Z⟩:=ar
 refine bE (sN<|av<|kx (cm (cs':=(bY (bY (n:=16) (cI .i64) 0) (Ar.rep 16 0) I)) au Z E E (ble E) E)<|kw (dW X E Y E E ⟨E,ble E⟩ E E) fun aw N=>?_)
 have ax:aw[([]:bs).length]? = some (.live ⟨.box,91,256,[(bY (bY (n:=16) (cI .i64) 0) (Ar.rep 16 0) I)]⟩):=bc N Y
 have aG:=a9 N (Ne.symm G) Z
 refine Rn (hV (.loc ([]:bs).length 1 0 0) X hZ) fun aH ay=>sN (xx ?_)
 exact ct h (eC (ag:=true) (sz:=256) ⟨by kernel_rfl,by kernel_rfl,by kernel_rfl⟩ (cm (cs':=(bY (bY (n:=16) (cI .i64) 0) (Ar.rep 16 0) I)) ay ax E E (ble E) E) bK) E
end Go.Proofs.YtkdinadmheomfaaGreat
