/- Printed by a program of ours (ext.py). -/
import Derived.Test.YtkdinadmheomfaaGreatLnkTopx2
set_option linter.unusedVariables false
set_option linter.unusedSimpArgs false
set_option maxRecDepth 100000
set_option maxHeartbeats 20000000
namespace Go.Proofs.YtkdinadmheomfaaGreat
open Go Go.Ab
abbrev e6:=Int×Int
abbrev jz:=Int
def lT (G:Ar 16 (Ar 16 Int)) (D:List Int) (F:Nat) (M0:bs) (s:e6) (e:b4) (M:bs):Prop:=a3 e 0 = .loc F 1 0 0/\a3 e 1 = .sl none (D.map (cI .i64))/\a3 e 5 = a4 s.1/\a3 e 11 = .sl none (D.map (cI .i64))/\a3 e 12 = a4 (D.length:Int)/\a3 e 13 = a4 s.2/\M[F]? = some (.live ⟨.box,91,256,[(bY (bY (n:=16) (cI .i64) 0) (Ar.rep 16 0) G)]⟩)/\Fr [F] M0 M
def re (F:Ar 16 (Ar 16 Int)) (G:List Int) (D:Nat) (M0:bs) (g:jz) (x:Ex) (e:b4) (M:bs):Prop:=x = .ext 0/\a3 e 0 = .loc D 1 0 0/\a3 e 1 = .sl none (G.map (cI .i64))/\a3 e 5 = a4 g/\M[D]? = some (.live ⟨.box,91,256,[(bY (bY (n:=16) (cI .i64) 0) (Ar.rep 16 0) F)]⟩)/\Fr [D] M0 M
noncomputable def dN (G:Ar 16 (Ar 16 Int)) (D:List Int):e6->Option (e6⊕jz):=fun (O,J)=>
 if (decide (J < (D.length:Int)))=true then
  (rd D J).bind fun I=>
  (rem .i64 (IntKind.i64.wrap (J + 1)) (D.length:Int)).bind fun N=>
  (rd D N).bind fun U=>
  (jF G I).bind fun X=>
  (jF X U).bind fun F=>
  if (decide (O < 0))=true then
   some (.inl (F,(IntKind.i64.wrap (J + 1))))
  else
   if (decide (F < O))=true then
    some (.inl (F,(IntKind.i64.wrap (J + 1))))
   else
    some (.inl (O,(IntKind.i64.wrap (J + 1))))
 else
  some (.inr O)
theorem q7 (N:Ar 16 (Ar 16 Int)) (I:List Int) (X:Nat) (M0:bs) (s:e6) (r:e6⊕jz) (h:dN N I s=some r) (e:b4) (M:bs) (bL:lT N I X M0 s e M):Ev (fun k=>(GU (CN k) k (prune [0,1,5,11,12,13] e) M).bind fun q=>some q) (bQ (lT N I X M0) (re N I X M0) r):=by
 obtain ⟨aH,aI⟩:=s
 unfold dN at h
 obtain ⟨a3,a5,a6,a7,a8,a9,F,O⟩:=bL
 generalize J:prune [0,1,5,11,12,13] e=cJ
 have ba:=bZ J.symm E a3
 have bb:=bZ J.symm E a5
 have bc:=bZ J.symm E a6
 have bd:=bZ J.symm E a7
 have af:=bZ J.symm E a8
 have ah:=bZ J.symm E a9
 refine av (kx (dp ah af)<|Rn (hV (.loc X 1 0 0) ba (hV (.sl none (I.map (cI .i64))) bb (hV (a4 aH) bc (hV (.sl none (I.map (cI .i64))) bd (hV (a4 (I.length:Int)) af (hV (a4 aI) ah (hN E hZ))))))) fun bT ai ak am an aQ ab ao=>sN<|sq ?_)
 rcases aj h with ⟨aa,h⟩ | ⟨aa,h⟩
 ·obtain ⟨bU,aJ,h⟩:=ad h
  obtain ⟨bV,aK,h⟩:=ad h
  obtain ⟨bW,aL,h⟩:=ad h
  obtain ⟨bX,ay,h⟩:=ad h
  obtain ⟨bY,az,h⟩:=ad h
  refine cT ao aa (xx<|sN<|sq<|bl<|av<|kx (bp ab)<|kx (kJ an ab aJ (de _))<|kx (cr E E)<|be<|be<|Rn (hA ai (hA ak (hA am (hN E (hN E (hA an (hA aQ (hA ab hZ)))))))) fun b0 ap ac aR bz bA bB bC bD=>sN<|sq<|Rd<|kf (bp ap)<|kf (bp bA)<|kf (bp ac)<|kf (bp bz)<|kf (cu E E)<|kf (bp ac)<|kf (i2 Tryz.underlying24 E)<|kf (Bx E E aK)<|kf (kJ E E aL (de _))<|kf (cr E E)<|kf (mL E F E)<|kf (l9 E F E E ay)<|kf (l9 E F E E az)<|kf (wR (K:=AV.int .i64) (c:=(cI .i64)) (z:=0) (Z:=(Ar.rep 16 0)) (G:=N) (pre:=[]) (post:=[]) E F E E E E E (fun _=>E) ay az)<|r3<|fZ<|Rn (hA ap (hA ac (hA aR (hN E (hA bB (hA bC (hA bD hZ))))))) fun b1 aq ar U ae au aw ax=>sN<|av<|kx (bp U)<|kx (dp E E)<|kx (bp E) ?_)
  rcases aj h with ⟨D,h⟩ | ⟨D,h⟩
  ·refine kx (gsF E D) (kx (gsF E D)<|kx (gsF E D)<|kx (cC E D E)<|Rn (hA aq (hA ar (hA U (hA ae (hA au (hA aw (hA ax (hV (.bool true) E hZ)))))))) fun b2 bE bF b3 bG bH bI bJ bK=>sN<|cT bK E<|Rg<|kx (bp bG)<|be<|Rn (hA bE (hA bF (hN E (hA bH (hA bI (hA bJ hZ)))))) fun b5 aM aN aO aP aG bf=>bN<|sN<|Rg<|kx (cu bf E)<|be<|Rn (hA aM (hA aN (hA aO (hA aP (hA aG (hN E hZ)))))) fun bM bg bh bi bj bk bm=>?_)
   exact jd h ⟨bg,bh,bi,bj,bk,bm,F,O⟩
  refine kx (guF E D (bp ae)) (kx (guF E D (bp U))<|kx (guF E D (dp E E))<|kx (cU E D E)<|Rn (hA aq (hA ar (hA U (hA ae (hA au (hA aw (hA ax (hN E hZ)))))))) fun bO aA aB bn bo aC aD aE aF=>sN ?_)
  rcases aj h with ⟨Y,h⟩ | ⟨Y,h⟩
  ·refine cT aF Y (Rg<|kx (bp bo)<|be<|Rn (hA aA (hA aB (hN E (hA aC (hA aD (hA aE hZ)))))) fun bP bq br bt bu bv bw=>bN<|sN<|Rg<|kx (cu bw E)<|be<|Rn (hA bq (hA br (hA bt (hA bu (hA bv (hN E hZ)))))) fun bR bx aS aT aU aV aW=>?_)
   exact jd h ⟨bx,aS,aT,aU,aV,aW,F,O⟩
  refine cF aF Y (xx<|bN<|sN<|Rg<|kx (cu aE E)<|be<|Rn (hA aA (hA aB (hA bn (hA aC (hA aD (hN E hZ)))))) fun bS aX aY aZ a0 a1 a2=>?_)
  exact jd h ⟨aX,aY,aZ,a0,a1,a2,F,O⟩
 refine cF ao aa (xx<|sE ?_)
 exact md h ⟨E,ai,ak,am,F,O⟩
abbrev eS:=Int×(Ar 16 (Ar 16 Int))
abbrev jl:=(Ar 16 (Ar 16 Int))
def mc (D:List Int) (G:Int) (F:Nat) (M0:bs) (s:eS) (e:b4) (M:bs):Prop:=a3 e 0 = .loc F 1 0 0/\a3 e 1 = .sl none (D.map (cI .i64))/\a3 e 5 = a4 G/\a3 e 41 = .sl none (D.map (cI .i64))/\a3 e 42 = a4 (D.length:Int)/\a3 e 43 = a4 s.1/\M[F]? = some (.live ⟨.box,91,256,[(bY (bY (n:=16) (cI .i64) 0) (Ar.rep 16 0) s.2)]⟩)/\Fr [F] M0 M
def qZ (G:List Int) (F:Int) (D:Nat) (M0:bs) (g:jl) (x:Ex) (e:b4) (M:bs):Prop:=x = .ext 2/\a3 e 5 = a4 F/\M[D]? = some (.live ⟨.box,91,256,[(bY (bY (n:=16) (cI .i64) 0) (Ar.rep 16 0) g)]⟩)/\Fr [D] M0 M
noncomputable def dP (D:List Int) (N:Int):eS->Option (eS⊕jl):=fun (J,O)=>
 if (decide (J < (D.length:Int)))=true then
  (rd D J).bind fun F=>
  (rem .i64 (IntKind.i64.wrap (J + 1)) (D.length:Int)).bind fun U=>
  (rd D U).bind fun G=>
  (jF O F).bind fun X=>
  (jF X G).bind fun Y=>
  (jF O F).bind fun I=>
  (jF I G).bind fun Z=>
  some (.inl ((IntKind.i64.wrap (J + 1)),(O.set F.toNat (I.set G.toNat (IntKind.i64.wrap (Y - N))))))
 else
  some (.inr O)
theorem ra (I:List Int) (F:Int) (N:Nat) (M0:bs) (s:eS) (r:eS⊕jl) (h:dP I F s=some r) (e:b4) (M:bs) (ba:mc I F N M0 s e M):Ev (fun k=>(Ep (CN k) k (prune [0,1,5,41,42,43] e) M).bind fun q=>some q) (bQ (mc I F N M0) (qZ I F N M0) r):=by
 obtain ⟨aA,U⟩:=s
 unfold dP at h
 obtain ⟨aB,aC,aD,aE,aF,aG,D,ae⟩:=ba
 generalize J:prune [0,1,5,41,42,43] e=bF
 have aH:=bZ J.symm E aB
 have aI:=bZ J.symm E aC
 have aJ:=bZ J.symm E aD
 have aK:=bZ J.symm E aE
 have an:=bZ J.symm E aF
 have ao:=bZ J.symm E aG
 refine av (kx (dp ao an)<|Rn (hV (.loc N 1 0 0) aH (hV (.sl none (I.map (cI .i64))) aI (hV (a4 F) aJ (hV (.sl none (I.map (cI .i64))) aK (hV (a4 (I.length:Int)) an (hV (a4 aA) ao (hN E hZ))))))) fun bb aL aM ap aq aN X ar=>sN<|sq ?_)
 rcases aj h with ⟨O,h⟩ | ⟨O,h⟩
 ·obtain ⟨aO,aw,h⟩:=ad h
  obtain ⟨bd,ax,h⟩:=ad h
  obtain ⟨au,ay,h⟩:=ad h
  obtain ⟨bf,af,h⟩:=ad h
  obtain ⟨aa,ah,h⟩:=ad h
  obtain ⟨aT,ai,h⟩:=ad h
  obtain ⟨bg,ak,h⟩:=ad h
  refine cT ar O (xx<|sN<|sq<|bl<|av<|kx (bp X)<|kx (kJ aq X aw (de _))<|kx (cr E E)<|be<|be<|Rn (hA aL (hA aM (hA ap (hN E (hN E (hA aq (hA aN (hA X hZ)))))))) fun bh ab Y ac aU aV aW aX aY=>sN<|Rd<|kf (bp ab)<|kf (bp aV)<|kf (bp Y)<|kf (bp aU)<|kf (cu E E)<|kf (bp Y)<|kf (i2 Tryz.underlying24 E)<|kf (Bx E E ax)<|kf (kJ E E ay (de _))<|kf (cr E E)<|kf (mL E D E)<|kf (l9 E D E E af)<|kf (l9 E D E E ah)<|kf (wR (K:=AV.int .i64) (c:=(cI .i64)) (z:=0) (Z:=(Ar.rep 16 0)) (G:=U) (pre:=[]) (post:=[]) E D E E E E E (fun _=>E) af ah)<|kf (bp ac)<|kf (lD E E)<|kf (mL E D E)<|kf (l9 E D E E ai)<|kf (l9 E D E E ak)<|fZ<|kw (EX (c:=(cI .i64)) (z:=0) (Z:=(Ar.rep 16 0)) (G:=U) (pre:=[]) (post:=[]) (w':=(IntKind.i64.wrap (aa - F))) E E D E E E E E (fun _=>E) E E ai ak) fun aZ am=>?_)
  have a0:aZ[N]? = some (.live ⟨.box,91,256,[(bY (bY (n:=16) (cI .i64) 0) (Ar.rep 16 0) (U.set aO.toNat (aT.set au.toNat (IntKind.i64.wrap (aa - F)))))]⟩):=bc am D
  have az:=Fr.setIn ae am (by simp)
  refine Rn (hA ab (hA Y (hA ac (hA aW (hA aX (hA aY hZ)))))) fun bi a1 a2 a3 a5 a6 a7=>bN (sN<|Rg<|kx (cu a7 E)<|be<|Rn (hA a1 (hA a2 (hA a3 (hA a5 (hA a6 (hN E hZ)))))) fun bj a8 a9 aP aQ aR aS=>?_)
  exact jd h ⟨a8,a9,aP,aQ,aR,aS,a0,az⟩
 refine cF ar O (xx<|sE ?_)
 exact md h ⟨E,ap,D,ae⟩
noncomputable def ig (F:Ar 16 (Ar 16 Int)) (G:List Int):Option (Int×(Ar 16 (Ar 16 Int))):=
 (Lw (dN F G) ((-1),0)).bind fun D=>
 (Lw (dP G D) (0,F)).bind fun I=>
 some (D,I)
def uc (F:Ar 16 (Ar 16 Int)) (G:List Int) (D:Nat) (M0:bs) (r:Int×(Ar 16 (Ar 16 Int))) (p:AV×bs):Prop:=p.1 = a4 r.1/\p.2[D]? = some (.live ⟨.box,91,256,[(bY (bY (n:=16) (cI .i64) 0) (Ar.rep 16 0) r.2)]⟩)/\Fr [D] M0 p.2
theorem tv (I:Ar 16 (Ar 16 Int)) (G:List Int) (D:Nat) (M0:bs) (aF:M0[D]? = some (.live ⟨.box,91,256,[(bY (bY (n:=16) (cI .i64) 0) (Ar.rep 16 0) I)]⟩)) (r:Int×(Ar 16 (Ar 16 Int))) (h:ig I G=some r):Ev (fun k=>CN k 48 [.loc D 1 0 0,.sl none (G.map (cI .i64))] M0) (uc I G D M0 r):=by
 unfold ig at h
 have Z:Fr [D] M0 M0:=Fr.refl
 obtain ⟨J,U,h⟩:=ad h
 refine Ev.enter (F:=fun k=>f48 (CN k) k) (fun k=>bH E Tryz.func48 E E E (by decide +kernel) (Md _ _)) (av<|be<|Rn (hV (.loc D 1 0 0) E (hN E hZ)) fun aO aB aC=>sN<|av<|be<|Rn (hA aB (hA aC (hV (a4 (-1)) E hZ))) fun aP aD O aE=>sN<|sq<|av<|kx (bp O)<|kx (i2 Tryz.underlying24 E)<|be<|Rn (hA aD (hA O (hA aE (hN E (hN E (hV (a4 0) E hZ)))))) fun aN aa ab ac ae af ah=>sN<|bl (Ev.loop (q7 I G D M0) U ⟨aa,ab,ac,ae,af,ah,aF,Z⟩ fun x aG aH ai=>?_))
 obtain ⟨rfl,ao,N,ap,aq,aj⟩:=ai
 obtain ⟨aI,ak,h⟩:=ad h
 refine bE (sN<|sq<|av<|kx (bp N)<|kx (i2 Tryz.underlying24 E)<|be<|Rn (hV (.loc D 1 0 0) ao (hV (.sl none (G.map (cI .i64))) N (hV (a4 J) ap (hN E (hN E (hV (a4 0) E hZ)))))) fun aJ ar au aw ax ay az=>sN<|bl (Ev.loop (ra G J D M0) ak ⟨ar,au,aw,ax,ay,az,aq,aj⟩ fun x aK aL am=>?_))
 obtain ⟨rfl,aA,X,an⟩:=am
 refine bE (sN<|av<|kx (bp aA)<|be<|Rn (hN E hZ) fun aM Y=>sN<|xx ?_)
 exact yN h (bB Y bK) ⟨E,X,an⟩
def g9 (D:List Debt) (r:Int⊕(Int×Bool)) (q:oZ):Prop:=
  match r with
  | (.inl g)=>q.1 = .ret/\a3 q.2.1 4 = .nils/\a3 q.2.1 5 = a4 0/\a3 q.2.1 6 = a4 g
  | (.inr g)=>q.1 = .nrm/\a3 q.2.1 1 = .sl none (D.map Debt.c)/\a3 q.2.1 8 = a4 g.1/\a3 q.2.1 21 = .bool g.2
abbrev fw:=Int×(Option (List Int))×(Ar 16 (Ar 16 Int))
abbrev jM:=Int×(Ar 16 (Ar 16 Int))
def mG (D:Nat) (s:fw) (e:b4) (M:bs):Prop:=a3 e 9 = .loc D 1 0 0/\a3 e 10 = a4 s.1/\a3 e 11=(Ov (cI .i64) s.2.1)/\M[D]? = some (.live ⟨.box,91,256,[(bY (bY (n:=16) (cI .i64) 0) (Ar.rep 16 0) s.2.2)]⟩)
def rX (D:Nat) (g:jM) (x:Ex) (e:b4) (M:bs):Prop:=x = .ext 0/\a3 e 9 = .loc D 1 0 0/\a3 e 10 = a4 g.1/\M[D]? = some (.live ⟨.box,91,256,[(bY (bY (n:=16) (cI .i64) 0) (Ar.rep 16 0) g.2)]⟩)
noncomputable def dh:fw->Option (fw⊕jM):=fun (J,ac,aa)=>
 (match ac with
 | none=>
  some (.inr (J,aa))
 | some D=>
  if (decide (0 < D.length))=true then
   (ig aa D).bind fun (ab,O)=>
   (cQ O).bind fun r=>match r with
   | (.inl ae)=>
    some (.inl ((IntKind.i64.wrap (J + (IntKind.i64.wrap (ab * (D.length:Int))))),(some ae),O))
   | (.inr _)=>
    some (.inl ((IntKind.i64.wrap (J + (IntKind.i64.wrap (ab * (D.length:Int))))),none,O))
  else
   none)
theorem rC (D:Nat) (s:fw) (r:fw⊕jM) (h:dh s=some r) (e:b4) (M:bs) (aX:mG D s e M):Ev (fun k=>(D5 (CN k) k (prune [9,10,11] e) M).bind fun q=>some q) (bQ (mG D) (rX D) r):=by
 obtain ⟨ai,aq,ar⟩:=s
 unfold dh at h
 obtain ⟨aR,aS,aT,ab⟩:=aX
 generalize X:prune [9,10,11] e=bG
 have ac:=bZ X.symm E aR
 have ae:=bZ X.symm E aS
 have Z:=bZ X.symm E aT
 refine sq (av<|kx (bp Z) ?_)
 rcases aq with _ | aw
 ·refine kx (KG Tryz.underlying24 E E) (Rn (hV (.loc D 1 0 0) ac (hV (a4 ai) ae (hV .nils Z (hV (.bool false) E hZ)))) fun a6 aU aV a7 aW=>sN<|cF aW E<|xx<|sE ?_)
  exact md h ⟨E,aU,aV,ab⟩
 rcases aj h with ⟨af,h⟩ | ⟨af,h⟩
 ·obtain ⟨⟨au,F⟩,aB,h⟩:=ad h
  refine kx (LH (c:=(cI .i64)) (xs:=aw) Tryz.underlying24 af E E) (Rn (hV (.loc D 1 0 0) ac (hV (a4 ai) ae (hV (.sl none (aw.map (cI .i64))) Z (hV (.bool true) E hZ)))) fun bb ak ax am ay=>sN<|cT ay E<|xx<|sN<|sq<|bl<|Rg<|kx (bp ax)<|kx (bp am) (Ev.nxw (Ev.callW E E (b3 ak (b3 E E)) (tv ar aw D M ab _ aB)) fun az Y ap=>?_))
  obtain ⟨I,aA,a8⟩:=ap
  have I:az = a4 au:=I
  subst I
  have an:Y[D]? = some (.live ⟨.box,91,256,[(bY (bY (n:=16) (cI .i64) 0) (Ar.rep 16 0) F)]⟩):=aA
  obtain ⟨aC,ah,h⟩:=ad h
  refine kx (bp am) (kx (i2 Tryz.underlying24 E)<|kx (Cn E E)<|kx (cu E E)<|be<|Rn (hA ak (hN E hZ)) fun a0 G aa=>bN<|sN<|Rg ?_)
  rcases aC with aO | _
  ·refine Ev.nxw (Ev.callO E E (b3 G E) (AN E Gx) E (io F D Y an _ ah)) fun aD aE J=>?_
   obtain ⟨a1,J,aY⟩:=J
   obtain ⟨N,aF,a9⟩:=J
   have N:aD = .sl none (aO.map (cI .i64)):=aY.symm.trans N
   subst N
   have aG:aE[D]? = some (.live ⟨.box,91,256,[(bY (bY (n:=16) (cI .i64) 0) (Ar.rep 16 0) F)]⟩):=aF
   refine be (Rn (hA G (hA aa (hN E hZ))) fun a2 aH aI aJ=>?_)
   exact jd h ⟨aH,aI,aJ,aG⟩
  refine Ev.nxw (Ev.callO E E (b3 G E) (AN E Gx) E (io F D Y an _ ah)) fun ao aK O=>?_
  obtain ⟨a3,O,aZ⟩:=O
  obtain ⟨U,aL,ba⟩:=O
  have U:ao = .nils:=aZ.symm.trans U
  subst U
  have aM:aK[D]? = some (.live ⟨.box,91,256,[(bY (bY (n:=16) (cI .i64) 0) (Ar.rep 16 0) F)]⟩):=aL
  refine be (Rn (hA G (hA aa (hV .nils E hZ))) fun a5 aN aP aQ=>?_)
  exact jd h ⟨aN,aP,aQ,aM⟩
 cases h
abbrev fp:=Int
abbrev jV:=Int
def mD (F:Ar 16 (Ar 16 Int)) (D:Nat) (s:fp) (e:b4) (M:bs):Prop:=a3 e 9 = .loc D 1 0 0/\a3 e 10 = a4 s/\a3 e 11 = .nils/\M[D]? = some (.live ⟨.box,91,256,[(bY (bY (n:=16) (cI .i64) 0) (Ar.rep 16 0) F)]⟩)
def rY (F:Ar 16 (Ar 16 Int)) (D:Nat) (g:jV) (x:Ex) (e:b4) (M:bs):Prop:=x = .ext 0/\a3 e 9 = .loc D 1 0 0/\a3 e 10 = a4 g/\M[D]? = some (.live ⟨.box,91,256,[(bY (bY (n:=16) (cI .i64) 0) (Ar.rep 16 0) F)]⟩)
noncomputable def iO:fp->Option (fp⊕jV):=fun D=>
 some (.inr D)
theorem rU (G:Ar 16 (Ar 16 Int)) (D:Nat) (s:fp) (r:fp⊕jV) (h:iO s=some r) (e:b4) (M:bs) (I:mD G D s e M):Ev (fun k=>(D5 (CN k) k (prune [9,10,11] e) M).bind fun q=>some q) (bQ (mD G D) (rY G D) r):=by
 revert h I
 revert s
 intro N h I
 unfold iO at h
 obtain ⟨O,U,X,Y⟩:=I
 generalize F:prune [9,10,11] e=aw
 have Z:=bZ F.symm E O
 have aa:=bZ F.symm E U
 have J:=bZ F.symm E X
 refine sq (av<|kx (bp J)<|kx (KG Tryz.underlying24 E E)<|Rn (hV (.loc D 1 0 0) Z (hV (a4 N) aa (hV .nils J (hV (.bool false) E hZ)))) fun ae ab ac af ad=>sN<|cF ad E<|xx<|sE ?_)
 exact md h ⟨E,ab,ac,Y⟩
noncomputable def iW (I:Int) (G:List Debt):Option ((List Debt)×Int×Int):=
 (((h7 I G).bind fun r=>match r with
 | (.inl r6)=>
  if (r6 != 0)=true then
   some (.inl r6)
  else
   some (.inr (r6,(r6 != 0)))
 | (.inr ah)=>
  some (.inr (0,false)):Option (Int⊕(Int×Bool)))).bind fun r=>match r with
 | (.inl ae)=>
  some (([]:List Debt),0,ae)
 | (.inr (ai,ao))=>
  (mz G).bind fun D=>
  (cQ D).bind fun r=>match r with
  | (.inl af)=>
   (Lw (dh) (0,(some af),D)).bind fun (O,aa)=>
   (eB aa).bind fun r=>match r with
   | (.inl _)=>
    some (([]:List Debt),O,3)
   | (.inr ab)=>
    some (ab,O,0)
  | (.inr _)=>
   (Lw (iO) 0).bind fun F=>
   (eB D).bind fun r=>match r with
   | (.inl _)=>
    some (([]:List Debt),F,3)
   | (.inr ac)=>
    some (ac,F,0)
def tk (r:(List Debt)×Int×Int):AV:=.tup [.sl none (r.1.map Debt.c),a4 r.2.1,a4 r.2.2]
theorem tP (N:Int) (I:List Debt) (r:(List Debt)×Int×Int) (h:iW N I=some r):Ev (fun k=>CN k 13 [a4 N,.sl none (I.map Debt.c)] []) (fun p=>As (cp p.2 p.1)=tk r/\iu (cp p.2 p.1)=true):=by
 unfold iW at h
 obtain ⟨ay,aE,h⟩:=ad h
 refine Ev.enter (F:=fun k=>f13 (CN k) k) (fun k=>bH E Tryz.func13 E E E (by decide +kernel) (MZ _ _)) (av<|be<|be<|be<|Rn (hN E (hN E hZ)) fun cB bT ah=>sN<|sq ?_)
 refine Ev.cut (Q1:=g9 I ay) (by
     have h:=aE
     obtain ⟨bb,ak,h⟩:=ad h
     refine av (kx (bp bT)<|kx (bp ah) ?_)
     rcases bb with r6 | b8
     ·refine kc (cl (v:=.tup [.nils,a4 r6]) E E (b3 E (b3 E E)) E (ky N I _ ak) nm) (be<|kx (eO E E)<|kx (eO E E)<|be<|be<|Rn (hA ah (hN E hZ)) fun cC bU am=>sN<|av<|kx (bp am)<|kx (gD E E)<|Rn (hA bU (hA am (hN E hZ))) fun ch aP an ae=>sN ?_)
      rcases aj h with ⟨Z,h⟩ | ⟨Z,h⟩
      ·refine cT ae Z (av<|kx (bp an)<|be<|be<|be<|Rn (hV .nils E (hV (a4 0) E (hN E hZ))) fun cj bG bI bJ=>sN<|xx ?_)
       obtain rfl:=si h
       exact kd (show g9 I _ _ from ⟨E,bG,bI,bJ⟩)
      refine cF ae Z (xx ?_)
      obtain rfl:=si h
      exact kd (show g9 I _ _ from ⟨E,aP,an,ae⟩)
     refine kc (cl (v:=.tup [.sl (some 82) (b8.map Debt.c),a4 0]) E E (b3 E (b3 E E)) E (ky N I _ ak) nm) (be<|kx (eO E E)<|kx (eO E E)<|be<|be<|Rn (hA ah (hV (a4 0) E hZ)) fun ck bL ao=>sN<|av<|kx (bp ao)<|kx (gD E E)<|Rn (hA bL (hA ao (hV (.bool false) E hZ))) fun cn bM bN ap=>sN<|cF ap E<|xx ?_)
     obtain rfl:=si h
     exact kd (show g9 I _ _ from ⟨E,bM,bN,ap⟩)) ?_
 rcases ay with ci | ⟨co,cq⟩
 ·intro x cr ct aK
  obtain ⟨rfl,bO,bP,bQ⟩:=aK
  refine sR ?_
  obtain rfl:=si h
  exact eR (bB bO (bB bP (bB bQ bK))) (AA (y:=.tup [.nils,a4 0,a4 ci]) E E (dL (hM E (hM E (hM E sL)))))
 intro x cu G aG
 obtain ⟨rfl,bR,cv,cx⟩:=aG
 obtain ⟨D,aL,h⟩:=ad h
 refine sN (av<|kx (bp bR) (kc (cl (v:=.agg (bY (bY (n:=16) (cI .i64) 0) (Ar.rep 16 0) D)) E E (b3 E E) E (tI I _ aL) nm) (ku (lG BZ) fun bS aM=>?_)))
 have aq:bS[G.length]? = some (.live ⟨.box,91,256,[(bY (bY (n:=16) (cI .i64) 0) (Ar.rep 16 0) (Ar.rep 16 (Ar.rep 16 0)))]⟩):=b2 aM
 refine kw (dW E E aq E E ⟨E,ble E⟩ E E) fun af aN=>?_
 have ar:af[G.length]? = some (.live ⟨.box,91,256,[(bY (bY (n:=16) (cI .i64) 0) (Ar.rep 16 0) D)]⟩):=bc aN aq
 obtain ⟨aO,az,h⟩:=ad h
 refine be (Rn (hV (.loc G.length 1 0 0) E (hV (a4 0) E hZ)) fun cy U au=>sN<|sq<|sq<|Rg ?_)
 rcases aO with cw | _
 ·refine Ev.nxw (Ev.callO E E (b3 U E) (AN E Gx) E (io D G.length af ar _ az)) fun bw bx aa=>?_
  obtain ⟨cz,aa,bW⟩:=aa
  obtain ⟨ab,bz,bZ⟩:=aa
  have ab:bw = .sl none (cw.map (cI .i64)):=bW.symm.trans ab
  subst ab
  have bA:bx[G.length]? = some (.live ⟨.box,91,256,[(bY (bY (n:=16) (cI .i64) 0) (Ar.rep 16 0) D)]⟩):=bz
  obtain ⟨⟨J,ac⟩,aF,h⟩:=ad h
  refine be (Rn (hA U (hA au (hN E hZ))) fun cA bC bD bF=>sN<|bl (Ev.loop (rC G.length) aF ⟨bC,bD,bF,bA⟩ fun x b0 b1 aH=>?_))
  obtain ⟨rfl,aD,aB,bd⟩:=aH
  obtain ⟨bf,aw,h⟩:=ad h
  refine bE (sN<|av<|kx (cm (cs':=(bY (bY (n:=16) (cI .i64) 0) (Ar.rep 16 0) ac)) aD bd E E (ble E) E) ?_)
  rcases bf with _ | aA
  ·refine kc (cl (v:=.tup [.nils,a4 3]) E E (b3 E E) E (fR ac _ aw) nm) (be<|kx (eO E E)<|kx (eO E E)<|be<|be<|Rn (hV (a4 J) aB (hV .nils E (hV (a4 3) E hZ))) fun b4 bg bh bi=>sN<|av<|kx (bp bh)<|kx (bp bg)<|kx (bp bi)<|be<|be<|be<|Rn (hV .nils E (hN E (hV (a4 3) E hZ))) fun b5 bj bk bm=>sN<|xx ?_)
   obtain rfl:=si h
   exact eR (bB bj (bB bk (bB bm bK))) (AA (y:=.tup [.nils,a4 J,a4 3]) E E (dL (hM E (hM E (hM E sL)))))
  refine kc (cl (v:=.tup [.sl (some 82) (aA.map Debt.c),a4 0]) E E (b3 E E) E (fR ac _ aw) nm) (be<|kx (eO E E)<|kx (eO E E)<|be<|be<|Rn (hV (a4 J) aB (hN E (hV (a4 0) E hZ))) fun b6 bn bo bq=>sN<|av<|kx (bp bo)<|kx (bp bn)<|kx (bp bq)<|be<|be<|be<|Rn (hN E (hN E (hV (a4 0) E hZ))) fun b7 br bs bt=>sN<|xx ?_)
  obtain rfl:=si h
  exact eR (bB br (bB bs (bB bt bK))) (AA (y:=.tup [.sl (some 82) (aA.map Debt.c),a4 J,a4 0]) E E (dL (hM (iR (c:=Debt.c) Debt.flF) (hM E (hM E sL)))))
 refine Ev.nxw (Ev.callO E E (b3 U E) (AN E Gx) E (io D G.length af ar _ az)) fun bu bv X=>?_
 obtain ⟨b9,X,bV⟩:=X
 obtain ⟨Y,aQ,bX⟩:=X
 have Y:bu = .nils:=bV.symm.trans Y
 subst Y
 have aR:bv[G.length]? = some (.live ⟨.box,91,256,[(bY (bY (n:=16) (cI .i64) 0) (Ar.rep 16 0) D)]⟩):=aQ
 obtain ⟨O,aI,h⟩:=ad h
 refine be (Rn (hA U (hA au (hV .nils E hZ))) fun ca aS aT aU=>sN<|bl (Ev.loop (rU D G.length) aI ⟨aS,aT,aU,aR⟩ fun x cb cc aJ=>?_))
 obtain ⟨rfl,aV,ai,aW⟩:=aJ
 obtain ⟨aX,ax,h⟩:=ad h
 refine bE (sN<|av<|kx (cm (cs':=(bY (bY (n:=16) (cI .i64) 0) (Ar.rep 16 0) D)) aV aW E E (ble E) E) ?_)
 rcases aX with _ | aC
 ·refine kc (cl (v:=.tup [.nils,a4 3]) E E (b3 E E) E (fR D _ ax) nm) (be<|kx (eO E E)<|kx (eO E E)<|be<|be<|Rn (hV (a4 O) ai (hV .nils E (hV (a4 3) E hZ))) fun cd aY aZ a0=>sN<|av<|kx (bp aZ)<|kx (bp aY)<|kx (bp a0)<|be<|be<|be<|Rn (hV .nils E (hN E (hV (a4 3) E hZ))) fun ce a1 a2 a3=>sN<|xx ?_)
  obtain rfl:=si h
  exact eR (bB a1 (bB a2 (bB a3 bK))) (AA (y:=.tup [.nils,a4 O,a4 3]) E E (dL (hM E (hM E (hM E sL)))))
 refine kc (cl (v:=.tup [.sl (some 82) (aC.map Debt.c),a4 0]) E E (b3 E E) E (fR D _ ax) nm) (be<|kx (eO E E)<|kx (eO E E)<|be<|be<|Rn (hV (a4 O) ai (hN E (hV (a4 0) E hZ))) fun cf a5 a6 a7=>sN<|av<|kx (bp a6)<|kx (bp a5)<|kx (bp a7)<|be<|be<|be<|Rn (hN E (hN E (hV (a4 0) E hZ))) fun cg a8 a9 ba=>sN<|xx ?_)
 obtain rfl:=si h
 exact eR (bB a8 (bB a9 (bB ba bK))) (AA (y:=.tup [.sl (some 82) (aC.map Debt.c),a4 O,a4 0]) E E (dL (hM (iR (c:=Debt.c) Debt.flF) (hM E (hM E sL)))))
abbrev iY:=Int×(List Debt)
abbrev nB:=(List Debt)
def qg (D:Book) (F:Nat) (s:iY) (e:b4) (M:bs):Prop:=a3 e 1 = .pt none [a4 D.Day,.sl none (D.Cash.map (cI .i64)),.sl none (D.Tallies.map Tally.c)]/\a3 e 4 = .lsl F s.2.length 0 s.2.length/\a3 e 5 = a4 s.1/\M[F]? = some (.live ⟨.grow,82,3,s.2.map Debt.c⟩)
def v3 (F:Book) (D:Nat) (g:nB) (x:Ex) (e:b4) (M:bs):Prop:=x = .ext 0/\a3 e 4 = .lsl D g.length 0 g.length/\M[D]? = some (.live ⟨.grow,82,3,g.map Debt.c⟩)
noncomputable def eA (F:Book):iY->Option (iY⊕nB):=fun (J,O)=>
 if (decide (J < (F.Tallies.length:Int)))=true then
  (rd F.Tallies J).bind fun D=>
  if (decide (D.Left > 0))=true then
   (qB 24 O [(Debt.mk D.Debtor D.Holder D.Left)]).bind fun G=>
   some (.inl ((IntKind.i64.wrap (J + 1)),G))
  else
   some (.inl ((IntKind.i64.wrap (J + 1)),O))
 else
  some (.inr O)
theorem vI (D:Book) (F:Nat) (s:iY) (r:iY⊕nB) (h:eA D s=some r) (e:b4) (M:bs) (aN:qg D F s e M):Ev (fun k=>(H0 (CN k) k (prune [1,4,5] e) M).bind fun q=>some q) (bQ (qg D F) (v3 D F) r):=by
 obtain ⟨ap,aa⟩:=s
 unfold eA at h
 obtain ⟨aw,ax,ay,G⟩:=aN
 generalize I:prune [1,4,5] e=bb
 have ab:=bZ I.symm E aw
 have az:=bZ I.symm E ax
 have ac:=bZ I.symm E ay
 refine sq (av<|kx (bp ac)<|kx (cW ab ⟨ble E,blt E⟩ E)<|kx (cr E E)<|kx (i2 Tryz.underlying25 E)<|kx (dp E E)<|Rn (hV (.pt none [a4 D.Day,.sl none (D.Cash.map (cI .i64)),.sl none (D.Tallies.map Tally.c)]) ab (hV (.lsl F aa.length 0 aa.length) az (hV (a4 ap) ac (hN E hZ)))) fun aO ae af ah ai=>sN ?_)
 rcases aj h with ⟨J,h⟩ | ⟨J,h⟩
 ·obtain ⟨O,aq,h⟩:=ad h
  refine cT ai J (xx<|sN<|sq<|bl<|av<|kx (cW ae ⟨ble E,blt E⟩ E)<|kx (cr E E)<|kx (bp ah)<|kx (kJ E E aq Tally.fl)<|be<|Rn (hA ae (hA af (hA ah (hN E hZ)))) fun aP aA aB aC ak=>sN<|av<|kx (bp ak)<|kx (fd E)<|kx (cW E ⟨ble E,blt E⟩ E)<|kx (cr E E)<|kx (fB E E)<|Rn (hA aA (hA aB (hA aC (hA ak (hN E hZ))))) fun aQ am an Y U Z=>sN ?_)
  rcases aj h with ⟨N,h⟩ | ⟨N,h⟩
  ·obtain ⟨X,ar,h⟩:=ad h
   refine cT Z N (Rd<|kf (bp an)<|kf (bp U)<|kf (fd E)<|kf (cW E ⟨ble E,blt E⟩ E)<|kf (cr E E)<|kf (bp U)<|kf (fd E)<|kf (cW E ⟨ble E,blt E⟩ E)<|kf (cr E E)<|kf (bp U)<|kf (fd E)<|kf (cW E ⟨ble E,blt E⟩ E)<|kf (cr E E)<|kf (gg vx (b3 (t6 E) (b3 (t6 E) (b3 (t6 E) E))) (gz ⟨E,ble E⟩ E E (gz ⟨E,ble E⟩ E E (gz ⟨E,ble E⟩ E E (dz E)))))<|kf (kh (b3 E E) E ⟨E,by decide⟩)<|fZ<|kw (Dp E G E (DO (c:=Debt.c) (xs:=[(Debt.mk O.Debtor O.Holder O.Left)]) E) ar Debt.fl (by decide)) fun aD au=>?_)
   have aE:aD[F]? = some (.live ⟨.grow,82,3,X.map Debt.c⟩):=bc au G
   refine be (Rn (hA am (hV (.lsl F X.length 0 X.length) E (hA Y hZ))) fun aR aF aG aH=>bN<|sN<|Rg<|kx (bp aH)<|kx (cu E E)<|be<|Rn (hA aF (hA aG (hN E hZ))) fun aS aI aJ aK=>?_)
   exact jd h ⟨aI,aJ,aK,aE⟩
  refine cF Z N (xx<|bN<|sN<|Rg<|kx (bp Y)<|kx (cu E E)<|be<|Rn (hA am (hA an (hN E hZ))) fun aT aL ao aM=>?_)
  exact jd h ⟨aL,ao,aM,G⟩
 refine cF ai J (xx<|sE ?_)
 exact md h ⟨E,af,G⟩
noncomputable def mR (D:Book):Option ((List Debt)×Int):=
 (n9 D).bind fun I=>
 if I=true then
  (Lw (eA D) (0,([]:List Debt))).bind fun F=>
  (iZ F).bind fun G=>
  (fi G).bind fun (Y,aa)=>
  some (Y,aa)
 else
  some (([]:List Debt),1)
def x7 (r:(List Debt)×Int):AV:=.tup [.sl none (r.1.map Debt.c),a4 r.2]
theorem yD (D:Book) (r:(List Debt)×Int) (h:mR D=some r):Ev (fun k=>CN k 12 [.agg [a4 D.Day,.sl none (D.Cash.map (cI .i64)),.sl none (D.Tallies.map Tally.c)]] []) (fun p=>As (cp p.2 p.1)=x7 r/\iu (cp p.2 p.1)=true):=by
 unfold mR at h
 obtain ⟨az,aq,h⟩:=ad h
 refine Ev.enter (F:=fun k=>f12 (CN k) k) (fun k=>bH E Tryz.func12 E E E (by decide +kernel) (Mr _ _)) (av<|kx (ps E E ⟨E,E,by decide⟩)<|be<|be<|Rn (hN E hZ) fun aG O=>sN<|sq<|av (kc (cl (v:=.bool az) E E (b3 O E) E (vd D _ aq) nm)<|kx (eZ E)<|Rn (hA O (hN E hZ)) fun aH ay U=>sN ?_))
 rcases aj h with ⟨G,h⟩ | ⟨G,h⟩
 ·refine cF U (nt G) (xx<|sN<|av (ku (Ai (xs:=([]:List Debt)) (c:=Debt.c) E E (by decide)) fun ar ae=>?_))
  have au:ar[([]:bs).length]? = some (.live ⟨.grow,82,3,([]:List Debt).map Debt.c⟩):=b2 ae
  obtain ⟨aw,af,h⟩:=ad h
  refine be (Rn (hA ay (hV (.lsl ([]:bs).length ([]:List Debt).length 0 ([]:List Debt).length) E hZ)) fun aB ax X=>sN<|sq<|av<|be<|Rn (hA ax (hA X (hV (a4 0) E hZ))) fun aC Y Z aa=>sN<|bl (Ev.loop (vI D (([]:bs).length)) af ⟨Y,Z,aa,au⟩ fun x aD aE ai=>?_))
  obtain ⟨rfl,ab,ac⟩:=ai
  obtain ⟨I,ak,h⟩:=ad h
  obtain ⟨⟨J,N⟩,ah,h⟩:=ad h
  refine bE (sN<|av<|kx (bp ab) (kc (cl (v:=.pt (some 150) (bY (bY (n:=16) (cI .i64) 0) (Ar.rep 16 0) I)) E E (b3 E E) (zV (y7 ac E Debt.fl) ER) (s5 aw _ ak) (fun _=>E)) (kc (cl (v:=.tup [.sl (some 82) (J.map Debt.c),a4 N]) E E (b3 E E) E (o3 I _ ah) nm)<|kx (eO E E)<|kx (eO E E)<|be<|be<|Rn (hN E (hN E hZ)) fun aF am an=>sN<|xx ?_)))
  obtain rfl:=si h
  exact eR (bB am (bB an bK)) (AA (y:=.tup [.sl (some 82) (J.map Debt.c),a4 N]) E E (dL (hM (iR (c:=Debt.c) Debt.flF) (hM E sL))))
 refine cT U (nt G) (av<|kx (kh E E ⟨E,by decide⟩)<|be<|be<|Rn (hN E (hV (a4 1) E hZ)) fun aA ao ap=>sN<|xx<|sR ?_)
 obtain rfl:=si h
 exact eR (bB ao (bB ap bK)) (AA (y:=.tup [.sl (some 82) (([]:List Debt).map Debt.c),a4 1]) E E (dL (hM (iR (c:=Debt.c) Debt.flF) (hM E sL))))
abbrev iM:=Int×(List Debt)
abbrev nk:=(List Debt)
def p8 (D:Book) (F:Nat) (s:iM) (e:b4) (M:bs):Prop:=a3 e 1 = .pt none [a4 D.Day,.sl none (D.Cash.map (cI .i64)),.sl none (D.Tallies.map Tally.c)]/\a3 e 4 = .lsl F s.2.length 0 s.2.length/\a3 e 12 = .sl none (D.Tallies.map Tally.c)/\a3 e 13 = a4 (D.Tallies.length:Int)/\a3 e 14 = a4 s.1/\M[F]? = some (.live ⟨.grow,82,3,s.2.map Debt.c⟩)
def vk (D:Book) (F:Nat) (g:nk) (x:Ex) (e:b4) (M:bs):Prop:=x = .ext 0/\a3 e 1 = .pt none [a4 D.Day,.sl none (D.Cash.map (cI .i64)),.sl none (D.Tallies.map Tally.c)]/\a3 e 4 = .lsl F g.length 0 g.length/\M[F]? = some (.live ⟨.grow,82,3,g.map Debt.c⟩)
noncomputable def j3 (F:Book):iM->Option (iM⊕nk):=fun (J,O)=>
 if (decide (J < (F.Tallies.length:Int)))=true then
  (rd F.Tallies J).bind fun D=>
  if (decide (D.Left > 0))=true then
   (qB 24 O [(Debt.mk D.Debtor D.Holder D.Left)]).bind fun G=>
   some (.inl ((IntKind.i64.wrap (J + 1)),G))
  else
   some (.inl ((IntKind.i64.wrap (J + 1)),O))
 else
  some (.inr O)
theorem v5 (F:Book) (I:Nat) (s:iM) (r:iM⊕nk) (h:j3 F s=some r) (e:b4) (M:bs) (bg:p8 F I s e M):Ev (fun k=>(G0 (CN k) k (prune [1,4,12,13,14] e) M).bind fun q=>some q) (bQ (p8 F I) (vk F I) r):=by
 obtain ⟨aC,aq⟩:=s
 unfold j3 at h
 obtain ⟨a2,a3,a5,a6,a7,U⟩:=bg
 generalize J:prune [1,4,12,13,14] e=bP
 have a8:=bZ J.symm E a2
 have ba:=bZ J.symm E a3
 have bb:=bZ J.symm E a5
 have ay:=bZ J.symm E a6
 have az:=bZ J.symm E a7
 refine av (kx (dp az ay)<|Rn (hV (.pt none [a4 F.Day,.sl none (F.Cash.map (cI .i64)),.sl none (F.Tallies.map Tally.c)]) a8 (hV (.lsl I aq.length 0 aq.length) ba (hV (.sl none (F.Tallies.map Tally.c)) bb (hV (a4 (F.Tallies.length:Int)) ay (hV (a4 aC) az (hN E hZ)))))) fun bj aA aa ab bd ac ae=>sN<|sq ?_)
 rcases aj h with ⟨N,h⟩ | ⟨N,h⟩
 ·obtain ⟨G,aD,h⟩:=ad h
  refine cT ae N (xx<|sN<|sq<|bl<|av<|kx (kJ ab ac aD Tally.fl)<|kx (eE E E E) (ku (lG z1) fun bf ar=>?_))
  have aM:=bS ar U
  have au:=b6 U
  have af:bf[M.length]? = some (.live ⟨.box,80,5,[[a4 0,a4 0,a4 0,a4 0,a4 0]]⟩):=b2 ar
  refine kw (dW E E af E E ⟨E,ble E⟩ E E) fun aN aw=>?_
  have X:=a9 aw au aM
  have D:aN[M.length]? = some (.live ⟨.box,80,5,[[a4 G.Debtor,a4 G.Holder,a4 G.Cut,a4 G.Amount,a4 G.Left]]⟩):=bc aw af
  refine Rn (hA aA (hA aa (hV (.loc M.length 1 0 0) E (hA ab (hA bd (hA ac hZ)))))) fun bk aO aP ah aQ aR aS=>sN (av<|kx (dQ ah D E)<|kx (e8 E D E E E)<|kx (fB E E)<|Rn (hA aO (hA aP (hA ah (hA aQ (hA aR (hA aS (hN E hZ))))))) fun bm ai ak Y am an ao ap=>sN ?_)
  rcases aj h with ⟨O,h⟩ | ⟨O,h⟩
  ·obtain ⟨Z,aE,h⟩:=ad h
   refine cT ap O (Rg<|kx (bp ak)<|kx (dQ Y D E)<|kx (e8 E D E E E)<|kx (dQ Y D E)<|kx (e8 E D E E E)<|kx (dQ Y D E)<|kx (e8 E D E E E)<|kx (gg vx (b3 (t6 E) (b3 (t6 E) (b3 (t6 E) E))) (gz ⟨E,ble E⟩ E E (gz ⟨E,ble E⟩ E E (gz ⟨E,ble E⟩ E E (dz E)))))<|kx (kh (b3 E E) E ⟨E,by decide⟩)<|kw (Dp E X E (DO (c:=Debt.c) (xs:=[(Debt.mk G.Debtor G.Holder G.Left)]) E) aE Debt.fl (by decide)) fun aT ax=>?_)
   have aU:aT[I]? = some (.live ⟨.grow,82,3,Z.map Debt.c⟩):=bc ax X
   have bn:=a9 ax (Ne.symm au) D
   refine be (Rn (hA ai (hV (.lsl I Z.length 0 Z.length) E (hA am (hA an (hA ao hZ))))) fun bo aV aF aG aH aI=>bN<|sN<|Rg<|kx (cu aI E)<|be<|Rn (hA aV (hA aF (hA aG (hA aH (hN E hZ))))) fun bh aJ aK aL aB aW=>?_)
   exact jd h ⟨aJ,aK,aL,aB,aW,aU⟩
  refine cF ap O (xx<|bN<|sN<|Rg<|kx (cu ao E)<|be<|Rn (hA ai (hA ak (hA am (hA an (hN E hZ))))) fun bi aX aY aZ a0 a1=>?_)
  exact jd h ⟨aX,aY,aZ,a0,a1,X⟩
 refine cF ae N (xx<|sE ?_)
 exact md h ⟨E,aA,aa,U⟩
noncomputable def nE (D:Book):Option ((List Debt)×Int):=
 (ia D).bind fun G=>
 if G=true then
  (Lw (j3 D) (0,([]:List Debt))).bind fun F=>
  (h7 (D.Cash.length:Int) F).bind fun r=>match r with
  | (.inl O)=>
   some (([]:List Debt),O)
  | (.inr Y)=>
   some (Y,0)
 else
  some (([]:List Debt),1)
def xZ (r:(List Debt)×Int):AV:=.tup [.sl none (r.1.map Debt.c),a4 r.2]
theorem yB (D:Book) (r:(List Debt)×Int) (h:nE D=some r):Ev (fun k=>CN k 11 [.agg [a4 D.Day,.sl none (D.Cash.map (cI .i64)),.sl none (D.Tallies.map Tally.c)]] []) (fun p=>As (cp p.2 p.1)=xZ r/\iu (cp p.2 p.1)=true):=by
 unfold nE at h
 obtain ⟨aD,Z,h⟩:=ad h
 refine Ev.enter (F:=fun k=>f11 (CN k) k) (fun k=>bH E Tryz.func11 E E E (by decide +kernel) (Mb _ _)) (av<|kx (ps E E ⟨E,E,by decide⟩)<|be<|be<|Rn (hN E hZ) fun aL U=>sN<|sq<|av<|kx (eE U E E) (kc (cl (v:=.bool aD) E E (b3 E E) E (mV D _ Z) nm)<|kx (eZ E)<|Rn (hA U (hN E hZ)) fun aM aC X=>sN ?_))
 rcases aj h with ⟨G,h⟩ | ⟨G,h⟩
 ·refine cF X (nt G) (xx<|sN<|av (ku (Ai (xs:=([]:List Debt)) (c:=Debt.c) E E (by decide)) fun aa aq=>?_))
  have ae:aa[([]:bs).length]? = some (.live ⟨.grow,82,3,([]:List Debt).map Debt.c⟩):=b2 aq
  obtain ⟨J,ao,h⟩:=ad h
  refine be (Rn (hA aC (hV (.lsl ([]:bs).length ([]:List Debt).length 0 ([]:List Debt).length) E hZ)) fun aJ O af=>sN<|sq<|av<|kx (cW O ⟨ble E,blt E⟩ E)<|kx (cr E E)<|kx (i2 Tryz.underlying25 E)<|be<|Rn (hA O (hA af (hN E (hN E (hV (a4 0) E hZ))))) fun aK ah ai ak am an=>sN<|bl (Ev.loop (v5 D (([]:bs).length)) ao ⟨ah,ai,ak,am,an,ae⟩ fun x aE aF ap=>?_))
  obtain ⟨rfl,ar,au,N⟩:=ap
  obtain ⟨aw,I,h⟩:=ad h
  refine bE (sN<|av<|kx (cW ar ⟨ble E,blt E⟩ E)<|kx (cr E E)<|kx (i2 Tryz.underlying24 E)<|kx (bp au) ?_)
  rcases aw with ab | ac
  ·refine kc (cl (v:=.tup [.nils,a4 ab]) E E (b3 E (b3 E E)) (zV E (zV (y7 N E Debt.fl) ER)) (ky (D.Cash.length:Int) J _ I) (fun _=>(dL (hM E (hM E sL))))) (kx (eO E E)<|kx (eO E E)<|be<|be<|Rn (hV .nils E (hN E hZ)) fun aG ax ay=>sN<|xx ?_)
   obtain rfl:=si h
   exact eR (bB ax (bB ay bK)) (AA (y:=.tup [.nils,a4 ab]) E E (dL (hM E (hM E sL))))
  refine kc (cl (v:=.tup [.sl (some 82) (ac.map Debt.c),a4 0]) E E (b3 E (b3 E E)) (zV E (zV (y7 N E Debt.fl) ER)) (ky (D.Cash.length:Int) J _ I) (fun _=>(dL (hM (iR (c:=Debt.c) Debt.flF) (hM E sL))))) (kx (eO E E)<|kx (eO E E)<|be<|be<|Rn (hN E (hV (a4 0) E hZ)) fun aH az aA=>sN<|xx ?_)
  obtain rfl:=si h
  exact eR (bB az (bB aA bK)) (AA (y:=.tup [.sl (some 82) (ac.map Debt.c),a4 0]) E E (dL (hM (iR (c:=Debt.c) Debt.flF) (hM E sL))))
 refine cT X (nt G) (av<|be<|be<|Rn (hV .nils E (hV (a4 1) E hZ)) fun aI aB Y=>sN<|xx<|sR ?_)
 obtain rfl:=si h
 exact eR (bB aB (bB Y bK)) (AA (y:=.tup [.nils,a4 1]) E E (dL (hM E (hM E sL))))
noncomputable def kg (D:Book) (F:Book):Option Bool:=
 (nc D F).bind fun G=>
 some G
def xa (r:Bool):AV:=.bool r
theorem rR (D:Book) (G:Book) (r:Bool) (h:kg D G=some r):Ev (fun k=>CN k 10 [.agg [a4 D.Day,.sl none (D.Cash.map (cI .i64)),.sl none (D.Tallies.map Tally.c)],.agg [a4 G.Day,.sl none (G.Cash.map (cI .i64)),.sl none (G.Tallies.map Tally.c)]] []) (fun p=>cp p.2 p.1=xa r):=by
 unfold kg at h
 obtain ⟨U,I,h⟩:=ad h
 refine Ev.enter (F:=fun k=>f10 (CN k) k) (fun k=>bH E Tryz.func10 E E E (by decide +kernel) (L8 _ _)) (av<|kx (ps E E ⟨E,E,by decide⟩)<|kx (ps E E ⟨E,E,by decide⟩)<|be<|Rn (hN E (hN E hZ)) fun X J N=>sN<|av (kc (cl (v:=.bool U) E E (b3 J (b3 N E)) E (yz D G _ I) nm)<|be<|Rn (hN E hZ) fun Y O=>sN<|xx ?_))
 exact ct h (bB O bK) E
noncomputable def mX (F:Book) (G:List Deal) (I:Int):Option (Int×(List Int)×(List Tally)×Int):=
 (jE F G).bind fun D=>
 if (D != 0)=true then
  some (0,([]:List Int),([]:List Tally),D)
 else
  (ie I).bind fun J=>
  if J=true then
   (nn F G I).bind fun r=>match r with
   | (.inl (Y,aa))=>
    some (Y,([]:List Int),([]:List Tally),aa)
   | (.inr (ab,ac,ae))=>
    some (ab,ac,ae,0)
  else
   some (0,([]:List Int),([]:List Tally),2)
def x2 (r:Int×(List Int)×(List Tally)×Int):AV:=.tup [.agg [a4 r.1,.sl none (r.2.1.map (cI .i64)),.sl none (r.2.2.1.map Tally.c)],a4 r.2.2.2]
theorem yU (G:Book) (J:List Deal) (N:Int) (r:Int×(List Int)×(List Tally)×Int) (h:mX G J N=some r):Ev (fun k=>CN k 9 [.agg [a4 G.Day,.sl none (G.Cash.map (cI .i64)),.sl none (G.Tallies.map Tally.c)],.sl none (J.map Deal.c),a4 N] []) (fun p=>As (cp p.2 p.1)=x2 r):=by
 unfold mX at h
 refine Ev.enter (F:=fun k=>f9 (CN k) k) (fun k=>bH E Tryz.func9 E E E (by decide +kernel) (N2 _ _)) (av<|kx (ps E E ⟨E,E,by decide⟩) (ku (lG cy) fun ap ax=>?_))
 have D:ap[([]:bs).length]? = some (.live ⟨.box,27,3,[[a4 0,.nils,.nils]]⟩):=b2 ax
 obtain ⟨ae,aQ,h⟩:=ad h
 refine be (Rn (hN E (hN E (hN E (hV (.loc ([]:bs).length 1 0 0) E hZ)))) fun bd an a3 ao ay=>sN<|sq<|av<|kx (eE ao E E)<|kx (bp an) (kc (cl (v:=a4 ae) E E (b3 E (b3 E E)) E (qH G J _ aQ) nm)<|be<|Rn (hA an (hA a3 (hA ao (hA ay (hN E hZ))))) fun a6 az aA aB aC af=>sN<|av<|kx (bp af)<|kx (gD E E)<|Rn (hA az (hA aA (hA aB (hA aC (hA af (hN E hZ)))))) fun a7 aD ah aE X aF ai=>sN ?_))
 rcases aj h with ⟨O,h⟩ | ⟨O,h⟩
 ·refine cT ai O (av<|kx (gg cy E (dz E))<|kx (bp aF)<|kw (dW X E D E E ⟨E,ble E⟩ E E) fun aG aR=>?_)
  have aH:aG[([]:bs).length]? = some (.live ⟨.box,27,3,[[a4 0,.nils,.nils]]⟩):=bc aR D
  refine be (Rn (hA X (hN E hZ)) fun a8 aI aJ=>sN<|xx<|sR ?_)
  obtain rfl:=si h
  exact eR (eC (ag:=true) (sz:=3) ⟨by kernel_rfl,by kernel_rfl,by kernel_rfl⟩ (cm aI aH E E (ble E) E) (bB aJ bK)) (E7 (y:=.tup [.agg [a4 0,.nils,.nils],a4 ae]) E E)
 obtain ⟨aK,aS,h⟩:=ad h
 refine cF ai O (xx<|sN<|sq<|av<|kx (bp ah) (kc (cl (v:=.bool aK) E E (b3 E E) E (nz N _ aS) nm)<|kx (eZ E)<|Rn (hA aD (hA ah (hA aE (hA X (hN E hZ))))) fun a9 aL aM aN I ak=>sN ?_))
 rcases aj h with ⟨U,h⟩ | ⟨U,h⟩
 ·obtain ⟨aO,ac,h⟩:=ad h
  refine cF ak (nt U) (xx<|sN<|av<|kx (eE aN E E)<|kx (bp aL)<|kx (bp aM) ?_)
  rcases aO with ⟨Y,am⟩ | ⟨Z,aa,ab⟩
  ·refine kc (cl (v:=.tup [.agg [a4 Y,.nils,.nils],a4 am]) E E (b3 E (b3 E (b3 E E))) E (s0 G J N _ ac) nm) (kx (eO E E)<|kx (eO E E)<|kw (dW I E D E E ⟨E,ble E⟩ E E) fun aP ar=>?_)
   have aq:aP[([]:bs).length]? = some (.live ⟨.box,27,3,[[a4 Y,.nils,.nils]]⟩):=bc ar D
   refine be (Rn (hA I (hN E hZ)) fun ba aT aU=>sN<|xx ?_)
   obtain rfl:=si h
   exact eR (eC (ag:=true) (sz:=3) ⟨by kernel_rfl,by kernel_rfl,by kernel_rfl⟩ (cm aT aq E E (ble E) E) (bB aU bK)) (E7 (y:=.tup [.agg [a4 Y,.nils,.nils],a4 am]) E E)
  refine kc (cl (v:=.tup [.agg [a4 Z,.sl none (aa.map (cI .i64)),.sl none (ab.map Tally.c)],a4 0]) E E (b3 E (b3 E (b3 E E))) E (s0 G J N _ ac) nm) (kx (eO E E)<|kx (eO E E)<|kw (dW I E D E E ⟨E,ble E⟩ E E) fun aV au=>?_)
  have aW:aV[([]:bs).length]? = some (.live ⟨.box,27,3,[[a4 Z,.sl none (aa.map (cI .i64)),.sl none (ab.map Tally.c)]]⟩):=bc au D
  refine be (Rn (hA I (hV (a4 0) E hZ)) fun bb aX aY=>sN<|xx ?_)
  obtain rfl:=si h
  exact eR (eC (ag:=true) (sz:=3) ⟨by kernel_rfl,by kernel_rfl,by kernel_rfl⟩ (cm aX aW E E (ble E) E) (bB aY bK)) (E7 (y:=.tup [.agg [a4 Z,.sl none (aa.map (cI .i64)),.sl none (ab.map Tally.c)],a4 0]) E E)
 refine cT ak (nt U) (av<|kx (gg cy E (dz E))<|kw (dW I E D E E ⟨E,ble E⟩ E E) fun aZ aw=>?_)
 have a0:aZ[([]:bs).length]? = some (.live ⟨.box,27,3,[[a4 0,.nils,.nils]]⟩):=bc aw D
 refine be (Rn (hA I (hV (a4 2) E hZ)) fun a5 a1 a2=>sN<|xx<|sR ?_)
 obtain rfl:=si h
 exact eR (eC (ag:=true) (sz:=3) ⟨by kernel_rfl,by kernel_rfl,by kernel_rfl⟩ (cm a1 a0 E E (ble E) E) (bB a2 bK)) (E7 (y:=.tup [.agg [a4 0,.nils,.nils],a4 2]) E E)
noncomputable def mT (D:Book) (G:List Deal):Option (Int×(List Int)×(List Tally)×Int):=
 (l3 D G).bind fun F=>
 if (F != 0)=true then
  some (0,([]:List Int),([]:List Tally),F)
 else
  (hE D G).bind fun (J,Y,ao)=>
  if (Y != 0)=true then
   some (0,([]:List Int),([]:List Tally),Y)
  else
   if ((J.length:Int)==0)=true then
    (hC D).bind fun (aa,ab,ac)=>
    some (aa,ab,ac,0)
   else
    (rd J (IntKind.i64.wrap ((J.length:Int) - 1))).bind fun I=>
    (hC I).bind fun (af,ah,ai)=>
    some (af,ah,ai,0)
def x3 (r:Int×(List Int)×(List Tally)×Int):AV:=.tup [.agg [a4 r.1,.sl none (r.2.1.map (cI .i64)),.sl none (r.2.2.1.map Tally.c)],a4 r.2.2.2]
theorem yM (G:Book) (I:List Deal) (r:Int×(List Int)×(List Tally)×Int) (h:mT G I=some r):Ev (fun k=>CN k 8 [.agg [a4 G.Day,.sl none (G.Cash.map (cI .i64)),.sl none (G.Tallies.map Tally.c)],.sl none (I.map Deal.c)] []) (fun p=>As (cp p.2 p.1)=x3 r):=by
 unfold mT at h
 refine Ev.enter (F:=fun k=>f8 (CN k) k) (fun k=>bH E Tryz.func8 E E E (by decide +kernel) (N3 _ _)) (av<|kx (ps E E ⟨E,E,by decide⟩) (ku (lG cy) fun ay aH=>?_))
 have D:ay[([]:bs).length]? = some (.live ⟨.box,27,3,[[a4 0,.nils,.nils]]⟩):=b2 aH
 obtain ⟨an,aA,h⟩:=ad h
 refine be (Rn (hN E (hN E (hV (.loc ([]:bs).length 1 0 0) E hZ))) fun br aw ax bg=>sN<|sq<|av<|kx (bp aw) (kc (cl (v:=a4 an) E E (b3 ax (b3 E E)) E (xG G I _ aA) nm)<|be<|Rn (hA aw (hA ax (hA bg (hN E hZ)))) fun bh aJ aK aM ao=>sN<|av<|kx (bp ao)<|kx (gD E E)<|Rn (hA aJ (hA aK (hA aM (hA ao (hN E hZ))))) fun bi aN ap X aO aq=>sN ?_))
 rcases aj h with ⟨N,h⟩ | ⟨N,h⟩
 ·refine cT aq N (av<|kx (gg cy E (dz E))<|kx (bp aO)<|kw (dW X E D E E ⟨E,ble E⟩ E E) fun aP aB=>?_)
  have aQ:aP[([]:bs).length]? = some (.live ⟨.box,27,3,[[a4 0,.nils,.nils]]⟩):=bc aB D
  refine be (Rn (hA X (hN E hZ)) fun bj aR az=>sN<|xx<|sR ?_)
  obtain rfl:=si h
  exact eR (eC (ag:=true) (sz:=3) ⟨by kernel_rfl,by kernel_rfl,by kernel_rfl⟩ (cm aR aQ E E (ble E) E) (bB az bK)) (E7 (y:=.tup [.agg [a4 0,.nils,.nils],a4 an]) E E)
 obtain ⟨⟨aX,ar,aY⟩,aG,h⟩:=ad h
 refine cF aq N (xx<|sN<|av<|kx (bp aN) (kc (cl (v:=.tup [.sl (some 27) (aX.map Book.c),a4 ar,a4 aY]) E E (b3 ap (b3 E E)) E (z6 G I _ aG) nm)<|be<|kx (eO E E)<|kx (eO E E)<|kx (eO E E)<|be<|be<|be<|Rn (hA ap (hA X (hN E (hN E hZ)))) fun bk aZ a0 a1 au=>sN<|sq<|av<|kx (bp au)<|kx (gD E E)<|Rn (hA aZ (hA a0 (hA a1 (hA au (hN E hZ))))) fun bl a2 Y ah a3 ai=>sN ?_))
 rcases aj h with ⟨O,h⟩ | ⟨O,h⟩
 ·refine cT ai O (av<|kx (gg cy E (dz E))<|kx (bp a3)<|kw (dW Y E D E E ⟨E,ble E⟩ E E) fun a5 aC=>?_)
  have a6:a5[([]:bs).length]? = some (.live ⟨.box,27,3,[[a4 0,.nils,.nils]]⟩):=bc aC D
  refine be (Rn (hA Y (hN E hZ)) fun bm a7 a8=>sN<|xx<|sR ?_)
  obtain rfl:=si h
  exact eR (eC (ag:=true) (sz:=3) ⟨by kernel_rfl,by kernel_rfl,by kernel_rfl⟩ (cm a7 a6 E E (ble E) E) (bB a8 bK)) (E7 (y:=.tup [.agg [a4 0,.nils,.nils],a4 ar]) E E)
 refine cF ai O (xx<|sN<|sq<|av<|kx (bp ah)<|kx (i2 Tryz.underlying73 E)<|kx (d8 E E)<|Rn (hA a2 (hA Y (hA ah (hN E hZ)))) fun bn a9 J ak am=>sN ?_)
 rcases aj h with ⟨U,h⟩ | ⟨U,h⟩
 ·obtain ⟨⟨Z,aa,ab⟩,aI,h⟩:=ad h
  refine cT am U (av (kc (cl (v:=.agg [a4 Z,.sl (some 2) (aa.map (cI .i64)),.sl (some 80) (ab.map Tally.c)]) E E (b3 a9 E) E (j9 G _ aI) nm)<|kw (dW J E D E E ⟨E,ble E⟩ E E) fun ba aD=>?_))
  have bb:ba[([]:bs).length]? = some (.live ⟨.box,27,3,[[a4 Z,.sl none (aa.map (cI .i64)),.sl none (ab.map Tally.c)]]⟩):=bc aD D
  refine be (Rn (hA J (hV (a4 0) E hZ)) fun bo bd bf=>sN<|xx<|sR ?_)
  obtain rfl:=si h
  exact eR (eC (ag:=true) (sz:=3) ⟨by kernel_rfl,by kernel_rfl,by kernel_rfl⟩ (cm bd bb E E (ble E) E) (bB bf bK)) (E7 (y:=.tup [.agg [a4 Z,.sl none (aa.map (cI .i64)),.sl none (ab.map Tally.c)],a4 0]) E E)
 obtain ⟨aS,aE,h⟩:=ad h
 obtain ⟨⟨ac,ae,af⟩,aL,h⟩:=ad h
 refine cF am U (xx<|sN<|av<|kx (bp ak)<|kx (bp ak)<|kx (i2 Tryz.underlying73 E)<|kx (lD E E)<|kx (kJ E E aE Book.fl) (kc (cl (v:=.agg [a4 ac,.sl (some 2) (ae.map (cI .i64)),.sl (some 80) (af.map Tally.c)]) E E (b3 E E) E (j9 aS _ aL) nm)<|kw (dW J E D E E ⟨E,ble E⟩ E E) fun aT aF=>?_))
 have aU:aT[([]:bs).length]? = some (.live ⟨.box,27,3,[[a4 ac,.sl none (ae.map (cI .i64)),.sl none (af.map Tally.c)]]⟩):=bc aF D
 refine be (Rn (hA J (hV (a4 0) E hZ)) fun bq aV aW=>sN<|xx ?_)
 obtain rfl:=si h
 exact eR (eC (ag:=true) (sz:=3) ⟨by kernel_rfl,by kernel_rfl,by kernel_rfl⟩ (cm aV aU E E (ble E) E) (bB aW bK)) (E7 (y:=.tup [.agg [a4 ac,.sl none (ae.map (cI .i64)),.sl none (af.map Tally.c)],a4 0]) E E)
noncomputable def m4 (F:Book) (G:List Deal):Option (Int×(List Int)×(List Tally)×Int):=
 (jE F G).bind fun D=>
 if (D != 0)=true then
  some (0,([]:List Int),([]:List Tally),D)
 else
  (kW F G).bind fun r=>match r with
  | (.inl O)=>
   some (0,([]:List Int),([]:List Tally),O)
  | (.inr (Y,aa,ab))=>
   some (Y,aa,ab,0)
def ya (r:Int×(List Int)×(List Tally)×Int):AV:=.tup [.agg [a4 r.1,.sl none (r.2.1.map (cI .i64)),.sl none (r.2.2.1.map Tally.c)],a4 r.2.2.2]
theorem yY (D:Book) (J:List Deal) (r:Int×(List Int)×(List Tally)×Int) (h:m4 D J=some r):Ev (fun k=>CN k 7 [.agg [a4 D.Day,.sl none (D.Cash.map (cI .i64)),.sl none (D.Tallies.map Tally.c)],.sl none (J.map Deal.c)] []) (fun p=>As (cp p.2 p.1)=ya r):=by
 unfold m4 at h
 refine Ev.enter (F:=fun k=>f7 (CN k) k) (fun k=>bH E Tryz.func7 E E E (by decide +kernel) (NN _ _)) (av<|kx (ps E E ⟨E,E,by decide⟩) (ku (lG cy) fun af aH=>?_))
 have I:af[([]:bs).length]? = some (.live ⟨.box,27,3,[[a4 0,.nils,.nils]]⟩):=b2 aH
 obtain ⟨Z,aD,h⟩:=ad h
 refine be (Rn (hN E (hN E (hV (.loc ([]:bs).length 1 0 0) E hZ))) fun aR ac ae aL=>sN<|sq<|av<|kx (eE ae E E)<|kx (bp ac) (kc (cl (v:=a4 Z) E E (b3 E (b3 E E)) E (qH D J _ aD) nm)<|be<|Rn (hA ac (hA ae (hA aL (hN E hZ)))) fun aM aI aJ aK aa=>sN<|av<|kx (bp aa)<|kx (gD E E)<|Rn (hA aI (hA aJ (hA aK (hA aa (hN E hZ))))) fun aN ah ak G am ab=>sN ?_))
 rcases aj h with ⟨N,h⟩ | ⟨N,h⟩
 ·refine cT ab N (av<|kx (gg cy E (dz E))<|kx (bp am)<|kw (dW G E I E E ⟨E,ble E⟩ E E) fun an aE=>?_)
  have ao:an[([]:bs).length]? = some (.live ⟨.box,27,3,[[a4 0,.nils,.nils]]⟩):=bc aE I
  refine be (Rn (hA G (hN E hZ)) fun aO ap aq=>sN<|xx<|sR ?_)
  obtain rfl:=si h
  exact eR (eC (ag:=true) (sz:=3) ⟨by kernel_rfl,by kernel_rfl,by kernel_rfl⟩ (cm ap ao E E (ble E) E) (bB aq bK)) (E7 (y:=.tup [.agg [a4 0,.nils,.nils],a4 Z]) E E)
 obtain ⟨ar,Y,h⟩:=ad h
 refine cF ab N (xx<|sN<|av<|kx (eE ak E E)<|kx (bp ah) ?_)
 rcases ar with ai | ⟨O,U,X⟩
 ·refine kc (cl (v:=.tup [.agg [a4 0,.nils,.nils],a4 ai]) E E (b3 E (b3 E E)) E (jr D J _ Y) nm) (kx (eO E E)<|kx (eO E E)<|kw (dW G E I E E ⟨E,ble E⟩ E E) fun au aF=>?_)
  have aw:au[([]:bs).length]? = some (.live ⟨.box,27,3,[[a4 0,.nils,.nils]]⟩):=bc aF I
  refine be (Rn (hA G (hN E hZ)) fun aP ax ay=>sN<|xx ?_)
  obtain rfl:=si h
  exact eR (eC (ag:=true) (sz:=3) ⟨by kernel_rfl,by kernel_rfl,by kernel_rfl⟩ (cm ax aw E E (ble E) E) (bB ay bK)) (E7 (y:=.tup [.agg [a4 0,.nils,.nils],a4 ai]) E E)
 refine kc (cl (v:=.tup [.agg [a4 O,.sl none (U.map (cI .i64)),.sl none (X.map Tally.c)],a4 0]) E E (b3 E (b3 E E)) E (jr D J _ Y) nm) (kx (eO E E)<|kx (eO E E)<|kw (dW G E I E E ⟨E,ble E⟩ E E) fun az aG=>?_)
 have aA:az[([]:bs).length]? = some (.live ⟨.box,27,3,[[a4 O,.sl none (U.map (cI .i64)),.sl none (X.map Tally.c)]]⟩):=bc aG I
 refine be (Rn (hA G (hV (a4 0) E hZ)) fun aQ aB aC=>sN<|xx ?_)
 obtain rfl:=si h
 exact eR (eC (ag:=true) (sz:=3) ⟨by kernel_rfl,by kernel_rfl,by kernel_rfl⟩ (cm aB aA E E (ble E) E) (bB aC bK)) (E7 (y:=.tup [.agg [a4 O,.sl none (U.map (cI .i64)),.sl none (X.map Tally.c)],a4 0]) E E)
noncomputable def gE (D:List Int) (F:Int) (G:Int) (I:Int):Option (Bool×(List Int)×Int×Int):=
 (b7 D F G I).bind fun (r6,r7,r8,r9)=>
 some ((r6==0),r7,r8,r9)
def u2 (F:List Int) (G:Int) (I:Int) (J:Int) (D:Nat) (M0:bs) (r:Bool×(List Int)×Int×Int) (p:AV×bs):Prop:=p.1 = .bool r.1/\p.2[D]? = some (.live ⟨.box,138,3,[[.sl none (r.2.1.map (cI .u8)),a4 r.2.2.1,.int .u64 r.2.2.2]]⟩)/\Fr [D] M0 p.2
theorem ul (G:List Int) (I:Int) (J:Int) (N:Int) (D:Nat) (M0:bs) (ak:M0[D]? = some (.live ⟨.box,138,3,[[.sl none (G.map (cI .u8)),a4 I,.int .u64 J]]⟩)) (r:Bool×(List Int)×Int×Int) (h:gE G I J N=some r):Ev (fun k=>CN k 115 [.loc D 1 0 0,a4 N] M0) (u2 G I J N D M0 r):=by
 unfold gE at h
 have aa:Fr [D] M0 M0:=Fr.refl
 obtain ⟨⟨am,an,ao,ap⟩,ae,h⟩:=ad h
 refine Ev.enter (F:=fun k=>f115 (CN k) k) (fun k=>bH E Tryz.func115 E E E (by decide +kernel) (K6 _ _)) (av<|be<|Rn (hV (.loc D 1 0 0) E (hN E hZ)) fun ar ai aj=>sN<|av<|kx (bp ai)<|kx (bp aj) (Ev.nxw (Ev.callW E E (b3 E (b3 E E)) (cc G I J N D M0 ak _ ae)) fun ab U X=>?_))
 obtain ⟨O,ac,Y⟩:=X
 have O:ab = a4 am:=O
 subst O
 have af:U[D]? = some (.live ⟨.box,138,3,[[.sl none (an.map (cI .u8)),a4 ao,.int .u64 ap]]⟩):=ac
 have Z:Fr [D] M0 U:=Fr.call aa Y (y4 (by simp) y2)
 refine kx (d8 E E) (be<|Rn (hN E hZ) fun aq ah=>sN<|xx ?_)
 exact yN h (bB ah bK) ⟨E,af,Z⟩
def i7 (J:Int) (N:List Int) (U:List Tally) (O:Int) (D:Nat) (F:Nat) (G:Nat) (I:Nat) (M0:bs) (g:Bool×(List Int)×Int×Int) (q:oZ):Prop:=q.1 = .nrm/\a3 q.2.1 0 = .loc D 1 0 0/\a3 q.2.1 1 = .loc F 1 0 0/\a3 q.2.1 4 = .loc G 1 0 0/\a3 q.2.1 5 = a4 (N.length:Int)/\a3 q.2.1 6 = .loc I 1 0 0/\a3 q.2.1 30 = .bool g.1/\q.2.2[G]? = some (.live ⟨.box,132,6,[[a4 0,.int .i8 0,a4 0,a4 0,a4 0,a4 0]]⟩)/\q.2.2[I]? = some (.live ⟨.box,132,6,[[a4 (IntKind.i64.wrap (J + O)),.int .i8 0,a4 0,a4 0,a4 0,a4 0]]⟩)/\q.2.2[D]? = some (.live ⟨.box,138,3,[[.sl none (g.2.1.map (cI .u8)),a4 g.2.2.1,.int .u64 g.2.2.2]]⟩)/\q.2.2[F]? = some (.live ⟨.box,27,3,[[a4 J,.sl none (N.map (cI .i64)),.sl none (U.map Tally.c)]]⟩)/\Fr [D,F] M0 q.2.2
def i5 (N:Int) (O:List Int) (U:List Tally) (ac:Int) (X:Int) (D:Tally) (Y:Int) (Z:List Int) (aa:Int) (ab:Int) (I:Nat) (J:Nat) (F:Nat) (G:Nat) (M0:bs) (g:Bool) (q:oZ):Prop:=q.1 = .nrm/\a3 q.2.1 0 = .loc F 1 0 0/\a3 q.2.1 1 = .loc G 1 0 0/\a3 q.2.1 4 = .loc I 1 0 0/\a3 q.2.1 5 = a4 (O.length:Int)/\a3 q.2.1 6 = .loc J 1 0 0/\a3 q.2.1 7 = .pt none [a4 D.Debtor,a4 D.Holder,a4 D.Cut,a4 D.Amount,a4 D.Left]/\a3 q.2.1 68 = a4 Y/\a3 q.2.1 90 = .bool g/\q.2.2[I]? = some (.live ⟨.box,132,6,[[a4 0,.int .i8 0,a4 0,a4 0,a4 0,a4 0]]⟩)/\q.2.2[J]? = some (.live ⟨.box,132,6,[[a4 (IntKind.i64.wrap (N + ac)),.int .i8 0,a4 X,a4 0,a4 0,a4 0]]⟩)/\q.2.2[F]? = some (.live ⟨.box,138,3,[[.sl none (Z.map (cI .u8)),a4 aa,.int .u64 ab]]⟩)/\q.2.2[G]? = some (.live ⟨.box,27,3,[[a4 N,.sl none (O.map (cI .i64)),.sl none (U.map Tally.c)]]⟩)/\Fr [F,G] M0 q.2.2
noncomputable def en (J:List Int) (N:Int) (U:Int) (G:Int) (D:List Int) (I:List Tally):Option (Int×Int×Int×Int×Int×Int×(List Int)×Int×Int):=
 (b7 J N U 4).bind fun (ae,ai,ao,aq)=>
 (if ((I.length:Int)==0)=true then
  some (true,ai,ao,aq)
 else
  (gE ai ao aq 3).bind fun (bb,bd,bf,bg)=>
  some (bb,bd,bf,bg)).bind fun (bi,ar,au,af)=>
 if bi=true then
  (b7 ar au af (D.length:Int)).bind fun (ah,aw,ax,ay)=>
  (b7 aw ax ay (IntKind.i64.wrap ((D.length:Int) - 1))).bind fun (az,aA,aB,aC)=>
  (rem .i64 (IntKind.i64.wrap ((IntKind.i64.wrap (ah + 1)) + az)) (D.length:Int)).bind fun X=>
  (b7 aA aB aC 60).bind fun (aE,aF,aG,aH)=>
  some ((IntKind.i64.wrap (G + ae)),1,0,ah,X,(IntKind.i64.wrap (1 + aE)),aF,aG,aH)
 else
  (b7 ar au af (I.length:Int)).bind fun (O,aI,aJ,aK)=>
  (rd I O).bind fun F=>
  (b7 aI aJ aK 5).bind fun (Y,aa,ab,ac)=>
  (if (Y==0)=true then
   some (Y==0)
  else
   some (Y==1)).bind fun Z=>
  if Z=true then
   (b7 aa ab ac (IntKind.i64.wrap ((D.length:Int) - 1))).bind fun (aM,aN,aO,aP)=>
   (rem .i64 (IntKind.i64.wrap ((IntKind.i64.wrap (F.Holder + 1)) + aM)) (D.length:Int)).bind fun ad=>
   some ((IntKind.i64.wrap (G + ae)),2,O,F.Holder,ad,0,aN,aO,aP)
  else
   if (Y==2)=true then
    some ((IntKind.i64.wrap (G + ae)),4,O,F.Holder,0,0,aa,ab,ac)
   else
    (rd D F.Debtor).bind fun aj=>
    (kI F.Left aj).bind fun ak=>
    (jH ak 1).bind fun am=>
    (b7 aa ab ac am).bind fun (aV,aZ,a8,ba)=>
    some ((IntKind.i64.wrap (G + ae)),3,O,0,0,(IntKind.i64.wrap (1 + aV)),aZ,a8,ba)
def s8 (N:List Int) (O:Int) (U:Int) (G:Int) (I:List Int) (J:List Tally) (D:Nat) (F:Nat) (M0:bs) (r:Int×Int×Int×Int×Int×Int×(List Int)×Int×Int) (p:AV×bs):Prop:=p.1 = .agg [a4 r.1,.int .i8 r.2.1,a4 r.2.2.1,a4 r.2.2.2.1,a4 r.2.2.2.2.1,a4 r.2.2.2.2.2.1]/\p.2[D]? = some (.live ⟨.box,138,3,[[.sl none (r.2.2.2.2.2.2.1.map (cI .u8)),a4 r.2.2.2.2.2.2.2.1,.int .u64 r.2.2.2.2.2.2.2.2]]⟩)/\p.2[F]? = some (.live ⟨.box,27,3,[[a4 G,.sl none (I.map (cI .i64)),.sl none (J.map Tally.c)]]⟩)/\Fr [D,F] M0 p.2
theorem mU (aZ:List Int) (a0:Int) (a1:Int) (I:Int) (Y:List Int) (ae:List Tally) (D:Nat) (N:Nat) (af:D≠N) (M0:bs) (d2:M0[D]? = some (.live ⟨.box,138,3,[[.sl none (aZ.map (cI .u8)),a4 a0,.int .u64 a1]]⟩)) (d3:M0[N]? = some (.live ⟨.box,27,3,[[a4 I,.sl none (Y.map (cI .i64)),.sl none (ae.map Tally.c)]]⟩)) (r:Int×Int×Int×Int×Int×Int×(List Int)×Int×Int) (h:en aZ a0 a1 I Y ae=some r):Ev (fun k=>CN k 87 [.loc D 1 0 0,.loc N 1 0 0] M0) (s8 aZ a0 a1 I Y ae D N M0 r):=by
 unfold en at h
 have dH:Fr [D,N] M0 M0:=Fr.refl
 refine Ev.enter (F:=fun k=>f87 (CN k) k) (fun k=>bH E Tryz.func87 E E E (by decide +kernel) (M9 _ _)) (av (ku (lG sb) fun G bd=>?_))
 have bf:=Nf.mk dH
 have dI:=Fr.push dH bd
 have d1:=bS bd d2
 have ac:=b6 d2
 have ai:=bS bd d3
 have bg:=b6 d3
 have dJ:G[M0.length]? = some (.live ⟨.box,132,6,[[a4 0,.int .i8 0,a4 0,a4 0,a4 0,a4 0]]⟩):=b2 bd
 refine Rn (hV (.loc D 1 0 0) E (hV (.loc N 1 0 0) E (hV (.loc M0.length 1 0 0) E hZ))) fun io h0 dK h1=>sN (av<|kx (bp dK)<|kx (mL E ai E)<|kx (dQ E ai E)<|kx (e8 E ai E E E)<|kx (i2 Tryz.underlying24 E)<|be<|Rn (hA h0 (hA dK (hA h1 (hN E hZ)))) fun ip dL dM h2 h3=>sN<|sq (Oq (FV (bp dM) (KY (mL E ai E) (KY (dQ E ai E) (KY (e8 E ai E E E) (FV (bp dL) (O3 (lG sb) (O0 fun bY am=>?_)))))))))
 have am:=CE am [⟨.box,132,6,[[a4 0,.int .i8 0,a4 0,a4 0,a4 0,a4 0]]⟩] E
 have h4:=bS am d1
 have h5:=bS am ai
 have h6:=bS am dJ
 have O:D≠G.length:=by have:=cv (M:=G) d1; omega
 have aa:N≠G.length:=by have:=cv (M:=G) ai; omega
 have X:M0.length≠G.length:=by have:=cv (M:=G) dJ; omega
 have h7:bY[G.length]? = some (.live ⟨.box,132,6,[[a4 0,.int .i8 0,a4 0,a4 0,a4 0,a4 0]]⟩):=ji am 0 E
 have ab:=Nf.mk dI
 have fn:=Fr.push dI am
 obtain ⟨⟨J,dN,dO,dP⟩,gb,h⟩:=ad h
 refine Ev.nxw (Ev.callW E E (b3 E (b3 E E)) (cc aZ a0 a1 4 D bY h4 _ gb)) fun h8 bZ fo=>?_
 obtain ⟨bt,h9,an⟩:=fo
 have bt:h8 = a4 J:=bt
 subst bt
 have ia:bZ[D]? = some (.live ⟨.box,138,3,[[.sl none (dN.map (cI .u8)),a4 dO,.int .u64 dP]]⟩):=h9
 have an:Fr [D] bY bZ:=an
 have bh:=an _ _ (oR (Ne.symm af) pg) h5
 have hx:=an _ _ (oR (Ne.symm ac) pg) h6
 have aT:=an _ _ (oR (Ne.symm O) pg) h7
 have fp:Fr [D,N] M0 bZ:=Fr.call fn an (y4 (by simp) y2)
 refine ck (OK aT (GA (e8 E bh E E E) (GA (dQ E bh E) (GA (mL E bh E) Bo)))) (kx (cu E E) (ck (OK aT (u5 E (u5 E (u5 E Bo))))<|kx (gg sb (b3 (t6 E) E) (gz ⟨E,ble E⟩ E E (dz E))) (ck (OK aT (u5 E (u5 E (u5 E Bo))))<|kw (dW E E aT E E ⟨E,ble E⟩ E E) fun b0 aC=>?_)))
 have dR:=a9 aC O ia
 have aU:=a9 aC aa bh
 have dS:=a9 aC X hx
 have dT:b0[G.length]? = some (.live ⟨.box,132,6,[[a4 (IntKind.i64.wrap (I + J)),.int .i8 0,a4 0,a4 0,a4 0,a4 0]]⟩):=bc aC aT
 have c4:=Fr.setNew fp aC ab
 obtain ⟨c5,d4,h⟩:=ad h
 refine ck (u5 E (u5 E (u5 E (u5 E Bo)))) (Rn (hA dL (hA dM (hA h2 (hA h3 (hV (.loc G.length 1 0 0) E hZ))))) fun iq ci cj dU dV dX=>sN<|sq<|sq ?_)
 refine Ev.cut (Q1:=i7 I Y ae J D N M0.length G.length M0 c5) (by
     have h:=d4
     refine Rg (kx (bp cj)<|kx (mL E aU E)<|kx (dQ E aU E)<|kx (e8 E aU E E E)<|kx (i2 Tryz.underlying25 E)<|kx (d8 E E)<|kx (bp E) ?_)
     rcases aj h with ⟨ak,h⟩ | ⟨ak,h⟩
     ·refine kx (gsF E ak) (kc (Ev.gsF E ak)<|kx (cC E ak E)<|Rn (hA ci (hA cj (hA dU (hA dV (hA dX (hV (.bool true) E hZ)))))) fun ir hy hz hB hC hD hE=>?_)
      obtain rfl:=si h
      exact kd (show i7 I Y ae J D N M0.length G.length M0 _ _ from ⟨E,hy,hz,hB,hC,hD,hE,dS,dT,dR,aU,c4⟩)
     obtain ⟨⟨hF,hG,hH,hI⟩,gf,h⟩:=ad h
     refine kx (guF E ak (bp ci)) (Ev.nxw (Ev.guF E ak (Ev.callW E E (b3 E (b3 E E)) (ul dN dO dP 3 D b0 dR _ gf))) fun hJ cn fq=>?_)
     obtain ⟨bu,hK,ao⟩:=fq
     have bu:hJ = .bool hF:=bu
     subst bu
     have hL:cn[D]? = some (.live ⟨.box,138,3,[[.sl none (hG.map (cI .u8)),a4 hH,.int .u64 hI]]⟩):=hK
     have ao:Fr [D] b0 cn:=ao
     have hM:=ao _ _ (oR (Ne.symm af) pg) aU
     have hO:=ao _ _ (oR (Ne.symm ac) pg) dS
     have hP:=ao _ _ (oR (Ne.symm O) pg) dT
     have fr:Fr [D,N] M0 cn:=Fr.call c4 ao (y4 (by simp) y2)
     refine kx (cU E ak E) (Rn (hA ci (hA cj (hA dU (hA dV (hA dX (hN E hZ)))))) fun it hQ hR hS hT hU hW=>?_)
     obtain rfl:=si h
     exact kd (show i7 I Y ae J D N M0.length G.length M0 _ _ from ⟨E,hQ,hR,hS,hT,hU,hW,hO,hP,hL,hM,fr⟩)) ?_
 obtain ⟨iu,dY,dZ,c6⟩:=c5
 intro x iv d0 d5
 obtain ⟨rfl,bv,c7,c8,c9,a6,da,db,a7,dc,aV,co⟩:=d5
 refine sN ?_
 rcases aj h with ⟨bE,h⟩ | ⟨bE,h⟩
 ·refine cT da bE (av<|kx (dQ a6 a7 E)<|kw (dW E E a7 E E ⟨E,ble E⟩ E E) fun bw aD=>?_)
  have fs:=a9 aD X db
  have ft:bw[G.length]? = some (.live ⟨.box,132,6,[[a4 (IntKind.i64.wrap (I + J)),.int .i8 1,a4 0,a4 0,a4 0,a4 0]]⟩):=bc aD a7
  have fu:=a9 aD O dc
  have fv:=a9 aD aa aV
  have d6:=Fr.setNew co aD ab
  obtain ⟨⟨aW,dd,df,dg⟩,eF,h⟩:=ad h
  refine Rn (hV (.loc D 1 0 0) bv (hV (.loc M0.length 1 0 0) c8 (hV (a4 (Y.length:Int)) c9 (hV (.loc G.length 1 0 0) a6 hZ)))) fun ib dh fw di dj=>sN (av<|kx (bp dh)<|kx (bp di) (Ev.nxw (Ev.callW E E (b3 E (b3 E E)) (cc dY dZ c6 (Y.length:Int) D bw fu _ eF)) fun fx bx d7=>?_))
  obtain ⟨bF,gt,au⟩:=d7
  have bF:fx = a4 aW:=bF
  subst bF
  have fy:bx[D]? = some (.live ⟨.box,138,3,[[.sl none (dd.map (cI .u8)),a4 df,.int .u64 dg]]⟩):=gt
  have au:Fr [D] bw bx:=au
  have fz:=au _ _ (oR (Ne.symm ac) pg) fs
  have bz:=au _ _ (oR (Ne.symm O) pg) ft
  have fA:=au _ _ (oR (Ne.symm af) pg) fv
  have d9:Fr [D,N] M0 bx:=Fr.call d6 au (y4 (by simp) y2)
  refine kx (dQ dj bz E) (kw (dW E E bz E E ⟨E,ble E⟩ E E) fun bA aE=>?_)
  have fB:=a9 aE X fz
  have bB:bA[G.length]? = some (.live ⟨.box,132,6,[[a4 (IntKind.i64.wrap (I + J)),.int .i8 1,a4 0,a4 aW,a4 0,a4 0]]⟩):=bc aE bz
  have eQ:=a9 aE O fy
  have eR:=a9 aE aa fA
  have ea:=Fr.setNew d9 aE ab
  obtain ⟨⟨eS,dk,dl,cz⟩,eJ,h⟩:=ad h
  refine Rn (hA dh (hA fw (hA di (hA dj hZ)))) fun iw cA eT cB a8=>sN (sq (Oq (KY (dQ a8 bB E) (KY (e8 E bB E E E) (FV (cu E E) (FV (bp cA) (FV (bp cB) (FV (lD E E) (FV (bp cB) (OE (Ev.nxw (Ev.callW E E (b3 E (b3 E E)) (cc dd df dg (IntKind.i64.wrap ((Y.length:Int) - 1)) D bA eQ _ eJ)) fun eU bC eb=>?_)))))))))))
  obtain ⟨bG,eW,aw⟩:=eb
  have bG:eU = a4 eS:=bG
  subst bG
  have eX:bC[D]? = some (.live ⟨.box,138,3,[[.sl none (dk.map (cI .u8)),a4 dl,.int .u64 cz]]⟩):=eW
  have aw:Fr [D] bA bC:=aw
  have eY:=aw _ _ (oR (Ne.symm ac) pg) fB
  have aX:=aw _ _ (oR (Ne.symm O) pg) bB
  have eZ:=aw _ _ (oR (Ne.symm af) pg) eR
  have ec:Fr [D,N] M0 bC:=Fr.call ea aw (y4 (by simp) y2)
  obtain ⟨bD,ed,h⟩:=ad h
  refine ck (GA (e8 E aX E E E) (GA (dQ a8 aX E) Bo)) (kx (cu E E) (ck (u5 E (u5 E Bo))<|kx (Bx E E ed) (ck (u5 E (u5 E Bo))<|kx (dQ a8 aX E) (ck (u5 E (u5 E Bo))<|kw (dW E E aX E E ⟨E,ble E⟩ E E) fun bi aF=>?_))))
  have e1:=a9 aF X eY
  have e2:bi[G.length]? = some (.live ⟨.box,132,6,[[a4 (IntKind.i64.wrap (I + J)),.int .i8 1,a4 0,a4 aW,a4 bD,a4 0]]⟩):=bc aF aX
  have e3:=a9 aF O eX
  have e4:=a9 aF aa eZ
  have ee:=Fr.setNew ec aF ab
  obtain ⟨⟨bj,e5,e6,e7⟩,eP,h⟩:=ad h
  refine ck (u5 E (u5 E Bo)) (Rn (hA cA (hA eT (hA a8 hZ))) fun ix e9 fb cD=>sN<|av<|kx (bp e9) (Ev.nxw (Ev.callW E E (b3 E (b3 E E)) (cc dk dl cz 60 D bi e3 _ eP)) fun fe b1 ef=>?_))
  obtain ⟨bI,ff,ax⟩:=ef
  have bI:fe = a4 bj:=bI
  subst bI
  have fg:b1[D]? = some (.live ⟨.box,138,3,[[.sl none (e5.map (cI .u8)),a4 e6,.int .u64 e7]]⟩):=ff
  have ax:Fr [D] bi b1:=ax
  have fi:=ax _ _ (oR (Ne.symm ac) pg) e1
  have b4:=ax _ _ (oR (Ne.symm O) pg) e2
  have fj:=ax _ _ (oR (Ne.symm af) pg) e4
  have eg:Fr [D,N] M0 b1:=Fr.call ee ax (y4 (by simp) y2)
  refine kx (cu E E) (kx (dQ cD b4 E)<|kw (dW E E b4 E E ⟨E,ble E⟩ E E) fun fk aG=>?_)
  have cE:=a9 aG X fi
  have cG:fk[G.length]? = some (.live ⟨.box,132,6,[[a4 (IntKind.i64.wrap (I + J)),.int .i8 1,a4 0,a4 aW,a4 bD,a4 (IntKind.i64.wrap (1 + bj))]]⟩):=bc aG b4
  have fm:=a9 aG O fg
  have eO:=a9 aG aa fj
  have eh:=Fr.setNew eg aG ab
  refine Rn (hA fb (hA cD hZ)) fun iy cH fD=>sN (av<|kx (cm fD cG E E (ble E) E)<|kw (dW cH E cE E E ⟨E,ble E⟩ E E) fun fE aH=>?_)
  have fF:fE[M0.length]? = some (.live ⟨.box,132,6,[[a4 (IntKind.i64.wrap (I + J)),.int .i8 1,a4 0,a4 aW,a4 bD,a4 (IntKind.i64.wrap (1 + bj))]]⟩):=bc aH cE
  have iz:=a9 aH (Ne.symm X) cG
  have fG:=a9 aH ac fm
  have fH:=a9 aH bg eO
  have ei:=Fr.setNew eh aH bf
  refine Rn (hA cH hZ) fun le fI=>sN (xx<|sR ?_)
  exact yN h (eC (ag:=true) (sz:=6) ⟨by kernel_rfl,by kernel_rfl,by kernel_rfl⟩ (cm fI fF E E (ble E) E) bK) ⟨E,fG,fH,ei⟩
 obtain ⟨⟨Z,cJ,cK,cL⟩,eV,h⟩:=ad h
 refine cF da bE (xx<|sN<|av<|kx (bp bv)<|kx (bp c7)<|kx (mL E aV E)<|kx (dQ E aV E)<|kx (e8 E aV E E E)<|kx (i2 Tryz.underlying25 E) (Ev.nxw (Ev.callW E E (b3 E (b3 E E)) (cc dY dZ c6 (ae.length:Int) D d0 dc _ eV)) fun fJ b5 ej=>?_))
 obtain ⟨bJ,gh,ay⟩:=ej
 have bJ:fJ = a4 Z:=bJ
 subst bJ
 have gi:b5[D]? = some (.live ⟨.box,138,3,[[.sl none (cJ.map (cI .u8)),a4 cK,.int .u64 cL]]⟩):=gh
 have ay:Fr [D] d0 b5:=ay
 have gj:=ay _ _ (oR (Ne.symm ac) pg) db
 have b7:=ay _ _ (oR (Ne.symm O) pg) a7
 have gk:=ay _ _ (oR (Ne.symm af) pg) aV
 have ek:Fr [D,N] M0 b5:=Fr.call co ay (y4 (by simp) y2)
 refine kx (dQ a6 b7 E) (kw (dW E E b7 E E ⟨E,ble E⟩ E E) fun b8 aI=>?_)
 have gl:=a9 aI X gj
 have b9:b8[G.length]? = some (.live ⟨.box,132,6,[[a4 (IntKind.i64.wrap (I + J)),.int .i8 0,a4 Z,a4 0,a4 0,a4 0]]⟩):=bc aI b7
 have gm:=a9 aI O gi
 have ba:=a9 aI aa gk
 have em:=Fr.setNew ek aI ab
 obtain ⟨U,eo,h⟩:=ad h
 obtain ⟨⟨bb,ap,aq,ar⟩,fa,h⟩:=ad h
 refine Rn (hV (.loc D 1 0 0) bv (hV (.loc N 1 0 0) c7 (hV (.loc M0.length 1 0 0) c8 (hV (a4 (Y.length:Int)) c9 (hV (.loc G.length 1 0 0) a6 hZ))))) fun iA gn cM go gp cN=>sN (sq<|Rd<|kf (bp cM)<|kf (mL E ba E)<|kf (dQ E ba E)<|kf (e8 E ba E E E)<|kf (dQ cN b9 E)<|kf (e8 E b9 E E E)<|kf (kJ E E eo Tally.fl)<|r3<|fZ<|Rn (hA gn (hA cM (hA go (hA gp (hA cN (hN E hZ)))))) fun iB cO gq gr gu gv gw=>sN<|sq<|av<|kx (bp cO) (Ev.nxw (Ev.callW E E (b3 E (b3 E E)) (cc cJ cK cL 5 D b8 gm _ fa)) fun gx ca ex=>?_))
 obtain ⟨bL,gy,az⟩:=ex
 have bL:gx = a4 bb:=bL
 subst bL
 have cP:ca[D]? = some (.live ⟨.box,138,3,[[.sl none (ap.map (cI .u8)),a4 aq,.int .u64 ar]]⟩):=gy
 have az:Fr [D] b8 ca:=az
 have cQ:=az _ _ (oR (Ne.symm ac) pg) gl
 have cR:=az _ _ (oR (Ne.symm O) pg) b9
 have cS:=az _ _ (oR (Ne.symm af) pg) ba
 have cp:Fr [D,N] M0 ca:=Fr.call em az (y4 (by simp) y2)
 obtain ⟨cV,bM,h⟩:=ad h
 refine Rn (hA cO (hA gq (hA gr (hA gu (hA gv (hA gw (hN E hZ))))))) fun iC gA gB fM fN fO fP cX=>sN (bl<|sq ?_)
 refine Ev.cut (Q1:=i5 I Y ae J Z U bb ap aq ar M0.length G.length D N M0 cV) (by
     have h:=bM
     refine av (kx (d8 cX E)<|be<|Rn (hA gA (hA gB (hA fM (hA fN (hA fO (hA fP (hA cX (hN E hZ)))))))) fun iD cY cZ c0 c1 c2 c3 cb cd=>sN ?_)
     rcases aj h with ⟨bk,h⟩ | ⟨bk,h⟩
     ·refine cT cd bk (xx ?_)
      obtain rfl:=si h
      exact kd (show i5 I Y ae J Z U bb ap aq ar M0.length G.length D N M0 _ _ from ⟨E,cY,cZ,c0,c1,c2,c3,cb,cd,cQ,cR,cP,cS,cp⟩)
     refine cF cd bk (Rg<|kx (d8 cb E)<|be<|Rn (hA cY (hA cZ (hA c0 (hA c1 (hA c2 (hA c3 (hA cb (hN E hZ)))))))) fun iE fQ fR fS fT fU fV fW fX=>?_)
     obtain rfl:=si h
     exact kd (show i5 I Y ae J Z U bb ap aq ar M0.length G.length D N M0 _ _ from ⟨E,fQ,fR,fS,fT,fU,fV,fW,fX,cQ,cR,cP,cS,cp⟩)) ?_
 revert h bM
 revert cV
 intro iF bM h
 intro x iG iH ey
 obtain ⟨rfl,cq,fY,ct,f0,ce,cw,f1,cx,cf,ah,cg,ch,bm⟩:=ey
 refine sN ?_
 rcases aj h with ⟨bn,h⟩ | ⟨bn,h⟩
 ·refine cT cx bn (av<|kx (dQ ce ah E)<|kw (dW E E ah E E ⟨E,ble E⟩ E E) fun f2 aJ=>?_)
  have f3:=a9 aJ X cf
  have bO:f2[G.length]? = some (.live ⟨.box,132,6,[[a4 (IntKind.i64.wrap (I + J)),.int .i8 2,a4 Z,a4 0,a4 0,a4 0]]⟩):=bc aJ ah
  have f4:=a9 aJ O cg
  have f5:=a9 aJ aa ch
  have ez:=Fr.setNew bm aJ ab
  refine Rn (hV (.loc D 1 0 0) cq (hV (.loc M0.length 1 0 0) ct (hV (a4 (Y.length:Int)) f0 (hV (.loc G.length 1 0 0) ce (hV (.pt none [a4 U.Debtor,a4 U.Holder,a4 U.Cut,a4 U.Amount,a4 U.Left]) cw hZ))))) fun iI f6 f7 f8 cy f9=>sN (av<|kx (bp f9)<|kx (fd E)<|kx (cW E ⟨ble E,blt E⟩ E)<|kx (cr E E)<|kx (dQ cy bO E)<|kw (dW E E bO E E ⟨E,ble E⟩ E E) fun bP aK=>?_)
  have ga:=a9 aK X f3
  have bQ:bP[G.length]? = some (.live ⟨.box,132,6,[[a4 (IntKind.i64.wrap (I + J)),.int .i8 2,a4 Z,a4 U.Holder,a4 0,a4 0]]⟩):=bc aK bO
  have gc:=a9 aK O f4
  have gd:=a9 aK aa f5
  have eA:=Fr.setNew ez aK ab
  obtain ⟨⟨fK,fL,g9,ha⟩,fh,h⟩:=ad h
  refine Rn (hA f6 (hA f7 (hA f8 (hA cy hZ)))) fun iJ hb hc dp a2=>sN (Oq (KY (dQ a2 bQ E) (KY (e8 E bQ E E E) (FV (cu E E) (FV (bp hb) (FV (bp dp) (FV (lD E E) (FV (bp dp) (OE (Ev.nxw (Ev.callW E E (b3 E (b3 E E)) (cc ap aq ar (IntKind.i64.wrap ((Y.length:Int) - 1)) D bP gc _ fh)) fun hd bR eB=>?_))))))))))
  obtain ⟨bo,he,aA⟩:=eB
  have bo:hd = a4 fK:=bo
  subst bo
  have hf:bR[D]? = some (.live ⟨.box,138,3,[[.sl none (fL.map (cI .u8)),a4 g9,.int .u64 ha]]⟩):=he
  have aA:Fr [D] bP bR:=aA
  have hg:=aA _ _ (oR (Ne.symm ac) pg) ga
  have aY:=aA _ _ (oR (Ne.symm O) pg) bQ
  have hh:=aA _ _ (oR (Ne.symm af) pg) gd
  have eD:Fr [D,N] M0 bR:=Fr.call eA aA (y4 (by simp) y2)
  obtain ⟨dq,eE,h⟩:=ad h
  refine ck (GA (e8 E aY E E E) (GA (dQ a2 aY E) Bo)) (kx (cu E E) (ck (u5 E (u5 E Bo))<|kx (Bx E E eE) (ck (u5 E (u5 E Bo))<|kx (dQ a2 aY E) (ck (u5 E (u5 E Bo))<|kw (dW E E aY E E ⟨E,ble E⟩ E E) fun hi aL=>?_))))
  have dr:=a9 aL X hg
  have ds:hi[G.length]? = some (.live ⟨.box,132,6,[[a4 (IntKind.i64.wrap (I + J)),.int .i8 2,a4 Z,a4 U.Holder,a4 dq,a4 0]]⟩):=bc aL aY
  have hj:=a9 aL O hf
  have hk:=a9 aL aa hh
  have eG:=Fr.setNew eD aL ab
  refine ck (u5 E (u5 E Bo)) (Rn (hA hc (hA a2 hZ)) fun iK dt hl=>bN<|sN<|av<|kx (cm hl ds E E (ble E) E)<|kw (dW dt E dr E E ⟨E,ble E⟩ E E) fun hm aM=>?_)
  have hn:hm[M0.length]? = some (.live ⟨.box,132,6,[[a4 (IntKind.i64.wrap (I + J)),.int .i8 2,a4 Z,a4 U.Holder,a4 dq,a4 0]]⟩):=bc aM dr
  have iL:=a9 aM (Ne.symm X) ds
  have ho:=a9 aM ac hj
  have hp:=a9 aM bg hk
  have eH:=Fr.setNew eG aM bf
  refine Rn (hA dt hZ) fun iM hq=>sN (xx ?_)
  exact yN h (eC (ag:=true) (sz:=6) ⟨by kernel_rfl,by kernel_rfl,by kernel_rfl⟩ (cm hq hn E E (ble E) E) bK) ⟨E,ho,hp,eH⟩
 refine cF cx bn (av<|kx (d8 f1 E)<|be<|Rn (hV (.loc D 1 0 0) cq (hV (.loc N 1 0 0) fY (hV (.loc M0.length 1 0 0) ct (hV (.loc G.length 1 0 0) ce (hV (.pt none [a4 U.Debtor,a4 U.Holder,a4 U.Cut,a4 U.Amount,a4 U.Left]) cw (hN E hZ)))))) fun ic hr hs du a3 dv dw=>sN ?_)
 rcases aj h with ⟨bq,h⟩ | ⟨bq,h⟩
 ·refine cT dw bq (av<|kx (dQ a3 ah E)<|kw (dW E E ah E E ⟨E,ble E⟩ E E) fun ht aN=>?_)
  have hu:=a9 aN X cf
  have bT:ht[G.length]? = some (.live ⟨.box,132,6,[[a4 (IntKind.i64.wrap (I + J)),.int .i8 4,a4 Z,a4 0,a4 0,a4 0]]⟩):=bc aN ah
  have hv:=a9 aN O cg
  have hw:=a9 aN aa ch
  have eI:=Fr.setNew bm aN ab
  refine Rn (hA du (hA a3 (hA dv hZ))) fun ie gJ dx gK=>sN (Rg<|kx (bp gK)<|kx (fd E)<|kx (cW E ⟨ble E,blt E⟩ E)<|kx (cr E E)<|kx (dQ dx bT E)<|kw (dW E E bT E E ⟨E,ble E⟩ E E) fun gL aO=>?_)
  have dy:=a9 aO X hu
  have dA:gL[G.length]? = some (.live ⟨.box,132,6,[[a4 (IntKind.i64.wrap (I + J)),.int .i8 4,a4 Z,a4 U.Holder,a4 0,a4 0]]⟩):=bc aO bT
  have gM:=a9 aO O hv
  have gN:=a9 aO aa hw
  have eK:=Fr.setNew eI aO ab
  refine Rn (hA gJ (hA dx hZ)) fun ig dB gO=>bN (sN<|av<|kx (cm gO dA E E (ble E) E)<|kw (dW dB E dy E E ⟨E,ble E⟩ E E) fun gP aP=>?_)
  have gQ:gP[M0.length]? = some (.live ⟨.box,132,6,[[a4 (IntKind.i64.wrap (I + J)),.int .i8 4,a4 Z,a4 U.Holder,a4 0,a4 0]]⟩):=bc aP dy
  have ih:=a9 aP (Ne.symm X) dA
  have gR:=a9 aP ac gM
  have gS:=a9 aP bg gN
  have eL:=Fr.setNew eK aP bf
  refine Rn (hA dB hZ) fun ii gT=>sN (xx ?_)
  exact yN h (eC (ag:=true) (sz:=6) ⟨by kernel_rfl,by kernel_rfl,by kernel_rfl⟩ (cm gT gQ E E (ble E) E) bK) ⟨E,gR,gS,eL⟩
 refine cF dw bq (av<|kx (dQ a3 ah E)<|kw (dW E E ah E E ⟨E,ble E⟩ E E) fun bU aQ=>?_)
 have gU:=a9 aQ X cf
 have gV:bU[G.length]? = some (.live ⟨.box,132,6,[[a4 (IntKind.i64.wrap (I + J)),.int .i8 3,a4 Z,a4 0,a4 0,a4 0]]⟩):=bc aQ ah
 have gW:=a9 aQ O cg
 have a5:=a9 aQ aa ch
 have eM:=Fr.setNew bm aQ ab
 obtain ⟨gX,eN,h⟩:=ad h
 obtain ⟨dC,ep,h⟩:=ad h
 obtain ⟨dD,er,h⟩:=ad h
 obtain ⟨⟨bV,gY,gZ,g0⟩,fC,h⟩:=ad h
 refine Rn (hA hr (hA hs (hA du (hA a3 (hA dv hZ))))) fun ij g1 g2 g3 dE dF=>sN (Rd<|kf (bp g1)<|kf (bp dF)<|kf (fd E)<|kf (cW E ⟨ble E,blt E⟩ E)<|kf (cr E E)<|kf (bp g2)<|kf (mL E a5 E)<|kf (dQ E a5 E)<|kf (e8 E a5 E E E)<|kf (bp dF)<|kf (fd E)<|kf (cW E ⟨ble E,blt E⟩ E)<|kf (cr E E)<|kf (kJ E E eN (de _))<|kf (cr E E)<|fc (cl (v:=a4 dC) E E (b3 E (b3 E E)) E (tU U.Left gX _ ep) nm)<|fc (cl (v:=a4 dD) E E (b3 E (b3 E E)) E (zr dC 1 _ er) nm)<|fZ (Ev.nxw (Ev.callW E E (b3 E (b3 E E)) (cc ap aq ar dD D bU gW _ fC)) fun g4 bW et=>?_))
 obtain ⟨br,g5,aB⟩:=et
 have br:g4 = a4 bV:=br
 subst br
 have g6:bW[D]? = some (.live ⟨.box,138,3,[[.sl none (gY.map (cI .u8)),a4 gZ,.int .u64 g0]]⟩):=g5
 have aB:Fr [D] bU bW:=aB
 have g7:=aB _ _ (oR (Ne.symm ac) pg) gU
 have bX:=aB _ _ (oR (Ne.symm O) pg) gV
 have g8:=aB _ _ (oR (Ne.symm af) pg) a5
 have eu:Fr [D,N] M0 bW:=Fr.call eM aB (y4 (by simp) y2)
 refine kx (cu E E) (kx (dQ dE bX E)<|kw (dW E E bX E E ⟨E,ble E⟩ E E) fun gC aR=>?_)
 have dG:=a9 aR X g7
 have dm:gC[G.length]? = some (.live ⟨.box,132,6,[[a4 (IntKind.i64.wrap (I + J)),.int .i8 3,a4 Z,a4 0,a4 0,a4 (IntKind.i64.wrap (1 + bV))]]⟩):=bc aR bX
 have gD:=a9 aR O g6
 have gE:=a9 aR aa g8
 have ev:=Fr.setNew eu aR ab
 refine Rn (hA g3 (hA dE hZ)) fun ik dn gF=>bN (sN<|av<|kx (cm gF dm E E (ble E) E)<|kw (dW dn E dG E E ⟨E,ble E⟩ E E) fun gG aS=>?_)
 have gH:gG[M0.length]? = some (.live ⟨.box,132,6,[[a4 (IntKind.i64.wrap (I + J)),.int .i8 3,a4 Z,a4 0,a4 0,a4 (IntKind.i64.wrap (1 + bV))]]⟩):=bc aS dG
 have il:=a9 aS (Ne.symm X) dm
 have gI:=a9 aS ac gD
 have hX:=a9 aS bg gE
 have ew:=Fr.setNew ev aS bf
 refine Rn (hA dn hZ) fun im hY=>sN (xx ?_)
 exact yN h (eC (ag:=true) (sz:=6) ⟨by kernel_rfl,by kernel_rfl,by kernel_rfl⟩ (cm hY gH E E (ble E) E) bK) ⟨E,gI,hX,ew⟩
abbrev gj:=Int×Int×(List Int)×(List Int)×Int×Int
abbrev kZ:=Int×(List Int)×(List Int)×Int×Int
def nM (F:Nat) (G:Nat) (I:Nat) (J:Nat) (D:Nat) (M0:bs) (s:gj) (e:b4) (M:bs):Prop:=a3 e 0 = .loc D 1 0 0/\a3 e 2 = .loc G 1 0 0/\a3 e 4 = .loc J 1 0 0/\a3 e 5 = a4 s.1/\M[G]? = some (.live ⟨.box,27,3,[[a4 0,.nils,.nils]]⟩)/\M[J]? = some (.live ⟨.box,27,3,[[a4 s.2.1,.lsl I s.2.2.1.length 0 s.2.2.1.length,.lsl F ([]:List Tally).length 0 ([]:List Tally).length]]⟩)/\M[I]? = some (.live ⟨.grow,2,1,s.2.2.1.map (cI .i64)⟩)/\M[F]? = some (.live ⟨.grow,80,5,([]:List Tally).map Tally.c⟩)/\M[D]? = some (.live ⟨.box,138,3,[[.sl none (s.2.2.2.1.map (cI .u8)),a4 s.2.2.2.2.1,.int .u64 s.2.2.2.2.2]]⟩)/\Fr [D] M0 M
def tF (F:Nat) (G:Nat) (I:Nat) (J:Nat) (D:Nat) (M0:bs) (g:kZ) (x:Ex) (e:b4) (M:bs):Prop:=x = .ext 0/\a3 e 0 = .loc D 1 0 0/\a3 e 2 = .loc G 1 0 0/\a3 e 4 = .loc J 1 0 0/\M[G]? = some (.live ⟨.box,27,3,[[a4 0,.nils,.nils]]⟩)/\M[J]? = some (.live ⟨.box,27,3,[[a4 g.1,.lsl I g.2.1.length 0 g.2.1.length,.lsl F ([]:List Tally).length 0 ([]:List Tally).length]]⟩)/\M[I]? = some (.live ⟨.grow,2,1,g.2.1.map (cI .i64)⟩)/\M[F]? = some (.live ⟨.grow,80,5,([]:List Tally).map Tally.c⟩)/\M[D]? = some (.live ⟨.box,138,3,[[.sl none (g.2.2.1.map (cI .u8)),a4 g.2.2.2.1,.int .u64 g.2.2.2.2]]⟩)/\Fr [D] M0 M
noncomputable def eK:gj->Option (gj⊕kZ):=fun (J,O,Y,aa,ab,ac)=>
 if (decide (J > 0))=true then
  (b7 aa ab ac 100).bind fun (ae,af,ah,ai)=>
  (qB 8 Y [ae]).bind fun D=>
  some (.inl ((IntKind.i64.wrap (J - 1)),O,D,af,ah,ai))
 else
  some (.inr (O,Y,aa,ab,ac))
theorem tA (I:Nat) (J:Nat) (F:Nat) (G:Nat) (D:Nat) (M0:bs) (aI:J≠G) (aJ:J≠F) (bC:J≠I) (ak:G≠F) (aK:G≠I) (aC:F≠I) (bA:D≠J) (am:D≠G) (an:D≠F) (bb:D≠I) (bI:Nf [D] M0 J) (bd:Nf [D] M0 G) (bf:Nf [D] M0 F) (bD:Nf [D] M0 I) (s:gj) (r:gj⊕kZ) (h:eK s=some r) (e:b4) (M:bs) (bB:nM I J F G D M0 s e M):Ev (fun k=>(Ih (CN k) k (prune [0,2,4,5] e) M).bind fun q=>some q) (bQ (nM I J F G D M0) (tF I J F G D M0) r):=by
 obtain ⟨bg,bh,bE,bi,bj,bk⟩:=s
 unfold eK at h
 obtain ⟨bm,bn,bo,bq,ao,aa,ap,aq,ar,aB⟩:=bB
 generalize Z:prune [0,2,4,5] e=cj
 have br:=bZ Z.symm E bm
 have bt:=bZ Z.symm E bn
 have bu:=bZ Z.symm E bo
 have au:=bZ Z.symm E bq
 refine sq (av<|kx (bp au)<|kx (fB E E)<|Rn (hV (.loc D 1 0 0) br (hV (.loc J 1 0 0) bt (hV (.loc G 1 0 0) bu (hV (a4 bg) au (hN E hZ))))) fun bF ae aw X bv ax=>sN ?_)
 rcases aj h with ⟨ab,h⟩ | ⟨ab,h⟩
 ·obtain ⟨⟨ay,aO,aP,aQ⟩,aN,h⟩:=ad h
  refine cT ax ab (xx<|sN<|sq<|bl (Oq (KY (dQ X aa E) (KY (e8 E aa E E E) (FV (bp ae) (OE (Ev.nxw (Ev.callW E E (b3 E (b3 E E)) (cc bi bj bk 100 D M ar _ aN)) fun aR af aD=>?_)))))))
  obtain ⟨ac,aS,N⟩:=aD
  have ac:aR = a4 ay:=ac
  subst ac
  have aT:af[D]? = some (.live ⟨.box,138,3,[[.sl none (aO.map (cI .u8)),a4 aP,.int .u64 aQ]]⟩):=aS
  have N:Fr [D] M af:=N
  have aU:=N _ _ (oR (Ne.symm bA) pg) ao
  have Y:=N _ _ (oR (Ne.symm am) pg) aa
  have az:=N _ _ (oR (Ne.symm an) pg) ap
  have aV:=N _ _ (oR (Ne.symm bb) pg) aq
  have aE:Fr [D] M0 af:=Fr.call aB N (y4 (by simp) y2)
  obtain ⟨ah,aF,h⟩:=ad h
  refine ck (GA (e8 E Y E E E) (GA (dQ X Y E) Bo)) (kx (kh (b3 E E) E ⟨E,by decide⟩) (ck (GA (e8 E Y E E E) (GA (dQ X Y E) Bo))<|kw (Dp E az E (DO (c:=(cI .i64)) (xs:=[ay]) E) aF (de _) (by decide)) fun aW O=>?_))
  have aX:=a9 O an aT
  have aY:=a9 O aJ aU
  have ai:=a9 O ak Y
  have aA:aW[F]? = some (.live ⟨.grow,2,1,ah.map (cI .i64)⟩):=bc O az
  have aZ:=a9 O (Ne.symm aC) aV
  have aG:=Fr.setNew aE O bf
  refine ck (u5 E (u5 E Bo)) (kx (dQ X ai E) (ck (u5 E (u5 E Bo))<|kw (dW E E ai E E ⟨E,ble E⟩ (g8 (uz aA (by simp)) sG) E) fun a0 U=>?_))
  have a1:=a9 U am aX
  have a2:=a9 U aI aY
  have a3:a0[G]? = some (.live ⟨.box,27,3,[[a4 bh,.lsl F ah.length 0 ah.length,.lsl I ([]:List Tally).length 0 ([]:List Tally).length]]⟩):=bc U ai
  have a5:=a9 U (Ne.symm ak) aA
  have a6:=a9 U (Ne.symm aK) aZ
  have aH:=Fr.setNew aG U bd
  refine ck (u5 E (u5 E Bo)) (Rn (hA ae (hA aw (hA X (hA bv hZ)))) fun bG a7 a8 ba aL=>bN<|sN<|Rg<|kx (bp aL)<|kx (lD E E)<|be<|Rn (hA a7 (hA a8 (hA ba (hN E hZ)))) fun bH aM bw bx bz=>?_)
  exact jd h ⟨aM,bw,bx,bz,a2,(by simpa using a3),a5,a6,a1,aH⟩
 refine cF ax ab (xx<|sE ?_)
 exact md h ⟨E,ae,aw,X,ao,(by simpa using aa),ap,aq,ar,aB⟩
abbrev gm:=Int×Int×(List Int)×(List Tally)×(List Int)×Int×Int
abbrev kD:=Int×(List Int)×(List Tally)×(List Int)×Int×Int
def n0 (F:Nat) (G:Nat) (D:Nat) (M0:bs) (s:gm) (e:b4) (M:bs):Prop:=a3 e 0 = .loc D 1 0 0/\a3 e 2 = .loc F 1 0 0/\a3 e 4 = .loc G 1 0 0/\a3 e 6 = a4 s.1/\M[F]? = some (.live ⟨.box,27,3,[[a4 0,.nils,.nils]]⟩)/\M[G]? = some (.live ⟨.box,27,3,[[a4 s.2.1,.sl none (s.2.2.1.map (cI .i64)),.sl none (s.2.2.2.1.map Tally.c)]]⟩)/\M[D]? = some (.live ⟨.box,138,3,[[.sl none (s.2.2.2.2.1.map (cI .u8)),a4 s.2.2.2.2.2.1,.int .u64 s.2.2.2.2.2.2]]⟩)/\Fr [D] M0 M
def tg (F:Nat) (G:Nat) (D:Nat) (M0:bs) (g:kD) (x:Ex) (e:b4) (M:bs):Prop:=x = .ext 2/\a3 e 0 = .loc D 1 0 0/\a3 e 2 = .loc F 1 0 0/\a3 e 4 = .loc G 1 0 0/\M[F]? = some (.live ⟨.box,27,3,[[a4 0,.nils,.nils]]⟩)/\M[G]? = some (.live ⟨.box,27,3,[[a4 g.1,.sl none (g.2.1.map (cI .i64)),.sl none (g.2.2.1.map Tally.c)]]⟩)/\M[D]? = some (.live ⟨.box,138,3,[[.sl none (g.2.2.2.1.map (cI .u8)),a4 g.2.2.2.2.1,.int .u64 g.2.2.2.2.2]]⟩)/\Fr [D] M0 M
noncomputable def d2:gm->Option (gm⊕kD):=fun (aa,J,O,Y,ab,ac,ae)=>
 if (decide (aa > 0))=true then
  (en ab ac ae J O Y).bind fun (ao,aq,ar,au,aw,ax,af,ah,ai)=>
  (bT (Book.mk J O Y) (Deal.mk ao aq ar au aw ax)).bind fun r=>match r with
  | (.inl ay)=>
   if (ay==0)=true then
    none
   else
    some (.inl ((IntKind.i64.wrap (aa - 1)),J,O,Y,af,ah,ai))
  | (.inr (az,aA,aB))=>
   some (.inl ((IntKind.i64.wrap (aa - 1)),az,aA,aB,af,ah,ai))
 else
  some (.inr (J,O,Y,ab,ac,ae))
theorem tt (G:Nat) (D:Nat) (F:Nat) (M0:bs) (aE:G≠D) (dd:F≠G) (aF:F≠D) (dy:Nf [F] M0 G) (aG:Nf [F] M0 D) (s:gm) (r:gm⊕kD) (h:d2 s=some r) (e:b4) (M:bs) (de:n0 G D F M0 s e M):Ev (fun k=>(GR (CN k) k (prune [0,2,4,6] e) M).bind fun q=>some q) (bQ (n0 G D F M0) (tg G D F M0) r):=by
 obtain ⟨bv,az,af,ah,bw,bx,bz⟩:=s
 unfold d2 at h
 obtain ⟨bA,bB,bC,bD,bd,bf,bg,a5⟩:=de
 generalize aw:prune [0,2,4,6] e=et
 have bE:=bZ aw.symm E bA
 have bF:=bZ aw.symm E bB
 have bG:=bZ aw.symm E bC
 have bh:=bZ aw.symm E bD
 refine sq (av<|kx (bp bh)<|kx (fB E E)<|Rn (hV (.loc F 1 0 0) bE (hV (.loc G 1 0 0) bF (hV (.loc D 1 0 0) bG (hV (a4 bv) bh (hN E hZ))))) fun dA aH bi aI bH bj=>sN ?_)
 rcases aj h with ⟨aB,h⟩ | ⟨aB,h⟩
 ·obtain ⟨⟨ai,ak,am,an,ao,ap,bI,bJ,bK⟩,bW,h⟩:=ad h
  refine cT bj aB (xx<|sN<|sq<|bl<|av<|kx (bp aH) (Ev.nxw (Ev.callW E E (b3 E (b3 aI E)) (mU bw bx bz az af ah F D aF M bg bf _ bW)) fun bL I br=>?_))
  obtain ⟨aC,bM,bO,ax⟩:=br
  have aC:bL = .agg [a4 ai,.int .i8 ak,a4 am,a4 an,a4 ao,a4 ap]:=aC
  subst aC
  have bk:I[F]? = some (.live ⟨.box,138,3,[[.sl none (bI.map (cI .u8)),a4 bJ,.int .u64 bK]]⟩):=bM
  have bm:I[D]? = some (.live ⟨.box,27,3,[[a4 az,.sl none (af.map (cI .i64)),.sl none (ah.map Tally.c)]]⟩):=bO
  have ax:Fr [F,D] M I:=ax
  have bn:=ax _ _ (oR (Ne.symm dd) (oR aE pg)) bd
  have a6:Fr [F] M0 I:=Fr.call a5 ax (y4 (by simp) (OT aG y2))
  refine ku (lG sb) fun cK aa=>?_
  have bt:=Nf.mk a6
  have bu:=Fr.push a6 aa
  have cL:=bS aa bn
  have bo:=b6 bn
  have cM:=bS aa bm
  have bq:=b6 bm
  have cN:=bS aa bk
  have bP:=b6 bk
  have aN:cK[I.length]? = some (.live ⟨.box,132,6,[[a4 0,.int .i8 0,a4 0,a4 0,a4 0,a4 0]]⟩):=b2 aa
  refine kw (dW E E aN E E ⟨E,ble E⟩ E E) fun J ab=>?_
  have aq:=a9 ab bo cL
  have Y:=a9 ab bq cM
  have ar:=a9 ab bP cN
  have Z:J[I.length]? = some (.live ⟨.box,132,6,[[a4 ai,.int .i8 ak,a4 am,a4 an,a4 ao,a4 ap]]⟩):=bc ab aN
  have ay:=Fr.setNew bu ab bt
  obtain ⟨cO,a7,h⟩:=ad h
  refine Rn (hA aH (hA bi (hA aI (hA bH (hV (.loc I.length 1 0 0) E hZ))))) fun dB aO aP au aQ aR=>sN (sq<|Rg ?_)
  rcases cO with dg | ⟨aJ,aK,aL⟩
  ·refine kc (cl (v:=.tup [.agg [a4 0,.nils,.nils],a4 dg]) E E (b3 au (b3 aR E)) (zV (kq Y E E E ⟨E,blt E⟩) (zV (kq Z E E E ⟨E,blt E⟩) ER)) (ka (Book.mk az af ah) (Deal.mk ai ak am an ao ap) _ a7) (fun _=>(dL (hM (rP (hM E (hM E (hM E sL)))) (hM E sL))))) (be<|kx (eO E E)<|kx (eO E E) (ku (lG cy) fun cP N=>?_))
   have bR:=Nf.mk ay
   have bT:=Fr.push ay N
   have cQ:=bS N aq
   have bU:=b6 aq
   have cR:=bS N Y
   have a8:=b6 Y
   have cS:=bS N ar
   have bV:=b6 ar
   have cU:=bS N Z
   have bX:=b6 Z
   have aS:cP[J.length]? = some (.live ⟨.box,27,3,[[a4 0,.nils,.nils]]⟩):=b2 N
   refine kw (dW E E aS E E ⟨E,ble E⟩ E E) fun cV O=>?_
   have aT:=a9 O bU cQ
   have aA:=a9 O a8 cR
   have aU:=a9 O bV cS
   have dC:=a9 O bX cU
   have aV:cV[J.length]? = some (.live ⟨.box,27,3,[[a4 0,.nils,.nils]]⟩):=bc O aS
   have ba:=Fr.setNew bT O bR
   refine be (Rn (hA aO (hA aP (hA au (hA aQ (hV (.loc J.length 1 0 0) E (hN E hZ)))))) fun dD cW cX cY cZ c0 c1=>sN<|av<|kx (bp c1)<|kx (d8 E E)<|Rn (hA cW (hA cX (hA cY (hA cZ (hA c0 (hN E hZ)))))) fun dE aW aX aM aY c2 aZ=>sN ?_)
   rcases aj h with ⟨aD,h⟩ | ⟨aD,h⟩
   ·refine cT aZ aD (Rg<|kx (cm c2 aV E E (ble E) E)<|kw (dW aM E aA E E ⟨E,ble E⟩ E E) fun c3 ac=>?_)
    have df:=a9 ac aE aT
    have dh:c3[D]? = some (.live ⟨.box,27,3,[[a4 0,.nils,.nils]]⟩):=bc ac aA
    have di:=a9 ac aF aU
    have dj:=a9 ac (Ne.symm a8) aV
    have dz:=Fr.setNew ba ac aG
    refine Rn (hA aW (hA aX (hA aM (hA aY hZ)))) fun dk cf cg ch ci=>bN (sN<|Rg<|kx (bp ci)<|kx (lD E E)<|be<|Rn (hA cf (hA cg (hA ch (hN E hZ)))) fun dl dm dn dp dq=>?_)
    cases h
   refine cF aZ aD (xx<|bN<|sN<|Rg<|kx (bp aY)<|kx (lD E E)<|be<|Rn (hA aW (hA aX (hA aM (hN E hZ)))) fun dr cj ck cn co=>?_)
   exact jd h ⟨cj,ck,cn,co,aT,aA,aU,ba⟩
  refine kc (cl (v:=.tup [.agg [a4 aJ,.sl (some 2) (aK.map (cI .i64)),.sl (some 80) (aL.map Tally.c)],a4 0]) E E (b3 au (b3 aR E)) (zV (kq Y E E E ⟨E,blt E⟩) (zV (kq Z E E E ⟨E,blt E⟩) ER)) (ka (Book.mk az af ah) (Deal.mk ai ak am an ao ap) _ a7) (fun _=>(dL (hM (rP (hM E (hM (iB (c:=(cI .i64)) (fun _=>E)) (hM (iB (c:=Tally.c) Tally.flF) sL)))) (hM E sL))))) (be<|kx (eO E E)<|kx (eO E E) (ku (lG cy) fun cp U=>?_))
  have bY:=Nf.mk ay
  have b0:=Fr.push ay U
  have cq:=bS U aq
  have b1:=b6 aq
  have cr:=bS U Y
  have bb:=b6 Y
  have ct:=bS U ar
  have b5:=b6 ar
  have cu:=bS U Z
  have b7:=b6 Z
  have a0:cp[J.length]? = some (.live ⟨.box,27,3,[[a4 0,.nils,.nils]]⟩):=b2 U
  refine kw (dW E E a0 E E ⟨E,ble E⟩ E E) fun cv X=>?_
  have cw:=a9 X b1 cq
  have a1:=a9 X bb cr
  have cx:=a9 X b5 ct
  have ds:=a9 X b7 cu
  have a2:cv[J.length]? = some (.live ⟨.box,27,3,[[a4 aJ,.sl none (aK.map (cI .i64)),.sl none (aL.map Tally.c)]]⟩):=bc X a0
  have b8:=Fr.setNew b0 X bY
  refine be (Rn (hA aO (hA aP (hA au (hA aQ (hV (.loc J.length 1 0 0) E (hV (a4 0) E hZ)))))) fun dt cz cA cB cC cD cE=>sN<|av<|kx (bp cE)<|kx (d8 E E)<|Rn (hA cz (hA cA (hA cB (hA cC (hA cD (hV (.bool true) E hZ)))))) fun du cG cH a3 cJ ca cb=>sN<|cT cb E<|Rg<|kx (cm ca a2 E E (ble E) E)<|kw (dW a3 E a1 E E ⟨E,ble E⟩ E E) fun cc ae=>?_)
  have cd:=a9 ae aE cw
  have ce:cc[D]? = some (.live ⟨.box,27,3,[[a4 aJ,.sl none (aK.map (cI .i64)),.sl none (aL.map Tally.c)]]⟩):=bc ae a1
  have c4:=a9 ae aF cx
  have dv:=a9 ae (Ne.symm bb) a2
  have b9:=Fr.setNew b8 ae aG
  refine Rn (hA cG (hA cH (hA a3 (hA cJ hZ)))) fun dw c5 c6 c7 c8=>bN (sN<|Rg<|kx (bp c8)<|kx (lD E E)<|be<|Rn (hA c5 (hA c6 (hA c7 (hN E hZ)))) fun dx c9 da db dc=>?_)
  exact jd h ⟨c9,da,db,dc,cd,ce,c4,b9⟩
 refine cF bj aB (xx<|sE ?_)
 exact md h ⟨E,aH,bi,aI,bd,bf,bg,a5⟩
abbrev gi:=Int×(List Deal)×Int×(List Int)×(List Tally)×(List Int)×Int×Int
abbrev lc:=(List Deal)×Int×(List Int)×(List Tally)×(List Int)×Int×Int
def n4 (N:Int) (O:List Int) (U:List Tally) (F:Nat) (G:Nat) (I:Nat) (J:Nat) (D:Nat) (M0:bs) (s:gi) (e:b4) (M:bs):Prop:=a3 e 0 = .loc D 1 0 0/\a3 e 2 = .loc F 1 0 0/\a3 e 4 = .loc G 1 0 0/\a3 e 10 = .lsl I s.2.1.length 0 s.2.1.length/\a3 e 11 = .loc J 1 0 0/\a3 e 12 = a4 s.1/\M[F]? = some (.live ⟨.box,27,3,[[a4 0,.nils,.nils]]⟩)/\M[G]? = some (.live ⟨.box,27,3,[[a4 N,.sl none (O.map (cI .i64)),.sl none (U.map Tally.c)]]⟩)/\M[I]? = some (.live ⟨.grow,132,6,s.2.1.map Deal.c⟩)/\M[J]? = some (.live ⟨.box,27,3,[[a4 s.2.2.1,.sl none (s.2.2.2.1.map (cI .i64)),.sl none (s.2.2.2.2.1.map Tally.c)]]⟩)/\M[D]? = some (.live ⟨.box,138,3,[[.sl none (s.2.2.2.2.2.1.map (cI .u8)),a4 s.2.2.2.2.2.2.1,.int .u64 s.2.2.2.2.2.2.2]]⟩)/\Fr [D] M0 M
def te (J:Int) (N:List Int) (O:List Tally) (D:Nat) (F:Nat) (G:Nat) (U:Nat) (I:Nat) (M0:bs) (g:lc) (x:Ex) (e:b4) (M:bs):Prop:=x = .ext 4/\a3 e 2 = .loc D 1 0 0/\a3 e 4 = .loc F 1 0 0/\a3 e 10 = .lsl G g.1.length 0 g.1.length/\M[D]? = some (.live ⟨.box,27,3,[[a4 0,.nils,.nils]]⟩)/\M[F]? = some (.live ⟨.box,27,3,[[a4 J,.sl none (N.map (cI .i64)),.sl none (O.map Tally.c)]]⟩)/\M[G]? = some (.live ⟨.grow,132,6,g.1.map Deal.c⟩)/\M[U]? = some (.live ⟨.box,27,3,[[a4 g.2.1,.sl none (g.2.2.1.map (cI .i64)),.sl none (g.2.2.2.1.map Tally.c)]]⟩)/\M[I]? = some (.live ⟨.box,138,3,[[.sl none (g.2.2.2.2.1.map (cI .u8)),a4 g.2.2.2.2.2.1,.int .u64 g.2.2.2.2.2.2]]⟩)/\Fr [I] M0 M
noncomputable def dX:gi->Option (gi⊕lc):=fun (ab,J,O,Y,aa,aq,ar,au)=>
 if (decide (ab > 0))=true then
  (en aq ar au O Y aa).bind fun (ac,ae,af,ah,ai,ao,aw,ax,ay)=>
  (bT (Book.mk O Y aa) (Deal.mk ac ae af ah ai ao)).bind fun r=>match r with
  | (.inl az)=>
   if (az==0)=true then
    (qB 48 J [(Deal.mk ac ae af ah ai ao)]).bind fun F=>
    none
   else
    some (.inl ((IntKind.i64.wrap (ab - 1)),J,O,Y,aa,aw,ax,ay))
  | (.inr (aA,aB,aC))=>
   (qB 48 J [(Deal.mk ac ae af ah ai ao)]).bind fun D=>
   some (.inl ((IntKind.i64.wrap (ab - 1)),D,aA,aB,aC,aw,ax,ay))
 else
  some (.inr (J,O,Y,aa,aq,ar,au))
theorem tp (aS:Int) (aT:List Int) (aU:List Tally) (I:Nat) (J:Nat) (G:Nat) (F:Nat) (D:Nat) (M0:bs) (e6:I≠J) (a5:I≠G) (aI:I≠F) (a6:J≠G) (aJ:J≠F) (ax:G≠F) (eJ:D≠I) (ck:D≠J) (aK:D≠G) (aL:D≠F) (fA:Nf [D] M0 I) (e7:Nf [D] M0 J) (a7:Nf [D] M0 G) (aM:Nf [D] M0 F) (s:gi) (r:gi⊕lc) (h:dX s=some r) (e:b4) (M:bs) (e3:n4 aS aT aU I J G F D M0 s e M):Ev (fun k=>(Ee (CN k) k (prune [0,2,4,10,11,12] e) M).bind fun q=>some q) (bQ (n4 aS aT aU I J G F D M0) (te aS aT aU I J G F D M0) r):=by
 obtain ⟨cn,bh,aA,aB,aC,co,cp,cq⟩:=s
 unfold dX at h
 obtain ⟨cr,ct,cu,cv,cw,cx,bi,bj,bk,bm,bn,a8⟩:=e3
 generalize au:prune [0,2,4,10,11,12] e=gQ
 have cz:=bZ au.symm E cr
 have cA:=bZ au.symm E ct
 have cB:=bZ au.symm E cu
 have cC:=bZ au.symm E cv
 have cD:=bZ au.symm E cw
 have bo:=bZ au.symm E cx
 refine sq (av<|kx (bp bo)<|kx (fB E E)<|Rn (hV (.loc D 1 0 0) cz (hV (.loc I 1 0 0) cA (hV (.loc J 1 0 0) cB (hV (.lsl G bh.length 0 bh.length) cC (hV (.loc F 1 0 0) cD (hV (a4 cn) bo (hN E hZ))))))) fun e8 bq br bt bu bv cE a2=>sN ?_)
 rcases aj h with ⟨aN,h⟩ | ⟨aN,h⟩
 ·obtain ⟨⟨ai,ak,am,an,ao,ap,cG,cH,b9⟩,cZ,h⟩:=ad h
  refine cT a2 aN (xx<|sN<|sq<|bl<|av<|kx (bp bq) (Ev.nxw (Ev.callW E E (b3 E (b3 bv E)) (mU co cp cq aA aB aC D F aL M bn bm _ cZ)) fun ca af cJ=>?_))
  obtain ⟨aO,cb,cc,aw⟩:=cJ
  have aO:ca = .agg [a4 ai,.int .i8 ak,a4 am,a4 an,a4 ao,a4 ap]:=aO
  subst aO
  have a3:af[D]? = some (.live ⟨.box,138,3,[[.sl none (cG.map (cI .u8)),a4 cH,.int .u64 b9]]⟩):=cb
  have bP:af[F]? = some (.live ⟨.box,27,3,[[a4 aA,.sl none (aB.map (cI .i64)),.sl none (aC.map Tally.c)]]⟩):=cc
  have aw:Fr [D,F] M af:=aw
  have bR:=aw _ _ (oR (Ne.symm eJ) (oR aI pg)) bi
  have bT:=aw _ _ (oR (Ne.symm ck) (oR aJ pg)) bj
  have bU:=aw _ _ (oR (Ne.symm aK) (oR ax pg)) bk
  have ba:Fr [D] M0 af:=Fr.call a8 aw (y4 (by simp) (OT aM y2))
  refine ku (lG sb) fun cd aa=>?_
  have cK:=Nf.mk ba
  have cL:=Fr.push ba aa
  have du:=bS aa bR
  have cM:=b6 bR
  have dv:=bS aa bT
  have cN:=b6 bT
  have dw:=bS aa a3
  have cO:=b6 a3
  have dx:=bS aa bU
  have aP:=b6 bU
  have dy:=bS aa bP
  have aQ:=b6 bP
  have bV:cd[af.length]? = some (.live ⟨.box,132,6,[[a4 0,.int .i8 0,a4 0,a4 0,a4 0,a4 0]]⟩):=b2 aa
  refine kw (dW E E bV E E ⟨E,ble E⟩ E E) fun ah ab=>?_
  have ay:=a9 ab cM du
  have aD:=a9 ab cN dv
  have aE:=a9 ab cO dw
  have aF:=a9 ab aP dx
  have aq:=a9 ab aQ dy
  have ar:ah[af.length]? = some (.live ⟨.box,132,6,[[a4 ai,.int .i8 ak,a4 am,a4 an,a4 ao,a4 ap]]⟩):=bc ab bV
  have az:=Fr.setNew cL ab cK
  obtain ⟨dz,bb,h⟩:=ad h
  refine Rn (hA bq (hA br (hA bt (hA bu (hA bv (hA cE (hV (.loc af.length 1 0 0) E hZ))))))) fun e9 bW bX bY b0 aG b1 aH=>sN (sq<|Rg ?_)
  rcases dz with ei | ⟨aV,aW,aX⟩
  ·refine kc (cl (v:=.tup [.agg [a4 0,.nils,.nils],a4 ei]) E E (b3 aG (b3 aH E)) (zV (kq aq E E E ⟨E,blt E⟩) (zV (kq ar E E E ⟨E,blt E⟩) ER)) (ka (Book.mk aA aB aC) (Deal.mk ai ak am an ao ap) _ bb) (fun _=>(dL (hM (rP (hM E (hM E (hM E sL)))) (hM E sL))))) (be<|kx (eO E E)<|kx (eO E E) (ku (lG cy) fun dA N=>?_))
   have cP:=Nf.mk az
   have cQ:=Fr.push az N
   have dB:=bS N ay
   have cR:=b6 ay
   have dC:=bS N aD
   have cS:=b6 aD
   have dD:=bS N aE
   have cU:=b6 aE
   have dE:=bS N aF
   have cV:=b6 aF
   have dF:=bS N aq
   have bd:=b6 aq
   have dG:=bS N ar
   have cW:=b6 ar
   have b5:dA[ah.length]? = some (.live ⟨.box,27,3,[[a4 0,.nils,.nils]]⟩):=b2 N
   refine kw (dW E E b5 E E ⟨E,ble E⟩ E E) fun dH O=>?_
   have b7:=a9 O cR dB
   have b8:=a9 O cS dC
   have bw:=a9 O cU dD
   have bx:=a9 O cV dE
   have aY:=a9 O bd dF
   have dI:=a9 O cW dG
   have bz:dH[ah.length]? = some (.live ⟨.box,27,3,[[a4 0,.nils,.nils]]⟩):=bc O b5
   have bf:=Fr.setNew cQ O cP
   refine be (Rn (hA bW (hA bX (hA bY (hA b0 (hA aG (hA b1 (hA aH (hV (.loc ah.length 1 0 0) E (hN E hZ))))))))) fun fa dJ c5 c6 c7 c8 c9 da db dc=>sN<|av<|kx (bp dc)<|kx (d8 E E)<|Rn (hA dJ (hA c5 (hA c6 (hA c7 (hA c8 (hA c9 (hA da (hA db (hN E hZ))))))))) fun fb bA bB bC bD aZ bE dd de bF=>sN ?_)
   rcases aj h with ⟨aR,h⟩ | ⟨aR,h⟩
   ·refine cT bF aR (av<|kx (cm de bz E E (ble E) E)<|kw (dW aZ E aY E E ⟨E,ble E⟩ E E) fun df U=>?_)
    have dg:=a9 U aI b7
    have dh:=a9 U aJ b8
    have di:=a9 U aL bw
    have bG:=a9 U ax bx
    have dj:df[F]? = some (.live ⟨.box,27,3,[[a4 0,.nils,.nils]]⟩):=bc U aY
    have bH:=a9 U (Ne.symm aQ) dI
    have fc:=a9 U (Ne.symm bd) bz
    have cX:=Fr.setNew bf U aM
    obtain ⟨a0,cY,h⟩:=ad h
    refine Rn (hA bA (hA bB (hA bC (hA bD (hA aZ (hA bE (hA dd hZ))))))) fun fd dk dl dm dn dp dq dr=>sN (Rg<|kx (bp dn)<|kx (cm dr bH E E (ble E) E)<|kx (kh (b3 E E) E ⟨E,by decide⟩)<|kw (Dp E bG E (DO (c:=Deal.c) (xs:=[(Deal.mk ai ak am an ao ap)]) E) cY Deal.fl (by decide)) fun ds ac=>?_)
    have fe:=a9 ac a5 dg
    have ff:=a9 ac a6 dh
    have e4:=a9 ac aK di
    have fg:ds[G]? = some (.live ⟨.grow,132,6,a0.map Deal.c⟩):=bc ac bG
    have fh:=a9 ac (Ne.symm ax) dj
    have fi:=a9 ac (Ne.symm aP) bH
    have e5:=Fr.setNew cX ac a7
    refine be (Rn (hA dk (hA dl (hA dm (hV (.lsl G a0.length 0 a0.length) E (hA dp (hA dq hZ)))))) fun fj dt ed ee ef eg eh=>bN<|sN<|Rg<|kx (bp eh)<|kx (lD E E)<|be<|Rn (hA dt (hA ed (hA ee (hA ef (hA eg (hN E hZ)))))) fun fk fm fn fo fp fq fr=>?_)
    cases h
   refine cF bF aR (xx<|bN<|sN<|Rg<|kx (bp bE)<|kx (lD E E)<|be<|Rn (hA bA (hA bB (hA bC (hA bD (hA aZ (hN E hZ)))))) fun fs ej ek em en eo ep=>?_)
   exact jd h ⟨ej,ek,em,en,eo,ep,b7,b8,bx,aY,bw,bf⟩
  refine kc (cl (v:=.tup [.agg [a4 aV,.sl (some 2) (aW.map (cI .i64)),.sl (some 80) (aX.map Tally.c)],a4 0]) E E (b3 aG (b3 aH E)) (zV (kq aq E E E ⟨E,blt E⟩) (zV (kq ar E E E ⟨E,blt E⟩) ER)) (ka (Book.mk aA aB aC) (Deal.mk ai ak am an ao ap) _ bb) (fun _=>(dL (hM (rP (hM E (hM (iB (c:=(cI .i64)) (fun _=>E)) (hM (iB (c:=Tally.c) Tally.flF) sL)))) (hM E sL))))) (be<|kx (eO E E)<|kx (eO E E) (ku (lG cy) fun er X=>?_))
  have c0:=Nf.mk az
  have c1:=Fr.push az X
  have et:=bS X ay
  have c2:=b6 ay
  have eu:=bS X aD
  have c3:=b6 aD
  have ev:=bS X aE
  have c4:=b6 aE
  have ew:=bS X aF
  have ce:=b6 aF
  have dK:=bS X aq
  have bg:=b6 aq
  have dM:=bS X ar
  have cf:=b6 ar
  have bI:er[ah.length]? = some (.live ⟨.box,27,3,[[a4 0,.nils,.nils]]⟩):=b2 X
  refine kw (dW E E bI E E ⟨E,ble E⟩ E E) fun dN Y=>?_
  have dO:=a9 Y c2 et
  have dP:=a9 Y c3 eu
  have dQ:=a9 Y c4 ev
  have dR:=a9 Y ce ew
  have bJ:=a9 Y bg dK
  have dS:=a9 Y cf dM
  have bK:dN[ah.length]? = some (.live ⟨.box,27,3,[[a4 aV,.sl none (aW.map (cI .i64)),.sl none (aX.map Tally.c)]]⟩):=bc Y bI
  have cg:=Fr.setNew c1 Y c0
  refine be (Rn (hA bW (hA bX (hA bY (hA b0 (hA aG (hA b1 (hA aH (hV (.loc ah.length 1 0 0) E (hV (a4 0) E hZ))))))))) fun ft dT dU dV dY dZ d0 d1 d2 d3=>sN<|av<|kx (bp d3)<|kx (d8 E E)<|Rn (hA dT (hA dU (hA dV (hA dY (hA dZ (hA d0 (hA d1 (hA d2 (hV (.bool true) E hZ))))))))) fun fu d4 d5 d6 d7 bL d9 ea eb ec=>sN<|cT ec E<|av<|kx (cm eb bK E E (ble E) E)<|kw (dW bL E bJ E E ⟨E,ble E⟩ E E) fun eK Z=>?_)
  have eL:=a9 Z aI dO
  have eM:=a9 Z aJ dP
  have eN:=a9 Z aL dQ
  have bM:=a9 Z ax dR
  have eP:eK[F]? = some (.live ⟨.box,27,3,[[a4 aV,.sl none (aW.map (cI .i64)),.sl none (aX.map Tally.c)]]⟩):=bc Z bJ
  have bO:=a9 Z (Ne.symm aQ) dS
  have fv:=a9 Z (Ne.symm bg) bK
  have ch:=Fr.setNew cg Z aM
  obtain ⟨a1,ci,h⟩:=ad h
  refine Rn (hA d4 (hA d5 (hA d6 (hA d7 (hA bL (hA d9 (hA ea hZ))))))) fun fw eQ eR eS eT eU eV eW=>sN (Rg<|kx (bp eT)<|kx (cm eW bO E E (ble E) E)<|kx (kh (b3 E E) E ⟨E,by decide⟩)<|kw (Dp E bM E (DO (c:=Deal.c) (xs:=[(Deal.mk ai ak am an ao ap)]) E) ci Deal.fl (by decide)) fun eX ae=>?_)
  have gt:=a9 ae a5 eL
  have eY:=a9 ae a6 eM
  have eZ:=a9 ae aK eN
  have e1:eX[G]? = some (.live ⟨.grow,132,6,a1.map Deal.c⟩):=bc ae bM
  have e2:=a9 ae (Ne.symm ax) eP
  have fx:=a9 ae (Ne.symm aP) bO
  have cj:=Fr.setNew ch ae a7
  refine be (Rn (hA eQ (hA eR (hA eS (hV (.lsl G a1.length 0 a1.length) E (hA eU (hA eV hZ)))))) fun fy ex ey ez eA eB eC=>bN<|sN<|Rg<|kx (bp eC)<|kx (lD E E)<|be<|Rn (hA ex (hA ey (hA ez (hA eA (hA eB (hN E hZ)))))) fun fz eD eE eF eG eH eI=>?_)
  exact jd h ⟨eD,eE,eF,eG,eH,eI,gt,eY,e1,e2,eZ,cj⟩
 refine cF a2 aN (xx<|sE ?_)
 exact md h ⟨E,br,bt,bu,bi,bj,bk,bm,bn,a8⟩
noncomputable def j0 (D:List Int) (F:Int) (G:Int):Option (Int×(List Int)×(List Tally)×(List Int)×Int×Int×(List Deal)):=
 (b7 D F G 3).bind fun (aI,aJ,aK,aL)=>
 (Lw (eK) ((IntKind.i64.wrap (2 + aI)),0,([]:List Int),aJ,aK,aL)).bind fun (aa,ab,ac,ae,af)=>
 (b7 ac ae af 4).bind fun (ah,ai,ao,aq)=>
 (Lw (d2) (ah,aa,ab,([]:List Tally),ai,ao,aq)).bind fun (J,O,Y,ar,au,aw)=>
 (hC (Book.mk J O Y)).bind fun (ax,ay,az)=>
 (b7 ar au aw 9).bind fun (aA,aB,aC,aD)=>
 (Lw (dX) (aA,([]:List Deal),ax,ay,az,aB,aC,aD)).bind fun (aE,aM,aN,aO,aF,aG,aH)=>
 some (J,O,Y,aF,aG,aH,aE)
def wD (G:List Int) (I:Int) (J:Int) (D:Nat) (M0:bs) (r:Int×(List Int)×(List Tally)×(List Int)×Int×Int×(List Deal)) (p:AV×bs):Prop:=(∃ F:Nat,p.1 = .tup [.agg [a4 r.1,.sl none (r.2.1.map (cI .i64)),.sl none (r.2.2.1.map Tally.c)],.lsl F r.2.2.2.2.2.2.length 0 r.2.2.2.2.2.2.length]/\p.2[F]? = some (.live ⟨.grow,132,6,r.2.2.2.2.2.2.map Deal.c⟩)/\p.2[D]? = some (.live ⟨.box,138,3,[[.sl none (r.2.2.2.1.map (cI .u8)),a4 r.2.2.2.2.1,.int .u64 r.2.2.2.2.2.1]]⟩)/\Fr [D] M0 p.2/\Nf [D] M0 F/\D≠F)
theorem vF (ao:List Int) (ap:Int) (aq:Int) (I:Nat) (M0:bs) (bT:M0[I]? = some (.live ⟨.box,138,3,[[.sl none (ao.map (cI .u8)),a4 ap,.int .u64 aq]]⟩)) (r:Int×(List Int)×(List Tally)×(List Int)×Int×Int×(List Deal)) (h:j0 ao ap aq=some r):Ev (fun k=>CN k 31 [.loc I 1 0 0] M0) (wD ao ap aq I M0 r):=by
 unfold j0 at h
 have bF:Fr [I] M0 M0:=Fr.refl
 refine Ev.enter (F:=fun k=>f31 (CN k) k) (fun k=>bH E Tryz.func31 E E E (by decide +kernel) (L9 _ _)) (av (ku (lG cy) fun D a0=>?_))
 have aw:=Nf.mk bF
 have ax:=Fr.push bF a0
 have ay:=bS a0 bT
 have X:=b6 bT
 have az:D[M0.length]? = some (.live ⟨.box,27,3,[[a4 0,.nils,.nils]]⟩):=b2 a0
 refine be (Rn (hV (.loc I 1 0 0) E (hV (.loc M0.length 1 0 0) E hZ)) fun et ec ed=>sN<|av<|kx (gg cy E (dz E)) (Ev.nxpushL (KD (lG cy) Lj (OL E (Om (Om OU K9) Og)) (by decide)) fun G ae=>?_))
 have a1:=bS ae ay
 have a2:=bS ae az
 have N:I≠D.length:=by have:=cv (M:=D) ay; omega
 have af:M0.length≠D.length:=by have:=cv (M:=D) az; omega
 have a3:G[D.length]? = some (.live ⟨.box,27,3,[[a4 0,.lsl (D.length + 1) ([]:List Int).length 0 ([]:List Int).length,.lsl (D.length + 2) ([]:List Tally).length 0 ([]:List Tally).length]]⟩):=ji ae 0 E
 have eu:I≠(D.length + 1):=by have:=cv (M:=D) ay; omega
 have ev:M0.length≠(D.length + 1):=by have:=cv (M:=D) az; omega
 have cW:D.length≠(D.length + 1):=by omega
 have aU:G[(D.length + 1)]? = some (.live ⟨.grow,2,1,([]:List Int).map (cI .i64)⟩):=ji ae 1 E
 have ew:I≠(D.length + 2):=by have:=cv (M:=D) ay; omega
 have ex:M0.length≠(D.length + 2):=by have:=cv (M:=D) az; omega
 have cX:D.length≠(D.length + 2):=by omega
 have ey:(D.length + 1)≠(D.length + 2):=by omega
 have aV:G[(D.length + 2)]? = some (.live ⟨.grow,80,5,([]:List Tally).map Tally.c⟩):=ji ae 2 E
 have ah:=Nf.mk ax
 have ez:=Nf.mkAt ax 1
 have eA:=Nf.mkAt ax 2
 have aJ:=Fr.push ax ae
 obtain ⟨bG,J⟩:∃ x,x=G++([⟨.grow,2,1,([]:List Int).map (cI .i64)⟩,⟨.grow,80,5,([]:List Tally).map Tally.c⟩]:List Ob).map Ent.live:=⟨_,E⟩
 have ee:=bS J a1
 have ef:=bS J a2
 have bI:=bS J a3
 have eg:=bS J aU
 have eh:=bS J aV
 have aK:I≠G.length:=by have:=cv (M:=G) a1; omega
 have a7:M0.length≠G.length:=by have:=cv (M:=G) a2; omega
 have aL:D.length≠G.length:=by have:=cv (M:=G) a3; omega
 have eB:(D.length + 1)≠G.length:=by have:=cv (M:=G) aU; omega
 have eD:(D.length + 2)≠G.length:=by have:=cv (M:=G) aV; omega
 have bP:bG[G.length]? = some (.live ⟨.grow,2,1,([]:List Int).map (cI .i64)⟩):=ji J 0 E
 have aM:I≠(G.length + 1):=by have:=cv (M:=G) a1; omega
 have a8:M0.length≠(G.length + 1):=by have:=cv (M:=G) a2; omega
 have aN:D.length≠(G.length + 1):=by have:=cv (M:=G) a3; omega
 have eE:(D.length + 1)≠(G.length + 1):=by have:=cv (M:=G) aU; omega
 have eF:(D.length + 2)≠(G.length + 1):=by have:=cv (M:=G) aV; omega
 have aO:G.length≠(G.length + 1):=by omega
 have bQ:bG[(G.length + 1)]? = some (.live ⟨.grow,80,5,([]:List Tally).map Tally.c⟩):=ji J 1 E
 have ba:=Nf.mk aJ
 have bb:=Nf.mkAt aJ 1
 have cY:=Fr.push aJ J
 refine kw (O2 (kp:=false) J E Lj (OL E (Om (Om OU K9) Og)) (by decide) (dW E E bI E E ⟨E,ble E⟩ (g8 E (g8 (uz bP (by simp)) (g8 (uz bQ (by simp)) sG))) E)) fun aW O=>?_
 have ei:=a9 O N ee
 have ej:=a9 O af ef
 have ek:aW[D.length]? = some (.live ⟨.box,27,3,[[a4 0,.lsl G.length ([]:List Int).length 0 ([]:List Int).length,.lsl (G.length + 1) ([]:List Tally).length 0 ([]:List Tally).length]]⟩):=bc O bI
 have eZ:=a9 O (Ne.symm cW) eg
 have eG:=a9 O (Ne.symm cX) eh
 have em:=a9 O (Ne.symm aL) bP
 have en:=a9 O (Ne.symm aN) bQ
 have cZ:=Fr.setNew cY O ah
 obtain ⟨⟨eo,ep,er,dV⟩,di,h⟩:=ad h
 refine Rn (hA ec (hA ed (hV (.loc D.length 1 0 0) E hZ))) fun eH bR dX dY=>sN (sq<|av<|kx (bp bR) (Ev.nxw (Ev.callW E E (b3 E (b3 E E)) (cc ao ap aq 3 I aW ei _ di)) fun dZ aX c0=>?_))
 obtain ⟨aP,d0,Y⟩:=c0
 have aP:dZ = a4 eo:=aP
 subst aP
 have d1:aX[I]? = some (.live ⟨.box,138,3,[[.sl none (ep.map (cI .u8)),a4 er,.int .u64 dV]]⟩):=d0
 have Y:Fr [I] aW aX:=Y
 have d2:=Y _ _ (oR (Ne.symm X) pg) ej
 have d3:=Y _ _ (oR (Ne.symm N) pg) ek
 have d4:=Y _ _ (oR (Ne.symm aK) pg) em
 have d5:=Y _ _ (oR (Ne.symm aM) pg) en
 have c1:Fr [I] M0 aX:=Fr.call cZ Y (y4 (by simp) y2)
 obtain ⟨⟨aQ,ar,c2,c3,c4⟩,ch,h⟩:=ad h
 refine kx (cu E E) (be<|Rn (hA bR (hA dX (hA dY (hN E hZ)))) fun eI d6 d7 d8 d9=>sN<|bl (Ev.loop (tA (G.length + 1) M0.length G.length D.length I M0 af a7 a8 aL aN aO X N aK aM aw ah ba bb) ch ⟨d6,d7,d8,d9,d2,d3,d4,d5,d1,c1⟩ fun x c5 aR b8=>?_))
 obtain ⟨rfl,bd,c6,bf,c7,bg,c8,bh,c9,b9⟩:=b8
 refine bE (sN<|sq<|sq ?_)
 obtain ⟨aS,bu⟩:∃ x,x=sm c5 [4] aR:=⟨_,E⟩
 refine OZ bu.symm ?_
 obtain ⟨da,Z⟩:∃ x,x=aR.set G.length .dead:=⟨_,E⟩
 obtain ⟨db,ak⟩:∃ x,x=da.set (G.length + 1) .dead:=⟨_,E⟩
 have ca:kY li [a4 aQ,.lsl G.length ar.length 0 ar.length,.lsl (G.length + 1) ([]:List Tally).length 0 ([]:List Tally).length] aR=([a4 aQ,.sl (some 2) (ar.map (cI .i64)),.sl (some 80) (([]:List Tally).map Tally.c)],db):=by
   subst ak
   subst Z
   exact (AN E (AN (t7 c8 E (de _)) (AN (t7 (a9 E (Ne.symm aO) bh) E Tally.fl) Gx)))
 have au:=bu.trans (Ks bf bg ca)
 have cn:=a9 Z a7 c7
 have co:=a9 Z aL bg
 have eJ:=a9 Z (Ne.symm aO) bh
 have cp:=a9 Z aK c9
 have cb:=Fr.setNew b9 Z ba
 have cq:=a9 ak a8 cn
 have cr:=a9 ak aN co
 have ct:=a9 ak aM cp
 have cd:=Fr.setNew cb ak bb
 have cx:=a9 au af cq
 have cz:aS[D.length]? = some (.live ⟨.box,27,3,[[a4 aQ,.sl none (ar.map (cI .i64)),.sl none (([]:List Tally).map Tally.c)]]⟩):=bc au cr
 have cA:=a9 au N ct
 have ce:=Fr.setNew cd au ah
 obtain ⟨⟨cB,cC,cD,cF⟩,cw,h⟩:=ad h
 refine Rg (kx (bp bd) (Ev.nxw (Ev.callW E E (b3 E (b3 E E)) (cc c2 c3 c4 4 I aS cA _ cw)) fun cG aT bU=>?_))
 obtain ⟨aE,cH,am⟩:=bU
 have aE:cG = a4 cB:=aE
 subst aE
 have cK:aT[I]? = some (.live ⟨.box,138,3,[[.sl none (cC.map (cI .u8)),a4 cD,.int .u64 cF]]⟩):=cH
 have am:Fr [I] aS aT:=am
 have cL:=am _ _ (oR (Ne.symm X) pg) cx
 have cM:=am _ _ (oR (Ne.symm N) pg) cz
 have bV:Fr [I] M0 aT:=Fr.call ce am (y4 (by simp) y2)
 obtain ⟨⟨aB,aC,aD,cO,cP,cQ⟩,cE,h⟩:=ad h
 refine be (Rn (hV (.loc I 1 0 0) bd (hV (.loc M0.length 1 0 0) c6 (hV (.loc D.length 1 0 0) bf (hN E hZ)))) fun eK cS cT cU cV=>sN<|bl (Ev.loop (tt M0.length D.length I M0 af X N aw ah) cE ⟨cS,cT,cU,cV,cL,cM,cK,bV⟩ fun x eL ai bW=>?_))
 obtain ⟨rfl,cf,cg,ci,bi,bj,bk,bv⟩:=bW
 refine bE (sN<|av (ku (Ai (xs:=([]:List Deal)) (c:=Deal.c) E E (by decide)) fun aj an=>?_))
 have bw:=Nf.mk bv
 have bx:=Fr.push bv an
 have bm:=bS an bi
 have bz:=b6 bi
 have aA:=bS an bj
 have bX:=b6 bj
 have bn:=bS an bk
 have aF:=b6 bk
 have bo:aj[ai.length]? = some (.live ⟨.grow,132,6,([]:List Deal).map Deal.c⟩):=b2 an
 obtain ⟨⟨bq,br,bt⟩,cJ,h⟩:=ad h
 refine be (Rn (hV (.loc I 1 0 0) cf (hV (.loc M0.length 1 0 0) cg (hV (.loc D.length 1 0 0) ci (hV (.lsl ai.length ([]:List Deal).length 0 ([]:List Deal).length) E hZ)))) fun eM cj ck a5 dE=>sN<|av (kc (cl (v:=.agg [a4 bq,.sl (some 2) (br.map (cI .i64)),.sl (some 80) (bt.map Tally.c)]) E E (b3 a5 E) (zV (kq aA E E E ⟨E,blt E⟩) ER) (j9 (Book.mk aB aC aD) _ cJ) (fun _=>(Bm (hM E (hM (iB (c:=(cI .i64)) (fun _=>E)) (hM (iB (c:=Tally.c) Tally.flF) sL)))))) (ku (lG cy) fun dF aa=>?_)))
 have bA:=Nf.mk bx
 have bY:=Fr.push bx aa
 have dG:=bS aa bm
 have aG:=b6 bm
 have dH:=bS aa aA
 have bC:=b6 aA
 have dI:=bS aa bn
 have aH:=b6 bn
 have dJ:=bS aa bo
 have bD:=b6 bo
 have a6:dF[aj.length]? = some (.live ⟨.box,27,3,[[a4 0,.nils,.nils]]⟩):=b2 aa
 refine kw (dW E E a6 E E ⟨E,ble E⟩ E E) fun aY ab=>?_
 have dK:=a9 ab aG dG
 have dL:=a9 ab bC dH
 have dM:=a9 ab aH dI
 have dN:=a9 ab bD dJ
 have dO:aY[aj.length]? = some (.live ⟨.box,27,3,[[a4 bq,.sl none (br.map (cI .i64)),.sl none (bt.map Tally.c)]]⟩):=bc ab a6
 have bZ:=Fr.setNew bY ab bA
 obtain ⟨⟨dP,dQ,dR,dS⟩,cN,h⟩:=ad h
 refine Rn (hA cj (hA ck (hA a5 (hA dE (hV (.loc aj.length 1 0 0) E hZ))))) fun eN bJ dT dU dc dd=>sN (sq<|av<|kx (bp bJ) (Ev.nxw (Ev.callW E E (b3 E (b3 E E)) (cc cO cP cQ 9 I aY dM _ cN)) fun df aZ b0=>?_))
 obtain ⟨aI,dg,U⟩:=b0
 have aI:df = a4 dP:=aI
 subst aI
 have dh:aZ[I]? = some (.live ⟨.box,138,3,[[.sl none (dQ.map (cI .u8)),a4 dR,.int .u64 dS]]⟩):=dg
 have U:Fr [I] aY aZ:=U
 have dj:=U _ _ (oR (Ne.symm X) pg) dK
 have dk:=U _ _ (oR (Ne.symm N) pg) dL
 have dl:=U _ _ (oR (Ne.symm aF) pg) dN
 have dm:=U _ _ (oR (Ne.symm aH) pg) dO
 have b1:Fr [I] M0 aZ:=Fr.call bZ U (y4 (by simp) y2)
 obtain ⟨⟨bL,eO,eP,eQ,eR,eS,eT⟩,cR,h⟩:=ad h
 refine be (Rn (hA bJ (hA dT (hA dU (hA dc (hA dd (hN E hZ)))))) fun eU dn dp dq dr ds dt=>sN<|bl (Ev.loop (tp aB aC aD M0.length D.length ai.length aj.length I M0 af bz aG bX bC bD X N aF aH aw ah bw bA) cR ⟨dn,dp,dq,dr,ds,dt,dj,dk,dl,dm,dh,b1⟩ fun x eV gt b4=>?_))
 obtain ⟨rfl,bM,du,dv,bN,bO,dw,dx,dy,b5⟩:=b4
 refine bE (sN<|av<|kx (cm du bO E E (ble E) E)<|kx (bp dv)<|kw (dW bM E bN E E ⟨E,ble E⟩ E E) fun dA ac=>?_)
 have dB:dA[M0.length]? = some (.live ⟨.box,27,3,[[a4 aB,.sl none (aC.map (cI .i64)),.sl none (aD.map Tally.c)]]⟩):=bc ac bN
 have eW:=a9 ac (Ne.symm af) bO
 have dC:=a9 ac (Ne.symm bz) dw
 have eX:=a9 ac (Ne.symm aG) dx
 have dD:=a9 ac X dy
 have b7:=Fr.setNew b5 ac aw
 refine be (Rn (hV (.loc M0.length 1 0 0) bM (hV (.lsl ai.length bL.length 0 bL.length) E hZ)) fun eY ea eb=>sN<|xx ?_)
 exact yN h (eC (ag:=true) (sz:=3) ⟨by kernel_rfl,by kernel_rfl,by kernel_rfl⟩ (cm ea dB E E (ble E) E) (bB eb bK)) ⟨ai.length,E,dC,dD,b7,bw,aF⟩
noncomputable def oz (F:List Int):Option (Int×(List Int)×(List Tally)×(List Deal)):=
 (lh F).bind fun D=>
 (j0 D.Code D.At D.Seed).bind fun (O,Y,aa,ac,ae,af,ab)=>
 some (O,Y,aa,ab)
def yS (r:Int×(List Int)×(List Tally)×(List Deal)):AV:=.tup [.agg [a4 r.1,.sl none (r.2.1.map (cI .i64)),.sl none (r.2.2.1.map Tally.c)],.sl (some 132) (r.2.2.2.map Deal.c)]
theorem zh (O:List Int) (r:Int×(List Int)×(List Tally)×(List Deal)) (h:oz O=some r):Ev (fun k=>CN k 6 [.sl none (O.map (cI .u8))] []) (fun p=>cp p.2 p.1=yS r):=by
 unfold oz at h
 refine Ev.enter (F:=fun k=>f6 (CN k) k) (fun k=>bH E Tryz.func6 E E E (by decide +kernel) (NY _ _)) (av (ku (lG cy) fun D aq=>?_))
 have am:D[([]:bs).length]? = some (.live ⟨.box,27,3,[[a4 0,.nils,.nils]]⟩):=b2 aq
 obtain ⟨Z,ar,h⟩:=ad h
 refine be (Rn (hN E (hV (.loc ([]:bs).length 1 0 0) E hZ)) fun aP aL ak=>sN<|av<|kx (bp aL) (Ev.nxw (Ev.callW E E (b3 E E) (oW O D _ ar)) fun au aa aK=>?_))
 obtain ⟨I,aw,J⟩:=aK
 have I:au = .loc D.length 1 0 0:=I
 subst I
 have N:=b6 am
 have J:Fr [] D aa:=J
 have ac:=J _ _ pg am
 obtain ⟨⟨ae,af,ah,ax,ay,aA,G⟩,az,h⟩:=ad h
 refine Ev.nxw (Ev.callW E E (b3 E E) (vF Z.Code Z.At Z.Seed D.length aa aw _ az)) fun aB ai an=>?_
 obtain ⟨ab,U,aC,aD,X,ao,aM⟩:=an
 have U:aB = .tup [.agg [a4 ae,.sl none (af.map (cI .i64)),.sl none (ah.map Tally.c)],.lsl ab G.length 0 G.length]:=U
 subst U
 have aE:ai[D.length]? = some (.live ⟨.box,138,3,[[.sl none (ax.map (cI .u8)),a4 ay,.int .u64 aA]]⟩):=aD
 have ap:=ao _ _ (oR N pg) ac
 have X:Fr [D.length] aa ai:=X
 have aj:=X _ _ (oR N pg) ac
 refine kx (eO E E) (kx (eO E E)<|kw (dW ak E aj E E ⟨E,ble E⟩ E E) fun aF Y=>?_)
 have aG:aF[([]:bs).length]? = some (.live ⟨.box,27,3,[[a4 ae,.sl none (af.map (cI .i64)),.sl none (ah.map Tally.c)]]⟩):=bc Y aj
 have aN:=a9 Y (Ne.symm N) aE
 have aH:=a9 Y (Ne.symm ap) aC
 refine be (Rn (hA ak (hV (.lsl ab G.length 0 G.length) E hZ)) fun aO aI aJ=>sN<|xx ?_)
 exact ct h (eC (ag:=true) (sz:=3) ⟨by kernel_rfl,by kernel_rfl,by kernel_rfl⟩ (cm aI aG E E (ble E) E) (bB aJ bK)) (jP (hD E (hD (eh aH E Deal.fl) ru)))
noncomputable def kU (D:List Int) (F:List Int):Option Bool:=
 if (decide ((D.length:Int) > 3000))=true then
  some true
 else
  some (decide ((F.length:Int) > 3000))
def yW (r:Bool):AV:=.bool r
theorem zk (G:List Int) (I:List Int) (r:Bool) (h:kU G I=some r):Ev (fun k=>CN k 5 [.sl none (G.map (cI .u8)),.sl none (I.map (cI .u8))] []) (fun p=>cp p.2 p.1=yW r):=by
 unfold kU at h
 refine Ev.enter (F:=fun k=>f5 (CN k) k) (fun k=>bH E Tryz.func5 E E E (by decide +kernel) (N1 _ _)) (av<|be<|Rn (hN E (hN E hZ)) fun X N O=>sN<|av<|kx (bp N)<|kx (i2 Tryz.underlying22 E)<|kx (fB E E)<|kx (bp E) ?_)
 rcases aj h with ⟨D,h⟩ | ⟨D,h⟩
 ·refine kx (gsF E D) (kx (gsF E D)<|kx (gsF E D)<|kx (cC E D E)<|be<|Rn (hV (.bool true) E hZ) fun Y U=>sN<|xx ?_)
  exact ct h (bB U bK) E
 refine kx (guF E D (bp O)) (kx (guF E D (i2 Tryz.underlying22 E))<|kx (guF E D (fB E E))<|kx (cU E D E)<|be<|Rn (hN E hZ) fun Z J=>sN<|xx ?_)
 exact ct h (bB J bK) E
def iA (I:List Int) (J:List Int) (F:Int) (G:List Int) (N:List Tally) (O:Nat) (D:Nat) (U:Nat) (g:Bool) (q:oZ):Prop:=q.1 = .nrm/\a3 q.2.1 0 = .sl none (I.map (cI .u8))/\a3 q.2.1 1 = .sl none (J.map (cI .u8))/\a3 q.2.1 9 = .loc D 1 0 0/\a3 q.2.1 97 = .bool g/\q.2.2[D]? = some (.live ⟨.box,27,3,[[a4 F,.sl none (G.map (cI .i64)),.sl none (N.map Tally.c)]]⟩)
def gM (I:List Int) (J:List Int) (N:Int) (F:List Int) (O:List Tally) (G:List Debt) (D:Nat) (g:Bool) (q:oZ):Prop:=q.1 = .nrm/\a3 q.2.1 0 = .sl none (I.map (cI .u8))/\a3 q.2.1 1 = .sl none (J.map (cI .u8))/\a3 q.2.1 9 = .loc D 1 0 0/\a3 q.2.1 13 = a4 (F.length:Int)/\a3 q.2.1 21 = .sl none (G.map Debt.c)/\a3 q.2.1 152 = .bool g/\q.2.2[D]? = some (.live ⟨.box,27,3,[[a4 N,.sl none (F.map (cI .i64)),.sl none (O.map Tally.c)]]⟩)
def oX (I:List Int) (J:List Int) (N:Int) (F:List Int) (O:List Tally) (G:List Int) (D:Nat) (g:Bool) (q:oZ):Prop:=q.1 = .nrm/\a3 q.2.1 0 = .sl none (I.map (cI .u8))/\a3 q.2.1 1 = .sl none (J.map (cI .u8))/\a3 q.2.1 9 = .loc D 1 0 0/\a3 q.2.1 13 = a4 (F.length:Int)/\a3 q.2.1 24 = .sl none (G.map (cI .i64))/\a3 q.2.1 166 = .bool g/\q.2.2[D]? = some (.live ⟨.box,27,3,[[a4 N,.sl none (F.map (cI .i64)),.sl none (O.map Tally.c)]]⟩)
abbrev jY:=Int
abbrev o0:=Unit⊕Unit
def rW (I:List Int) (J:List Int) (N:Int) (F:List Int) (O:List Tally) (G:List Int) (D:Nat) (s:jY) (e:b4) (M:bs):Prop:=a3 e 0 = .sl none (I.map (cI .u8))/\a3 e 1 = .sl none (J.map (cI .u8))/\a3 e 9 = .loc D 1 0 0/\a3 e 13 = a4 (F.length:Int)/\a3 e 24 = .sl none (G.map (cI .i64))/\a3 e 26 = a4 s/\M[D]? = some (.live ⟨.box,27,3,[[a4 N,.sl none (F.map (cI .i64)),.sl none (O.map Tally.c)]]⟩)
def xl (I:List Int) (J:List Int) (F:Int) (G:List Int) (N:List Tally) (O:List Int) (D:Nat) (r:o0) (x:Ex) (e:b4) (M:bs):Prop:=
  match r with
  | (.inl g)=>x = .ret/\a3 e 4 = .bool false
  | (.inr g)=>x = .ext 0/\a3 e 0 = .sl none (I.map (cI .u8))/\a3 e 1 = .sl none (J.map (cI .u8))/\M[D]? = some (.live ⟨.box,27,3,[[a4 F,.sl none (G.map (cI .i64)),.sl none (N.map Tally.c)]]⟩)
noncomputable def i9 (N:Int) (F:List Int) (O:List Tally) (G:List Int):jY->Option (jY⊕o0):=fun D=>
 if (decide (D < (F.length:Int)))=true then
  (hU (Book.mk N F O) D).bind fun (aa,ab)=>
  if (ab != 0)=true then
   some (.inr (.inl ()))
  else
   (rd F D).bind fun I=>
   (rd G D).bind fun J=>
   if (aa != (IntKind.i64.wrap (I + J)))=true then
    some (.inr (.inl ()))
   else
    some (.inl (IntKind.i64.wrap (D + 1)))
 else
  some (.inr (.inr ()))
theorem rx (U:List Int) (X:List Int) (N:Int) (G:List Int) (O:List Tally) (I:List Int) (Y:Nat) (s:jY) (r:jY⊕o0) (h:i9 N G O I s=some r) (e:b4) (M:bs) (af:rW U X N G O I Y s e M):Ev (fun k=>(GK (CN k) k (prune [0,1,9,13,24,26] e) M).bind fun q=>some q) (bQ (rW U X N G O I Y) (xl U X N G O I Y) r):=by
 revert h af
 revert s
 intro aq h af
 unfold i9 at h
 obtain ⟨aB,aC,aD,aE,aF,aG,J⟩:=af
 generalize F:prune [0,1,9,13,24,26] e=bC
 have aI:=bZ F.symm E aB
 have aJ:=bZ F.symm E aC
 have aK:=bZ F.symm E aD
 have ar:=bZ F.symm E aE
 have aL:=bZ F.symm E aF
 have au:=bZ F.symm E aG
 refine sq (av<|kx (bp au)<|kx (bp ar)<|kx (dp E E)<|Rn (hV (.sl none (U.map (cI .u8))) aI (hV (.sl none (X.map (cI .u8))) aJ (hV (.loc Y 1 0 0) aK (hV (a4 (G.length:Int)) ar (hV (.sl none (I.map (cI .i64))) aL (hV (a4 aq) au (hN E hZ))))))) fun a7 aw ax ah aM aN ai ak=>sN ?_)
 rcases aj h with ⟨aa,h⟩ | ⟨aa,h⟩
 ·obtain ⟨⟨ay,aQ⟩,aH,h⟩:=ad h
  refine cT ak aa (xx<|sN<|sq<|bl<|av<|kx (cm ah J E E (ble E) E)<|kx (bp ai) (kc (cl (v:=.tup [a4 ay,a4 aQ]) E E (b3 E (b3 E E)) E (td (Book.mk N G O) aq _ aH) nm)<|be<|kx (eO E E)<|kx (eO E E)<|be<|be<|Rn (hA aw (hA ax (hA ah (hA aM (hA aN (hA ai (hN E (hN E hZ)))))))) fun a8 am an ac ao ae Z aR aS=>sN<|sq<|Rd<|kf (bp aS)<|kf (gD E E)<|kf (bp E) ?_))
  rcases aj h with ⟨D,h⟩ | ⟨D,h⟩
  ·refine kf (gsF E D) (kf (gsF E D)<|kf (gsF E D)<|kf (gsF E D)<|kf (gsF E D)<|kf (gsF E D)<|kf (gsF E D)<|kf (gsF E D)<|kf (gsF E D)<|kf (gsF E D)<|kf (gsF E D)<|kf (gsF E D)<|kf (cC E D E)<|fZ<|Rn (hA am (hA an (hA ac (hA ao (hA ae (hA Z (hV (.bool true) E hZ))))))) fun a9 ba bb bc bd bf bg aT=>sN<|cT aT E<|av<|be<|Rn (hV (.bool false) E hZ) fun bh aU=>sN<|xx<|bR<|sR ?_)
   exact lr h ⟨E,aU⟩
  obtain ⟨bi,az,h⟩:=ad h
  obtain ⟨bj,aA,h⟩:=ad h
  refine kf (guF E D (bp aR)) (kf (guF E D (dQ ac J E))<|kf (guF E D (e8 E J E E E))<|kf (guF E D (bp Z))<|kf (guF E D (kJ E E az (de _)))<|kf (guF E D (cr E E))<|kf (guF E D (bp ae))<|kf (guF E D (bp Z))<|kf (guF E D (kJ E E aA (de _)))<|kf (guF E D (cr E E))<|kf (guF E D (cu E E))<|kf (guF E D (gD E E))<|kf (cU E D E)<|fZ<|Rn (hA am (hA an (hA ac (hA ao (hA ae (hA Z (hN E hZ))))))) fun bk aV aW aX aY aZ a0 ap=>sN ?_)
  rcases aj h with ⟨ab,h⟩ | ⟨ab,h⟩
  ·refine cT ap ab (av<|be<|Rn (hV (.bool false) E hZ) fun bm a1=>sN<|xx<|bR<|sR ?_)
   exact lr h ⟨E,a1⟩
  refine cF ap ab (xx<|bN<|sN<|Rg<|kx (bp a0)<|kx (cu E E)<|be<|Rn (hA aV (hA aW (hA aX (hA aY (hA aZ (hN E hZ)))))) fun bn a2 a3 a5 a6 aO aP=>?_)
  exact jd h ⟨a2,a3,a5,a6,aO,aP,J⟩
 refine cF ak aa (xx<|sE ?_)
 exact md h ⟨E,aw,ax,J⟩
noncomputable def sI (F:List Int) (G:List Int):Option Bool:=
 (kU F G).bind fun ak=>
 if ak=true then
  some true
 else
  (oz F).bind fun (af,ah,ai,ao)=>
  (m4 (Book.mk af ah ai) ao).bind fun (bf,bg,bi,aC)=>
  (mT (Book.mk af ah ai) ao).bind fun (Y,J,ac,bj)=>
  (mX (Book.mk af ah ai) ao Y).bind fun (bm,bn,bo,bq)=>
  (if (aC != bj)=true then
   some true
  else
   if (aC != 0)=true then
    some true
   else
    (kg (Book.mk bf bg bi) (Book.mk Y J ac)).bind fun I=>
    if I=true then
     if (bq != 0)=true then
      some true
     else
      (kg (Book.mk bm bn bo) (Book.mk Y J ac)).bind fun N=>
      some (!N)
    else
     some true).bind fun O=>
  if O=true then
   some false
  else
   (nE (Book.mk Y J ac)).bind fun (aG,aq)=>
   (mR (Book.mk Y J ac)).bind fun (ae,aH)=>
   (iW (J.length:Int) ae).bind fun (aI,bu,ar)=>
   (iJ (J.length:Int) ae).bind fun (au,bv,aJ)=>
   (if (aq != aH)=true then
    some true
   else
    if (aq != 0)=true then
     some true
    else
     (jA aG ae).bind fun U=>
     if U=true then
      if (ar != aJ)=true then
       some true
      else
       if (ar != 0)=true then
        some true
       else
        (jA aI au).bind fun X=>
        some (!X)
     else
      some true).bind fun Z=>
   if Z=true then
    some false
   else
    (mB (J.length:Int) au).bind fun (aw,aN)=>
    (if (aN != 0)=true then
     some true
    else
     some ((aw.length:Int) != (J.length:Int))).bind fun ad=>
    if ad=true then
     some false
    else
     (Lw (i9 Y J ac aw) 0).bind fun r=>match r with
     | (.inl _)=>
      some false
     | (.inr _)=>
      (lS G).bind fun D=>
      (mS F).bind fun aj=>
      (lV D aj).bind fun (ax,ay,az,aa,ab,aA)=>
      if (aA != 0)=true then
       some (aA==3)
      else
       (rJ (Half.mk ax ay az) (Half.mk false aa ab) 0).bind fun (aR,aS)=>
       (lZ (Half.mk false aa ab)).bind fun (aT,aU)=>
       (lY D).bind fun (aB,aV)=>
       (ik aB).bind fun (aZ,a8)=>
       (ro (Half.mk ax ay az) (Half.mk false aa ab) 0).bind fun (ba,bw)=>
       (lI (Half.mk false aa ab)).bind fun (bb,bx)=>
       (ic aB).bind fun (bd,bz)=>
       if ba=true then
        if (bb != D)=true then
         some false
        else
         if (bd != D)=true then
          some false
         else
          if (aS==0)=true then
           if aR=true then
            if (aU==0)=true then
             if (aT==D)=true then
              if (aV==0)=true then
               if (a8==0)=true then
                some (aZ==D)
               else
                some false
              else
               some false
             else
              some false
            else
             some false
           else
            some false
          else
           some false
       else
        some false
def zC (r:Bool):AV:=.bool r
theorem Ap (G:List Int) (N:List Int) (r:Bool) (h:sI G N=some r):Ev (fun k=>CN k 3 [.sl none (G.map (cI .u8)),.sl none (N.map (cI .u8))] []) (fun p=>cp p.2 p.1=zC r):=by
 unfold sI at h
 obtain ⟨im,hD,h⟩:=ad h
 refine Ev.enter (F:=fun k=>f3 (CN k) k) (fun k=>bH E Tryz.func3 E E E (by decide +kernel) (Oh _ _)) (av<|be<|Rn (hN E (hN E hZ)) fun io c8 c9=>sN<|sq<|av<|kx (bp c8)<|kx (bp c9) (kc (cl (v:=.bool im) E E (b3 E (b3 E E)) E (zk G N _ hD) nm)<|Rn (hA c8 (hA c9 (hN E hZ))) fun ip da hE cZ=>sN ?_))
 rcases aj h with ⟨a5,h⟩ | ⟨a5,h⟩
 ·refine cT cZ a5 (av<|be<|Rn (hV (.bool true) E hZ) fun jK hF=>sN<|xx<|sR ?_)
  exact ct h (bB hF bK) E
 obtain ⟨⟨aN,aO,aP,aU⟩,eD,h⟩:=ad h
 refine cF cZ a5 (xx<|sN<|av<|kx (bp da) (kc (cl (v:=.tup [.agg [a4 aN,.sl none (aO.map (cI .i64)),.sl none (aP.map Tally.c)],.sl (some 132) (aU.map Deal.c)]) E E (b3 E E) E (zh G _ eD) nm)<|be<|kx (eO E E)<|kx (eO E E) (ku (lG cy) fun hG dl=>?_)))
 have c0:hG[([]:bs).length]? = some (.live ⟨.box,27,3,[[a4 0,.nils,.nils]]⟩):=b2 dl
 refine kw (dW E E c0 E E ⟨E,ble E⟩ E E) fun ac dm=>?_
 have bD:ac[([]:bs).length]? = some (.live ⟨.box,27,3,[[a4 aN,.sl none (aO.map (cI .i64)),.sl none (aP.map Tally.c)]]⟩):=bc dm c0
 obtain ⟨⟨bF,bG,bI,hH⟩,eG,h⟩:=ad h
 refine be (Rn (hA da (hA hE (hV (.loc ([]:bs).length 1 0 0) E (hN E hZ)))) fun jL hI hk c1 c2=>sN<|av<|kx (cm c1 bD E E (ble E) E)<|kx (bp c2) (kc (Oo (v:=.tup [.agg [a4 bF,.sl none (bG.map (cI .i64)),.sl none (bI.map Tally.c)],a4 hH]) E E (b3 E (b3 E E)) E (yY (Book.mk aN aO aP) aU _ eG) E)<|be<|kx (eO E E)<|kx (eO E E) (ku (lG cy) fun h3 cc=>?_)))
 have h4:=bS cc bD
 have dn:=b6 bD
 have c3:h3[ac.length]? = some (.live ⟨.box,27,3,[[a4 0,.nils,.nils]]⟩):=b2 cc
 refine kw (dW E E c3 E E ⟨E,ble E⟩ E E) fun I cd=>?_
 have bJ:=a9 cd dn h4
 have c4:I[ac.length]? = some (.live ⟨.box,27,3,[[a4 bF,.sl none (bG.map (cI .i64)),.sl none (bI.map Tally.c)]]⟩):=bc cd c3
 obtain ⟨⟨J,D,O,h5⟩,eI,h⟩:=ad h
 refine be (Rn (hA hI (hA hk (hA c1 (hA c2 (hV (.loc ac.length 1 0 0) E (hN E hZ)))))) fun jM h6 le c5 c6 h7 h8=>sN<|av<|kx (cm c5 bJ E E (ble E) E)<|kx (bp c6) (kc (Oo (v:=.tup [.agg [a4 J,.sl none (D.map (cI .i64)),.sl none (O.map Tally.c)],a4 h5]) E E (b3 E (b3 E E)) E (yM (Book.mk aN aO aP) aU _ eI) E)<|be<|kx (eO E E)<|kx (eO E E) (ku (lG cy) fun h9 a6=>?_)))
 have ia:=bS a6 bJ
 have dp:=b6 bJ
 have ib:=bS a6 c4
 have dq:=b6 c4
 have c7:h9[I.length]? = some (.live ⟨.box,27,3,[[a4 0,.nils,.nils]]⟩):=b2 a6
 refine kw (dW E E c7 E E ⟨E,ble E⟩ E E) fun ae a7=>?_
 have bL:=a9 a7 dp ia
 have cW:=a9 a7 dq ib
 have aV:ae[I.length]? = some (.live ⟨.box,27,3,[[a4 J,.sl none (D.map (cI .i64)),.sl none (O.map Tally.c)]]⟩):=bc a7 c7
 obtain ⟨⟨bz,bA,bC,ic⟩,eL,h⟩:=ad h
 refine be (Rn (hA h6 (hA le (hA c5 (hA c6 (hA h7 (hA h8 (hV (.loc I.length 1 0 0) E (hN E hZ)))))))) fun jN ie ig ih ii ij ik cX il=>sN<|av<|kx (cm ih bL E E (ble E) E)<|kx (bp ii)<|kx (dQ cX aV E)<|kx (e8 E aV E E E) (kc (Oo (v:=.tup [.agg [a4 bz,.sl none (bA.map (cI .i64)),.sl none (bC.map Tally.c)],a4 ic]) E E (b3 E (b3 E (b3 E E))) E (yU (Book.mk aN aO aP) aU J _ eL) E)<|be<|kx (eO E E)<|kx (eO E E) (ku (lG cy) fun hY aW=>?_)))
 have h0:=bS aW bL
 have dr:=b6 bL
 have h1:=bS aW cW
 have ds:=b6 cW
 have h2:=bS aW aV
 have dt:=b6 aV
 have cY:hY[ae.length]? = some (.live ⟨.box,27,3,[[a4 0,.nils,.nils]]⟩):=b2 aW
 refine kw (dW E E cY E E ⟨E,ble E⟩ E E) fun du aT=>?_
 have iw:=a9 aT dr h0
 have dv:=a9 aT ds h1
 have aA:=a9 aT dt h2
 have dw:du[ae.length]? = some (.live ⟨.box,27,3,[[a4 bz,.sl none (bA.map (cI .i64)),.sl none (bC.map Tally.c)]]⟩):=bc aT cY
 obtain ⟨bM,bo,h⟩:=ad h
 refine be (Rn (hA ie (hA ig (hA ij (hA ik (hA cX (hA il (hV (.loc ae.length 1 0 0) E (hN E hZ)))))))) fun ix aQ aR dx bN aB dy dz dA=>sN<|sq<|sq ?_)
 refine Ev.cut (Q1:=iA G N J D O ac.length I.length ae.length bM) (by
     have h:=bo
     refine Rg (kx (bp bN)<|kx (bp dy)<|kx (gD E E)<|kx (bp E) ?_)
     rcases aj h with ⟨aq,h⟩ | ⟨aq,h⟩
     ·refine kx (gsF E aq) (kx (gsF E aq)<|kx (cC E aq E)<|be<|kx (gsF E E)<|kx (gsF E E) (kc (Ev.gsF E E)<|kx (gsF E E)<|kx (cC E E E)<|be<|kx (gsF E E)<|kx (gsF E E)<|kx (cC E E E)<|be<|kx (gsF E E)<|kx (gsF E E) (kc (Ev.gsF E E)<|kx (gsF E E)<|kx (cC E E E)<|Rn (hA aQ (hA aR (hA aB (hV (.bool true) E hZ)))) fun iy dB dC ek em=>?_)))
      obtain rfl:=si h
      exact kd (show iA G N J D O ac.length I.length ae.length _ _ from ⟨E,dB,dC,ek,em,aA⟩)
     refine kx (guF E aq (bp bN)) (kx (guF E aq (gD E E))<|kx (cU E aq E)<|kx (bp E) ?_)
     rcases aj h with ⟨U,h⟩ | ⟨U,h⟩
     ·refine kx (gsF E U) (kx (gsF E U) (kc (Ev.gsF E U)<|kx (gsF E U)<|kx (cC E U E)<|be<|kx (gsF E E)<|kx (gsF E E)<|kx (cC E E E)<|be<|kx (gsF E E)<|kx (gsF E E) (kc (Ev.gsF E E)<|kx (gsF E E)<|kx (cC E E E)<|Rn (hA aQ (hA aR (hA aB (hV (.bool true) E hZ)))) fun iz en eo ep er=>?_)))
      obtain rfl:=si h
      exact kd (show iA G N J D O ac.length I.length ae.length _ _ from ⟨E,en,eo,ep,er,aA⟩)
     obtain ⟨et,de,h⟩:=ad h
     refine kx (guF E U (cm dx dv E E (ble E) E)) (kx (guF E U (cm aB aA E E (ble E) E)) (kc (Ev.guF E U (cl (v:=.bool et) E E (b3 E (b3 E E)) E (rR (Book.mk bF bG bI) (Book.mk J D O) _ de) nm))<|kx (guF E U (eZ E))<|kx (cU E U E)<|kx (bp E) ?_))
     rcases aj h with ⟨ar,h⟩ | ⟨ar,h⟩
     ·refine kx (guF E (nt ar) (bp dA)) (kx (guF E (nt ar) (gD E E))<|kx (cU E (nt ar) E)<|kx (bp E) ?_)
      rcases aj h with ⟨X,h⟩ | ⟨X,h⟩
      ·refine kx (gsF E X) (kx (gsF E X) (kc (Ev.gsF E X)<|kx (gsF E X)<|kx (cC E X E)<|Rn (hA aQ (hA aR (hA aB (hV (.bool true) E hZ)))) fun iB eu ev ew ex=>?_))
       obtain rfl:=si h
       exact kd (show iA G N J D O ac.length I.length ae.length _ _ from ⟨E,eu,ev,ew,ex,aA⟩)
      obtain ⟨ey,df,h⟩:=ad h
      refine kx (guF E X (cm dz dw E E (ble E) E)) (kx (guF E X (cm aB aA E E (ble E) E)) (kc (Ev.guF E X (cl (v:=.bool ey) E E (b3 E (b3 E E)) E (rR (Book.mk bz bA bC) (Book.mk J D O) _ df) nm))<|kx (guF E X (eZ E))<|kx (cU E X E)<|Rn (hA aQ (hA aR (hA aB (hN E hZ)))) fun iC ez eA eB eC=>?_))
      obtain rfl:=si h
      exact kd (show iA G N J D O ac.length I.length ae.length _ _ from ⟨E,ez,eA,eB,eC,aA⟩)
     refine kx (gsF E (nt ar)) (kx (gsF E (nt ar))<|kx (cC E (nt ar) E)<|be<|kx (gsF E E)<|kx (gsF E E) (kc (Ev.gsF E E)<|kx (gsF E E)<|kx (cC E E E)<|Rn (hA aQ (hA aR (hA aB (hV (.bool true) E hZ)))) fun iD dF dG dH dI=>?_))
     obtain rfl:=si h
     exact kd (show iA G N J D O ac.length I.length ae.length _ _ from ⟨E,dF,dG,dH,dI,aA⟩)) ?_
 revert h bo
 revert bM
 intro iE bo h
 intro x iF iG dg
 obtain ⟨rfl,dJ,dK,bO,bP,af⟩:=dg
 refine sN ?_
 rcases aj h with ⟨bq,h⟩ | ⟨bq,h⟩
 ·refine cT bP bq (av<|be<|Rn (hV (.bool false) E hZ) fun iH dL=>sN<|xx<|sR ?_)
  exact ct h (bB dL bK) E
 obtain ⟨⟨bQ,dM⟩,dR,h⟩:=ad h
 obtain ⟨⟨aX,dN⟩,dS,h⟩:=ad h
 obtain ⟨⟨bT,dO,dP⟩,dT,h⟩:=ad h
 obtain ⟨⟨ah,dV,dX⟩,dU,h⟩:=ad h
 obtain ⟨bU,br,h⟩:=ad h
 refine cF bP bq (xx<|sN<|av<|kx (dQ bO af E)<|kx (e8 E af E E E)<|kx (i2 Tryz.underlying24 E)<|be<|Rn (hV (.sl none (G.map (cI .u8))) dJ (hV (.sl none (N.map (cI .u8))) dK (hV (.loc I.length 1 0 0) bO (hN E hZ)))) fun iI dZ d0 bV d1=>sN<|av<|kx (cm bV af E E (ble E) E) (kc (NB (v:=.tup [.sl none (bQ.map Debt.c),a4 dM]) E E (b3 E E) E (yB (Book.mk J D O) _ dR))<|be<|kx (eO E E)<|kx (eO E E)<|be<|be<|Rn (hA dZ (hA d0 (hA bV (hA d1 (hN E (hN E hZ)))))) fun iJ d2 d3 bW d4 d5 d6=>sN<|av<|kx (cm bW af E E (ble E) E) (kc (NB (v:=.tup [.sl none (aX.map Debt.c),a4 dN]) E E (b3 E E) E (yD (Book.mk J D O) _ dS))<|be<|kx (eO E E)<|kx (eO E E)<|be<|be<|Rn (hA d2 (hA d3 (hA bW (hA d4 (hA d5 (hA d6 (hN E (hN E hZ)))))))) fun iK ec ed ee bX eh fb bZ fc=>sN<|av<|kx (bp bX)<|kx (bp bZ) (kc (NB (v:=.tup [.sl none (bT.map Debt.c),a4 dO,a4 dP]) E E (b3 E (b3 E E)) E (tP (D.length:Int) aX _ dT))<|be<|kx (eO E E)<|kx (eO E E)<|kx (eO E E)<|be<|be<|be<|Rn (hA ec (hA ed (hA ee (hA bX (hA eh (hA fb (hA bZ (hA fc (hN E (hN E hZ)))))))))) fun iL fd fe ff b0 fg fh b1 fi fj fk=>sN<|av<|kx (bp b0)<|kx (bp b1) (kc (NB (v:=.tup [.sl none (ah.map Debt.c),a4 dV,a4 dX]) E E (b3 E (b3 E E)) E (uk (D.length:Int) aX _ dU))<|be<|kx (eO E E)<|kx (eO E E)<|kx (eO E E)<|be<|be<|be<|Rn (hA fd (hA fe (hA ff (hA b0 (hA fg (hA fh (hA b1 (hA fi (hA fj (hA fk (hN E (hN E hZ)))))))))))) fun iM aE aF aG aH fl b4 fm fn gt b5 aC fo=>sN<|sq<|sq ?_)))))
 refine Ev.cut (Q1:=gM G N J D O ah I.length bU) (by
     have h:=br
     refine Rg (kx (bp b4)<|kx (bp fn)<|kx (gD E E)<|kx (bp E) ?_)
     rcases aj h with ⟨au,h⟩ | ⟨au,h⟩
     ·refine kx (gsF E au) (kx (gsF E au)<|kx (cC E au E)<|be<|kx (gsF E E)<|kx (gsF E E) (kc (Ev.gsF E E)<|kx (gsF E E)<|kx (cC E E E)<|be<|kx (gsF E E)<|kx (gsF E E)<|kx (gsF E E)<|kx (cC E E E)<|be<|kx (gsF E E)<|kx (gsF E E)<|kx (cC E E E)<|be<|kx (gsF E E)<|kx (gsF E E) (kc (Ev.gsF E E)<|kx (gsF E E)<|kx (cC E E E)<|Rn (hA aE (hA aF (hA aG (hA aH (hA aC (hV (.bool true) E hZ)))))) fun iN fp fq fr eF eH eJ=>?_)))
      obtain rfl:=si h
      exact kd (show gM G N J D O ah I.length _ _ from ⟨E,fp,fq,fr,eF,eH,eJ,af⟩)
     refine kx (guF E au (bp b4)) (kx (guF E au (gD E E))<|kx (cU E au E)<|kx (bp E) ?_)
     rcases aj h with ⟨Y,h⟩ | ⟨Y,h⟩
     ·refine kx (gsF E Y) (kx (gsF E Y) (kc (Ev.gsF E Y)<|kx (gsF E Y)<|kx (cC E Y E)<|be<|kx (gsF E E)<|kx (gsF E E)<|kx (gsF E E)<|kx (cC E E E)<|be<|kx (gsF E E)<|kx (gsF E E)<|kx (cC E E E)<|be<|kx (gsF E E)<|kx (gsF E E) (kc (Ev.gsF E E)<|kx (gsF E E)<|kx (cC E E E)<|Rn (hA aE (hA aF (hA aG (hA aH (hA aC (hV (.bool true) E hZ)))))) fun iO eK eM eN eP eQ eR=>?_)))
      obtain rfl:=si h
      exact kd (show gM G N J D O ah I.length _ _ from ⟨E,eK,eM,eN,eP,eQ,eR,af⟩)
     obtain ⟨eS,dh,h⟩:=ad h
     refine kx (guF E Y (bp fl)) (kx (guF E Y (bp fm)) (kc (Ev.guF E Y (cl (v:=.bool eS) E E (b3 E (b3 E E)) E (qC bQ aX _ dh) nm))<|kx (guF E Y (eZ E))<|kx (cU E Y E)<|kx (bp E) ?_))
     rcases aj h with ⟨ak,h⟩ | ⟨ak,h⟩
     ·refine kx (guF E (nt ak) (bp b5)) (kx (guF E (nt ak) (bp fo))<|kx (guF E (nt ak) (gD E E))<|kx (cU E (nt ak) E)<|kx (bp E) ?_)
      rcases aj h with ⟨aw,h⟩ | ⟨aw,h⟩
      ·refine kx (gsF E aw) (kx (gsF E aw)<|kx (cC E aw E)<|be<|kx (gsF E E)<|kx (gsF E E) (kc (Ev.gsF E E)<|kx (gsF E E)<|kx (cC E E E)<|Rn (hA aE (hA aF (hA aG (hA aH (hA aC (hV (.bool true) E hZ)))))) fun iP eT eU eV eW eX eY=>?_))
       obtain rfl:=si h
       exact kd (show gM G N J D O ah I.length _ _ from ⟨E,eT,eU,eV,eW,eX,eY,af⟩)
      refine kx (guF E aw (bp b5)) (kx (guF E aw (gD E E))<|kx (cU E aw E)<|kx (bp E) ?_)
      rcases aj h with ⟨Z,h⟩ | ⟨Z,h⟩
      ·refine kx (gsF E Z) (kx (gsF E Z) (kc (Ev.gsF E Z)<|kx (gsF E Z)<|kx (cC E Z E)<|Rn (hA aE (hA aF (hA aG (hA aH (hA aC (hV (.bool true) E hZ)))))) fun iQ e1 e2 e3 e4 e5 e6=>?_))
       obtain rfl:=si h
       exact kd (show gM G N J D O ah I.length _ _ from ⟨E,e1,e2,e3,e4,e5,e6,af⟩)
      obtain ⟨e7,di,h⟩:=ad h
      refine kx (guF E Z (bp gt)) (kx (guF E Z (bp aC)) (kc (Ev.guF E Z (cl (v:=.bool e7) E E (b3 E (b3 E E)) E (qC bT ah _ di) nm))<|kx (guF E Z (eZ E))<|kx (cU E Z E)<|Rn (hA aE (hA aF (hA aG (hA aH (hA aC (hN E hZ)))))) fun iR e9 fa eE fs ft fu=>?_))
      obtain rfl:=si h
      exact kd (show gM G N J D O ah I.length _ _ from ⟨E,e9,fa,eE,fs,ft,fu,af⟩)
     refine kx (gsF E (nt ak)) (kx (gsF E (nt ak))<|kx (gsF E (nt ak))<|kx (cC E (nt ak) E)<|be<|kx (gsF E E)<|kx (gsF E E)<|kx (cC E E E)<|be<|kx (gsF E E)<|kx (gsF E E) (kc (Ev.gsF E E)<|kx (gsF E E)<|kx (cC E E E)<|Rn (hA aE (hA aF (hA aG (hA aH (hA aC (hV (.bool true) E hZ)))))) fun iS fv fw fx fy f1 f2=>?_))
     obtain rfl:=si h
     exact kd (show gM G N J D O ah I.length _ _ from ⟨E,fv,fw,fx,fy,f1,f2,af⟩)) ?_
 revert h br
 revert bU
 intro iq br h
 intro x ir it dj
 obtain ⟨rfl,f4,f5,f6,cw,f7,cx,cz⟩:=dj
 refine sN ?_
 rcases aj h with ⟨bt,h⟩ | ⟨bt,h⟩
 ·refine cT cx bt (av<|be<|Rn (hV (.bool false) E hZ) fun iu f8=>sN<|xx<|sR ?_)
  exact ct h (bB f8 bK) E
 obtain ⟨⟨aD,f9⟩,dY,h⟩:=ad h
 obtain ⟨cA,bu,h⟩:=ad h
 refine cF cx bt (xx<|sN<|av<|kx (bp cw)<|kx (bp f7) (kc (NB (v:=.tup [.sl none (aD.map (cI .i64)),a4 f9]) E E (b3 E (b3 E E)) E (zP (D.length:Int) ah _ dY))<|be<|kx (eO E E)<|kx (eO E E)<|be<|be<|Rn (hV (.sl none (G.map (cI .u8))) f4 (hV (.sl none (N.map (cI .u8))) f5 (hV (.loc I.length 1 0 0) f6 (hV (a4 (D.length:Int)) cw (hN E (hN E hZ)))))) fun iv cB cD cE a8 ba ga=>sN<|sq<|sq ?_))
 refine Ev.cut (Q1:=oX G N J D O aD I.length cA) (by
     have h:=bu
     refine Rg (kx (bp ga)<|kx (gD E E)<|kx (bp E) ?_)
     rcases aj h with ⟨aa,h⟩ | ⟨aa,h⟩
     ·refine kx (gsF E aa) (kx (gsF E aa)<|kx (gsF E aa)<|kx (gsF E aa)<|kx (cC E aa E)<|Rn (hA cB (hA cD (hA cE (hA a8 (hA ba (hV (.bool true) E hZ)))))) fun jo gb gc gd gf gg gh=>?_)
      obtain rfl:=si h
      exact kd (show oX G N J D O aD I.length _ _ from ⟨E,gb,gc,gd,gf,gg,gh,cz⟩)
     refine kx (guF E aa (bp ba)) (kx (guF E aa (i2 Tryz.underlying24 E))<|kx (guF E aa (bp a8))<|kx (guF E aa (gD E E))<|kx (cU E aa E)<|Rn (hA cB (hA cD (hA cE (hA a8 (hA ba (hN E hZ)))))) fun jp gi gj gk fB fC fD=>?_)
     obtain rfl:=si h
     exact kd (show oX G N J D O aD I.length _ _ from ⟨E,gi,gj,gk,fB,fC,fD,cz⟩)) ?_
 revert h bu
 revert cA
 intro jq bu h
 intro x jr js dk
 obtain ⟨rfl,fE,fF,fG,fH,fI,cG,cH⟩:=dk
 refine sN ?_
 rcases aj h with ⟨bv,h⟩ | ⟨bv,h⟩
 ·refine cT cG bv (av<|be<|Rn (hV (.bool false) E hZ) fun jt fJ=>sN<|xx<|sR ?_)
  exact ct h (bB fJ bK) E
 obtain ⟨fK,b7,h⟩:=ad h
 refine cF cG bv (xx<|sN<|sq<|av<|be<|Rn (hV (.sl none (G.map (cI .u8))) fE (hV (.sl none (N.map (cI .u8))) fF (hV (.loc I.length 1 0 0) fG (hV (a4 (D.length:Int)) fH (hV (.sl none (aD.map (cI .i64))) fI (hV (a4 0) E hZ)))))) fun ju cJ cK cL cM cN cO=>sN<|bl ?_)
 rcases fK with _ | _
 ·refine Ev.loop (rx G N J D O aD I.length) b7 ⟨cJ,cK,cL,cM,cN,cO,cH⟩ fun x jv jw bw=>?_
  obtain ⟨rfl,fL⟩:=bw
  refine bR (sR ?_)
  exact ct h (bB fL bK) E
 refine Ev.loop (rx G N J D O aD I.length) b7 ⟨cJ,cK,cL,cM,cN,cO,cH⟩ fun x jx bb bw=>?_
 obtain ⟨rfl,fM,fN,jy⟩:=bw
 obtain ⟨bd,db,h⟩:=ad h
 obtain ⟨cP,dc,h⟩:=ad h
 obtain ⟨⟨aI,aJ,aK,ai,ab,fO⟩,d7,h⟩:=ad h
 refine bE (sN<|av<|kx (bp fN) (kc (cl (v:=a4 bd) E E (b3 E E) E (xN N _ db) nm)<|be<|Rn (hV (.sl none (G.map (cI .u8))) fM (hN E hZ)) fun jz fP cQ=>sN<|av<|kx (bp cQ)<|kx (bp fP) (kc (cl (v:=.agg (bY (cI .i8) 0 cP)) E E (b3 E E) E (yC G _ dc) nm) (kc (Oo (v:=.tup [.agg (.bool aI::(.sl none (aJ.map Notch.c)::((bY (cI .i8) 0 aK)++([]:List AV)))),.agg (.bool false::(.sl none (ai.map Notch.c)::((bY (cI .i8) 0 ab)++([]:List AV)))),a4 fO]) E E (b3 E (b3 E E)) E (x9 bd cP _ d7) E)<|be<|kx (eO E E)<|kx (eO E E)<|kx (eO E E) (ku (lG qk) fun aY dd=>?_)))))
 have cR:aY[bb.length]? = some (.live ⟨.box,51,18,[(.bool false::(.nils::((bY (cI .i8) 0 (Ar.rep 16 0))++([]:List AV))))]⟩):=b2 dd
 refine ku (lG qk) fun fQ b8=>?_
 have cS:=bS b8 cR
 have b9:=b6 cR
 have fR:fQ[aY.length]? = some (.live ⟨.box,51,18,[(.bool false::(.nils::((bY (cI .i8) 0 (Ar.rep 16 0))++([]:List AV))))]⟩):=b2 b8
 refine kw (dW E E cS E E ⟨E,ble E⟩ E E) fun fS ca=>?_
 have fT:fS[bb.length]? = some (.live ⟨.box,51,18,[(.bool aI::(.sl none (aJ.map Notch.c)::((bY (cI .i8) 0 aK)++([]:List AV))))]⟩):=bc ca cS
 have cV:=a9 ca (Ne.symm b9) fR
 refine kw (dW E E cV E E ⟨E,ble E⟩ E E) fun aZ cb=>?_
 have bf:=a9 cb b9 fT
 have a0:aZ[aY.length]? = some (.live ⟨.box,51,18,[(.bool false::(.sl none (ai.map Notch.c)::((bY (cI .i8) 0 ab)++([]:List AV))))]⟩):=bc cb cV
 refine be (Rn (hA cQ (hV (.loc bb.length 1 0 0) E (hV (.loc aY.length 1 0 0) E (hN E hZ)))) fun jA fU fV fW ce=>sN<|sq<|av<|kx (bp ce)<|kx (gD E E)<|Rn (hA fU (hA fV (hA fW (hA ce (hN E hZ))))) fun jB fX cf cg fY ch=>sN ?_)
 rcases aj h with ⟨bx,h⟩ | ⟨bx,h⟩
 ·refine cT ch bx (av<|kx (bp fY)<|kx (d8 E E)<|be<|Rn (hN E hZ) fun jC fZ=>sN<|xx<|sR ?_)
  exact ct h (bB fZ bK) E
 obtain ⟨⟨f0,fz⟩,d9,h⟩:=ad h
 obtain ⟨⟨fA,gW⟩,ea,h⟩:=ad h
 obtain ⟨⟨aL,gX⟩,eb,h⟩:=ad h
 refine cF ch bx (xx<|sN<|av<|kx (cm (cs':=(.bool aI::(.sl none (aJ.map Notch.c)::((bY (cI .i8) 0 aK)++([]:List AV))))) cf bf E E (ble E) E)<|kx (cm (cs':=(.bool false::(.sl none (ai.map Notch.c)::((bY (cI .i8) 0 ab)++([]:List AV))))) cg a0 E E (ble E) E) (kc (cl (v:=.tup [.bool f0,a4 fz]) E E (b3 E (b3 E (b3 E E))) E (BW (Half.mk aI aJ aK) (Half.mk false ai ab) 0 _ d9) nm)<|be<|kx (eO E E)<|kx (eO E E)<|be<|be<|Rn (hA fX (hA cf (hA cg (hN E (hN E hZ))))) fun jD gY gZ ci g0 g1=>sN<|av<|kx (cm (cs':=(.bool false::(.sl none (ai.map Notch.c)::((bY (cI .i8) 0 ab)++([]:List AV))))) ci a0 E E (ble E) E) (kc (cl (v:=.tup [a4 fA,a4 gW]) E E (b3 E E) E (xq (Half.mk false ai ab) _ ea) nm)<|be<|kx (eO E E)<|kx (eO E E)<|be<|be<|Rn (hA gY (hA gZ (hA ci (hA g0 (hA g1 (hN E (hN E hZ))))))) fun jE cj g2 g3 g4 g5 g6 g7=>sN<|av<|kx (bp cj) (kc (cl (v:=.tup [.agg (bY (cI .i16) 0 aL),a4 gX]) E E (b3 E E) E (xt bd _ eb) nm)<|be<|kx (eO E E)<|kx (eO E E) (ku (lG vv) fun g8 a1=>?_)))))
 have g9:=bS a1 bf
 have dD:=b6 bf
 have ha:=bS a1 a0
 have dE:=b6 a0
 have ck:g8[aZ.length]? = some (.live ⟨.box,60,6,[(bY (cI .i16) 0 (Ar.rep 6 0))]⟩):=b2 a1
 refine kw (dW E E ck E E ⟨E,ble E⟩ E E) fun hb a2=>?_
 have hc:=a9 a2 dD g9
 have cn:=a9 a2 dE ha
 have co:hb[aZ.length]? = some (.live ⟨.box,60,6,[(bY (cI .i16) 0 aL)]⟩):=bc a2 ck
 obtain ⟨⟨hd,he⟩,ef,h⟩:=ad h
 obtain ⟨⟨hf,hg⟩,eg,h⟩:=ad h
 obtain ⟨⟨hh,hi⟩,ei,h⟩:=ad h
 obtain ⟨⟨hj,gu⟩,ej,h⟩:=ad h
 refine be (Rn (hA cj (hA g2 (hA g3 (hA g4 (hA g5 (hA g6 (hA g7 (hV (.loc aZ.length 1 0 0) E (hN E hZ))))))))) fun jF gv gw gx gy gz gA gB cq gC=>sN<|av<|kx (cm (cs':=(bY (cI .i16) 0 aL)) cq co E E (ble E) E) (kc (cl (v:=.tup [a4 hd,a4 he]) E E (b3 E E) E (s7 aL _ ef) nm)<|be<|kx (eO E E)<|kx (eO E E)<|be<|be<|Rn (hA gv (hA gw (hA gx (hA gy (hA gz (hA gA (hA gB (hA cq (hA gC (hN E (hN E hZ))))))))))) fun jG gE gF cr gG gH gI gJ gK gL gN gO=>sN<|av<|kx (cm (cs':=(.bool aI::(.sl none (aJ.map Notch.c)::((bY (cI .i8) 0 aK)++([]:List AV))))) gF hc E E (ble E) E)<|kx (cm (cs':=(.bool false::(.sl none (ai.map Notch.c)::((bY (cI .i8) 0 ab)++([]:List AV))))) cr cn E E (ble E) E) (kc (cl (v:=.tup [.bool hf,a4 hg]) E E (b3 E (b3 E (b3 E E))) E (Bj (Half.mk aI aJ aK) (Half.mk false ai ab) 0 _ eg) nm)<|be<|kx (eO E E)<|kx (eO E E)<|be<|be<|Rn (hA gE (hA cr (hA gG (hA gH (hA gI (hA gJ (hA gK (hA gL (hA gN (hA gO (hN E hZ))))))))))) fun jH gP gQ gR gS gT gU gV gl gm gn go=>sN<|av<|kx (cm (cs':=(.bool false::(.sl none (ai.map Notch.c)::((bY (cI .i8) 0 ab)++([]:List AV))))) gQ cn E E (ble E) E) (kc (cl (v:=.tup [a4 hh,a4 hi]) E E (b3 E E) E (xM (Half.mk false ai ab) _ ei) nm)<|be<|kx (eO E E)<|kx (eO E E)<|be<|be<|Rn (hA gP (hA gR (hA gS (hA gT (hA gU (hA gV (hA gl (hA gm (hA gn (hA go (hN E hZ))))))))))) fun jI gp gq gr hJ hK hL hM hO hP hQ hR=>sN<|av<|kx (cm (cs':=(bY (cI .i16) 0 aL)) hL co E E (ble E) E) (kc (cl (v:=.tup [a4 hj,a4 gu]) E E (b3 E E) E (tf aL _ ej) nm)<|be<|kx (eO E E)<|kx (eO E E)<|be<|be<|Rn (hA gp (hA gq (hA gr (hA hJ (hA hK (hA hM (hA hO (hA hP (hA hQ (hA hR (hN E hZ))))))))))) fun jJ aS bg bh bi bj bk bm bn hS hT hU=>sN<|sq<|av<|kx (bp hS)<|kx (eZ E)<|kx (bp E) ?_)))))
 rcases aj h with ⟨am,h⟩ | ⟨am,h⟩
 ·refine kx (guF E (nt am) (bp hT)) (kx (guF E (nt am) (bp aS))<|kx (guF E (nt am) (gD E E))<|kx (cU E (nt am) E)<|kx (bp E) ?_)
  rcases aj h with ⟨an,h⟩ | ⟨an,h⟩
  ·refine kx (gsF E an) (kx (gsF E an)<|kx (gsF E an)<|kx (cC E an E)<|Rn (hA aS (hA bg (hA bh (hA bi (hA bj (hA bk (hA bm (hA bn (hV (.bool true) E hZ))))))))) fun iW iX iY iZ i0 i1 i3 i4 i5 hW=>sN<|cT hW E<|av<|be<|Rn (hV (.bool false) E hZ) fun i6 hX=>sN<|xx<|sR ?_)
   exact ct h (bB hX bK) E
  refine kx (guF E an (bp hU)) (kx (guF E an (bp aS))<|kx (guF E an (gD E E))<|kx (cU E an E)<|Rn (hA aS (hA bg (hA bh (hA bi (hA bj (hA bk (hA bm (hA bn (hN E hZ))))))))) fun i7 cu hl hm hn ho hp hq hr cv=>sN ?_)
  rcases aj h with ⟨a3,h⟩ | ⟨a3,h⟩
  ·refine cT cv a3 (av<|be<|Rn (hV (.bool false) E hZ) fun i9 hs=>sN<|xx<|sR ?_)
   exact ct h (bB hs bK) E
  refine cF cv a3 (xx<|sN<|av<|kx (bp hm)<|kx (d8 E E)<|kx (bp E) ?_)
  rcases aj h with ⟨aM,h⟩ | ⟨aM,h⟩
  ·refine kx (guT E aM (bp hl)) (kx (cC E aM E)<|kx (bp E) ?_)
   rcases aj h with ⟨ax,h⟩ | ⟨ax,h⟩
   ·refine kx (guT E ax (bp ho)) (kx (guT E ax (d8 E E))<|kx (cC E ax E)<|kx (bp E) ?_)
    rcases aj h with ⟨ao,h⟩ | ⟨ao,h⟩
    ·refine kx (guT E ao (bp hn)) (kx (guT E ao (bp cu))<|kx (guT E ao (d8 E E))<|kx (cC E ao E)<|kx (bp E) ?_)
     rcases aj h with ⟨ay,h⟩ | ⟨ay,h⟩
     ·refine kx (guT E ay (bp hp)) (kx (guT E ay (d8 E E))<|kx (cC E ay E)<|kx (bp E) ?_)
      rcases aj h with ⟨az,h⟩ | ⟨az,h⟩
      ·refine kx (guT E az (bp hr)) (kx (guT E az (d8 E E))<|kx (cC E az E)<|kx (bp E) ?_)
       rcases aj h with ⟨ap,h⟩ | ⟨ap,h⟩
       ·refine kx (guT E ap (bp hq)) (kx (guT E ap (bp cu))<|kx (guT E ap (d8 E E))<|kx (cC E ap E)<|be<|Rn (hN E hZ) fun ja ht=>sN<|xx ?_)
        exact ct h (bB ht bK) E
       refine kx (gsT E ap) (kx (gsT E ap)<|kx (gsT E ap)<|kx (cU E ap E)<|be<|Rn (hV (.bool false) E hZ) fun jb hu=>sN<|xx ?_)
       exact ct h (bB hu bK) E
      refine kx (gsT E az) (kx (gsT E az)<|kx (cU E az E)<|be<|kx (gsT E E)<|kx (gsT E E)<|kx (gsT E E)<|kx (cU E E E)<|be<|Rn (hV (.bool false) E hZ) fun jc hv=>sN<|xx ?_)
      exact ct h (bB hv bK) E
     refine kx (gsT E ay) (kx (gsT E ay)<|kx (cU E ay E)<|be<|kx (gsT E E)<|kx (gsT E E)<|kx (cU E E E)<|be<|kx (gsT E E)<|kx (gsT E E)<|kx (gsT E E)<|kx (cU E E E)<|be<|Rn (hV (.bool false) E hZ) fun jd hw=>sN<|xx ?_)
     exact ct h (bB hw bK) E
    refine kx (gsT E ao) (kx (gsT E ao)<|kx (gsT E ao)<|kx (cU E ao E)<|be<|kx (gsT E E)<|kx (gsT E E)<|kx (cU E E E)<|be<|kx (gsT E E)<|kx (gsT E E)<|kx (cU E E E)<|be<|kx (gsT E E)<|kx (gsT E E)<|kx (gsT E E)<|kx (cU E E E)<|be<|Rn (hV (.bool false) E hZ) fun je hx=>sN<|xx ?_)
    exact ct h (bB hx bK) E
   refine kx (gsT E ax) (kx (gsT E ax)<|kx (cU E ax E)<|be<|kx (gsT E E)<|kx (gsT E E)<|kx (gsT E E)<|kx (cU E E E)<|be<|kx (gsT E E)<|kx (gsT E E)<|kx (cU E E E)<|be<|kx (gsT E E)<|kx (gsT E E)<|kx (cU E E E)<|be<|kx (gsT E E)<|kx (gsT E E)<|kx (gsT E E)<|kx (cU E E E)<|be<|Rn (hV (.bool false) E hZ) fun jf hy=>sN<|xx ?_)
   exact ct h (bB hy bK) E
  refine kx (gsT E aM) (kx (cU E aM E)<|be<|kx (gsT E E)<|kx (gsT E E)<|kx (cU E E E)<|be<|kx (gsT E E)<|kx (gsT E E)<|kx (gsT E E)<|kx (cU E E E)<|be<|kx (gsT E E)<|kx (gsT E E)<|kx (cU E E E)<|be<|kx (gsT E E)<|kx (gsT E E)<|kx (cU E E E)<|be<|kx (gsT E E)<|kx (gsT E E)<|kx (gsT E E)<|kx (cU E E E)<|be<|Rn (hV (.bool false) E hZ) fun jg hz=>sN<|xx ?_)
  exact ct h (bB hz bK) E
 refine kx (gsF E (nt am)) (kx (gsF E (nt am))<|kx (gsF E (nt am))<|kx (cC E (nt am) E)<|be<|kx (gsF E E)<|kx (gsF E E)<|kx (gsF E E)<|kx (cC E E E)<|Rn (hA aS (hA bg (hA bh (hA bi (hA bj (hA bk (hA bm (hA bn (hV (.bool true) E hZ))))))))) fun jh ji jj jk jl jm jn iT iU hB=>sN<|cT hB E<|av<|be<|Rn (hV (.bool false) E hZ) fun iV hC=>sN<|xx<|sR ?_)
 exact ct h (bB hC bK) E
end Go.Proofs.YtkdinadmheomfaaGreat
