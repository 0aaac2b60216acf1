/- Printed by a program of ours (ext.py). -/
import Derived.Test.YtkdinadmheomfaaGreatLnkTopx1
set_option linter.unusedVariables false
set_option linter.unusedSimpArgs false
set_option maxRecDepth 100000
set_option maxHeartbeats 20000000
namespace Go.Proofs.YtkdinadmheomfaaGreat
open Go Go.Ab
abbrev iH:=Int×(Ar 16 (Ar 16 Int))
abbrev ng:=(Ar 16 (Ar 16 Int))
def pZ (F:List Debt) (D:Nat) (s:iH) (e:b4) (M:bs):Prop:=a3 e 0 = .sl none (F.map Debt.c)/\a3 e 3 = .loc D 1 0 0/\a3 e 4 = a4 s.1/\M[D]? = some (.live ⟨.box,150,256,[(bY (bY (n:=16) (cI .i64) 0) (Ar.rep 16 0) s.2)]⟩)
def vH (F:List Debt) (D:Nat) (g:ng) (x:Ex) (e:b4) (M:bs):Prop:=x = .ext 0/\a3 e 3 = .loc D 1 0 0/\M[D]? = some (.live ⟨.box,150,256,[(bY (bY (n:=16) (cI .i64) 0) (Ar.rep 16 0) g)]⟩)
noncomputable def dK (D:List Debt):iH->Option (iH⊕ng):=fun (J,O)=>
 if (decide (J < (D.length:Int)))=true then
  (rd D J).bind fun F=>
  (rd D J).bind fun G=>
  (jF O F.From).bind fun N=>
  (jF N G.To).bind fun U=>
  (rd D J).bind fun X=>
  (jF O F.From).bind fun I=>
  (jF I G.To).bind fun Y=>
  some (.inl ((IntKind.i64.wrap (J + 1)),(O.set F.From.toNat (I.set G.To.toNat (IntKind.i64.wrap (U + X.Amount))))))
 else
  some (.inr O)
theorem vA (I:List Debt) (F:Nat) (s:iH) (r:iH⊕ng) (h:dK I s=some r) (e:b4) (M:bs) (aK:pZ I F s e M):Ev (fun k=>(GD (CN k) k (prune [0,3,4] e) M).bind fun q=>some q) (bQ (pZ I F) (vH I F) r):=by
 obtain ⟨aJ,O⟩:=s
 unfold dK at h
 obtain ⟨ar,au,aw,D⟩:=aK
 generalize U:prune [0,3,4] e=aU
 have af:=bZ U.symm E ar
 have ax:=bZ U.symm E au
 have ah:=bZ U.symm E aw
 refine sq (av<|kx (bp ah)<|kx (bp af)<|kx (i2 Tryz.underlying35 E)<|kx (dp E E)<|Rn (hV (.sl none (I.map Debt.c)) af (hV (.loc F 1 0 0) ax (hV (a4 aJ) ah (hN E hZ)))) fun aM J Y N ai=>sN ?_)
 rcases aj h with ⟨X,h⟩ | ⟨X,h⟩
 ·obtain ⟨ay,an,h⟩:=ad h
  obtain ⟨az,ao,h⟩:=ad h
  obtain ⟨aN,aa,h⟩:=ad h
  obtain ⟨ak,ab,h⟩:=ad h
  obtain ⟨am,ap,h⟩:=ad h
  obtain ⟨aA,ac,h⟩:=ad h
  obtain ⟨aL,ae,h⟩:=ad h
  refine cT ai X (xx<|sN<|sq<|bl<|Rd<|kf (bp Y)<|kf (bp J)<|kf (bp N)<|kf (kJ E E an Debt.fl)<|kf (cW E ⟨ble E,blt E⟩ E)<|kf (cr E E)<|kf (bp J)<|kf (bp N)<|kf (kJ E E ao Debt.fl)<|kf (cW E ⟨ble E,blt E⟩ E)<|kf (cr E E)<|kf (mL E D E)<|kf (l9 E D E E aa)<|kf (l9 E D E E ab)<|kf (wR (K:=AV.int .i64) (c:=(cI .i64)) (z:=0) (Z:=(Ar.rep 16 0)) (G:=O) (pre:=[]) (post:=[]) E D E E E E E (fun _=>E) aa ab)<|kf (bp J)<|kf (bp N)<|kf (kJ E E ap Debt.fl)<|kf (cW E ⟨ble E,blt E⟩ E)<|kf (cr E E)<|kf (cu E E)<|kf (mL E D E)<|kf (l9 E D E E ac)<|kf (l9 E D E E ae)<|fZ<|kw (EX (c:=(cI .i64)) (z:=0) (Z:=(Ar.rep 16 0)) (G:=O) (pre:=[]) (post:=[]) (w':=(IntKind.i64.wrap (ak + am.Amount))) E E D E E E E E (fun _=>E) E E ac ae) fun aB aq=>?_)
  have aC:aB[F]? = some (.live ⟨.box,150,256,[(bY (bY (n:=16) (cI .i64) 0) (Ar.rep 16 0) (O.set ay.From.toNat (aA.set az.To.toNat (IntKind.i64.wrap (ak + am.Amount)))))]⟩):=bc aq D
  refine Rn (hA J (hA Y (hA N hZ))) fun aO aD aE aF=>bN (sN<|Rg<|kx (bp aF)<|kx (cu E E)<|be<|Rn (hA aD (hA aE (hN E hZ))) fun aP aG aH aI=>?_)
  exact jd h ⟨aG,aH,aI,aC⟩
 refine cF ai X (xx<|sE ?_)
 exact md h ⟨E,Y,D⟩
noncomputable def iZ (F:List Debt):Option ((Ar 16 (Ar 16 Int))):=
 (Lw (dK F) (0,(Ar.rep 16 (Ar.rep 16 0)))).bind fun D=>
 some D
def xE (r:(Ar 16 (Ar 16 Int))):AV:=.pt (some 150) (bY (bY (n:=16) (cI .i64) 0) (Ar.rep 16 0) r)
theorem s5 (D:List Debt) (r:(Ar 16 (Ar 16 Int))) (h:iZ D=some r):Ev (fun k=>CN k 45 [.sl none (D.map Debt.c)] []) (fun p=>cp p.2 p.1=xE r):=by
 unfold iZ at h
 refine Ev.enter (F:=fun k=>f45 (CN k) k) (fun k=>bH E Tryz.func45 E E E (by decide +kernel) (L2 _ _)) (av<|be<|Rn (hN E hZ) fun an ae=>sN<|av<|kx (gg JV E (dz E)) (ku (NL E E ⟨E,E,by decide⟩) fun I N=>?_))
 have af:I[([]:bs).length]? = some (.live ⟨.box,150,256,[(bY (bY (n:=16) (cI .i64) 0) (Ar.rep 16 0) (Ar.rep 16 (Ar.rep 16 0)))]⟩):=b2 N
 obtain ⟨ah,G,h⟩:=ad h
 refine be (Rn (hA ae (hV (.loc ([]:bs).length 1 0 0) E hZ)) fun ao O U=>sN<|sq<|av<|be<|Rn (hA O (hA U (hV (a4 0) E hZ))) fun ai X Y Z=>sN<|bl (Ev.loop (vA D (([]:bs).length)) G ⟨X,Y,Z,af⟩ fun x aj ak J=>?_))
 obtain ⟨rfl,aa,ab⟩:=J
 refine bE (sN<|av<|kx (bp aa)<|be<|Rn (hV (.loc ([]:bs).length 1 0 0) E hZ) fun am ac=>sN<|xx ?_)
 exact ct h (bB ac bK) (LQ ab E)
abbrev iL:=Int×(List Debt)
abbrev ns:=Unit⊕((List Debt))
def pR (G:Ar 16 (Ar 16 Int)) (F:Int) (D:Nat) (s:iL) (e:b4) (M:bs):Prop:=a3 e 0 = .pt none (bY (bY (n:=16) (cI .i64) 0) (Ar.rep 16 0) G)/\a3 e 4 = .lsl D s.2.length 0 s.2.length/\a3 e 5 = a4 F/\a3 e 6 = a4 s.1/\M[D]? = some (.live ⟨.grow,82,3,s.2.map Debt.c⟩)
def vC (G:Ar 16 (Ar 16 Int)) (F:Int) (D:Nat) (r:ns) (x:Ex) (e:b4) (M:bs):Prop:=
  match r with
  | (.inl g)=>x = .ret/\a3 e 2 = .lit 82 (([]:List Debt).map Debt.c)/\a3 e 3 = a4 3
  | (.inr g)=>x = .ext 2/\a3 e 0 = .pt none (bY (bY (n:=16) (cI .i64) 0) (Ar.rep 16 0) G)/\a3 e 4 = .lsl D g.length 0 g.length/\a3 e 5 = a4 F/\M[D]? = some (.live ⟨.grow,82,3,g.map Debt.c⟩)
noncomputable def cY (F:Ar 16 (Ar 16 Int)) (D:Int):iL->Option (iL⊕ns):=fun (J,Y)=>
 if (decide (J < 16))=true then
  (jF F D).bind fun O=>
  (jF O J).bind fun U=>
  if (decide (U > 100000000))=true then
   some (.inr (.inl ()))
  else
   (jF F D).bind fun X=>
   (jF X J).bind fun Z=>
   if (decide (Z > 0))=true then
    (jF F D).bind fun G=>
    (jF G J).bind fun I=>
    (qB 24 Y [(Debt.mk D J I)]).bind fun N=>
    some (.inl ((IntKind.i64.wrap (J + 1)),N))
   else
    some (.inl ((IntKind.i64.wrap (J + 1)),Y))
 else
  some (.inr (.inr Y))
theorem qc (D:Ar 16 (Ar 16 Int)) (F:Int) (G:Nat) (s:iL) (r:iL⊕ns) (h:cY D F s=some r) (e:b4) (M:bs) (a7:pR D F G s e M):Ev (fun k=>(Ju (CN k) k (prune [0,4,5,6] e) M).bind fun q=>some q) (bQ (pR D F G) (vC D F G) r):=by
 obtain ⟨ap,aq⟩:=s
 unfold cY at h
 obtain ⟨aY,aZ,a0,a1,O⟩:=a7
 generalize I:prune [0,4,5,6] e=bI
 have a2:=bZ I.symm E aY
 have a3:=bZ I.symm E aZ
 have a5:=bZ I.symm E a0
 have ae:=bZ I.symm E a1
 refine sq (av<|kx (bp ae)<|kx (dp E E)<|Rn (hV (.pt none (bY (bY (n:=16) (cI .i64) 0) (Ar.rep 16 0) D)) a2 (hV (.lsl G aq.length 0 aq.length) a3 (hV (a4 F) a5 (hV (a4 ap) ae (hN E hZ))))) fun bb ab af ac ah ai=>sN ?_)
 rcases aj h with ⟨X,h⟩ | ⟨X,h⟩
 ·obtain ⟨a6,aA,h⟩:=ad h
  obtain ⟨bd,aB,h⟩:=ad h
  refine cT ai X (xx<|sN<|sq<|bl<|sq<|av<|kx (bp ab)<|kx (bp ac)<|kx (bp ah)<|kx (fd E)<|kx (qX (c:=(bY (n:=16) (cI .i64) 0)) (z:=(Ar.rep 16 0)) (g:=D) E E aA (fun _=>E))<|kx (qX (c:=(cI .i64)) (z:=0) (g:=a6) E E aB (fun _=>E))<|kx (cr E E)<|kx (fB E E)<|Rn (hA ab (hA af (hA ac (hA ah (hN E hZ))))) fun bf ak aM am an ao=>sN ?_)
  rcases aj h with ⟨Y,h⟩ | ⟨Y,h⟩
  ·refine cT ao Y (av<|kx (kh E E ⟨E,by decide⟩)<|be<|be<|Rn (hN E (hV (a4 3) E hZ)) fun bg aN aO=>sN<|xx<|sR<|bR<|sR ?_)
   exact lr h ⟨E,aN,aO⟩
  obtain ⟨aP,aC,h⟩:=ad h
  obtain ⟨bh,aD,h⟩:=ad h
  refine cF ao Y (xx<|sN<|av<|kx (bp ak)<|kx (bp am)<|kx (bp an)<|kx (fd E)<|kx (qX (c:=(bY (n:=16) (cI .i64) 0)) (z:=(Ar.rep 16 0)) (g:=D) E E aC (fun _=>E))<|kx (qX (c:=(cI .i64)) (z:=0) (g:=aP) E E aD (fun _=>E))<|kx (cr E E)<|kx (fB E E)<|Rn (hA ak (hA aM (hA am (hA an (hN E hZ))))) fun bi Z ar J N au=>sN ?_)
  rcases aj h with ⟨U,h⟩ | ⟨U,h⟩
  ·obtain ⟨aE,aL,h⟩:=ad h
   obtain ⟨aF,ax,h⟩:=ad h
   obtain ⟨aa,ay,h⟩:=ad h
   refine cT au U (Rg<|kx (bp ar)<|kx (bp J)<|kx (bp N)<|kx (bp Z)<|kx (bp J)<|kx (bp N)<|kx (fd E)<|kx (qX (c:=(bY (n:=16) (cI .i64) 0)) (z:=(Ar.rep 16 0)) (g:=D) E E aL (fun _=>E))<|kx (qX (c:=(cI .i64)) (z:=0) (g:=aE) E E ax (fun _=>E))<|kx (cr E E)<|kx (gg vx (b3 (t6 E) (b3 (t6 E) (b3 (t6 E) E))) (gz ⟨E,ble E⟩ E E (gz ⟨E,ble E⟩ E E (gz ⟨E,ble E⟩ E E (dz E)))))<|kx (kh (b3 E E) E ⟨E,by decide⟩)<|kw (Dp E O E (DO (c:=Debt.c) (xs:=[(Debt.mk F ap aF)]) E) ay Debt.fl (by decide)) fun aG az=>?_)
   have aH:aG[G]? = some (.live ⟨.grow,82,3,aa.map Debt.c⟩):=bc az O
   refine be (Rn (hA Z (hV (.lsl G aa.length 0 aa.length) E (hA J (hA N hZ)))) fun a8 aI aJ aK aw=>bN<|sN<|Rg<|kx (bp aw)<|kx (cu E E)<|be<|Rn (hA aI (hA aJ (hA aK (hN E hZ)))) fun a9 aQ aR aS aT=>?_)
   exact jd h ⟨aQ,aR,aS,aT,aH⟩
  refine cF au U (xx<|bN<|sN<|Rg<|kx (bp N)<|kx (cu E E)<|be<|Rn (hA Z (hA ar (hA J (hN E hZ)))) fun ba aU aV aW aX=>?_)
  exact jd h ⟨aU,aV,aW,aX,O⟩
 refine cF ai X (xx<|sE ?_)
 exact md h ⟨E,ab,af,ac,O⟩
abbrev iV:=Int×(List Debt)
abbrev nq:=Unit⊕((List Debt))
def pD (F:Ar 16 (Ar 16 Int)) (D:Nat) (s:iV) (e:b4) (M:bs):Prop:=a3 e 0 = .pt none (bY (bY (n:=16) (cI .i64) 0) (Ar.rep 16 0) F)/\a3 e 4 = .lsl D s.2.length 0 s.2.length/\a3 e 5 = a4 s.1/\M[D]? = some (.live ⟨.grow,82,3,s.2.map Debt.c⟩)
def vw (F:Ar 16 (Ar 16 Int)) (D:Nat) (r:nq) (x:Ex) (e:b4) (M:bs):Prop:=
  match r with
  | (.inl g)=>x = .ret/\a3 e 2 = .lit 82 (([]:List Debt).map Debt.c)/\a3 e 3 = a4 3
  | (.inr g)=>x = .ext 0/\a3 e 4 = .lsl D g.length 0 g.length/\M[D]? = some (.live ⟨.grow,82,3,g.map Debt.c⟩)
noncomputable def dv (D:Ar 16 (Ar 16 Int)):iV->Option (iV⊕nq):=fun (J,O)=>
 if (decide (J < 16))=true then
  (Lw (cY D J) (0,O)).bind fun r=>match r with
  | (.inl _)=>
   some (.inr (.inl ()))
  | (.inr Y)=>
   some (.inl ((IntKind.i64.wrap (J + 1)),Y))
 else
  some (.inr (.inr O))
theorem ql (D:Ar 16 (Ar 16 Int)) (F:Nat) (s:iV) (r:iV⊕nq) (h:dv D s=some r) (e:b4) (M:bs) (aE:pD D F s e M):Ev (fun k=>(HI (CN k) k (prune [0,4,5] e) M).bind fun q=>some q) (bQ (pD D F) (vw D F) r):=by
 obtain ⟨G,X⟩:=s
 unfold dv at h
 obtain ⟨au,aw,ax,O⟩:=aE
 generalize J:prune [0,4,5] e=aV
 have ay:=bZ J.symm E au
 have az:=bZ J.symm E aw
 have Y:=bZ J.symm E ax
 refine sq (av<|kx (bp Y)<|kx (dp E E)<|Rn (hV (.pt none (bY (bY (n:=16) (cI .i64) 0) (Ar.rep 16 0) D)) ay (hV (.lsl F X.length 0 X.length) az (hV (a4 G) Y (hN E hZ)))) fun aL aA Z aB aa=>sN ?_)
 rcases aj h with ⟨N,h⟩ | ⟨N,h⟩
 ·obtain ⟨aC,U,h⟩:=ad h
  refine cT aa N (xx<|sN<|sq<|bl<|av<|be<|Rn (hA aA (hA Z (hA aB (hV (a4 0) E hZ)))) fun aF ab ac ae af=>sN<|bl ?_)
  rcases aC with _ | ah
  ·refine Ev.loop (qc D G F) U ⟨ab,ac,ae,af,O⟩ fun x aG aH I=>?_
   obtain ⟨rfl,aD,ai⟩:=I
   refine bR (bR<|sR ?_)
   exact lr h ⟨E,aD,ai⟩
  refine Ev.loop (qc D G F) U ⟨ab,ac,ae,af,O⟩ fun x aI aJ I=>?_
  obtain ⟨rfl,ak,am,an,ao⟩:=I
  refine bE (bN<|sN<|Rg<|kx (bp an)<|kx (cu E E)<|be<|Rn (hV (.pt none (bY (bY (n:=16) (cI .i64) 0) (Ar.rep 16 0) D)) ak (hV (.lsl F ah.length 0 ah.length) am (hN E hZ))) fun aK ap aq ar=>?_)
  exact jd h ⟨ap,aq,ar,ao⟩
 refine cF aa N (xx<|sE ?_)
 exact md h ⟨E,Z,O⟩
noncomputable def fi (D:Ar 16 (Ar 16 Int)):Option ((List Debt)×Int):=
 (Lw (dv D) (0,([]:List Debt))).bind fun r=>match r with
 | (.inl _)=>
  some (([]:List Debt),3)
 | (.inr J)=>
  if (decide ((J.length:Int) > 60))=true then
   some (([]:List Debt),3)
  else
   some (J,0)
def xw (r:(List Debt)×Int):AV:=.tup [.sl (some 82) (r.1.map Debt.c),a4 r.2]
theorem o3 (D:Ar 16 (Ar 16 Int)) (r:(List Debt)×Int) (h:fi D=some r):Ev (fun k=>CN k 44 [.pt none (bY (bY (n:=16) (cI .i64) 0) (Ar.rep 16 0) D)] []) (fun p=>cp p.2 p.1=xw r):=by
 unfold fi at h
 refine Ev.enter (F:=fun k=>f44 (CN k) k) (fun k=>bH E Tryz.func44 E E E (by decide +kernel) (Me _ _)) (av<|be<|be<|Rn (hN E hZ) fun aE au=>sN<|av (ku (Ai (xs:=([]:List Debt)) (c:=Debt.c) E E (by decide)) fun ac ae=>?_))
 have ab:ac[([]:bs).length]? = some (.live ⟨.grow,82,3,([]:List Debt).map Debt.c⟩):=b2 ae
 obtain ⟨ai,N,h⟩:=ad h
 refine be (Rn (hA au (hV (.lsl ([]:bs).length ([]:List Debt).length 0 ([]:List Debt).length) E hZ)) fun aF af ah=>sN<|sq<|av<|be<|Rn (hA af (hA ah (hV (a4 0) E hZ))) fun aD Y Z aa=>sN<|bl ?_)
 rcases ai with _ | J
 ·refine Ev.loop (ql D (([]:bs).length)) N ⟨Y,Z,aa,ab⟩ fun x aw ax G=>?_
  obtain ⟨rfl,ak,am⟩:=G
  refine bR (sR ?_)
  exact ct h (bB ak (bB am bK)) E
 refine Ev.loop (ql D (([]:bs).length)) N ⟨Y,Z,aa,ab⟩ fun x ay az G=>?_
 obtain ⟨rfl,O,U⟩:=G
 refine bE (sN<|sq<|av<|kx (bp O)<|kx (Or Tryz.underlying35 E U (by simp))<|kx (fB E E)<|Rn (hV (.lsl ([]:bs).length J.length 0 J.length) O (hN E hZ)) fun aA an X=>sN ?_)
 rcases aj h with ⟨I,h⟩ | ⟨I,h⟩
 ·refine cT X I (av<|kx (kh E E ⟨E,by decide⟩)<|be<|be<|Rn (hN E (hV (a4 3) E hZ)) fun aB ao ap=>sN<|xx<|sR ?_)
  exact ct h (bB ao (bB ap bK)) E
 refine cF X I (xx<|sN<|av<|kx (bp an)<|be<|be<|Rn (hV (.lsl ([]:bs).length J.length 0 J.length) E (hV (a4 0) E hZ)) fun aC aq ar=>sN<|xx ?_)
 exact ct h (bB aq (bB ar bK)) (jP (hD (eh U E Debt.fl) (hD E ru)))
def me (D:Book) (g:Bool) (q:oZ):Prop:=q.1 = .nrm/\a3 q.2.1 0 = .pt none [a4 D.Day,.sl none (D.Cash.map (cI .i64)),.sl none (D.Tallies.map Tally.c)]/\a3 q.2.1 27 = .bool g
def ix (F:Book) (G:Int) (D:Tally) (g:Bool) (q:oZ):Prop:=q.1 = .nrm/\a3 q.2.1 0 = .pt none [a4 F.Day,.sl none (F.Cash.map (cI .i64)),.sl none (F.Tallies.map Tally.c)]/\a3 q.2.1 3 = a4 (F.Cash.length:Int)/\a3 q.2.1 4 = a4 G/\a3 q.2.1 5 = .pt none [a4 D.Debtor,a4 D.Holder,a4 D.Cut,a4 D.Amount,a4 D.Left]/\a3 q.2.1 95 = .bool g
abbrev j1:=Int
abbrev oU:=Unit⊕Unit
def rG (D:Book) (s:j1) (e:b4) (M:bs):Prop:=a3 e 0 = .pt none [a4 D.Day,.sl none (D.Cash.map (cI .i64)),.sl none (D.Tallies.map Tally.c)]/\a3 e 3 = a4 (D.Cash.length:Int)/\a3 e 4 = a4 s
def xg (D:Book) (r:oU) (x:Ex) (e:b4) (M:bs):Prop:=
  match r with
  | (.inl g)=>x = .ret/\a3 e 2 = .bool false
  | (.inr g)=>x = .ext 0/\True
noncomputable def i3 (G:Book):j1->Option (j1⊕oU):=fun F=>
 if (decide (F < (G.Tallies.length:Int)))=true then
  (rd G.Tallies F).bind fun D=>
  ((d3 (G.Cash.length:Int) D.Debtor).bind fun O=>
  if O=true then
   (d3 (G.Cash.length:Int) D.Holder).bind fun U=>
   if U=true then
    (dm D.Cut 0 G.Day).bind fun X=>
    if X=true then
     (dm D.Amount 1 100000000).bind fun Y=>
     if Y=true then
      (dm D.Left 0 D.Amount).bind fun Z=>
      some (!Z)
     else
      some true
    else
     some true
   else
    some true
  else
   some true).bind fun I=>
  if I=true then
   some (.inr (.inl ()))
  else
   if (D.Debtor==D.Holder)=true then
    if (D.Left != 0)=true then
     some (.inr (.inl ()))
    else
     if (decide (F > 0))=true then
      (rd G.Tallies (IntKind.i64.wrap (F - 1))).bind fun J=>
      if (decide (D.Cut < J.Cut))=true then
       some (.inr (.inl ()))
      else
       some (.inl (IntKind.i64.wrap (F + 1)))
     else
      some (.inl (IntKind.i64.wrap (F + 1)))
   else
    if (decide (F > 0))=true then
     (rd G.Tallies (IntKind.i64.wrap (F - 1))).bind fun N=>
     if (decide (D.Cut < N.Cut))=true then
      some (.inr (.inl ()))
     else
      some (.inl (IntKind.i64.wrap (F + 1)))
    else
     some (.inl (IntKind.i64.wrap (F + 1)))
 else
  some (.inr (.inr ()))
theorem rm (D:Book) (s:j1) (r:j1⊕oU) (h:i3 D s=some r) (e:b4) (M:bs) (au:rG D s e M):Ev (fun k=>(Ia (CN k) k (prune [0,3,4] e) M).bind fun q=>some q) (bQ (rG D) (xg D) r):=by
 revert h au
 revert s
 intro Y h au
 unfold i3 at h
 obtain ⟨bW,bX,bY⟩:=au
 generalize ap:prune [0,3,4] e=dA
 have aA:=bZ ap.symm E bW
 have b0:=bZ ap.symm E bX
 have aB:=bZ ap.symm E bY
 refine sq (av<|kx (bp aB)<|kx (bp aA)<|kx (fd E)<|kx (cW E ⟨ble E,blt E⟩ E)<|kx (cr E E)<|kx (i2 Tryz.underlying25 E)<|kx (dp E E)<|Rn (hV (.pt none [a4 D.Day,.sl none (D.Cash.map (cI .i64)),.sl none (D.Tallies.map Tally.c)]) aA (hV (a4 (D.Cash.length:Int)) b0 (hV (a4 Y) aB (hN E hZ)))) fun b7 aC b1 aD aE=>sN ?_)
 rcases aj h with ⟨aq,h⟩ | ⟨aq,h⟩
 ·obtain ⟨Z,aJ,h⟩:=ad h
  obtain ⟨aw,ar,h⟩:=ad h
  refine cT aE aq (xx<|sN<|sq<|bl<|av<|kx (bp aC)<|kx (fd E)<|kx (cW E ⟨ble E,blt E⟩ E)<|kx (cr E E)<|kx (bp aD)<|kx (kJ E E aJ Tally.fl)<|be<|Rn (hA aC (hA b1 (hA aD (hN E hZ)))) fun b8 af ae ah aa=>sN<|sq<|sq ?_)
  refine Ev.cut (Q1:=ix D Y Z aw) (by
      have h:=ar
      obtain ⟨bv,aK,h⟩:=ad h
      refine Rd (kf (bp ae)<|kf (bp aa)<|kf (fd E)<|kf (cW E ⟨ble E,blt E⟩ E)<|kf (cr E E)<|fc (cl (v:=.bool bv) E E (b3 E (b3 E E)) E (gG (D.Cash.length:Int) Z.Debtor _ aK) nm)<|kf (eZ E)<|kf (bp E) ?_)
      rcases aj h with ⟨N,h⟩ | ⟨N,h⟩
      ·obtain ⟨bw,aL,h⟩:=ad h
       refine kf (guF E (nt N) (bp ae)) (kf (guF E (nt N) (bp aa))<|kf (guF E (nt N) (fd E))<|kf (guF E (nt N) (cW E ⟨ble E,blt E⟩ E))<|kf (guF E (nt N) (cr E E))<|fc (Ev.guF E (nt N) (cl (v:=.bool bw) E E (b3 E (b3 E E)) E (gG (D.Cash.length:Int) Z.Holder _ aL) nm))<|kf (guF E (nt N) (eZ E))<|kf (cU E (nt N) E)<|kf (bp E) ?_)
       rcases aj h with ⟨I,h⟩ | ⟨I,h⟩
       ·obtain ⟨bx,aM,h⟩:=ad h
        refine kf (guF E (nt I) (bp aa)) (kf (guF E (nt I) (fd E))<|kf (guF E (nt I) (cW E ⟨ble E,blt E⟩ E))<|kf (guF E (nt I) (cr E E))<|kf (guF E (nt I) (bp af))<|kf (guF E (nt I) (fd E))<|kf (guF E (nt I) (cW E ⟨ble E,blt E⟩ E))<|kf (guF E (nt I) (cr E E))<|fc (Ev.guF E (nt I) (cl (v:=.bool bx) E E (b3 E (b3 E (b3 E E))) E (dn Z.Cut 0 D.Day _ aM) nm))<|kf (guF E (nt I) (eZ E))<|kf (cU E (nt I) E)<|kf (bp E) ?_)
        rcases aj h with ⟨O,h⟩ | ⟨O,h⟩
        ·obtain ⟨bz,aF,h⟩:=ad h
         refine kf (guF E (nt O) (bp aa)) (kf (guF E (nt O) (fd E))<|kf (guF E (nt O) (cW E ⟨ble E,blt E⟩ E))<|kf (guF E (nt O) (cr E E))<|fc (Ev.guF E (nt O) (cl (v:=.bool bz) E E (b3 E (b3 E (b3 E E))) E (dn Z.Amount 1 100000000 _ aF) nm))<|kf (guF E (nt O) (eZ E))<|kf (cU E (nt O) E)<|kf (bp E) ?_)
         rcases aj h with ⟨J,h⟩ | ⟨J,h⟩
         ·obtain ⟨bA,bb,h⟩:=ad h
          refine kf (guF E (nt J) (bp aa)) (kf (guF E (nt J) (fd E))<|kf (guF E (nt J) (cW E ⟨ble E,blt E⟩ E))<|kf (guF E (nt J) (cr E E))<|kf (guF E (nt J) (bp aa))<|kf (guF E (nt J) (fd E))<|kf (guF E (nt J) (cW E ⟨ble E,blt E⟩ E))<|kf (guF E (nt J) (cr E E))<|fc (Ev.guF E (nt J) (cl (v:=.bool bA) E E (b3 E (b3 E (b3 E E))) E (dn Z.Left 0 Z.Amount _ bb) nm))<|kf (guF E (nt J) (eZ E))<|kf (cU E (nt J) E)<|fZ<|Rn (hA af (hA ae (hA ah (hA aa (hN E hZ))))) fun b9 bB bC bD bE bF=>?_)
          obtain rfl:=si h
          exact kd (show ix D Y Z _ _ from ⟨E,bB,bC,bD,bE,bF⟩)
         refine kf (gsF E (nt J)) (kf (gsF E (nt J))<|kf (gsF E (nt J))<|kf (gsF E (nt J))<|kf (gsF E (nt J))<|kf (gsF E (nt J))<|kf (gsF E (nt J))<|kf (gsF E (nt J))<|fc (Ev.gsF E (nt J))<|kf (gsF E (nt J))<|kf (cC E (nt J) E)<|fZ<|Rn (hA af (hA ae (hA ah (hA aa (hV (.bool true) E hZ))))) fun ca bG bH bI bJ bK=>?_)
         obtain rfl:=si h
         exact kd (show ix D Y Z _ _ from ⟨E,bG,bH,bI,bJ,bK⟩)
        refine kf (gsF E (nt O)) (kf (gsF E (nt O))<|kf (gsF E (nt O))<|kf (gsF E (nt O))<|fc (Ev.gsF E (nt O))<|kf (gsF E (nt O))<|kf (cC E (nt O) E)<|r3<|kf (gsF E E)<|kf (gsF E E)<|kf (gsF E E)<|kf (gsF E E)<|kf (gsF E E)<|kf (gsF E E)<|kf (gsF E E)<|kf (gsF E E)<|fc (Ev.gsF E E)<|kf (gsF E E)<|kf (cC E E E)<|fZ<|Rn (hA af (hA ae (hA ah (hA aa (hV (.bool true) E hZ))))) fun cb bc bd bf bg bh=>?_)
        obtain rfl:=si h
        exact kd (show ix D Y Z _ _ from ⟨E,bc,bd,bf,bg,bh⟩)
       refine kf (gsF E (nt I)) (kf (gsF E (nt I))<|kf (gsF E (nt I))<|kf (gsF E (nt I))<|kf (gsF E (nt I))<|kf (gsF E (nt I))<|kf (gsF E (nt I))<|kf (gsF E (nt I))<|fc (Ev.gsF E (nt I))<|kf (gsF E (nt I))<|kf (cC E (nt I) E)<|r3<|kf (gsF E E)<|kf (gsF E E)<|kf (gsF E E)<|kf (gsF E E)<|fc (Ev.gsF E E)<|kf (gsF E E)<|kf (cC E E E)<|r3<|kf (gsF E E)<|kf (gsF E E)<|kf (gsF E E)<|kf (gsF E E)<|kf (gsF E E)<|kf (gsF E E)<|kf (gsF E E)<|kf (gsF E E)<|fc (Ev.gsF E E)<|kf (gsF E E)<|kf (cC E E E)<|fZ<|Rn (hA af (hA ae (hA ah (hA aa (hV (.bool true) E hZ))))) fun b2 bi bj bk bm bn=>?_)
       obtain rfl:=si h
       exact kd (show ix D Y Z _ _ from ⟨E,bi,bj,bk,bm,bn⟩)
      refine kf (gsF E (nt N)) (kf (gsF E (nt N))<|kf (gsF E (nt N))<|kf (gsF E (nt N))<|kf (gsF E (nt N))<|fc (Ev.gsF E (nt N))<|kf (gsF E (nt N))<|kf (cC E (nt N) E)<|r3<|kf (gsF E E)<|kf (gsF E E)<|kf (gsF E E)<|kf (gsF E E)<|kf (gsF E E)<|kf (gsF E E)<|kf (gsF E E)<|kf (gsF E E)<|fc (Ev.gsF E E)<|kf (gsF E E)<|kf (cC E E E)<|r3<|kf (gsF E E)<|kf (gsF E E)<|kf (gsF E E)<|kf (gsF E E)<|fc (Ev.gsF E E)<|kf (gsF E E)<|kf (cC E E E)<|r3<|kf (gsF E E)<|kf (gsF E E)<|kf (gsF E E)<|kf (gsF E E)<|kf (gsF E E)<|kf (gsF E E)<|kf (gsF E E)<|kf (gsF E E)<|fc (Ev.gsF E E)<|kf (gsF E E)<|kf (cC E E E)<|fZ<|Rn (hA af (hA ae (hA ah (hA aa (hV (.bool true) E hZ))))) fun b5 bo bq br bt bu=>?_)
      obtain rfl:=si h
      exact kd (show ix D Y Z _ _ from ⟨E,bo,bq,br,bt,bu⟩)) ?_
  revert h ar
  revert aw
  intro b6 ar h
  intro x cc cd aG
  obtain ⟨rfl,ac,ai,ab,ak,ax⟩:=aG
  refine sN ?_
  rcases aj h with ⟨am,h⟩ | ⟨am,h⟩
  ·refine cT ax am (av<|be<|Rn (hV (.bool false) E hZ) fun ce aP=>sN<|xx<|sR<|bR<|sR ?_)
   exact lr h ⟨E,aP⟩
  refine cF ax am (xx<|sN<|sq<|Rd<|kf (bp ak)<|kf (fd E)<|kf (cW E ⟨ble E,blt E⟩ E)<|kf (cr E E)<|kf (bp ak)<|kf (fd E)<|kf (cW E ⟨ble E,blt E⟩ E)<|kf (cr E E)<|kf (d8 E E)<|kf (bp E) ?_)
  rcases aj h with ⟨U,h⟩ | ⟨U,h⟩
  ·refine kf (guT E U (bp ak)) (kf (guT E U (fd E))<|kf (guT E U (cW E ⟨ble E,blt E⟩ E))<|kf (guT E U (cr E E))<|kf (guT E U (gD E E))<|kf (cC E U E)<|kf (bp E) ?_)
   rcases aj h with ⟨X,h⟩ | ⟨X,h⟩
   ·refine kf (gsF E X) (kf (gsF E X)<|kf (gsF E X)<|kf (gsU E)<|kf (gsU E)<|kf (gsU E)<|kf (gsU E)<|kf (gsU E)<|kf (gsU E)<|kf (gsU E)<|kf (gsU E)<|kf (gsU E)<|kf (gsU E)<|kf (gsU E)<|kf (gsU E)<|kf (gsU E)<|kf (gsU E)<|kf (gsF E X)<|kf (cC E X E)<|fZ<|Rn (hV (.pt none [a4 D.Day,.sl none (D.Cash.map (cI .i64)),.sl none (D.Tallies.map Tally.c)]) ac (hV (a4 (D.Cash.length:Int)) ai (hV (a4 Y) ab (hV (.bool true) E hZ)))) fun cf cg ch ci aQ=>sN<|cT aQ E<|av<|be<|Rn (hV (.bool false) E hZ) fun cj aR=>sN<|xx<|bR<|sR ?_)
    exact lr h ⟨E,aR⟩
   refine kf (guF E X (bp ab)) (kf (guF E X (fB E E))<|kf (guF E X (bp E)) ?_)
   rcases aj h with ⟨F,h⟩ | ⟨F,h⟩
   ·obtain ⟨ck,aH,h⟩:=ad h
    refine kf (guT E F (bp ak)) (kf (guT E F (fd E))<|kf (guT E F (cW E ⟨ble E,blt E⟩ E))<|kf (guT E F (cr E E))<|kf (guT E F (bp ac))<|kf (guT E F (fd E))<|kf (guT E F (cW E ⟨ble E,blt E⟩ E))<|kf (guT E F (cr E E))<|kf (guT E F (bp ab))<|kf (guT E F (lD E E))<|kf (guT E F (kJ E E aH Tally.fl))<|kf (guT E F (cW E ⟨ble E,blt E⟩ E))<|kf (guT E F (cr E E))<|kf (guT E F (dp E E))<|kf (guF E X (cC E F E))<|kf (cU E X E)<|fZ<|Rn (hV (.pt none [a4 D.Day,.sl none (D.Cash.map (cI .i64)),.sl none (D.Tallies.map Tally.c)]) ac (hV (a4 (D.Cash.length:Int)) ai (hV (a4 Y) ab (hN E hZ)))) fun cm aS aT aU ay=>sN ?_)
    rcases aj h with ⟨an,h⟩ | ⟨an,h⟩
    ·refine cT ay an (av<|be<|Rn (hV (.bool false) E hZ) fun cn aV=>sN<|xx<|bR<|sR ?_)
     exact lr h ⟨E,aV⟩
    refine cF ay an (xx<|bN<|sN<|Rg<|kx (bp aU)<|kx (cu E E)<|be<|Rn (hA aS (hA aT (hN E hZ))) fun co aW aX aY=>?_)
    exact jd h ⟨aW,aX,aY⟩
   refine kf (gsT E F) (kf (gsT E F)<|kf (gsT E F)<|kf (gsT E F)<|kf (gsT E F)<|kf (gsT E F)<|kf (gsT E F)<|kf (gsT E F)<|kf (gsT E F)<|kf (gsT E F)<|kf (gsT E F)<|kf (gsT E F)<|kf (gsT E F)<|kf (gsT E F)<|kf (guF E X (cU E F E))<|kf (cU E X E)<|fZ<|Rn (hV (.pt none [a4 D.Day,.sl none (D.Cash.map (cI .i64)),.sl none (D.Tallies.map Tally.c)]) ac (hV (a4 (D.Cash.length:Int)) ai (hV (a4 Y) ab (hV (.bool false) E hZ)))) fun cp aZ a0 a1 a2=>sN<|cF a2 E<|xx<|bN<|sN<|Rg<|kx (bp a1)<|kx (cu E E)<|be<|Rn (hA aZ (hA a0 (hN E hZ))) fun cq a3 a5 a6=>?_)
   exact jd h ⟨a3,a5,a6⟩
  refine kf (gsT E U) (kf (gsT E U)<|kf (gsT E U)<|kf (gsT E U)<|kf (gsT E U)<|kf (cU E U E)<|r3<|kf (guF E E (bp ab))<|kf (guF E E (fB E E))<|kf (guF E E (bp E)) ?_)
  rcases aj h with ⟨G,h⟩ | ⟨G,h⟩
  ·obtain ⟨ct,aI,h⟩:=ad h
   refine kf (guT E G (bp ak)) (kf (guT E G (fd E))<|kf (guT E G (cW E ⟨ble E,blt E⟩ E))<|kf (guT E G (cr E E))<|kf (guT E G (bp ac))<|kf (guT E G (fd E))<|kf (guT E G (cW E ⟨ble E,blt E⟩ E))<|kf (guT E G (cr E E))<|kf (guT E G (bp ab))<|kf (guT E G (lD E E))<|kf (guT E G (kJ E E aI Tally.fl))<|kf (guT E G (cW E ⟨ble E,blt E⟩ E))<|kf (guT E G (cr E E))<|kf (guT E G (dp E E))<|kf (guF E E (cC E G E))<|kf (cU E E E)<|fZ<|Rn (hV (.pt none [a4 D.Day,.sl none (D.Cash.map (cI .i64)),.sl none (D.Tallies.map Tally.c)]) ac (hV (a4 (D.Cash.length:Int)) ai (hV (a4 Y) ab (hN E hZ)))) fun cv a7 a8 a9 az=>sN ?_)
   rcases aj h with ⟨ao,h⟩ | ⟨ao,h⟩
   ·refine cT az ao (av<|be<|Rn (hV (.bool false) E hZ) fun cw ba=>sN<|xx<|bR<|sR ?_)
    exact lr h ⟨E,ba⟩
   refine cF az ao (xx<|bN<|sN<|Rg<|kx (bp a9)<|kx (cu E E)<|be<|Rn (hA a7 (hA a8 (hN E hZ))) fun cx aN aO bL=>?_)
   exact jd h ⟨aN,aO,bL⟩
  refine kf (gsT E G) (kf (gsT E G)<|kf (gsT E G)<|kf (gsT E G)<|kf (gsT E G)<|kf (gsT E G)<|kf (gsT E G)<|kf (gsT E G)<|kf (gsT E G)<|kf (gsT E G)<|kf (gsT E G)<|kf (gsT E G)<|kf (gsT E G)<|kf (gsT E G)<|kf (guF E E (cU E G E))<|kf (cU E E E)<|fZ<|Rn (hV (.pt none [a4 D.Day,.sl none (D.Cash.map (cI .i64)),.sl none (D.Tallies.map Tally.c)]) ac (hV (a4 (D.Cash.length:Int)) ai (hV (a4 Y) ab (hV (.bool false) E hZ)))) fun cy bM bO bP bS=>sN<|cF bS E<|xx<|bN<|sN<|Rg<|kx (bp bP)<|kx (cu E E)<|be<|Rn (hA bM (hA bO (hN E hZ))) fun cz bT bU bV=>?_)
  exact jd h ⟨bT,bU,bV⟩
 refine cF aE aq (xx<|sE ?_)
 exact md h ⟨E,trivial⟩
noncomputable def n9 (D:Book):Option Bool:=
 ((mC D.Day).bind fun G=>
 if G=true then
  (nj D.Cash).bind fun I=>
  if I=true then
   some (decide ((D.Tallies.length:Int) > 40))
  else
   some true
 else
  some true).bind fun F=>
 if F=true then
  some false
 else
  (Lw (i3 D) 0).bind fun r=>match r with
  | (.inl _)=>
   some false
  | (.inr _)=>
   some true
def zt (r:Bool):AV:=.bool r
theorem vd (I:Book) (r:Bool) (h:n9 I=some r):Ev (fun k=>CN k 43 [.pt none [a4 I.Day,.sl none (I.Cash.map (cI .i64)),.sl none (I.Tallies.map Tally.c)]] []) (fun p=>cp p.2 p.1=zt r):=by
 unfold n9 at h
 obtain ⟨Y,N,h⟩:=ad h
 refine Ev.enter (F:=fun k=>f43 (CN k) k) (fun k=>bH E Tryz.func43 E E E (by decide +kernel) (Nr _ _)) (av<|be<|Rn (hN E hZ) fun aQ J=>sN<|sq<|sq ?_)
 refine Ev.cut (Q1:=me I Y) (by
     have h:=N
     obtain ⟨aA,ay,h⟩:=ad h
     refine Rg (kx (bp J)<|kx (fd E)<|kx (cW E ⟨ble E,blt E⟩ E)<|kx (cr E E) (kc (cl (v:=.bool aA) E E (b3 E E) E (tN I.Day _ ay) nm)<|kx (eZ E)<|kx (bp E) ?_))
     rcases aj h with ⟨D,h⟩ | ⟨D,h⟩
     ·obtain ⟨aB,az,h⟩:=ad h
      refine kx (guF E (nt D) (bp J)) (kx (guF E (nt D) (fd E))<|kx (guF E (nt D) (cW E ⟨ble E,blt E⟩ E))<|kx (guF E (nt D) (cr E E)) (kc (Ev.guF E (nt D) (cl (v:=.bool aB) E E (b3 E E) E (yy I.Cash _ az) nm))<|kx (guF E (nt D) (eZ E))<|kx (cU E (nt D) E)<|kx (bp E) ?_))
      rcases aj h with ⟨G,h⟩ | ⟨G,h⟩
      ·refine kx (guF E (nt G) (bp J)) (kx (guF E (nt G) (fd E))<|kx (guF E (nt G) (cW E ⟨ble E,blt E⟩ E))<|kx (guF E (nt G) (cr E E))<|kx (guF E (nt G) (i2 Tryz.underlying25 E))<|kx (guF E (nt G) (fB E E))<|kx (cU E (nt G) E)<|Rn (hA J (hN E hZ)) fun aI af ah=>?_)
       obtain rfl:=si h
       exact kd (show me I _ _ from ⟨E,af,ah⟩)
      refine kx (gsF E (nt G)) (kx (gsF E (nt G))<|kx (gsF E (nt G))<|kx (gsF E (nt G))<|kx (gsF E (nt G))<|kx (gsF E (nt G))<|kx (cC E (nt G) E)<|Rn (hA J (hV (.bool true) E hZ)) fun aJ ai ak=>?_)
      obtain rfl:=si h
      exact kd (show me I _ _ from ⟨E,ai,ak⟩)
     refine kx (gsF E (nt D)) (kx (gsF E (nt D))<|kx (gsF E (nt D))<|kx (gsF E (nt D)) (kc (Ev.gsF E (nt D))<|kx (gsF E (nt D))<|kx (cC E (nt D) E)<|be<|kx (gsF E E)<|kx (gsF E E)<|kx (gsF E E)<|kx (gsF E E)<|kx (gsF E E)<|kx (gsF E E)<|kx (cC E E E)<|Rn (hA J (hV (.bool true) E hZ)) fun aK am an=>?_))
     obtain rfl:=si h
     exact kd (show me I _ _ from ⟨E,am,an⟩)) ?_
 revert h N
 revert Y
 intro aL N h
 intro x aM aN ar
 obtain ⟨rfl,Z,aa⟩:=ar
 refine sN ?_
 rcases aj h with ⟨U,h⟩ | ⟨U,h⟩
 ·refine cT aa U (av<|be<|Rn (hV (.bool false) E hZ) fun aO ao=>sN<|xx<|sR ?_)
  exact ct h (bB ao bK) E
 obtain ⟨au,X,h⟩:=ad h
 refine cF aa U (xx<|sN<|av<|kx (bp Z)<|kx (fd E)<|kx (cW E ⟨ble E,blt E⟩ E)<|kx (cr E E)<|kx (i2 Tryz.underlying24 E)<|be<|Rn (hV (.pt none [a4 I.Day,.sl none (I.Cash.map (cI .i64)),.sl none (I.Tallies.map Tally.c)]) Z (hN E hZ)) fun aP ap aq=>sN<|sq<|av<|be<|Rn (hA ap (hA aq (hV (a4 0) E hZ))) fun aC ab ac ae=>sN<|bl ?_)
 rcases au with _ | _
 ·refine Ev.loop (rm I) X ⟨ab,ac,ae⟩ fun x aD aE O=>?_
  obtain ⟨rfl,aw⟩:=O
  refine bR (sR ?_)
  exact ct h (bB aw bK) E
 refine Ev.loop (rm I) X ⟨ab,ac,ae⟩ fun x aF aG O=>?_
 obtain ⟨rfl,_⟩:=O
 refine bE (sN<|av<|be<|Rn (hV (.bool true) E hZ) fun aH ax=>sN<|xx ?_)
 exact ct h (bB ax bK) E
noncomputable def h7 (G:Int) (D:List Debt):Option (Int⊕((List Debt))):=
 (iw G D).bind fun I=>
 if I=true then
  (mz D).bind fun F=>
  (eB F).bind fun r=>match r with
  | (.inl _)=>
   some (.inl 3)
  | (.inr O)=>
   some (.inr O)
 else
  some (.inl 1)
def v8 (r:Int⊕((List Debt))):AV:=
  match r with
  | (.inl g)=>.tup [.nils,a4 g]
  | (.inr g)=>.tup [.sl (some 82) (g.map Debt.c),a4 0]
theorem ky (J:Int) (D:List Debt) (r:Int⊕((List Debt))) (h:h7 J D=some r):Ev (fun k=>CN k 42 [a4 J,.sl none (D.map Debt.c)] []) (fun p=>cp p.2 p.1=v8 r):=by
 unfold h7 at h
 obtain ⟨an,Y,h⟩:=ad h
 refine Ev.enter (F:=fun k=>f42 (CN k) k) (fun k=>bH E Tryz.func42 E E E (by decide +kernel) (M6 _ _)) (av<|be<|be<|Rn (hN E (hN E hZ)) fun ar ak U=>sN<|sq<|av<|kx (bp ak)<|kx (bp U) (kc (cl (v:=.bool an) E E (b3 E (b3 E E)) E (pJ J D _ Y) nm)<|kx (eZ E)<|Rn (hA U (hN E hZ)) fun au am O=>sN ?_))
 rcases aj h with ⟨G,h⟩ | ⟨G,h⟩
 ·obtain ⟨I,X,h⟩:=ad h
  obtain ⟨Z,N,h⟩:=ad h
  refine cF O (nt G) (xx<|sN<|av<|kx (bp am) (kc (cl (v:=.agg (bY (bY (n:=16) (cI .i64) 0) (Ar.rep 16 0) I)) E E (b3 E E) E (tI D _ X) nm) ?_))
  rcases Z with _ | af
  ·refine kc (cl (v:=.tup [.nils,a4 3]) E E (b3 E E) E (fR I _ N) nm) (kx (eO E E)<|kx (eO E E)<|be<|be<|Rn (hV .nils E (hV (a4 3) E hZ)) fun ao aa ab=>sN<|xx ?_)
   exact ct h (bB aa (bB ab bK)) E
  refine kc (cl (v:=.tup [.sl (some 82) (af.map Debt.c),a4 0]) E E (b3 E E) E (fR I _ N) nm) (kx (eO E E)<|kx (eO E E)<|be<|be<|Rn (hN E (hV (a4 0) E hZ)) fun ap ac ae=>sN<|xx ?_)
  exact ct h (bB ac (bB ae bK)) E
 refine cT O (nt G) (av<|be<|be<|Rn (hV .nils E (hV (a4 1) E hZ)) fun aq ah ai=>sN<|xx<|sR ?_)
 exact ct h (bB ah (bB ai bK)) E
def kr (D:Book) (F:Book) (g:Bool) (q:oZ):Prop:=q.1 = .nrm/\a3 q.2.1 0 = .pt none [a4 D.Day,.sl none (D.Cash.map (cI .i64)),.sl none (D.Tallies.map Tally.c)]/\a3 q.2.1 1 = .pt none [a4 F.Day,.sl none (F.Cash.map (cI .i64)),.sl none (F.Tallies.map Tally.c)]/\a3 q.2.1 39 = .bool g
abbrev iP:=Int
abbrev ni:=Unit⊕Unit
def pQ (D:Book) (F:Book) (s:iP) (e:b4) (M:bs):Prop:=a3 e 0 = .pt none [a4 D.Day,.sl none (D.Cash.map (cI .i64)),.sl none (D.Tallies.map Tally.c)]/\a3 e 1 = .pt none [a4 F.Day,.sl none (F.Cash.map (cI .i64)),.sl none (F.Tallies.map Tally.c)]/\a3 e 5 = a4 s
def vj (D:Book) (F:Book) (r:ni) (x:Ex) (e:b4) (M:bs):Prop:=
  match r with
  | (.inl g)=>x = .ret/\a3 e 4 = .bool false
  | (.inr g)=>x = .ext 0/\True
noncomputable def iE (I:Book) (J:Book):iP->Option (iP⊕ni):=fun G=>
 if (decide (G < (I.Tallies.length:Int)))=true then
  (rd I.Tallies G).bind fun D=>
  (rd J.Tallies G).bind fun F=>
  if ((D.Debtor==F.Debtor) && ((D.Holder==F.Holder) && ((D.Cut==F.Cut) && ((D.Amount==F.Amount) && ((D.Left==F.Left) && true)))))=true then
   some (.inl (IntKind.i64.wrap (G + 1)))
  else
   some (.inr (.inl ()))
 else
  some (.inr (.inr ()))
theorem p6 (D:Book) (F:Book) (s:iP) (r:iP⊕ni) (h:iE D F s=some r) (e:b4) (M:bs) (O:pQ D F s e M):Ev (fun k=>(GG (CN k) k (prune [0,1,5] e) M).bind fun q=>some q) (bQ (pQ D F) (vj D F) r):=by
 revert h O
 revert s
 intro aw h O
 unfold iE at h
 obtain ⟨an,ao,ap⟩:=O
 generalize G:prune [0,1,5] e=aG
 have U:=bZ G.symm E an
 have aq:=bZ G.symm E ao
 have X:=bZ G.symm E ap
 refine sq (av<|kx (bp X)<|kx (bp U)<|kx (fd E)<|kx (cW E ⟨ble E,blt E⟩ E)<|kx (cr E E)<|kx (i2 Tryz.underlying25 E)<|kx (dp E E)<|Rn (hV (.pt none [a4 D.Day,.sl none (D.Cash.map (cI .i64)),.sl none (D.Tallies.map Tally.c)]) U (hV (.pt none [a4 F.Day,.sl none (F.Cash.map (cI .i64)),.sl none (F.Tallies.map Tally.c)]) aq (hA X (hN E hZ)))) fun ax Y Z N aa=>sN ?_)
 rcases aj h with ⟨I,h⟩ | ⟨I,h⟩
 ·obtain ⟨ay,ak,h⟩:=ad h
  obtain ⟨az,am,h⟩:=ad h
  refine cT aa I (xx<|sN<|sq<|bl<|sq<|Rd<|kf (bp Y)<|kf (fd E)<|kf (cW E ⟨ble E,blt E⟩ E)<|kf (cr E E)<|kf (bp N)<|kf (kJ E E ak Tally.fl)<|kf (eE E E E)<|kf (bp Z)<|kf (fd E)<|kf (cW E ⟨ble E,blt E⟩ E)<|kf (cr E E)<|kf (bp N)<|kf (kJ E E am Tally.fl)<|kf (eE E E E)<|kf (J5 E E (by kernel_rfl) E)<|fZ<|Rn (hA Y (hA Z (hA N (hN E hZ)))) fun aA ar au ac ab=>sN ?_)
  rcases aj h with ⟨J,h⟩ | ⟨J,h⟩
  ·refine cF ab (nt J) (xx<|bN<|sN<|Rg<|kx (bp ac)<|kx (cu E E)<|be<|Rn (hA ar (hA au (hN E hZ))) fun aB ae af ah=>?_)
   exact jd h ⟨ae,af,ah⟩
  refine cT ab (nt J) (av<|be<|Rn (hV (.bool false) E hZ) fun aC ai=>sN<|xx<|bR<|sR ?_)
  exact lr h ⟨E,ai⟩
 refine cF aa I (xx<|sE ?_)
 exact md h ⟨E,trivial⟩
noncomputable def nc (D:Book) (F:Book):Option Bool:=
 (if (D.Day != F.Day)=true then
  some true
 else
  (nw D.Cash F.Cash).bind fun G=>
  if G=true then
   some ((D.Tallies.length:Int) != (F.Tallies.length:Int))
  else
   some true).bind fun I=>
 if I=true then
  some false
 else
  (Lw (iE D F) 0).bind fun r=>match r with
  | (.inl _)=>
   some false
  | (.inr _)=>
   some true
def xR (r:Bool):AV:=.bool r
theorem yz (I:Book) (J:Book) (r:Bool) (h:nc I J=some r):Ev (fun k=>CN k 40 [.pt none [a4 I.Day,.sl none (I.Cash.map (cI .i64)),.sl none (I.Tallies.map Tally.c)],.pt none [a4 J.Day,.sl none (J.Cash.map (cI .i64)),.sl none (J.Tallies.map Tally.c)]] []) (fun p=>cp p.2 p.1=xR r):=by
 unfold nc at h
 obtain ⟨aa,U,h⟩:=ad h
 refine Ev.enter (F:=fun k=>f40 (CN k) k) (fun k=>bH E Tryz.func40 E E E (by decide +kernel) (MT _ _)) (av<|be<|Rn (hN E (hN E hZ)) fun aQ N O=>sN<|sq<|sq ?_)
 refine Ev.cut (Q1:=kr I J aa) (by
     have h:=U
     refine Rd (kf (bp N)<|kf (fd E)<|kf (cW E ⟨ble E,blt E⟩ E)<|kf (cr E E)<|kf (bp O)<|kf (fd E)<|kf (cW E ⟨ble E,blt E⟩ E)<|kf (cr E E)<|kf (gD E E)<|kf (bp E) ?_)
     rcases aj h with ⟨G,h⟩ | ⟨G,h⟩
     ·refine kf (gsF E G) (kf (gsF E G)<|kf (gsF E G)<|kf (gsF E G)<|kf (gsF E G)<|kf (gsF E G)<|kf (gsF E G)<|kf (gsF E G)<|fc (Ev.gsF E G)<|kf (gsF E G)<|kf (cC E G E)<|r3<|kf (gsF E E)<|kf (gsF E E)<|kf (gsF E E)<|kf (gsF E E)<|kf (gsF E E)<|kf (gsF E E)<|kf (gsF E E)<|kf (gsF E E)<|kf (gsF E E)<|kf (gsF E E)<|kf (gsF E E)<|kf (cC E E E)<|fZ<|Rn (hA N (hA O (hV (.bool true) E hZ))) fun aR aC aD ax=>?_)
      obtain rfl:=si h
      exact kd (show kr I J _ _ from ⟨E,aC,aD,ax⟩)
     obtain ⟨ay,au,h⟩:=ad h
     refine kf (guF E G (bp N)) (kf (guF E G (fd E))<|kf (guF E G (cW E ⟨ble E,blt E⟩ E))<|kf (guF E G (cr E E))<|kf (guF E G (bp O))<|kf (guF E G (fd E))<|kf (guF E G (cW E ⟨ble E,blt E⟩ E))<|kf (guF E G (cr E E))<|fc (Ev.guF E G (cl (v:=.bool ay) E E (b3 E (b3 E E)) E (yI I.Cash J.Cash _ au) nm))<|kf (guF E G (eZ E))<|kf (cU E G E)<|kf (bp E) ?_)
     rcases aj h with ⟨D,h⟩ | ⟨D,h⟩
     ·refine kf (guF E (nt D) (bp N)) (kf (guF E (nt D) (fd E))<|kf (guF E (nt D) (cW E ⟨ble E,blt E⟩ E))<|kf (guF E (nt D) (cr E E))<|kf (guF E (nt D) (i2 Tryz.underlying25 E))<|kf (guF E (nt D) (bp O))<|kf (guF E (nt D) (fd E))<|kf (guF E (nt D) (cW E ⟨ble E,blt E⟩ E))<|kf (guF E (nt D) (cr E E))<|kf (guF E (nt D) (i2 Tryz.underlying25 E))<|kf (guF E (nt D) (gD E E))<|kf (cU E (nt D) E)<|fZ<|Rn (hA N (hA O (hN E hZ))) fun aE az aA aB=>?_)
      obtain rfl:=si h
      exact kd (show kr I J _ _ from ⟨E,az,aA,aB⟩)
     refine kf (gsF E (nt D)) (kf (gsF E (nt D))<|kf (gsF E (nt D))<|kf (gsF E (nt D))<|kf (gsF E (nt D))<|kf (gsF E (nt D))<|kf (gsF E (nt D))<|kf (gsF E (nt D))<|kf (gsF E (nt D))<|kf (gsF E (nt D))<|kf (gsF E (nt D))<|kf (cC E (nt D) E)<|fZ<|Rn (hA N (hA O (hV (.bool true) E hZ))) fun aF ah ai ak=>?_)
     obtain rfl:=si h
     exact kd (show kr I J _ _ from ⟨E,ah,ai,ak⟩)) ?_
 revert h U
 revert aa
 intro aG U h
 intro x aH aI aw
 obtain ⟨rfl,am,an,ab⟩:=aw
 refine sN ?_
 rcases aj h with ⟨X,h⟩ | ⟨X,h⟩
 ·refine cT ab X (av<|be<|Rn (hV (.bool false) E hZ) fun aJ ao=>sN<|xx<|sR ?_)
  exact ct h (bB ao bK) E
 obtain ⟨ap,Z,h⟩:=ad h
 refine cF ab X (xx<|sN<|sq<|av<|be<|Rn (hV (.pt none [a4 I.Day,.sl none (I.Cash.map (cI .i64)),.sl none (I.Tallies.map Tally.c)]) am (hV (.pt none [a4 J.Day,.sl none (J.Cash.map (cI .i64)),.sl none (J.Tallies.map Tally.c)]) an (hV (a4 0) E hZ))) fun aK ac ae af=>sN<|bl ?_)
 rcases ap with _ | _
 ·refine Ev.loop (p6 I J) Z ⟨ac,ae,af⟩ fun x aL aM Y=>?_
  obtain ⟨rfl,aq⟩:=Y
  refine bR (sR ?_)
  exact ct h (bB aq bK) E
 refine Ev.loop (p6 I J) Z ⟨ac,ae,af⟩ fun x aN aO Y=>?_
 obtain ⟨rfl,_⟩:=Y
 refine bE (sN<|av<|be<|Rn (hV (.bool true) E hZ) fun aP ar=>sN<|xx ?_)
 exact ct h (bB ar bK) E
noncomputable def kK (D:Deal) (F:Int):Option Bool:=
 some (decide (D.Day > F))
def ve (r:Bool):AV:=.bool r
theorem wK (D:Deal) (G:Int) (r:Bool) (h:kK D G=some r):Ev (fun k=>CN k 94 [.agg [a4 D.Day,.int .i8 D.Kind,a4 D.Tally,a4 D.From,a4 D.To,a4 D.Amount],.pt none [a4 G]] []) (fun p=>cp p.2 p.1=ve r):=by
 unfold kK at h
 refine Ev.enter (F:=fun k=>f94 (CN k) k) (fun k=>bH E Tryz.func94 E E E (by decide +kernel) (MD _ _)) (av<|kx (ps E E ⟨E,E,by decide⟩)<|be<|Rn (hN E (hN E hZ)) fun O I J=>sN<|av<|kx (cW J ⟨ble E,blt E⟩ E)<|kx (cr E E)<|kx (cr I E)<|kx (fB E E)<|be<|Rn (hN E hZ) fun U N=>sN<|xx ?_)
 exact ct h (bB N bK) E
abbrev cA:=Int
abbrev dD:=Int⊕Unit
def fb (D:List Deal) (F:Int) (s:cA) (e:b4) (M:bs):Prop:=a3 e 0 = .sl none (D.map Deal.c)/\a3 e 1 = .fn 94 [.pt none [a4 F]]/\a3 e 7 = a4 (D.length:Int)/\a3 e 8 = a4 s
def jG (D:List Deal) (F:Int) (r:dD) (x:Ex) (e:b4) (M:bs):Prop:=
  match r with
  | (.inl g)=>x = .ret/\a3 e 4 = a4 g
  | (.inr g)=>x = .ext 0/\True
noncomputable def cd (F:List Deal) (J:Int):cA->Option (cA⊕dD):=fun D=>
 if (decide (D < (F.length:Int)))=true then
  (rd F D).bind fun G=>
  (kK G J).bind fun I=>
  if I=true then
   some (.inr (.inl D))
  else
   some (.inl (IntKind.i64.wrap (D + 1)))
 else
  some (.inr (.inr ()))
theorem fe (D:List Deal) (F:Int) (s:cA) (r:cA⊕dD) (h:cd D F s=some r) (e:b4) (M:bs) (N:fb D F s e M):Ev (fun k=>(Jp (CN k) k (prune [0,1,7,8] e) M).bind fun q=>some q) (bQ (fb D F) (jG D F) r):=by
 revert h N
 revert s
 intro aD h N
 unfold cd at h
 obtain ⟨aG,aH,aI,aJ⟩:=N
 generalize G:prune [0,1,7,8] e=aU
 have ae:=bZ G.symm E aG
 have af:=bZ G.symm E aH
 have O:=bZ G.symm E aI
 have U:=bZ G.symm E aJ
 refine av (kx (dp U O)<|Rn (hV (.sl none (D.map Deal.c)) ae (hV (.fn 94 [.pt none [a4 F]]) af (hV (a4 (D.length:Int)) O (hV (a4 aD) U (hN E hZ))))) fun aL ah ai ak X Y=>sN<|sq ?_)
 rcases aj h with ⟨I,h⟩ | ⟨I,h⟩
 ·obtain ⟨am,aE,h⟩:=ad h
  obtain ⟨an,aF,h⟩:=ad h
  refine cT Y I (xx<|sN<|sq<|bl<|av<|kx (bp X)<|be<|Rn (hA ah (hA ai (hN E (hA ak (hA X hZ))))) fun aM Z aa ab ao ap=>sN<|av<|kx (bp aa)<|kx (bp Z)<|kx (bp ab)<|kx (kJ E E aE Deal.fl)<|kx (eE E E E) (kc (cl (v:=.bool an) E E (b3 E (b3 E E)) E (wK am F _ aF) nm)<|Rn (hA Z (hA aa (hA ab (hA ao (hA ap (hN E hZ)))))) fun aK aq ar au aw ax ac=>sN ?_))
  rcases aj h with ⟨J,h⟩ | ⟨J,h⟩
  ·refine cT ac J (av<|kx (bp au)<|be<|Rn (hN E hZ) fun aN ay=>sN<|xx<|bR<|sR ?_)
   exact lr h ⟨E,ay⟩
  refine cF ac J (xx<|bN<|sN<|Rg<|kx (cu ax E)<|be<|Rn (hA aq (hA ar (hA aw (hN E hZ)))) fun aO az aA aB aC=>?_)
  exact jd h ⟨az,aA,aB,aC⟩
 refine cF Y I (xx<|sE ?_)
 exact md h ⟨E,trivial⟩
noncomputable def cK (D:List Deal) (F:Int):Option Int:=
 (Lw (cd D F) 0).bind fun r=>match r with
 | (.inl J)=>
  some J
 | (.inr _)=>
  some (-1)
def j8 (r:Int):AV:=a4 r
theorem km (G:List Deal) (D:Int) (r:Int) (h:cK G D=some r):Ev (fun k=>CN k 93 [.sl none (G.map Deal.c),.fn 94 [.pt none [a4 D]]] []) (fun p=>cp p.2 p.1=j8 r):=by
 unfold cK at h
 obtain ⟨Z,J,h⟩:=ad h
 refine Ev.enter (F:=fun k=>f93 (CN k) k) (fun k=>bH E Tryz.func93 E E E (by decide +kernel) (L0 _ _)) (av<|be<|Rn (hN E (hV (.fn 94 [.pt none [a4 D]]) E hZ)) fun am O ac=>sN<|sq<|av<|kx (bp O)<|kx (i2 Tryz.underlying28 E)<|be<|Rn (hA O (hA ac (hN E (hV (a4 0) E hZ)))) fun an U X Y N=>sN<|bl ?_)
 rcases Z with ae | _
 ·refine Ev.loop (fe G D) J ⟨U,X,Y,N⟩ fun x af ah I=>?_
  obtain ⟨rfl,aa⟩:=I
  refine bR (sR ?_)
  exact ct h (bB aa bK) E
 refine Ev.loop (fe G D) J ⟨U,X,Y,N⟩ fun x ai aj I=>?_
 obtain ⟨rfl,_⟩:=I
 refine bE (sN<|av<|be<|Rn (hV (a4 (-1)) E hZ) fun ak ab=>sN<|xx ?_)
 exact ct h (bB ab bK) E
noncomputable def kW (F:Book) (G:List Deal):Option (Int⊕(Int×(List Int)×(List Tally))):=
 (kN F G).bind fun (J,Y)=>
 if (Y != 0)=true then
  some (.inl Y)
 else
  if ((J.length:Int)==0)=true then
   (ll F).bind fun (aa,ab,ac)=>
   some (.inr (aa,ab,ac))
  else
   (rd J (IntKind.i64.wrap ((J.length:Int) - 1))).bind fun D=>
   some (.inr (D.Day,D.Cash,D.Tallies))
def yA (r:Int⊕(Int×(List Int)×(List Tally))):AV:=
  match r with
  | (.inl g)=>.tup [.agg [a4 0,.nils,.nils],a4 g]
  | (.inr g)=>.tup [.agg [a4 g.1,.sl none (g.2.1.map (cI .i64)),.sl none (g.2.2.map Tally.c)],a4 0]
theorem jr (D:Book) (O:List Deal) (r:Int⊕(Int×(List Int)×(List Tally))) (h:kW D O=some r):Ev (fun k=>CN k 34 [.agg [a4 D.Day,.sl none (D.Cash.map (cI .i64)),.sl none (D.Tallies.map Tally.c)],.sl none (O.map Deal.c)] []) (fun p=>cp p.2 p.1=yA r):=by
 unfold kW at h
 refine Ev.enter (F:=fun k=>f34 (CN k) k) (fun k=>bH E Tryz.func34 E E E (by decide +kernel) (Nj _ _)) (av<|kx (ps E E ⟨E,E,by decide⟩) (ku (lG cy) fun ak an=>?_))
 have G:ak[([]:bs).length]? = some (.live ⟨.box,27,3,[[a4 0,.nils,.nils]]⟩):=b2 an
 obtain ⟨⟨ao,ap⟩,au,h⟩:=ad h
 refine be (Rn (hN E (hN E (hV (.loc ([]:bs).length 1 0 0) E hZ))) fun aY aQ ai aR=>sN<|av<|kx (eE ai E E)<|kx (bp aQ) (kc (cl (v:=.tup [.sl (some 27) (ao.map Book.c),a4 ap]) E E (b3 E (b3 E E)) E (Af D O _ au) nm)<|be<|kx (eO E E)<|kx (eO E E)<|be<|be<|Rn (hA ai (hA aR (hN E (hN E hZ)))) fun aS aq ar aw Y=>sN<|sq<|bl<|av<|kx (bp Y)<|kx (gD E E)<|be<|Rn (hA aq (hA ar (hA aw (hA Y (hN E hZ))))) fun aT ay U Z az aa=>sN ?_))
 rcases aj h with ⟨J,h⟩ | ⟨J,h⟩
 ·refine cT aa J (av<|kx (gg cy E (dz E))<|kx (bp az)<|kw (dW U E G E E ⟨E,ble E⟩ E E) fun aA aN=>?_)
  have aB:aA[([]:bs).length]? = some (.live ⟨.box,27,3,[[a4 0,.nils,.nils]]⟩):=bc aN G
  refine be (Rn (hA U (hN E hZ)) fun aU aC aD=>sN<|xx<|bR<|sR ?_)
  exact ct h (eC (ag:=true) (sz:=3) ⟨by kernel_rfl,by kernel_rfl,by kernel_rfl⟩ (cm aC aB E E (ble E) E) (bB aD bK)) E
 refine cF aa J (av<|kx (bp Z)<|kx (i2 Tryz.underlying73 E)<|kx (d8 E E)<|be<|Rn (hA ay (hA U (hA Z (hN E hZ)))) fun aV aE I ab ac=>sN ?_)
 rcases aj h with ⟨N,h⟩ | ⟨N,h⟩
 ·obtain ⟨⟨ae,af,ah⟩,ax,h⟩:=ad h
  refine cT ac N (av<|kx (eE aE E E) (kc (cl (v:=.agg [a4 ae,.sl (some 2) (af.map (cI .i64)),.sl (some 80) (ah.map Tally.c)]) E E (b3 E E) E (s1 D _ ax) nm)<|kw (dW I E G E E ⟨E,ble E⟩ E E) fun aF aO=>?_))
  have aG:aF[([]:bs).length]? = some (.live ⟨.box,27,3,[[a4 ae,.sl none (af.map (cI .i64)),.sl none (ah.map Tally.c)]]⟩):=bc aO G
  refine be (Rn (hA I (hV (a4 0) E hZ)) fun aW aH aI=>sN<|xx<|bR<|sR ?_)
  exact ct h (eC (ag:=true) (sz:=3) ⟨by kernel_rfl,by kernel_rfl,by kernel_rfl⟩ (cm aH aG E E (ble E) E) (bB aI bK)) E
 obtain ⟨X,aP,h⟩:=ad h
 refine cF ac N (xx<|bN<|sN<|av<|kx (bp ab)<|kx (bp ab)<|kx (i2 Tryz.underlying73 E)<|kx (lD E E)<|kx (kJ E E aP Book.fl)<|kx (eE E E E)<|kw (dW I E G E E ⟨E,ble E⟩ E E) fun aJ am=>?_)
 have aK:aJ[([]:bs).length]? = some (.live ⟨.box,27,3,[[a4 X.Day,.sl none (X.Cash.map (cI .i64)),.sl none (X.Tallies.map Tally.c)]]⟩):=bc am G
 refine be (Rn (hA I (hV (a4 0) E hZ)) fun aX aL aM=>sN<|xx ?_)
 exact ct h (eC (ag:=true) (sz:=3) ⟨by kernel_rfl,by kernel_rfl,by kernel_rfl⟩ (cm aL aK E E (ble E) E) (bB aM bK)) E
noncomputable def nn (G:Book) (F:List Deal) (D:Int):Option ((Int×Int)⊕(Int×(List Int)×(List Tally))):=
 if (decide (D < G.Day))=true then
  some (.inl (0,4))
 else
  (cK F D).bind fun I=>
  if (decide (I < 0))=true then
   (NK F 0 (F.length:Int)).bind fun O=>
   (kW G O).bind fun r=>match r with
   | (.inl Y)=>
    if (Y != 0)=true then
     some (.inl (0,Y))
    else
     some (.inl (D,0))
   | (.inr (ai,aa,ab))=>
    some (.inr (D,aa,ab))
  else
   (NK F 0 I).bind fun N=>
   (kW G N).bind fun r=>match r with
   | (.inl J)=>
    if (J != 0)=true then
     some (.inl (0,J))
    else
     some (.inl (D,0))
   | (.inr (ao,ae,af))=>
    some (.inr (D,ae,af))
def xL (r:(Int×Int)⊕(Int×(List Int)×(List Tally))):AV:=
  match r with
  | (.inl g)=>.tup [.agg [a4 g.1,.nils,.nils],a4 g.2]
  | (.inr g)=>.tup [.agg [a4 g.1,.sl none (g.2.1.map (cI .i64)),.sl none (g.2.2.map Tally.c)],a4 0]
theorem s0 (J:Book) (ai:List Deal) (G:Int) (r:(Int×Int)⊕(Int×(List Int)×(List Tally))) (h:nn J ai G=some r):Ev (fun k=>CN k 39 [.agg [a4 J.Day,.sl none (J.Cash.map (cI .i64)),.sl none (J.Tallies.map Tally.c)],.sl none (ai.map Deal.c),a4 G] []) (fun p=>cp p.2 p.1=xL r):=by
 unfold nn at h
 refine Ev.enter (F:=fun k=>f39 (CN k) k) (fun k=>bH E Tryz.func39 E E E (by decide +kernel) (LO _ _)) (av<|kx (ps E E ⟨E,E,by decide⟩)<|kx (ps E E ⟨E,E,by decide⟩) (ku (lG cy) fun D cz=>?_))
 have I:D[([]:bs).length]? = some (.live ⟨.box,27,3,[[a4 0,.nils,.nils]]⟩):=b2 cz
 refine be (Rn (hN E (hN E (hN E (hV (.loc ([]:bs).length 1 0 0) E hZ)))) fun dt ds bE bF cA=>sN<|sq<|av<|kx (cr bF E)<|kx (cW bE ⟨ble E,blt E⟩ E)<|kx (cr E E)<|kx (dp E E)<|Rn (hA ds (hA bE (hA bF (hA cA (hN E hZ))))) fun dK a3 cB a5 ap a6=>sN ?_)
 rcases aj h with ⟨az,h⟩ | ⟨az,h⟩
 ·refine cT a6 az (av<|kx (gg cy E (dz E))<|kw (dW ap E I E E ⟨E,ble E⟩ E E) fun cC b1=>?_)
  have cD:cC[([]:bs).length]? = some (.live ⟨.box,27,3,[[a4 0,.nils,.nils]]⟩):=bc b1 I
  refine be (Rn (hA ap (hV (a4 4) E hZ)) fun dL cE cG=>sN<|xx<|sR ?_)
  exact ct h (eC (ag:=true) (sz:=3) ⟨by kernel_rfl,by kernel_rfl,by kernel_rfl⟩ (cm cE cD E E (ble E) E) (bB cG bK)) E
 obtain ⟨cH,b4,h⟩:=ad h
 refine cF a6 az (xx<|sN<|av<|kx (bp a3)<|kx (bp (congrArg (AV.fn 94) (b3 a5 E))) (kc (cl (v:=a4 cH) E E (b3 E (b3 E E)) E (km ai G _ b4) nm)<|be<|Rn (hA a3 (hA cB (hA a5 (hA ap (hN E hZ))))) fun dM cJ cK cL cM a7=>sN<|sq<|av<|kx (bp a7)<|kx (dp E E)<|Rn (hA cJ (hA cK (hA cL (hA cM (hA a7 (hN E hZ)))))) fun dN aq a8 ar au cN ba=>sN ?_))
 rcases aj h with ⟨aA,h⟩ | ⟨aA,h⟩
 ·obtain ⟨bb,b5,h⟩:=ad h
  obtain ⟨b6,aP,h⟩:=ad h
  refine cT ba aA (Rg<|kx (bp aq)<|kx (i2 Tryz.underlying28 E)<|be<|Rn (hA aq (hA a8 (hA ar (hA au (hN E hZ))))) fun dO cO cP bd bf cd=>sN<|sq<|Rd<|kf (eE cP E E)<|kf (bp cO)<|kf (bp cd)<|kf (ON E E (Od E) b5 Deal.fl) ?_)
  rcases b6 with d6 | ⟨aQ,Z,aa⟩
  ·refine fc (cl (v:=.tup [.agg [a4 0,.nils,.nils],a4 d6]) E E (b3 E (b3 E E)) E (jr J bb _ aP) nm) (r3<|kf (eO E E)<|kf (eO E E) (Ev.nfpushE (lG cy) (Ev.fend1 fun ce ab=>?_)))
   have ab:=CE ab [⟨.box,27,3,[[a4 0,.nils,.nils]]⟩] E
   have cf:=bS ab I
   have ac:([]:bs).length≠D.length:=by have:=cv (M:=D) I; omega
   have bg:ce[D.length]? = some (.live ⟨.box,27,3,[[a4 0,.nils,.nils]]⟩):=ji ab 0 E
   refine kw (dW E E bg E E ⟨E,ble E⟩ E E) fun cg aR=>?_
   have ak:=a9 aR ac cf
   have X:cg[D.length]? = some (.live ⟨.box,27,3,[[a4 0,.nils,.nils]]⟩):=bc aR bg
   refine be (Rn (hA bd (hA bf (hV (.loc D.length 1 0 0) E (hN E hZ)))) fun dP dd de df bh=>sN<|sq<|av<|kx (bp bh)<|kx (gD E E)<|Rn (hA dd (hA de (hA df (hA bh (hN E hZ))))) fun dR dg aD aS dh aT=>sN ?_)
   rcases aj h with ⟨aB,h⟩ | ⟨aB,h⟩
   ·refine cT aT aB (av<|kx (gg cy E (dz E))<|kx (bp dh)<|kw (dW aD E ak E E ⟨E,ble E⟩ E E) fun di bi=>?_)
    have dj:di[([]:bs).length]? = some (.live ⟨.box,27,3,[[a4 0,.nils,.nils]]⟩):=bc bi ak
    have dS:=a9 bi (Ne.symm ac) X
    refine be (Rn (hA aD (hN E hZ)) fun dT dk dl=>sN<|xx<|sR ?_)
    exact ct h (eC (ag:=true) (sz:=3) ⟨by kernel_rfl,by kernel_rfl,by kernel_rfl⟩ (cm dk dj E E (ble E) E) (bB dl bK)) E
   refine cF aT aB (xx<|sN<|av<|kx (cr dg E)<|kx (dQ aS X E)<|kw (dW E E X E E ⟨E,ble E⟩ E E) fun dm bj=>?_)
   have bA:=a9 bj ac ak
   have bC:dm[D.length]? = some (.live ⟨.box,27,3,[[a4 G,.nils,.nils]]⟩):=bc bj X
   refine Rn (hA aD (hA aS hZ)) fun dZ bD dn=>sN (av<|kx (cm dn bC E E (ble E) E)<|kw (dW bD E bA E E ⟨E,ble E⟩ E E) fun dq bk=>?_)
   have dr:dq[([]:bs).length]? = some (.live ⟨.box,27,3,[[a4 G,.nils,.nils]]⟩):=bc bk bA
   have d0:=a9 bk (Ne.symm ac) bC
   refine be (Rn (hA bD (hV (a4 0) E hZ)) fun d1 b7 b8=>sN<|xx ?_)
   exact ct h (eC (ag:=true) (sz:=3) ⟨by kernel_rfl,by kernel_rfl,by kernel_rfl⟩ (cm b7 dr E E (ble E) E) (bB b8 bK)) E
  refine fc (cl (v:=.tup [.agg [a4 aQ,.sl none (Z.map (cI .i64)),.sl none (aa.map Tally.c)],a4 0]) E E (b3 E (b3 E E)) E (jr J bb _ aP) nm) (r3<|kf (eO E E)<|kf (eO E E) (Ev.nfpushE (lG cy) (Ev.fend1 fun b9 N=>?_)))
  have N:=CE N [⟨.box,27,3,[[a4 0,.nils,.nils]]⟩] E
  have ca:=bS N I
  have aw:([]:bs).length≠D.length:=by have:=cv (M:=D) I; omega
  have bl:b9[D.length]? = some (.live ⟨.box,27,3,[[a4 0,.nils,.nils]]⟩):=ji N 0 E
  refine kw (dW E E bl E E ⟨E,ble E⟩ E E) fun cb aE=>?_
  have cc:=a9 aE aw ca
  have aC:cb[D.length]? = some (.live ⟨.box,27,3,[[a4 aQ,.sl none (Z.map (cI .i64)),.sl none (aa.map Tally.c)]]⟩):=bc aE bl
  refine be (Rn (hA bd (hA bf (hV (.loc D.length 1 0 0) E (hV (a4 0) E hZ)))) fun dU bI bJ bL bm=>sN<|sq<|av<|kx (bp bm)<|kx (gD E E)<|Rn (hA bI (hA bJ (hA bL (hA bm (hV (.bool false) E hZ))))) fun dV bM bN bn dX bO=>sN<|cF bO E<|xx<|sN<|av<|kx (cr bM E)<|kx (dQ bn aC E)<|kw (dW E E aC E E ⟨E,ble E⟩ E E) fun bP aF=>?_)
  have bo:=a9 aF aw cc
  have bq:bP[D.length]? = some (.live ⟨.box,27,3,[[a4 G,.sl none (Z.map (cI .i64)),.sl none (aa.map Tally.c)]]⟩):=bc aF aC
  refine Rn (hA bN (hA bn hZ)) fun dY br bQ=>sN (av<|kx (cm bQ bq E E (ble E) E)<|kw (dW br E bo E E ⟨E,ble E⟩ E E) fun bR aG=>?_)
  have bT:bR[([]:bs).length]? = some (.live ⟨.box,27,3,[[a4 G,.sl none (Z.map (cI .i64)),.sl none (aa.map Tally.c)]]⟩):=bc aG bo
  have du:=a9 aG (Ne.symm aw) bq
  refine be (Rn (hA br (hV (a4 0) E hZ)) fun dv bU bV=>sN<|xx ?_)
  exact ct h (eC (ag:=true) (sz:=3) ⟨by kernel_rfl,by kernel_rfl,by kernel_rfl⟩ (cm bU bT E E (ble E) E) (bB bV bK)) E
 obtain ⟨bt,bG,h⟩:=ad h
 obtain ⟨bW,aH,h⟩:=ad h
 refine cF ba aA (xx<|sN<|sq<|Rd<|kf (eE a8 E E)<|kf (bp aq)<|kf (bp cN)<|kf (ON E E (Od E) bG Deal.fl) ?_)
 rcases bW with cV | ⟨bu,ae,af⟩
 ·refine fc (cl (v:=.tup [.agg [a4 0,.nils,.nils],a4 cV]) E E (b3 E (b3 E E)) E (jr J bt _ aH) nm) (r3<|kf (eO E E)<|kf (eO E E) (Ev.nfpushE (lG cy) (Ev.fend1 fun bX O=>?_)))
  have O:=CE O [⟨.box,27,3,[[a4 0,.nils,.nils]]⟩] E
  have bY:=bS O I
  have U:([]:bs).length≠D.length:=by have:=cv (M:=D) I; omega
  have bv:bX[D.length]? = some (.live ⟨.box,27,3,[[a4 0,.nils,.nils]]⟩):=ji O 0 E
  refine kw (dW E E bv E E ⟨E,ble E⟩ E E) fun bZ aI=>?_
  have am:=a9 aI U bY
  have ah:bZ[D.length]? = some (.live ⟨.box,27,3,[[a4 0,.nils,.nils]]⟩):=bc aI bv
  refine be (Rn (hA ar (hA au (hV (.loc D.length 1 0 0) E (hN E hZ)))) fun dw b0 cQ cR bw=>sN<|sq<|av<|kx (bp bw)<|kx (gD E E)<|Rn (hA b0 (hA cQ (hA cR (hA bw (hN E hZ))))) fun dx cS an bx cU bz=>sN ?_)
  rcases aj h with ⟨ax,h⟩ | ⟨ax,h⟩
  ·refine cT bz ax (av<|kx (gg cy E (dz E))<|kx (bp cU)<|kw (dW an E am E E ⟨E,ble E⟩ E E) fun cX aJ=>?_)
   have cY:cX[([]:bs).length]? = some (.live ⟨.box,27,3,[[a4 0,.nils,.nils]]⟩):=bc aJ am
   have dy:=a9 aJ (Ne.symm U) ah
   refine be (Rn (hA an (hN E hZ)) fun dA cZ c0=>sN<|xx<|sR ?_)
   exact ct h (eC (ag:=true) (sz:=3) ⟨by kernel_rfl,by kernel_rfl,by kernel_rfl⟩ (cm cZ cY E E (ble E) E) (bB c0 bK)) E
  refine cF bz ax (xx<|sN<|av<|kx (cr cS E)<|kx (dQ bx ah E)<|kw (dW E E ah E E ⟨E,ble E⟩ E E) fun c1 aK=>?_)
  have aU:=a9 aK U am
  have aV:c1[D.length]? = some (.live ⟨.box,27,3,[[a4 G,.nils,.nils]]⟩):=bc aK ah
  refine Rn (hA an (hA bx hZ)) fun dB aW c2=>sN (av<|kx (cm c2 aV E E (ble E) E)<|kw (dW aW E aU E E ⟨E,ble E⟩ E E) fun c3 aL=>?_)
  have c4:c3[([]:bs).length]? = some (.live ⟨.box,27,3,[[a4 G,.nils,.nils]]⟩):=bc aL aU
  have dC:=a9 aL (Ne.symm U) aV
  refine be (Rn (hA aW (hV (a4 0) E hZ)) fun dD c5 c6=>sN<|xx ?_)
  exact ct h (eC (ag:=true) (sz:=3) ⟨by kernel_rfl,by kernel_rfl,by kernel_rfl⟩ (cm c5 c4 E E (ble E) E) (bB c6 bK)) E
 refine fc (cl (v:=.tup [.agg [a4 bu,.sl none (ae.map (cI .i64)),.sl none (af.map Tally.c)],a4 0]) E E (b3 E (b3 E E)) E (jr J bt _ aH) nm) (r3<|kf (eO E E)<|kf (eO E E) (Ev.nfpushE (lG cy) (Ev.fend1 fun c7 Y=>?_)))
 have Y:=CE Y [⟨.box,27,3,[[a4 0,.nils,.nils]]⟩] E
 have c8:=bS Y I
 have ay:([]:bs).length≠D.length:=by have:=cv (M:=D) I; omega
 have aX:c7[D.length]? = some (.live ⟨.box,27,3,[[a4 0,.nils,.nils]]⟩):=ji Y 0 E
 refine kw (dW E E aX E E ⟨E,ble E⟩ E E) fun c9 aM=>?_
 have da:=a9 aM ay c8
 have ao:c9[D.length]? = some (.live ⟨.box,27,3,[[a4 bu,.sl none (ae.map (cI .i64)),.sl none (af.map Tally.c)]]⟩):=bc aM aX
 refine be (Rn (hA ar (hA au (hV (.loc D.length 1 0 0) E (hV (a4 0) E hZ)))) fun dE db dc ch aY=>sN<|sq<|av<|kx (bp aY)<|kx (gD E E)<|Rn (hA db (hA dc (hA ch (hA aY (hV (.bool false) E hZ))))) fun dF ci cj aZ dG ck=>sN<|cF ck E<|xx<|sN<|av<|kx (cr ci E)<|kx (dQ aZ ao E)<|kw (dW E E ao E E ⟨E,ble E⟩ E E) fun cn aN=>?_)
 have a0:=a9 aN ay da
 have a1:cn[D.length]? = some (.live ⟨.box,27,3,[[a4 G,.sl none (ae.map (cI .i64)),.sl none (af.map Tally.c)]]⟩):=bc aN ao
 refine Rn (hA cj (hA aZ hZ)) fun dH a2 co=>sN (av<|kx (cm co a1 E E (ble E) E)<|kw (dW a2 E a0 E E ⟨E,ble E⟩ E E) fun cq aO=>?_)
 have cu:cq[([]:bs).length]? = some (.live ⟨.box,27,3,[[a4 G,.sl none (ae.map (cI .i64)),.sl none (af.map Tally.c)]]⟩):=bc aO a0
 have dI:=a9 aO (Ne.symm ay) a1
 refine be (Rn (hA a2 (hV (a4 0) E hZ)) fun dJ cw cx=>sN<|xx ?_)
 exact ct h (eC (ag:=true) (sz:=3) ⟨by kernel_rfl,by kernel_rfl,by kernel_rfl⟩ (cm cw cu E E (ble E) E) (bB cx bK)) E
abbrev jt:=Int×Int×(List Int)×(List Tally)×(List Book)
abbrev n6:=(Int×Int)⊕(Int×(List Int)×(List Tally)×(List Book))
def qP (G:List Deal) (D:Nat) (F:Nat) (s:jt) (e:b4) (M:bs):Prop:=a3 e 1 = .sl none (G.map Deal.c)/\a3 e 7 = .lsl D s.2.2.2.2.length 0 s.2.2.2.2.length/\a3 e 8 = .loc F 1 0 0/\a3 e 9 = a4 s.1/\M[F]? = some (.live ⟨.box,27,3,[[a4 s.2.1,.sl none (s.2.2.1.map (cI .i64)),.sl none (s.2.2.2.1.map Tally.c)]]⟩)/\M[D]? = some (.live ⟨.grow,27,3,s.2.2.2.2.map Book.c⟩)
def wy (G:List Deal) (D:Nat) (F:Nat) (r:n6) (x:Ex) (e:b4) (M:bs):Prop:=
  match r with
  | (.inl g)=>x = .ret/\a3 e 4 = .lit 27 (([]:List Book).map Book.c)/\a3 e 5 = a4 g.1/\a3 e 6 = a4 g.2
  | (.inr g)=>x = .ext 0/\a3 e 7 = .lsl D g.2.2.2.length 0 g.2.2.2.length/\M[F]? = some (.live ⟨.box,27,3,[[a4 g.1,.sl none (g.2.1.map (cI .i64)),.sl none (g.2.2.1.map Tally.c)]]⟩)/\M[D]? = some (.live ⟨.grow,27,3,g.2.2.2.map Book.c⟩)
noncomputable def dw (D:List Deal):jt->Option (jt⊕n6):=fun (J,O,Y,aa,ab)=>
 if (decide (J < (D.length:Int)))=true then
  (rd D J).bind fun G=>
  (bT (Book.mk O Y aa) G).bind fun r=>match r with
  | (.inl ah)=>
   if (ah != 0)=true then
    some (.inr (.inl (ah,J)))
   else
    none
  | (.inr (ac,ae,af))=>
   (qB 56 ab [(Book.mk ac ae af)]).bind fun F=>
   some (.inl ((IntKind.i64.wrap (J + 1)),ac,ae,af,F))
 else
  some (.inr (.inr (O,Y,aa,ab)))
theorem qF (I:List Deal) (D:Nat) (F:Nat) (ak:D≠F) (s:jt) (r:jt⊕n6) (h:dw I s=some r) (e:b4) (M:bs) (cc:qP I D F s e M):Ev (fun k=>(Jq (CN k) k (prune [1,7,8,9] e) M).bind fun q=>some q) (bQ (qP I D F) (wy I D F) r):=by
 obtain ⟨bo,aw,ax,ay,az⟩:=s
 unfold dw at h
 obtain ⟨bx,bz,bA,bB,G,J⟩:=cc
 generalize O:prune [1,7,8,9] e=dt
 have aM:=bZ O.symm E bx
 have bC:=bZ O.symm E bz
 have bD:=bZ O.symm E bA
 have aN:=bZ O.symm E bB
 refine sq (av<|kx (bp aN)<|kx (bp aM)<|kx (i2 Tryz.underlying28 E)<|kx (dp E E)<|Rn (hV (.sl none (I.map Deal.c)) aM (hV (.lsl D az.length 0 az.length) bC (hV (.loc F 1 0 0) bD (hV (a4 bo) aN (hN E hZ))))) fun ct Z aa N ab aO=>sN ?_)
 rcases aj h with ⟨am,h⟩ | ⟨am,h⟩
 ·obtain ⟨aP,bq,h⟩:=ad h
  obtain ⟨br,aA,h⟩:=ad h
  refine cT aO am (xx<|sN<|sq<|bl<|av<|kx (bp Z)<|kx (bp ab)<|kx (kJ E E bq Deal.fl) ?_)
  rcases br with cM | ⟨U,X,Y⟩
  ·refine kc (cl (v:=.tup [.agg [a4 0,.nils,.nils],a4 cM]) E E (b3 N (b3 E E)) (zV (kq G E E E ⟨E,blt E⟩) (zV E ER)) (ka (Book.mk aw ax ay) aP _ aA) (fun _=>(dL (hM (rP (hM E (hM E (hM E sL)))) (hM E sL))))) (be<|kx (eO E E)<|kx (eO E E) (ku (lG cy) fun bE an=>?_))
   have bF:=bS an J
   have bt:=b6 J
   have bG:=bS an G
   have aB:=b6 G
   have aQ:bE[M.length]? = some (.live ⟨.box,27,3,[[a4 0,.nils,.nils]]⟩):=b2 an
   refine kw (dW E E aQ E E ⟨E,ble E⟩ E E) fun bH ao=>?_
   have bI:=a9 ao bt bF
   have aR:=a9 ao aB bG
   have aS:bH[M.length]? = some (.live ⟨.box,27,3,[[a4 0,.nils,.nils]]⟩):=bc ao aQ
   refine be (Rn (hA Z (hA aa (hA N (hA ab (hV (.loc M.length 1 0 0) E (hN E hZ)))))) fun cv bJ bK bL bM bO aT=>sN<|sq<|av<|kx (bp aT)<|kx (gD E E)<|Rn (hA bJ (hA bK (hA bL (hA bM (hA bO (hA aT (hN E hZ))))))) fun cw ca cb aC aD bu bv aE=>sN ?_)
   rcases aj h with ⟨ac,h⟩ | ⟨ac,h⟩
   ·refine cT aE ac (av<|kx (kh E E ⟨E,by decide⟩)<|kx (bp bv)<|kx (bp aD)<|be<|be<|be<|Rn (hN E (hN E (hN E hZ))) fun cd aW aX aY=>sN<|xx<|sR<|bR<|sR ?_)
    exact lr h ⟨E,aW,aX,aY⟩
   refine cF aE ac (xx<|sN<|av<|kx (cm bu aS E E (ble E) E)<|kw (dW aC E aR E E ⟨E,ble E⟩ E E) fun aZ ae=>?_)
   have ce:=a9 ae ak bI
   have a0:aZ[F]? = some (.live ⟨.box,27,3,[[a4 0,.nils,.nils]]⟩):=bc ae aR
   have cf:=a9 ae (Ne.symm aB) aS
   refine Rn (hA ca (hA cb (hA aC (hA aD hZ)))) fun cg ch a1 a2 ci=>sN (Rg<|kx (bp a1)<|kx (cm a2 a0 E E (ble E) E) ?_)
   cases h
  refine kc (cl (v:=.tup [.agg [a4 U,.sl (some 2) (X.map (cI .i64)),.sl (some 80) (Y.map Tally.c)],a4 0]) E E (b3 N (b3 E E)) (zV (kq G E E E ⟨E,blt E⟩) (zV E ER)) (ka (Book.mk aw ax ay) aP _ aA) (fun _=>(dL (hM (rP (hM E (hM (iB (c:=(cI .i64)) (fun _=>E)) (hM (iB (c:=Tally.c) Tally.flF) sL)))) (hM E sL))))) (be<|kx (eO E E)<|kx (eO E E) (ku (lG cy) fun a3 af=>?_))
  have a5:=bS af J
  have bm:=b6 J
  have a6:=bS af G
  have ar:=b6 G
  have aF:a3[M.length]? = some (.live ⟨.box,27,3,[[a4 0,.nils,.nils]]⟩):=b2 af
  refine kw (dW E E aF E E ⟨E,ble E⟩ E E) fun a7 ah=>?_
  have a8:=a9 ah bm a5
  have aG:=a9 ah ar a6
  have aH:a7[M.length]? = some (.live ⟨.box,27,3,[[a4 U,.sl none (X.map (cI .i64)),.sl none (Y.map Tally.c)]]⟩):=bc ah aF
  refine be (Rn (hA Z (hA aa (hA N (hA ab (hV (.loc M.length 1 0 0) E (hV (a4 0) E hZ)))))) fun cj ba bb bd bf bg aI=>sN<|sq<|av<|kx (bp aI)<|kx (gD E E)<|Rn (hA ba (hA bb (hA bd (hA bf (hA bg (hA aI (hV (.bool false) E hZ))))))) fun ck bh bi aJ bj bk cn aU=>sN<|cF aU E<|xx<|sN<|av<|kx (cm bk aH E E (ble E) E)<|kw (dW aJ E aG E E ⟨E,ble E⟩ E E) fun aV ai=>?_)
  have aK:=a9 ai ak a8
  have aL:aV[F]? = some (.live ⟨.box,27,3,[[a4 U,.sl none (X.map (cI .i64)),.sl none (Y.map Tally.c)]]⟩):=bc ai aG
  have co:=a9 ai (Ne.symm ar) aH
  obtain ⟨ap,bn,h⟩:=ad h
  refine Rn (hA bh (hA bi (hA aJ (hA bj hZ)))) fun cp bP bT aq bU=>sN (Rg<|kx (bp bT)<|kx (cm aq aL E E (ble E) E)<|kx (kh (b3 E E) E ⟨E,by decide⟩)<|kw (Dp E aK E (DO (c:=Book.c) (xs:=[(Book.mk U X Y)]) E) bn Book.fl (by decide)) fun bV au=>?_)
  have bW:bV[D]? = some (.live ⟨.grow,27,3,ap.map Book.c⟩):=bc au aK
  have bX:=a9 au (Ne.symm ak) aL
  refine be (Rn (hA bP (hV (.lsl D ap.length 0 ap.length) E (hA aq (hA bU hZ)))) fun cq bY b0 b1 b5=>bN<|sN<|Rg<|kx (bp b5)<|kx (cu E E)<|be<|Rn (hA bY (hA b0 (hA b1 (hN E hZ)))) fun cr b7 b8 b9 bw=>?_)
  exact jd h ⟨b7,b8,b9,bw,bX,bW⟩
 refine cF aO am (xx<|sE ?_)
 exact md h ⟨E,aa,G,J⟩
noncomputable def hE (D:Book) (F:List Deal):Option ((List Book)×Int×Int):=
 (hC D).bind fun (aa,ab,ac)=>
 (Lw (dw F) (0,aa,ab,ac,([]:List Book))).bind fun r=>match r with
 | (.inl (J,O))=>
  some (([]:List Book),J,O)
 | (.inr (ae,af,ah,Y))=>
  some (Y,0,0)
def yu (r:(List Book)×Int×Int):AV:=.tup [.sl (some 27) (r.1.map Book.c),a4 r.2.1,a4 r.2.2]
theorem z6 (G:Book) (I:List Deal) (r:(List Book)×Int×Int) (h:hE G I=some r):Ev (fun k=>CN k 36 [.pt none [a4 G.Day,.sl none (G.Cash.map (cI .i64)),.sl none (G.Tallies.map Tally.c)],.sl none (I.map Deal.c)] []) (fun p=>cp p.2 p.1=yu r):=by
 unfold hE at h
 refine Ev.enter (F:=fun k=>f36 (CN k) k) (fun k=>bH E Tryz.func36 E E E (by decide +kernel) (L4 _ _)) (av<|be<|be<|be<|Rn (hN E (hN E hZ)) fun aZ aK aL=>sN<|av (ku (Ai (xs:=([]:List Book)) (c:=Book.c) E E (by decide)) fun D az=>?_))
 have am:D[([]:bs).length]? = some (.live ⟨.grow,27,3,([]:List Book).map Book.c⟩):=b2 az
 obtain ⟨⟨Z,aa,ab⟩,ay,h⟩:=ad h
 refine be (Rn (hA aK (hA aL (hV (.lsl ([]:bs).length ([]:List Book).length 0 ([]:List Book).length) E hZ))) fun a0 aA aB aC=>sN<|av<|kx (bp aA) (kc (cl (v:=.agg [a4 Z,.sl (some 2) (aa.map (cI .i64)),.sl (some 80) (ab.map Tally.c)]) E E (b3 E E) E (j9 G _ ay) nm) (ku (lG cy) fun aD U=>?_)))
 have aE:=bS U am
 have N:=b6 am
 have ac:aD[D.length]? = some (.live ⟨.box,27,3,[[a4 0,.nils,.nils]]⟩):=b2 U
 refine kw (dW E E ac E E ⟨E,ble E⟩ E E) fun aF X=>?_
 have ae:=a9 X N aE
 have af:aF[D.length]? = some (.live ⟨.box,27,3,[[a4 Z,.sl none (aa.map (cI .i64)),.sl none (ab.map Tally.c)]]⟩):=bc X ac
 obtain ⟨aJ,O,h⟩:=ad h
 refine Rn (hA aB (hA aC (hV (.loc D.length 1 0 0) E hZ))) fun aX aG aH aI=>sN (sq<|av<|be<|Rn (hA aG (hA aH (hA aI (hV (a4 0) E hZ)))) fun aY ah ai aj ak=>sN<|bl ?_)
 rcases aJ with ⟨aN,aO⟩ | ⟨aP,aQ,aM,Y⟩
 ·refine Ev.loop (qF I (([]:bs).length) D.length N) O ⟨ah,ai,aj,ak,af,ae⟩ fun x aR aS J=>?_
  obtain ⟨rfl,an,ao,ap⟩:=J
  refine bR (sR ?_)
  exact ct h (bB an (bB ao (bB ap bK))) E
 refine Ev.loop (qF I (([]:bs).length) D.length N) O ⟨ah,ai,aj,ak,af,ae⟩ fun x aT aU J=>?_
 obtain ⟨rfl,aq,aV,ar⟩:=J
 refine bE (sN<|av<|kx (bp aq)<|be<|be<|be<|Rn (hV (.lsl ([]:bs).length Y.length 0 Y.length) E (hV (a4 0) E (hV (a4 0) E hZ))) fun aW au aw ax=>sN<|xx ?_)
 exact ct h (bB au (bB aw (bB ax bK))) (jP (hD (eh ar E Book.fl) (hD E (hD E ru))))
def mi (D:List Deal) (g:Bool) (q:oZ):Prop:=q.1 = .nrm/\a3 q.2.1 1 = .sl none (D.map Deal.c)/\a3 q.2.1 12 = .bool g
noncomputable def l3 (G:Book) (D:List Deal):Option Int:=
 ((n9 G).bind fun I=>
 if I=true then
  (lM D).bind fun J=>
  some (!J)
 else
  some true).bind fun F=>
 if F=true then
  some 1
 else
  if (decide ((D.length:Int) > 80))=true then
   some 3
  else
   some 0
def w7 (r:Int):AV:=a4 r
theorem xG (I:Book) (G:List Deal) (r:Int) (h:l3 I G=some r):Ev (fun k=>CN k 35 [.pt none [a4 I.Day,.sl none (I.Cash.map (cI .i64)),.sl none (I.Tallies.map Tally.c)],.sl none (G.map Deal.c)] []) (fun p=>cp p.2 p.1=w7 r):=by
 unfold l3 at h
 obtain ⟨X,J,h⟩:=ad h
 refine Ev.enter (F:=fun k=>f35 (CN k) k) (fun k=>bH E Tryz.func35 E E E (by decide +kernel) (LE _ _)) (av<|be<|Rn (hN E (hN E hZ)) fun aE ap U=>sN<|sq<|sq ?_)
 refine Ev.cut (Q1:=mi G X) (by
     have h:=J
     obtain ⟨aq,ab,h⟩:=ad h
     refine Rg (kx (bp ap) (kc (cl (v:=.bool aq) E E (b3 E E) E (vd I _ ab) nm)<|kx (eZ E)<|kx (bp E) ?_))
     rcases aj h with ⟨D,h⟩ | ⟨D,h⟩
     ·obtain ⟨ar,ac,h⟩:=ad h
      refine kx (guF E (nt D) (bp U)) (kc (Ev.guF E (nt D) (cl (v:=.bool ar) E E (b3 E E) E (x8 G _ ac) nm))<|kx (guF E (nt D) (eZ E))<|kx (cU E (nt D) E)<|Rn (hA U (hN E hZ)) fun au ae af=>?_)
      obtain rfl:=si h
      exact kd (show mi G _ _ from ⟨E,ae,af⟩)
     refine kx (gsF E (nt D)) (kc (Ev.gsF E (nt D))<|kx (gsF E (nt D))<|kx (cC E (nt D) E)<|Rn (hA U (hV (.bool true) E hZ)) fun aw ah ai=>?_)
     obtain rfl:=si h
     exact kd (show mi G _ _ from ⟨E,ah,ai⟩)) ?_
 revert h J
 revert X
 intro ax J h
 intro x ay az aa
 obtain ⟨rfl,ak,Y⟩:=aa
 refine sN ?_
 rcases aj h with ⟨N,h⟩ | ⟨N,h⟩
 ·refine cT Y N (av<|be<|Rn (hV (a4 1) E hZ) fun aA am=>sN<|xx<|sR ?_)
  exact ct h (bB am bK) E
 refine cF Y N (xx<|sN<|sq<|av<|kx (bp ak)<|kx (i2 Tryz.underlying28 E)<|kx (fB E E)<|Rn (hN E hZ) fun aB Z=>sN ?_)
 rcases aj h with ⟨O,h⟩ | ⟨O,h⟩
 ·refine cT Z O (av<|be<|Rn (hV (a4 3) E hZ) fun aC an=>sN<|xx<|sR ?_)
  exact ct h (bB an bK) E
 refine cF Z O (xx<|sN<|av<|be<|Rn (hV (a4 0) E hZ) fun aD ao=>sN<|xx ?_)
 exact ct h (bB ao bK) E
def lA (D:List Deal) (g:Bool) (q:oZ):Prop:=q.1 = .nrm/\a3 q.2.1 1 = .sl none (D.map Deal.c)/\a3 q.2.1 5 = .bool g
noncomputable def jE (G:Book) (D:List Deal):Option Int:=
 ((ia G).bind fun I=>
 if I=true then
  (l7 D).bind fun J=>
  some (!J)
 else
  some true).bind fun F=>
 if F=true then
  some 1
 else
  if (decide ((D.length:Int) > 80))=true then
   some 3
  else
   some 0
def vK (r:Int):AV:=a4 r
theorem qH (I:Book) (G:List Deal) (r:Int) (h:jE I G=some r):Ev (fun k=>CN k 33 [.agg [a4 I.Day,.sl none (I.Cash.map (cI .i64)),.sl none (I.Tallies.map Tally.c)],.sl none (G.map Deal.c)] []) (fun p=>cp p.2 p.1=vK r):=by
 unfold jE at h
 obtain ⟨X,J,h⟩:=ad h
 refine Ev.enter (F:=fun k=>f33 (CN k) k) (fun k=>bH E Tryz.func33 E E E (by decide +kernel) (Ma _ _)) (av<|kx (ps E E ⟨E,E,by decide⟩)<|be<|Rn (hN E (hN E hZ)) fun aE U ap=>sN<|sq<|bl<|sq ?_)
 refine Ev.cut (Q1:=lA G X) (by
     have h:=J
     obtain ⟨aq,ab,h⟩:=ad h
     refine Rg (kx (eE ap E E) (kc (cl (v:=.bool aq) E E (b3 E E) E (mV I _ ab) nm)<|kx (eZ E)<|kx (bp E) ?_))
     rcases aj h with ⟨D,h⟩ | ⟨D,h⟩
     ·obtain ⟨ar,ac,h⟩:=ad h
      refine kx (guF E (nt D) (bp U)) (kc (Ev.guF E (nt D) (cl (v:=.bool ar) E E (b3 E E) E (xD G _ ac) nm))<|kx (guF E (nt D) (eZ E))<|kx (cU E (nt D) E)<|be<|Rn (hA U (hN E hZ)) fun au ae af=>?_)
      obtain rfl:=si h
      exact kd (show lA G _ _ from ⟨E,ae,af⟩)
     refine kx (gsF E (nt D)) (kc (Ev.gsF E (nt D))<|kx (gsF E (nt D))<|kx (cC E (nt D) E)<|be<|Rn (hA U (hV (.bool true) E hZ)) fun aw ah ai=>?_)
     obtain rfl:=si h
     exact kd (show lA G _ _ from ⟨E,ah,ai⟩)) ?_
 revert h J
 revert X
 intro ax J h
 intro x ay az aa
 obtain ⟨rfl,ak,Y⟩:=aa
 refine sN ?_
 rcases aj h with ⟨N,h⟩ | ⟨N,h⟩
 ·refine cT Y N (av<|be<|Rn (hV (a4 1) E hZ) fun aA am=>sN<|xx<|bR<|sR ?_)
  exact ct h (bB am bK) E
 refine cF Y N (av<|kx (bp ak)<|kx (i2 Tryz.underlying28 E)<|kx (fB E E)<|be<|Rn (hN E hZ) fun aB Z=>sN ?_)
 rcases aj h with ⟨O,h⟩ | ⟨O,h⟩
 ·refine cT Z O (av<|be<|Rn (hV (a4 3) E hZ) fun aC an=>sN<|xx<|bR<|sR ?_)
  exact ct h (bB an bK) E
 refine cF Z O (xx<|bN<|sN<|av<|be<|Rn (hV (a4 0) E hZ) fun aD ao=>sN<|xx ?_)
 exact ct h (bB ao bK) E
noncomputable def ic (D:Ar 6 Int):Option (Int×Int):=
 (lR D).bind fun G=>
 if G=true then
  (kV D).bind fun F=>
  some (F,0)
 else
  some (0,1)
def sw (r:Int×Int):AV:=.tup [a4 r.1,a4 r.2]
theorem tf (D:Ar 6 Int) (r:Int×Int) (h:ic D=some r):Ev (fun k=>CN k 27 [.agg (bY (cI .i16) 0 D)] []) (fun p=>cp p.2 p.1=sw r):=by
 unfold ic at h
 obtain ⟨ac,O,h⟩:=ad h
 refine Ev.enter (F:=fun k=>f27 (CN k) k) (fun k=>bH E Tryz.func27 E E E (by decide +kernel) (Mx _ _)) (av<|kx (ps E E ⟨E,E,by decide⟩)<|be<|be<|Rn (hN E hZ) fun ah I=>sN<|sq<|av<|kx (eE I E E) (kc (cl (v:=.bool ac) E E (b3 E E) E (xp D _ O) nm)<|kx (eZ E)<|Rn (hA I (hN E hZ)) fun ai ab J=>sN ?_))
 rcases aj h with ⟨G,h⟩ | ⟨G,h⟩
 ·obtain ⟨U,N,h⟩:=ad h
  refine cF J (nt G) (xx<|sN<|av<|kx (eE ab E E) (kc (cl (v:=a4 U) E E (b3 E E) E (wA D _ N) nm)<|be<|be<|Rn (hN E (hV (a4 0) E hZ)) fun ae X Y=>sN<|xx ?_))
  exact ct h (bB X (bB Y bK)) E
 refine cT J (nt G) (av<|be<|be<|Rn (hV (a4 0) E (hV (a4 1) E hZ)) fun af Z aa=>sN<|xx<|sR ?_)
 exact ct h (bB Z (bB aa bK)) E
noncomputable def lI (D:Half):Option (Int×Int):=
 (mg D).bind fun G=>
 if G=true then
  (oy D.Notches).bind fun F=>
  some (F,0)
 else
  some (0,1)
def wZ (r:Int×Int):AV:=.tup [a4 r.1,a4 r.2]
theorem xM (D:Half) (r:Int×Int) (h:lI D=some r):Ev (fun k=>CN k 26 [.agg (.bool D.Stock::(.sl none (D.Notches.map Notch.c)::((bY (cI .i8) 0 D.Grain)++([]:List AV))))] []) (fun p=>cp p.2 p.1=wZ r):=by
 unfold lI at h
 obtain ⟨ac,O,h⟩:=ad h
 refine Ev.enter (F:=fun k=>f26 (CN k) k) (fun k=>bH E Tryz.func26 E E E (by decide +kernel) (LY _ _)) (av<|kx (ps E E ⟨E,E,by decide⟩)<|be<|be<|Rn (hN E hZ) fun ah I=>sN<|sq<|av (kc (cl (v:=.bool ac) E E (b3 I E) E (qV D _ O) nm)<|kx (eZ E)<|Rn (hA I (hN E hZ)) fun ai ab J=>sN ?_))
 rcases aj h with ⟨G,h⟩ | ⟨G,h⟩
 ·obtain ⟨U,N,h⟩:=ad h
  refine cF J (nt G) (xx<|sN<|av<|kx (cW ab ⟨ble E,blt E⟩ E)<|kx (cr E E) (kc (cl (v:=a4 U) E E (b3 E E) E (zA D.Notches _ N) nm)<|be<|be<|Rn (hN E (hV (a4 0) E hZ)) fun ae X Y=>sN<|xx ?_))
  exact ct h (bB X (bB Y bK)) E
 refine cT J (nt G) (av<|be<|be<|Rn (hV (a4 0) E (hV (a4 1) E hZ)) fun af Z aa=>sN<|xx<|sR ?_)
 exact ct h (bB Z (bB aa bK)) E
noncomputable def ro (D:Half) (F:Half) (G:Int):Option (Bool×Int):=
 (pl D F G).bind fun I=>
 if (I != 0)=true then
  some (false,I)
 else
  (gX D.Notches F.Notches).bind fun J=>
  if J=true then
   (iI D.Grain F.Grain G).bind fun N=>
   some (N,0)
  else
   some (false,0)
def Ak (r:Bool×Int):AV:=.tup [.bool r.1,a4 r.2]
theorem Bj (G:Half) (I:Half) (J:Int) (r:Bool×Int) (h:ro G I J=some r):Ev (fun k=>CN k 25 [.agg (.bool G.Stock::(.sl none (G.Notches.map Notch.c)::((bY (cI .i8) 0 G.Grain)++([]:List AV)))),.agg (.bool I.Stock::(.sl none (I.Notches.map Notch.c)::((bY (cI .i8) 0 I.Grain)++([]:List AV)))),a4 J] []) (fun p=>cp p.2 p.1=Ak r):=by
 unfold ro at h
 obtain ⟨az,am,h⟩:=ad h
 refine Ev.enter (F:=fun k=>f25 (CN k) k) (fun k=>bH E Tryz.func25 E E E (by decide +kernel) (Mc _ _)) (av<|kx (ps E E ⟨E,E,by decide⟩)<|kx (ps E E ⟨E,E,by decide⟩)<|be<|be<|Rn (hN E (hN E (hN E hZ))) fun aE Z aa ab=>sN<|sq<|av<|kx (bp Z) (kc (cl (v:=a4 az) E E (b3 aa (b3 ab (b3 E E))) E (yL G I J _ am) nm)<|be<|Rn (hA Z (hA aa (hA ab (hN E hZ)))) fun aF an ao ap O=>sN<|av<|kx (bp O)<|kx (gD E E)<|Rn (hA an (hA ao (hA ap (hA O (hN E hZ))))) fun aA aq U X ar Y=>sN ?_))
 rcases aj h with ⟨N,h⟩ | ⟨N,h⟩
 ·refine cT Y N (av<|kx (bp ar)<|be<|be<|Rn (hV (.bool false) E (hN E hZ)) fun aB au aw=>sN<|xx<|sR ?_)
  exact ct h (bB au (bB aw bK)) E
 obtain ⟨ax,ai,h⟩:=ad h
 refine cF Y N (xx<|sN<|av<|kx (cW U ⟨ble E,blt E⟩ E)<|kx (cr E E)<|kx (cW X ⟨ble E,blt E⟩ E)<|kx (cr E E) (kc (cl (v:=.bool ax) E E (b3 E (b3 E E)) E (sj G.Notches I.Notches _ ai) nm)<|kx (bp E) ?_))
 rcases aj h with ⟨D,h⟩ | ⟨D,h⟩
 ·obtain ⟨ay,ak,h⟩:=ad h
  refine kx (guT E D (cW U ⟨ble E,blt E⟩ E)) (kx (guT E D (eE E E E))<|kx (guT E D (cW X ⟨ble E,blt E⟩ E))<|kx (guT E D (eE E E E))<|kx (guT E D (bp aq)) (kc (Ev.guT E D (cl (v:=.bool ay) E E (b3 E (b3 E (b3 E E))) E (tM G.Grain I.Grain J _ ak) nm))<|kx (cC E D E)<|be<|be<|Rn (hN E (hV (a4 0) E hZ)) fun aC ac ae=>sN<|xx ?_))
  exact ct h (bB ac (bB ae bK)) E
 refine kx (gsT E D) (kx (gsT E D)<|kx (gsT E D)<|kx (gsT E D)<|kx (gsT E D) (kc (Ev.gsT E D)<|kx (cU E D E)<|be<|be<|Rn (hV (.bool false) E (hV (a4 0) E hZ)) fun aD af ah=>sN<|xx ?_))
 exact ct h (bB af (bB ah bK)) E
noncomputable def ik (D:Ar 6 Int):Option (Int×Int):=
 (j2 D).bind fun I=>
 if I=true then
  (kX D).bind fun F=>
  (gT F).bind fun G=>
  some (G,0)
 else
  some (0,1)
def sD (r:Int×Int):AV:=.tup [a4 r.1,a4 r.2]
theorem s7 (D:Ar 6 Int) (r:Int×Int) (h:ik D=some r):Ev (fun k=>CN k 24 [.agg (bY (cI .i16) 0 D)] []) (fun p=>cp p.2 p.1=sD r):=by
 unfold ik at h
 obtain ⟨af,X,h⟩:=ad h
 refine Ev.enter (F:=fun k=>f24 (CN k) k) (fun k=>bH E Tryz.func24 E E E (by decide +kernel) (Ny _ _)) (av<|kx (ps E E ⟨E,E,by decide⟩)<|be<|be<|Rn (hN E hZ) fun ak J=>sN<|sq<|av<|kx (eE J E E) (kc (cl (v:=.bool af) E E (b3 E E) E (vl D _ X) nm)<|kx (eZ E)<|Rn (hA J (hN E hZ)) fun am ae N=>sN ?_))
 rcases aj h with ⟨G,h⟩ | ⟨G,h⟩
 ·obtain ⟨I,O,h⟩:=ad h
  obtain ⟨Y,U,h⟩:=ad h
  refine cF N (nt G) (xx<|sN<|av<|kx (eE ae E E) (kc (cl (v:=.agg (bY (cI .i64) 0 I)) E E (b3 E E) E (wc D _ O) nm) (kc (cl (v:=a4 Y) E E (b3 E E) E (su I _ U) nm)<|be<|be<|Rn (hN E (hV (a4 0) E hZ)) fun ah Z aa=>sN<|xx ?_)))
  exact ct h (bB Z (bB aa bK)) E
 refine cT N (nt G) (av<|be<|be<|Rn (hV (a4 0) E (hV (a4 1) E hZ)) fun ai ab ac=>sN<|xx<|sR ?_)
 exact ct h (bB ab (bB ac bK)) E
abbrev hY:=Int×Int×(Ar 6 Int)
abbrev mj:=(Ar 6 Int)
def o9 (D:Nat) (F:Nat) (s:hY) (e:b4) (M:bs):Prop:=a3 e 0 = a4 s.1/\a3 e 2 = .loc D 1 0 0/\a3 e 4 = .loc F 1 0 0/\a3 e 5 = a4 s.2.1/\M[D]? = some (.live ⟨.box,60,6,[(bY (cI .i16) 0 (Ar.rep 6 0))]⟩)/\M[F]? = some (.live ⟨.box,118,6,[(bY (cI .i64) 0 s.2.2)]⟩)
def uM (D:Nat) (F:Nat) (g:mj) (x:Ex) (e:b4) (M:bs):Prop:=x = .ext 0/\a3 e 2 = .loc D 1 0 0/\a3 e 4 = .loc F 1 0 0/\M[D]? = some (.live ⟨.box,60,6,[(bY (cI .i16) 0 (Ar.rep 6 0))]⟩)/\M[F]? = some (.live ⟨.box,118,6,[(bY (cI .i64) 0 g)]⟩)
noncomputable def fX:hY->Option (hY⊕mj):=fun (Y,J,O)=>
 if (decide (J>=0))=true then
  (fk J).bind fun D=>
  (quo .i64 Y D).bind fun F=>
  (jF O J).bind fun N=>
  (fk J).bind fun G=>
  (rem .i64 Y G).bind fun I=>
  some (.inl (I,(IntKind.i64.wrap (J - 1)),(O.set J.toNat F)))
 else
  some (.inr O)
theorem u4 (F:Nat) (D:Nat) (am:F≠D) (s:hY) (r:hY⊕mj) (h:fX s=some r) (e:b4) (M:bs) (aR:o9 F D s e M):Ev (fun k=>(G3 (CN k) k (prune [0,2,4,5] e) M).bind fun q=>some q) (bQ (o9 F D) (uM F D) r):=by
 obtain ⟨an,G,X⟩:=s
 unfold fX at h
 obtain ⟨ax,ay,az,aA,aa,J⟩:=aR
 generalize I:prune [0,2,4,5] e=bj
 have aB:=bZ I.symm E ax
 have aC:=bZ I.symm E ay
 have aD:=bZ I.symm E az
 have ab:=bZ I.symm E aA
 refine sq (av<|kx (bp ab)<|kx (q5 E E)<|Rn (hV (a4 an) aB (hV (.loc F 1 0 0) aC (hV (.loc D 1 0 0) aD (hV (a4 G) ab (hN E hZ))))) fun aS ac ae O U af=>sN ?_)
 rcases aj h with ⟨N,h⟩ | ⟨N,h⟩
 ·obtain ⟨aE,ao,h⟩:=ad h
  obtain ⟨ah,ap,h⟩:=ad h
  obtain ⟨aT,Y,h⟩:=ad h
  refine cT af N (xx<|sN<|sq<|bl<|av<|kx (bp U)<|kx (bp ac)<|kx (bp U) (kc (cl (v:=a4 aE) E E (b3 E E) E (ke G _ ao) nm)<|kx (Oi E E ap)<|kx (l9 O J E E Y)<|kw (F0 (c:=(cI .i64)) (z:=0) (g:=X) (pre:=[]) (post:=[]) (u':=ah) E E J E E E E (fun _=>E) E E Y) fun aF Z=>?_))
  have aG:=a9 Z am aa
  have aH:aF[D]? = some (.live ⟨.box,118,6,[(bY (cI .i64) 0 (X.set G.toNat ah))]⟩):=bc Z J
  obtain ⟨aI,aq,h⟩:=ad h
  obtain ⟨aU,ar,h⟩:=ad h
  refine Rn (hA ac (hA ae (hA O (hA U hZ)))) fun aV aJ aK ak ai=>sN (Rg<|kx (bp aJ)<|kx (bp ai) (kc (cl (v:=a4 aI) E E (b3 E E) E (ke G _ aq) nm)<|kx (Bx E E ar)<|be<|Rn (hN E (hA aK (hA ak (hA ai hZ)))) fun aW aL aM aN aO=>bN<|sN<|Rg<|kx (bp aO)<|kx (lD E E)<|be<|Rn (hA aL (hA aM (hA aN (hN E hZ)))) fun aX aP aQ au aw=>?_))
  exact jd h ⟨aP,aQ,au,aw,aG,aH⟩
 refine cF af N (xx<|sE ?_)
 exact md h ⟨E,ae,O,aa,J⟩
noncomputable def lY (D:Int):Option ((Ar 6 Int)×Int):=
 (gc D).bind fun G=>
 if G=true then
  (Lw (fX) (D,5,(Ar.rep 6 0))).bind fun F=>
  (hX F).bind fun (O,Y)=>
  some (O,Y)
 else
  some ((Ar.rep 6 0),2)
def wm (r:(Ar 6 Int)×Int):AV:=.tup [.agg (bY (cI .i16) 0 r.1),a4 r.2]
theorem xt (O:Int) (r:(Ar 6 Int)×Int) (h:lY O=some r):Ev (fun k=>CN k 23 [a4 O] []) (fun p=>cp p.2 p.1=wm r):=by
 unfold lY at h
 refine Ev.enter (F:=fun k=>f23 (CN k) k) (fun k=>bH E Tryz.func23 E E E (by decide +kernel) (MA _ _)) (av (ku (lG vv) fun D az=>?_))
 have G:D[([]:bs).length]? = some (.live ⟨.box,60,6,[(bY (cI .i16) 0 (Ar.rep 6 0))]⟩):=b2 az
 obtain ⟨aA,aB,h⟩:=ad h
 refine be (Rn (hN E (hV (.loc ([]:bs).length 1 0 0) E hZ)) fun a1 ai aS=>sN<|sq<|av<|kx (bp ai) (kc (cl (v:=.bool aA) E E (b3 E E) E (oe O _ aB) nm)<|kx (eZ E)<|Rn (hA ai (hA aS (hN E hZ))) fun aY aC U af=>sN ?_))
 rcases aj h with ⟨I,h⟩ | ⟨I,h⟩
 ·refine cF af (nt I) (xx<|sN<|av<|kx (gg wr E (dz E)) (ku (lG wr) fun aD Y=>?_))
  have aE:=bS Y G
  have J:=b6 G
  have ah:aD[D.length]? = some (.live ⟨.box,118,6,[(bY (cI .i64) 0 (Ar.rep 6 0))]⟩):=b2 Y
  refine kw (dW E E ah E E ⟨E,ble E⟩ E E) fun aF Z=>?_
  have aG:=a9 Z J aE
  have aH:aF[D.length]? = some (.live ⟨.box,118,6,[(bY (cI .i64) 0 (Ar.rep 6 0))]⟩):=bc Z ah
  obtain ⟨aa,aM,h⟩:=ad h
  refine Rn (hA aC (hA U (hV (.loc D.length 1 0 0) E hZ))) fun aZ aI aJ aK=>sN (sq<|av<|be<|Rn (hA aI (hA aJ (hA aK (hV (a4 5) E hZ)))) fun a0 aL ak aQ aR=>sN<|bl (Ev.loop (u4 (([]:bs).length) D.length J) aM ⟨aL,ak,aQ,aR,aG,aH⟩ fun x aT aU aN=>?_))
  obtain ⟨rfl,ab,aP,ac,ae⟩:=aN
  obtain ⟨⟨N,am⟩,au,h⟩:=ad h
  refine bE (sN<|av<|kx (cm (cs':=(bY (cI .i64) 0 aa)) aP ae E E (ble E) E) (kc (cl (v:=.tup [.agg (bY (cI .i16) 0 N),a4 am]) E E (b3 E E) E (tw aa _ au) nm)<|kx (eO E E)<|kx (eO E E)<|kw (dW ab E ac E E ⟨E,ble E⟩ E E) fun an X=>?_))
  have ao:an[([]:bs).length]? = some (.live ⟨.box,60,6,[(bY (cI .i16) 0 N)]⟩):=bc X ac
  have aV:=a9 X (Ne.symm J) ae
  refine be (Rn (hV (.loc ([]:bs).length 1 0 0) ab (hN E hZ)) fun aW ap aq=>sN<|xx ?_)
  exact ct h (eC (ag:=true) (sz:=6) ⟨by kernel_rfl,by kernel_rfl,by kernel_rfl⟩ (cm (cs':=(bY (cI .i16) 0 N)) ap ao E E (ble E) E) (bB aq bK)) E
 refine cT af (nt I) (av<|kx (gg vv E (dz E))<|kw (dW U E G E E ⟨E,ble E⟩ E E) fun ar aO=>?_)
 have aw:ar[([]:bs).length]? = some (.live ⟨.box,60,6,[(bY (cI .i16) 0 (Ar.rep 6 0))]⟩):=bc aO G
 refine be (Rn (hA U (hV (a4 2) E hZ)) fun aX ax ay=>sN<|xx<|sR ?_)
 exact ct h (eC (ag:=true) (sz:=6) ⟨by kernel_rfl,by kernel_rfl,by kernel_rfl⟩ (cm (cs':=(bY (cI .i16) 0 (Ar.rep 6 0))) ax aw E E (ble E) E) (bB ay bK)) E
noncomputable def lZ (D:Half):Option (Int×Int):=
 (gp D).bind fun G=>
 if G=true then
  (l4 D).bind fun F=>
  some (F,0)
 else
  some (0,1)
def wW (r:Int×Int):AV:=.tup [a4 r.1,a4 r.2]
theorem xq (D:Half) (r:Int×Int) (h:lZ D=some r):Ev (fun k=>CN k 22 [.agg (.bool D.Stock::(.sl none (D.Notches.map Notch.c)::((bY (cI .i8) 0 D.Grain)++([]:List AV))))] []) (fun p=>cp p.2 p.1=wW r):=by
 unfold lZ at h
 obtain ⟨ac,O,h⟩:=ad h
 refine Ev.enter (F:=fun k=>f22 (CN k) k) (fun k=>bH E Tryz.func22 E E E (by decide +kernel) (MF _ _)) (av<|kx (ps E E ⟨E,E,by decide⟩)<|be<|be<|Rn (hN E hZ) fun ah I=>sN<|sq<|av<|kx (eE I E E) (kc (cl (v:=.bool ac) E E (b3 E E) E (kt D _ O) nm)<|kx (eZ E)<|Rn (hA I (hN E hZ)) fun ai ab J=>sN ?_))
 rcases aj h with ⟨G,h⟩ | ⟨G,h⟩
 ·obtain ⟨U,N,h⟩:=ad h
  refine cF J (nt G) (xx<|sN<|av<|kx (eE ab E E) (kc (cl (v:=a4 U) E E (b3 E E) E (xu D _ N) nm)<|be<|be<|Rn (hN E (hV (a4 0) E hZ)) fun ae X Y=>sN<|xx ?_))
  exact ct h (bB X (bB Y bK)) E
 refine cT J (nt G) (av<|be<|be<|Rn (hV (a4 0) E (hV (a4 1) E hZ)) fun af Z aa=>sN<|xx<|sR ?_)
 exact ct h (bB Z (bB aa bK)) E
def qi (D:Half) (F:Half) (G:Int) (g:Bool) (q:oZ):Prop:=q.1 = .nrm/\a3 q.2.1 2 = a4 G/\a3 q.2.1 3 = .pt none (.bool D.Stock::(.sl none (D.Notches.map Notch.c)::((bY (cI .i8) 0 D.Grain)++([]:List AV))))/\a3 q.2.1 4 = .pt none (.bool F.Stock::(.sl none (F.Notches.map Notch.c)::((bY (cI .i8) 0 F.Grain)++([]:List AV))))/\a3 q.2.1 8 = .bool g
noncomputable def rJ (D:Half) (F:Half) (G:Int):Option (Bool×Int):=
 ((gp D).bind fun U=>
 if U=true then
  (gp F).bind fun I=>
  some (!I)
 else
  some true).bind fun J=>
 if J=true then
  some (false,1)
 else
  (qy G).bind fun N=>
  if N=true then
   if D.Stock=true then
    if F.Stock=true then
     some (false,4)
    else
     (uA D F G).bind fun O=>
     some (O,0)
   else
    some (false,4)
  else
   some (false,2)
def Aq (r:Bool×Int):AV:=.tup [.bool r.1,a4 r.2]
theorem BW (D:Half) (G:Half) (J:Int) (r:Bool×Int) (h:rJ D G J=some r):Ev (fun k=>CN k 21 [.agg (.bool D.Stock::(.sl none (D.Notches.map Notch.c)::((bY (cI .i8) 0 D.Grain)++([]:List AV)))),.agg (.bool G.Stock::(.sl none (G.Notches.map Notch.c)::((bY (cI .i8) 0 G.Grain)++([]:List AV)))),a4 J] []) (fun p=>cp p.2 p.1=Aq r):=by
 unfold rJ at h
 obtain ⟨ae,O,h⟩:=ad h
 refine Ev.enter (F:=fun k=>f21 (CN k) k) (fun k=>bH E Tryz.func21 E E E (by decide +kernel) (MI _ _)) (av<|kx (ps E E ⟨E,E,by decide⟩)<|kx (ps E E ⟨E,E,by decide⟩)<|be<|be<|Rn (hN E (hN E (hN E hZ))) fun bg an ab ac=>sN<|sq<|bl<|sq ?_)
 refine Ev.cut (Q1:=qi D G J ae) (by
     have h:=O
     obtain ⟨aX,aR,h⟩:=ad h
     refine Rg (kx (eE ab E E) (kc (cl (v:=.bool aX) E E (b3 E E) E (kt D _ aR) nm)<|kx (eZ E)<|kx (bp E) ?_))
     rcases aj h with ⟨I,h⟩ | ⟨I,h⟩
     ·obtain ⟨ap,aq,h⟩:=ad h
      refine kx (guF E (nt I) (eE ac E E)) (kc (Ev.guF E (nt I) (cl (v:=.bool ap) E E (b3 E E) E (kt G _ aq) nm))<|kx (guF E (nt I) (eZ E))<|kx (cU E (nt I) E)<|be<|Rn (hA an (hA ab (hA ac (hN E hZ)))) fun a3 ar au aw ax=>?_)
      obtain rfl:=si h
      exact kd (show qi D G J _ _ from ⟨E,ar,au,aw,ax⟩)
     refine kx (gsF E (nt I)) (kc (Ev.gsF E (nt I))<|kx (gsF E (nt I))<|kx (cC E (nt I) E)<|be<|Rn (hA an (hA ab (hA ac (hV (.bool true) E hZ)))) fun a5 ay az aA aB=>?_)
     obtain rfl:=si h
     exact kd (show qi D G J _ _ from ⟨E,ay,az,aA,aB⟩)) ?_
 revert h O
 revert ae
 intro a6 O h
 intro x a7 a8 aO
 obtain ⟨rfl,af,aC,aD,ah⟩:=aO
 refine sN ?_
 rcases aj h with ⟨U,h⟩ | ⟨U,h⟩
 ·refine cT ah U (av<|be<|be<|Rn (hV (.bool false) E (hV (a4 1) E hZ)) fun a9 aE aF=>sN<|xx<|bR<|sR ?_)
  exact ct h (bB aE (bB aF bK)) E
 obtain ⟨aG,aP,h⟩:=ad h
 refine cF ah U (av<|kx (bp af) (kc (cl (v:=.bool aG) E E (b3 E E) E (zw J _ aP) nm)<|kx (eZ E)<|be<|Rn (hV (a4 J) af (hV (.pt none (.bool D.Stock::(.sl none (D.Notches.map Notch.c)::((bY (cI .i8) 0 D.Grain)++([]:List AV))))) aC (hV (.pt none (.bool G.Stock::(.sl none (G.Notches.map Notch.c)::((bY (cI .i8) 0 G.Grain)++([]:List AV))))) aD (hN E hZ)))) fun ba ai Z aa ak=>sN ?_))
 rcases aj h with ⟨X,h⟩ | ⟨X,h⟩
 ·refine cF ak (nt X) (av<|kx (cW Z ⟨ble E,blt E⟩ E)<|kx (cr E E)<|kx (eZ E)<|kx (bp E) ?_)
  rcases aj h with ⟨N,h⟩ | ⟨N,h⟩
  ·refine kx (guF E (nt N) (cW aa ⟨ble E,blt E⟩ E)) (kx (guF E (nt N) (cr E E))<|kx (cU E (nt N) E)<|be<|Rn (hA ai (hA Z (hA aa (hN E hZ)))) fun bb aH aI aJ am=>sN ?_)
   rcases aj h with ⟨Y,h⟩ | ⟨Y,h⟩
   ·refine cT am Y (av<|be<|be<|Rn (hV (.bool false) E (hV (a4 4) E hZ)) fun bc aK aL=>sN<|xx<|bR<|sR ?_)
    exact ct h (bB aK (bB aL bK)) E
   obtain ⟨aM,aQ,h⟩:=ad h
   refine cF am Y (xx<|bN<|sN<|av<|kx (eE aI E E)<|kx (eE aJ E E)<|kx (bp aH) (kc (cl (v:=.bool aM) E E (b3 E (b3 E (b3 E E))) E (BE D G J _ aQ) nm)<|be<|be<|Rn (hN E (hV (a4 0) E hZ)) fun bd aN ao=>sN<|xx ?_))
   exact ct h (bB aN (bB ao bK)) E
  refine kx (gsF E (nt N)) (kx (gsF E (nt N))<|kx (cC E (nt N) E)<|be<|Rn (hA ai (hA Z (hA aa (hV (.bool true) E hZ)))) fun bf aY aZ a0 aS=>sN<|cT aS E<|av<|be<|be<|Rn (hV (.bool false) E (hV (a4 4) E hZ)) fun a1 aT aU=>sN<|xx<|bR<|sR ?_)
  exact ct h (bB aT (bB aU bK)) E
 refine cT ak (nt X) (av<|be<|be<|Rn (hV (.bool false) E (hV (a4 2) E hZ)) fun a2 aV aW=>sN<|xx<|bR<|sR ?_)
 exact ct h (bB aV (bB aW bK)) E
noncomputable def lh (D:List Int):Option L00Src:=
 some (L00Src.mk D 0 0)
def zp (D:List Int) (M0:bs) (r:L00Src) (p:AV×bs):Prop:=p.1 = .loc M0.length 1 0 0/\p.2[M0.length]? = some (.live ⟨.box,138,3,[[.sl none (r.Code.map (cI .u8)),a4 r.At,.int .u64 r.Seed]]⟩)/\Fr [] M0 p.2
theorem oW (D:List Int) (M0:bs) (r:L00Src) (h:lh D=some r):Ev (fun k=>CN k 32 [.sl none (D.map (cI .u8))] M0) (zp D M0 r):=by
 unfold lh at h
 have G:Fr [] M0 M0:=Fr.refl
 refine Ev.enter (F:=fun k=>f32 (CN k) k) (fun k=>bH E Tryz.func32 E E E (by decide +kernel) (ME _ _)) (av<|be<|Rn (hN E hZ) fun aa U=>sN<|av<|kx (bp U)<|kx (gg JZ (b3 (t6 E) E) (gz ⟨E,ble E⟩ E E (dz E))) (ku (NL E E ⟨E,E,by decide⟩) fun J I=>?_))
 have Y:=Nf.mk G
 have N:=Fr.push G I
 have X:J[M0.length]? = some (.live ⟨.box,138,3,[[.sl none (D.map (cI .u8)),a4 0,.int .u64 0]]⟩):=b2 I
 refine be (Rn (hV (.loc M0.length 1 0 0) E hZ) fun Z O=>sN<|xx ?_)
 exact yN h (bB O bK) ⟨E,X,N⟩
noncomputable def fP (D:List Int) (F:Int) (G:Int):Option (Int×(List Int)×Int×Int):=
 if (decide (F < (D.length:Int)))=true then
  (rd D F).bind fun I=>
  if (decide ((IntKind.i64.wrap (F + 1))<=(D.length:Int)))=true then
   some ((IntKind.i64.wrap I),D,(IntKind.i64.wrap (F + 1)),(IntKind.u64.wrap ((IntKind.u64.wrap ((IntKind.u64.wrap (G * 6364136223846793005)) + (IntKind.u64.wrap (IntKind.i64.wrap I)))) + 1442695040888963407)))
  else
   (shr .u64 (IntKind.u64.wrap ((IntKind.u64.wrap ((IntKind.u64.wrap (G * 6364136223846793005)) + (IntKind.u64.wrap (IntKind.i64.wrap I)))) + 1442695040888963407)) 40).bind fun J=>
   some ((IntKind.i64.wrap (Cf .u64 J 255)),D,(IntKind.i64.wrap (F + 1)),(IntKind.u64.wrap ((IntKind.u64.wrap ((IntKind.u64.wrap (G * 6364136223846793005)) + (IntKind.u64.wrap (IntKind.i64.wrap I)))) + 1442695040888963407)))
 else
  if (decide ((IntKind.i64.wrap (F + 1))<=(D.length:Int)))=true then
   some (0,D,(IntKind.i64.wrap (F + 1)),(IntKind.u64.wrap ((IntKind.u64.wrap ((IntKind.u64.wrap (G * 6364136223846793005)) + 0)) + 1442695040888963407)))
  else
   (shr .u64 (IntKind.u64.wrap ((IntKind.u64.wrap ((IntKind.u64.wrap (G * 6364136223846793005)) + 0)) + 1442695040888963407)) 40).bind fun N=>
   some ((IntKind.i64.wrap (Cf .u64 N 255)),D,(IntKind.i64.wrap (F + 1)),(IntKind.u64.wrap ((IntKind.u64.wrap ((IntKind.u64.wrap (G * 6364136223846793005)) + 0)) + 1442695040888963407)))
def uo (F:List Int) (G:Int) (I:Int) (D:Nat) (M0:bs) (r:Int×(List Int)×Int×Int) (p:AV×bs):Prop:=p.1 = a4 r.1/\p.2[D]? = some (.live ⟨.box,138,3,[[.sl none (r.2.1.map (cI .u8)),a4 r.2.2.1,.int .u64 r.2.2.2]]⟩)/\Fr [D] M0 p.2
theorem nW (O:List Int) (U:Int) (X:Int) (J:Nat) (M0:bs) (D:M0[J]? = some (.live ⟨.box,138,3,[[.sl none (O.map (cI .u8)),a4 U,.int .u64 X]]⟩)) (r:Int×(List Int)×Int×Int) (h:fP O U X=some r):Ev (fun k=>CN k 105 [.loc J 1 0 0] M0) (uo O U X J M0 r):=by
 unfold fP at h
 have am:Fr [J] M0 M0:=Fr.refl
 refine Ev.enter (F:=fun k=>f105 (CN k) k) (fun k=>bH E Tryz.func105 E E E (by decide +kernel) (Lf _ _)) (av<|be<|Rn (hV (.loc J 1 0 0) E hZ) fun bg aY=>sN<|av<|be<|Rn (hA aY (hV (a4 0) E hZ)) fun bh ak aZ=>sN<|sq<|sq<|Rd<|kf (bp ak)<|kf (mL E D E)<|kf (dQ E D E)<|kf (e8 E D E E E)<|kf (bp ak)<|kf (mL E D E)<|kf (dQ E D E)<|kf (e8 E D E E E)<|kf (i2 Tryz.underlying22 E)<|kf (dp E E)<|fZ<|Rn (hA ak (hA aZ (hN E hZ))) fun bi Z aI an=>sN ?_)
 rcases aj h with ⟨aa,h⟩ | ⟨aa,h⟩
 ·obtain ⟨aJ,aD,h⟩:=ad h
  refine cT an aa (Rd<|kf (bp Z)<|kf (mL E D E)<|kf (dQ E D E)<|kf (e8 E D E E E)<|kf (bp Z)<|kf (mL E D E)<|kf (dQ E D E)<|kf (e8 E D E E E)<|kf (kJ E E aD (de _))<|kf (cr E E)<|kf (A0 E)<|r3<|fZ<|Rn (hA Z (hN E hZ)) fun a3 ao aK=>sN<|av<|kx (bp ao)<|kx (mL E D E)<|kx (dQ E D E)<|kx (e8 E D E E E)<|kx (cu E E)<|kx (mL E D E)<|kx (dQ E D E)<|kw (dW E E D E E ⟨E,ble E⟩ E E) fun aL aw=>?_)
  have N:aL[J]? = some (.live ⟨.box,138,3,[[.sl none (O.map (cI .u8)),a4 (IntKind.i64.wrap (U + 1)),.int .u64 X]]⟩):=bc aw D
  have aE:=Fr.setIn am aw (by simp)
  refine Rn (hA ao (hA aK hZ)) fun a5 ae ap=>sN (av<|kx (bp ae)<|kx (bp ae)<|kx (mL E N E)<|kx (dQ E N E)<|kx (e8 E N E E E)<|kx (Cn E E)<|kx (bp ap)<|kx (A0 E)<|kx (cu E E)<|kx (cu E E)<|kx (mL E N E)<|kx (dQ E N E)<|kw (dW E E N E E ⟨E,ble E⟩ E E) fun aM ax=>?_)
  have G:aM[J]? = some (.live ⟨.box,138,3,[[.sl none (O.map (cI .u8)),a4 (IntKind.i64.wrap (U + 1)),.int .u64 (IntKind.u64.wrap ((IntKind.u64.wrap ((IntKind.u64.wrap (X * 6364136223846793005)) + (IntKind.u64.wrap (IntKind.i64.wrap aJ)))) + 1442695040888963407))]]⟩):=bc ax N
  have ay:=Fr.setIn aE ax (by simp)
  refine Rn (hA ae (hA ap hZ)) fun a6 af aN=>sN (sq<|sq<|Rd<|kf (bp af)<|kf (mL E G E)<|kf (dQ E G E)<|kf (e8 E G E E E)<|kf (bp af)<|kf (mL E G E)<|kf (dQ E G E)<|kf (e8 E G E E E)<|kf (i2 Tryz.underlying22 E)<|kf (yb E E)<|fZ<|Rn (hA af (hA aN (hN E hZ))) fun a7 aO aP aq=>sN ?_)
  rcases aj h with ⟨ab,h⟩ | ⟨ab,h⟩
  ·refine cT aq ab (av<|kx (bp aP)<|be<|Rn (hN E hZ) fun a8 aQ=>sN<|xx<|sR ?_)
   exact yN h (bB aQ bK) ⟨E,G,ay⟩
  obtain ⟨a9,aF,h⟩:=ad h
  refine cF aq ab (xx<|sN<|av<|kx (bp aO)<|kx (mL E G E)<|kx (dQ E G E)<|kx (e8 E G E E E)<|kx (NV E E aF)<|kx (Oa E E)<|kx (A0 E)<|be<|Rn (hN E hZ) fun ba aR=>sN<|xx ?_)
  exact yN h (bB aR bK) ⟨E,G,ay⟩
 refine cF an aa (xx<|sN<|av<|kx (bp Z)<|kx (mL E D E)<|kx (dQ E D E)<|kx (e8 E D E E E)<|kx (cu E E)<|kx (mL E D E)<|kx (dQ E D E)<|kw (dW E E D E E ⟨E,ble E⟩ E E) fun aC az=>?_)
 have Y:aC[J]? = some (.live ⟨.box,138,3,[[.sl none (O.map (cI .u8)),a4 (IntKind.i64.wrap (U + 1)),.int .u64 X]]⟩):=bc az D
 have aG:=Fr.setIn am az (by simp)
 refine Rn (hA Z (hA aI hZ)) fun bb ah ar=>sN (av<|kx (bp ah)<|kx (bp ah)<|kx (mL E Y E)<|kx (dQ E Y E)<|kx (e8 E Y E E E)<|kx (Cn E E)<|kx (bp ar)<|kx (A0 E)<|kx (cu E E)<|kx (cu E E)<|kx (mL E Y E)<|kx (dQ E Y E)<|kw (dW E E Y E E ⟨E,ble E⟩ E E) fun aS aA=>?_)
 have I:aS[J]? = some (.live ⟨.box,138,3,[[.sl none (O.map (cI .u8)),a4 (IntKind.i64.wrap (U + 1)),.int .u64 (IntKind.u64.wrap ((IntKind.u64.wrap ((IntKind.u64.wrap (X * 6364136223846793005)) + 0)) + 1442695040888963407))]]⟩):=bc aA Y
 have aB:=Fr.setIn aG aA (by simp)
 refine Rn (hA ah (hA ar hZ)) fun bd ai aT=>sN (sq<|sq<|Rd<|kf (bp ai)<|kf (mL E I E)<|kf (dQ E I E)<|kf (e8 E I E E E)<|kf (bp ai)<|kf (mL E I E)<|kf (dQ E I E)<|kf (e8 E I E E E)<|kf (i2 Tryz.underlying22 E)<|kf (yb E E)<|fZ<|Rn (hA ai (hA aT (hN E hZ))) fun bf aU aV au=>sN ?_)
 rcases aj h with ⟨ac,h⟩ | ⟨ac,h⟩
 ·refine cT au ac (av<|kx (bp aV)<|be<|Rn (hV (a4 0) E hZ) fun a0 aW=>sN<|xx<|sR ?_)
  exact yN h (bB aW bK) ⟨E,I,aB⟩
 obtain ⟨a1,aH,h⟩:=ad h
 refine cF au ac (xx<|sN<|av<|kx (bp aU)<|kx (mL E I E)<|kx (dQ E I E)<|kx (e8 E I E E E)<|kx (NV E E aH)<|kx (Oa E E)<|kx (A0 E)<|be<|Rn (hN E hZ) fun a2 aX=>sN<|xx ?_)
 exact yN h (bB aX bK) ⟨E,I,aB⟩
noncomputable def b7 (F:List Int) (G:Int) (I:Int) (D:Int):Option (Int×(List Int)×Int×Int):=
 if (decide (D<=1))=true then
  some (0,F,G,I)
 else
  (fP F G I).bind fun (J,O,Y,aa)=>
  if (decide (D > 200))=true then
   (fP O Y aa).bind fun (ab,ac,ae,af)=>
   (rem .i64 (IntKind.i64.wrap ((IntKind.i64.wrap (J * 256)) + ab)) D).bind fun N=>
   some (N,ac,ae,af)
  else
   (rem .i64 J D).bind fun U=>
   some (U,O,Y,aa)
def tZ (F:List Int) (G:Int) (I:Int) (J:Int) (D:Nat) (M0:bs) (r:Int×(List Int)×Int×Int) (p:AV×bs):Prop:=p.1 = a4 r.1/\p.2[D]? = some (.live ⟨.box,138,3,[[.sl none (r.2.1.map (cI .u8)),a4 r.2.2.1,.int .u64 r.2.2.2]]⟩)/\Fr [D] M0 p.2
theorem cc (G:List Int) (I:Int) (J:Int) (X:Int) (D:Nat) (M0:bs) (au:M0[D]? = some (.live ⟨.box,138,3,[[.sl none (G.map (cI .u8)),a4 I,.int .u64 J]]⟩)) (r:Int×(List Int)×Int×Int) (h:b7 G I J X=some r):Ev (fun k=>CN k 59 [.loc D 1 0 0,a4 X] M0) (tZ G I J X D M0 r):=by
 unfold b7 at h
 have ab:Fr [D] M0 M0:=Fr.refl
 refine Ev.enter (F:=fun k=>f59 (CN k) k) (fun k=>bH E Tryz.func59 E E E (by decide +kernel) (Mt _ _)) (av<|be<|Rn (hV (.loc D 1 0 0) E (hN E hZ)) fun a8 aX ap=>sN<|sq<|av<|kx (bp ap)<|kx (yb E E)<|Rn (hA aX (hA ap (hN E hZ))) fun a9 aq aY ar=>sN ?_)
 rcases aj h with ⟨N,h⟩ | ⟨N,h⟩
 ·refine cT ar N (av<|be<|Rn (hV (a4 0) E hZ) fun aZ aF=>sN<|xx<|sR ?_)
  exact yN h (bB aF bK) ⟨E,au,ab⟩
 obtain ⟨⟨aG,ac,ae,af⟩,ay,h⟩:=ad h
 refine cF ar N (xx<|sN<|av<|kx (bp aq) (Ev.nxw (Ev.callW E E (b3 E E) (nW G I J D M0 au _ ay)) fun aH Z aU=>?_))
 obtain ⟨O,aI,ax⟩:=aU
 have O:aH = a4 aG:=O
 subst O
 have ah:Z[D]? = some (.live ⟨.box,138,3,[[.sl none (ac.map (cI .u8)),a4 ae,.int .u64 af]]⟩):=aI
 have aa:Fr [D] M0 Z:=Fr.call ab ax (y4 (by simp) y2)
 refine be (Rn (hA aq (hA aY (hN E hZ))) fun a0 aJ ai aK=>sN<|sq<|av<|kx (bp ai)<|kx (fB E E)<|Rn (hA aJ (hA ai (hA aK (hN E hZ)))) fun a1 aL ak am an=>sN ?_)
 rcases aj h with ⟨U,h⟩ | ⟨U,h⟩
 ·obtain ⟨⟨aM,aN,aO,aP⟩,aB,h⟩:=ad h
  refine cT an U (Rg<|kx (bp am)<|kx (Cn E E)<|kx (bp aL) (Ev.nxw (Ev.callW E E (b3 E E) (nW ac ae af D Z ah _ aB)) fun aQ ao az=>?_))
  obtain ⟨Y,aR,aA⟩:=az
  have Y:aQ = a4 aM:=Y
  subst Y
  have aS:ao[D]? = some (.live ⟨.box,138,3,[[.sl none (aN.map (cI .u8)),a4 aO,.int .u64 aP]]⟩):=aR
  have aC:Fr [D] M0 ao:=Fr.call aa aA (y4 (by simp) y2)
  obtain ⟨a2,aD,h⟩:=ad h
  refine kx (cu E E) (be<|Rn (hA ak (hN E hZ)) fun a3 aT aw=>sN<|av<|kx (bp aw)<|kx (bp aT)<|kx (Bx E E aD)<|be<|Rn (hN E hZ) fun a5 aV=>sN<|xx ?_)
  exact yN h (bB aV bK) ⟨E,aS,aC⟩
 obtain ⟨a6,aE,h⟩:=ad h
 refine cF an U (xx<|sN<|av<|kx (bp am)<|kx (bp ak)<|kx (Bx E E aE)<|be<|Rn (hN E hZ) fun a7 aW=>sN<|xx ?_)
 exact yN h (bB aW bK) ⟨E,ah,aa⟩
noncomputable def mS (F:List Int):Option ((Ar 16 Int)):=
 (lh F).bind fun D=>
 (b7 D.Code D.At D.Seed 1048576).bind fun (O,aa,ab,ac)=>
 (kA (IntKind.u32.wrap O)).bind fun (Y,ae)=>
 some Y
def xm (r:(Ar 16 Int)):AV:=.agg (bY (cI .i8) 0 r)
theorem yC (N:List Int) (r:(Ar 16 Int)) (h:mS N=some r):Ev (fun k=>CN k 20 [.sl none (N.map (cI .u8))] []) (fun p=>cp p.2 p.1=xm r):=by
 unfold mS at h
 refine Ev.enter (F:=fun k=>f20 (CN k) k) (fun k=>bH E Tryz.func20 E E E (by decide +kernel) (Mm _ _)) (av (ku (lG xY) fun D ax=>?_))
 have ao:D[([]:bs).length]? = some (.live ⟨.box,49,16,[(bY (cI .i8) 0 (Ar.rep 16 0))]⟩):=b2 ax
 obtain ⟨aa,ay,h⟩:=ad h
 refine Rn (hN E (hV (.loc ([]:bs).length 1 0 0) E hZ)) fun aX aR aS=>sN (av<|kx (bp aR) (Ev.nxw (Ev.callW E E (b3 E E) (oW N D _ ay)) fun az ab aq=>?_))
 obtain ⟨J,aA,O⟩:=aq
 have J:az = .loc D.length 1 0 0:=J
 subst J
 have ar:=b6 ao
 have O:Fr [] D ab:=O
 have aB:=O _ _ pg ao
 obtain ⟨⟨ah,aC,aE,aG⟩,aD,h⟩:=ad h
 refine Ev.nxw (Ev.callW E E (b3 E (b3 E E)) (cc aa.Code aa.At aa.Seed 1048576 D.length ab aA _ aD)) fun aH G au=>?_
 obtain ⟨U,aI,X⟩:=au
 have U:aH = a4 ah:=U
 subst U
 have ai:G[D.length]? = some (.live ⟨.box,138,3,[[.sl none (aC.map (cI .u8)),a4 aE,.int .u64 aG]]⟩):=aI
 have X:Fr [D.length] ab G:=X
 have aj:=X _ _ (oR ar pg) aB
 obtain ⟨⟨I,aJ⟩,aF,h⟩:=ad h
 refine kx (A0 E) (kc (cl (v:=.tup [.agg (bY (cI .i8) 0 I),.int .u32 aJ]) E E (b3 E E) E (wM (IntKind.u32.wrap ah) _ aF) nm)<|be<|kx (eO E E)<|kx (eO E E) (ku (lG xY) fun aK Y=>?_))
 have aL:=bS Y aj
 have ae:=b6 aj
 have aM:=bS Y ai
 have aw:=b6 ai
 have ak:aK[G.length]? = some (.live ⟨.box,49,16,[(bY (cI .i8) 0 (Ar.rep 16 0))]⟩):=b2 Y
 refine kw (dW E E ak E E ⟨E,ble E⟩ E E) fun aN Z=>?_
 have am:=a9 Z ae aL
 have aT:=a9 Z aw aM
 have an:aN[G.length]? = some (.live ⟨.box,49,16,[(bY (cI .i8) 0 I)]⟩):=bc Z ak
 refine be (Rn (hA aS (hV (.loc G.length 1 0 0) E hZ)) fun aU ac ap=>sN<|av<|kx (cm (cs':=(bY (cI .i8) 0 I)) ap an E E (ble E) E)<|kw (dW ac E am E E ⟨E,ble E⟩ E E) fun aO af=>?_)
 have aP:aO[([]:bs).length]? = some (.live ⟨.box,49,16,[(bY (cI .i8) 0 I)]⟩):=bc af am
 have aV:=a9 af (Ne.symm ae) an
 refine Rn (hA ac hZ) fun aW aQ=>sN (xx ?_)
 exact ct h (eC (ag:=true) (sz:=16) ⟨by kernel_rfl,by kernel_rfl,by kernel_rfl⟩ (cm (cs':=(bY (cI .i8) 0 I)) aQ aP E E (ble E) E) bK) E
noncomputable def lV (G:Int) (D:Ar 16 Int):Option (Bool×(List Notch)×(Ar 16 Int)×(List Notch)×(Ar 16 Int)×Int):=
 (iy D).bind fun F=>
 if F=true then
  (j7 G).bind fun (J,O)=>
  if (O != 0)=true then
   some (false,([]:List Notch),(Ar.rep 16 0),([]:List Notch),(Ar.rep 16 0),O)
  else
   (fW J).bind fun I=>
   (lK D).bind fun N=>
   some (true,J,D,I,N,0)
 else
  some (false,([]:List Notch),(Ar.rep 16 0),([]:List Notch),(Ar.rep 16 0),1)
def wx (r:Bool×(List Notch)×(Ar 16 Int)×(List Notch)×(Ar 16 Int)×Int):AV:=.tup [.agg (.bool r.1::(.sl none (r.2.1.map Notch.c)::((bY (cI .i8) 0 r.2.2.1)++([]:List AV)))),.agg (.bool false::(.sl none (r.2.2.2.1.map Notch.c)::((bY (cI .i8) 0 r.2.2.2.2.1)++([]:List AV)))),a4 r.2.2.2.2.2]
theorem x9 (Z:Int) (D:Ar 16 Int) (r:Bool×(List Notch)×(Ar 16 Int)×(List Notch)×(Ar 16 Int)×Int) (h:lV Z D=some r):Ev (fun k=>CN k 19 [a4 Z,.agg (bY (cI .i8) 0 D)] []) (fun p=>As (cp p.2 p.1)=wx r):=by
 unfold lV at h
 refine Ev.enter (F:=fun k=>f19 (CN k) k) (fun k=>bH E Tryz.func19 E E E (by decide +kernel) (LU _ _)) (av<|kx (ps E E ⟨E,E,by decide⟩) (ku (lG qk) fun I aJ=>?_))
 have aD:I[([]:bs).length]? = some (.live ⟨.box,51,18,[(.bool false::(.nils::((bY (cI .i8) 0 (Ar.rep 16 0))++([]:List AV))))]⟩):=b2 aJ
 refine ku (lG qk) fun aE aC=>?_
 have O:=bS aC aD
 have J:=b6 aD
 have ac:aE[I.length]? = some (.live ⟨.box,51,18,[(.bool false::(.nils::((bY (cI .i8) 0 (Ar.rep 16 0))++([]:List AV))))]⟩):=b2 aC
 obtain ⟨aK,aG,h⟩:=ad h
 refine be (Rn (hN E (hN E (hV (.loc ([]:bs).length 1 0 0) E (hV (.loc I.length 1 0 0) E hZ)))) fun bn aM ah aN aO=>sN<|sq<|av<|kx (eE ah E E) (kc (cl (v:=.bool aK) E E (b3 E E) E (qe D _ aG) nm)<|kx (eZ E)<|Rn (hA aM (hA ah (hA aN (hA aO (hN E hZ))))) fun bo aP aQ ae af ai=>sN ?_))
 rcases aj h with ⟨aa,h⟩ | ⟨aa,h⟩
 ·obtain ⟨⟨G,ak⟩,aL,h⟩:=ad h
  refine cF ai (nt aa) (xx<|sN<|av<|kx (bp aP) (kc (NB (v:=.tup [.sl none (G.map Notch.c),a4 ak]) E E (b3 E E) E (vQ Z _ aL))<|be<|kx (eO E E)<|kx (eO E E)<|be<|be<|Rn (hA aQ (hA ae (hA af (hN E (hN E hZ))))) fun bq aR aF a3 a5 am=>sN<|sq<|av<|kx (bp am)<|kx (gD E E)<|Rn (hA aR (hA aF (hA a3 (hA a5 (hA am (hN E hZ)))))) fun br an X Y ao a6 ap=>sN ?_))
  rcases aj h with ⟨ab,h⟩ | ⟨ab,h⟩
  ·refine cT ap ab (av<|kx (gg qk E (dz E))<|kx (gg qk E (dz E))<|kx (bp a6)<|kw (dW X E O E E ⟨E,ble E⟩ E E) fun a7 aw=>?_)
   have a8:a7[([]:bs).length]? = some (.live ⟨.box,51,18,[(.bool false::(.nils::((bY (cI .i8) 0 (Ar.rep 16 0))++([]:List AV))))]⟩):=bc aw O
   have aq:=a9 aw (Ne.symm J) ac
   refine kw (dW Y E aq E E ⟨E,ble E⟩ E E) fun ba ax=>?_
   have bb:=a9 ax J a8
   have bd:ba[I.length]? = some (.live ⟨.box,51,18,[(.bool false::(.nils::((bY (cI .i8) 0 (Ar.rep 16 0))++([]:List AV))))]⟩):=bc ax aq
   refine be (Rn (hA X (hA Y (hN E hZ))) fun bt bf bg bh=>sN<|xx<|sR ?_)
   obtain rfl:=si h
   exact eR (eC (ag:=true) (sz:=18) ⟨by kernel_rfl,by kernel_rfl,by kernel_rfl⟩ (cm (cs':=(.bool false::(.nils::((bY (cI .i8) 0 (Ar.rep 16 0))++([]:List AV))))) bf bb E E (ble E) E) (eC (ag:=true) (sz:=18) ⟨by kernel_rfl,by kernel_rfl,by kernel_rfl⟩ (cm (cs':=(.bool false::(.nils::((bY (cI .i8) 0 (Ar.rep 16 0))++([]:List AV))))) bg bd E E (ble E) E) (bB bh bK))) (E7 (y:=.tup [.agg (.bool false::(.nils::((bY (cI .i8) 0 (Ar.rep 16 0))++([]:List AV)))),.agg (.bool false::(.nils::((bY (cI .i8) 0 (Ar.rep 16 0))++([]:List AV)))),a4 ak]) E (Dr (hD (xB (hD E (hD E (Mi (fun _=>rS) (fun _=>E) ru)))) (hD (xB (hD E (hD E (Mi (fun _=>rS) (fun _=>E) ru)))) (hD E ru)))))
  obtain ⟨N,aH,h⟩:=ad h
  obtain ⟨U,aI,h⟩:=ad h
  refine cF ap ab (xx<|sN<|sq<|Rd<|kf (bp ao)<|kf (eE an E E)<|kf (gg qk (b3 (t6 E) (b3 (t6 E) (b3 (t6 E) E))) (gz (cs':=(.bool true::(.nils::((bY (cI .i8) 0 (Ar.rep 16 0))++([]:List AV))))) ⟨E,ble E⟩ E E (gz (cs':=(.bool true::(.sl none (G.map Notch.c)::((bY (cI .i8) 0 (Ar.rep 16 0))++([]:List AV))))) ⟨E,ble E⟩ E E (gz (cs':=(.bool true::(.sl none (G.map Notch.c)::((bY (cI .i8) 0 D)++([]:List AV))))) ⟨E,ble E⟩ E E (dz E)))))<|kf (bp ao)<|fc (cl (v:=.sl (some 109) (N.map Notch.c)) E E (b3 E E) E (tm G _ aH) nm)<|kf (eE an E E)<|fc (cl (v:=.agg (bY (cI .i8) 0 U)) E E (b3 E E) E (xF D _ aI) nm)<|kf (gg qk (b3 (t6 E) (b3 (t6 E) E)) (gz (cs':=(.bool false::(.sl (some 109) (N.map Notch.c)::((bY (cI .i8) 0 (Ar.rep 16 0))++([]:List AV))))) ⟨E,ble E⟩ E E (gz (cs':=(.bool false::(.sl (some 109) (N.map Notch.c)::((bY (cI .i8) 0 U)++([]:List AV))))) ⟨E,ble E⟩ E E (dz E))))<|fZ<|kw (dW X E O E E ⟨E,ble E⟩ E E) fun bi ay=>?_)
  have bj:bi[([]:bs).length]? = some (.live ⟨.box,51,18,[(.bool true::(.sl none (G.map Notch.c)::((bY (cI .i8) 0 D)++([]:List AV))))]⟩):=bc ay O
  have ar:=a9 ay (Ne.symm J) ac
  refine kw (dW Y E ar E E ⟨E,ble E⟩ E E) fun bk az=>?_
  have bl:=a9 az J bj
  have bm:bk[I.length]? = some (.live ⟨.box,51,18,[(.bool false::(.sl none (N.map Notch.c)::((bY (cI .i8) 0 U)++([]:List AV))))]⟩):=bc az ar
  refine be (Rn (hA X (hA Y (hV (a4 0) E hZ))) fun bu aS aT aU=>sN<|xx ?_)
  obtain rfl:=si h
  exact eR (eC (ag:=true) (sz:=18) ⟨by kernel_rfl,by kernel_rfl,by kernel_rfl⟩ (cm (cs':=(.bool true::(.sl none (G.map Notch.c)::((bY (cI .i8) 0 D)++([]:List AV))))) aS bl E E (ble E) E) (eC (ag:=true) (sz:=18) ⟨by kernel_rfl,by kernel_rfl,by kernel_rfl⟩ (cm (cs':=(.bool false::(.sl none (N.map Notch.c)::((bY (cI .i8) 0 U)++([]:List AV))))) aT bm E E (ble E) E) (bB aU bK))) (E7 (y:=.tup [.agg (.bool true::(.sl none (G.map Notch.c)::((bY (cI .i8) 0 D)++([]:List AV)))),.agg (.bool false::(.sl none (N.map Notch.c)::((bY (cI .i8) 0 U)++([]:List AV)))),a4 0]) E (Dr (hD (xB (hD E (hD E (Mi (fun _=>rS) (fun _=>E) ru)))) (hD (xB (hD E (hD E (Mi (fun _=>rS) (fun _=>E) ru)))) (hD E ru)))))
 refine cT ai (nt aa) (av<|kx (gg qk E (dz E))<|kx (gg qk E (dz E))<|kw (dW ae E O E E ⟨E,ble E⟩ E E) fun aV aA=>?_)
 have aW:aV[([]:bs).length]? = some (.live ⟨.box,51,18,[(.bool false::(.nils::((bY (cI .i8) 0 (Ar.rep 16 0))++([]:List AV))))]⟩):=bc aA O
 have au:=a9 aA (Ne.symm J) ac
 refine kw (dW af E au E E ⟨E,ble E⟩ E E) fun aX aB=>?_
 have aY:=a9 aB J aW
 have aZ:aX[I.length]? = some (.live ⟨.box,51,18,[(.bool false::(.nils::((bY (cI .i8) 0 (Ar.rep 16 0))++([]:List AV))))]⟩):=bc aB au
 refine be (Rn (hA ae (hA af (hV (a4 1) E hZ))) fun bv a0 a1 a2=>sN<|xx<|sR ?_)
 obtain rfl:=si h
 exact eR (eC (ag:=true) (sz:=18) ⟨by kernel_rfl,by kernel_rfl,by kernel_rfl⟩ (cm (cs':=(.bool false::(.nils::((bY (cI .i8) 0 (Ar.rep 16 0))++([]:List AV))))) a0 aY E E (ble E) E) (eC (ag:=true) (sz:=18) ⟨by kernel_rfl,by kernel_rfl,by kernel_rfl⟩ (cm (cs':=(.bool false::(.nils::((bY (cI .i8) 0 (Ar.rep 16 0))++([]:List AV))))) a1 aZ E E (ble E) E) (bB a2 bK))) (E7 (y:=.tup [.agg (.bool false::(.nils::((bY (cI .i8) 0 (Ar.rep 16 0))++([]:List AV)))),.agg (.bool false::(.nils::((bY (cI .i8) 0 (Ar.rep 16 0))++([]:List AV)))),a4 1]) E (Dr (hD (xB (hD E (hD E (Mi (fun _=>rS) (fun _=>E) ru)))) (hD (xB (hD E (hD E (Mi (fun _=>rS) (fun _=>E) ru)))) (hD E ru)))))
noncomputable def lS (F:List Int):Option Int:=
 (lh F).bind fun D=>
 (b7 D.Code D.At D.Seed 6000).bind fun (J,O,Y,aa)=>
 some J
def wC (r:Int):AV:=a4 r
theorem xN (I:List Int) (r:Int) (h:lS I=some r):Ev (fun k=>CN k 18 [.sl none (I.map (cI .u8))] []) (fun p=>cp p.2 p.1=wC r):=by
 unfold lS at h
 obtain ⟨J,U,h⟩:=ad h
 refine Ev.enter (F:=fun k=>f18 (CN k) k) (fun k=>bH E Tryz.func18 E E E (by decide +kernel) (Mw _ _)) (av<|be<|Rn (hN E hZ) fun ar ak=>sN<|av<|kx (bp ak) (Ev.nxw (Ev.callW E E (b3 E E) (oW I _ _ U)) fun am N X=>?_))
 obtain ⟨G,Z,ao⟩:=X
 have G:am = .loc ([]:bs).length 1 0 0:=G
 subst G
 obtain ⟨⟨aa,ab,ac,ae⟩,Y,h⟩:=ad h
 refine Ev.nxw (Ev.callW E E (b3 E (b3 E E)) (cc J.Code J.At J.Seed 6000 (([]:bs).length) N Z _ Y)) fun af ah O=>?_
 obtain ⟨D,ai,ap⟩:=O
 have D:af = a4 aa:=D
 subst D
 have aq:ah[([]:bs).length]? = some (.live ⟨.box,138,3,[[.sl none (ab.map (cI .u8)),a4 ac,.int .u64 ae]]⟩):=ai
 refine be (Rn (hN E hZ) fun an aj=>sN<|xx ?_)
 exact ct h (bB aj bK) E
noncomputable def hU (D:Book) (F:Int):Option (Int×Int):=
 (j5 D F).bind fun G=>
 if (G != 0)=true then
  some (0,G)
 else
  (pn D F).bind fun I=>
  some (I,0)
def r5 (r:Int×Int):AV:=.tup [a4 r.1,a4 r.2]
theorem td (D:Book) (G:Int) (r:Int×Int) (h:hU D G=some r):Ev (fun k=>CN k 17 [.agg [a4 D.Day,.sl none (D.Cash.map (cI .i64)),.sl none (D.Tallies.map Tally.c)],a4 G] []) (fun p=>cp p.2 p.1=r5 r):=by
 unfold hU at h
 obtain ⟨an,Y,h⟩:=ad h
 refine Ev.enter (F:=fun k=>f17 (CN k) k) (fun k=>bH E Tryz.func17 E E E (by decide +kernel) (LW _ _)) (av<|kx (ps E E ⟨E,E,by decide⟩)<|be<|be<|Rn (hN E (hN E hZ)) fun ar O U=>sN<|sq<|av<|kx (eE U E E)<|kx (bp O) (kc (cl (v:=a4 an) E E (b3 E (b3 E E)) E (vn D G _ Y) nm)<|be<|Rn (hA O (hA U (hN E hZ))) fun au am Z J=>sN<|av<|kx (bp J)<|kx (gD E E)<|Rn (hA am (hA Z (hA J (hN E hZ)))) fun ao aa ab ac N=>sN ?_))
 rcases aj h with ⟨I,h⟩ | ⟨I,h⟩
 ·refine cT N I (av<|kx (bp ac)<|be<|be<|Rn (hV (a4 0) E (hN E hZ)) fun ap ae af=>sN<|xx<|sR ?_)
  exact ct h (bB ae (bB af bK)) E
 obtain ⟨ah,X,h⟩:=ad h
 refine cF N I (xx<|sN<|av<|kx (eE ab E E)<|kx (bp aa) (kc (cl (v:=a4 ah) E E (b3 E (b3 E E)) E (yK D G _ X) nm)<|be<|be<|Rn (hN E (hV (a4 0) E hZ)) fun aq ai ak=>sN<|xx ?_))
 exact ct h (bB ai (bB ak bK)) E
noncomputable def mB (D:Int) (F:List Debt):Option ((List Int)×Int):=
 (iw D F).bind fun I=>
 if I=true then
  (uy D F).bind fun G=>
  some (G,0)
 else
  some (([]:List Int),1)
def yq (r:(List Int)×Int):AV:=.tup [.sl none (r.1.map (cI .i64)),a4 r.2]
theorem zP (D:Int) (G:List Debt) (r:(List Int)×Int) (h:mB D G=some r):Ev (fun k=>CN k 16 [a4 D,.sl none (G.map Debt.c)] []) (fun p=>As (cp p.2 p.1)=yq r/\iu (cp p.2 p.1)=true):=by
 unfold mB at h
 obtain ⟨ah,Y,h⟩:=ad h
 refine Ev.enter (F:=fun k=>f16 (CN k) k) (fun k=>bH E Tryz.func16 E E E (by decide +kernel) (LX _ _)) (av<|be<|be<|Rn (hN E (hN E hZ)) fun am O U=>sN<|sq<|av<|kx (bp O)<|kx (bp U) (kc (cl (v:=.bool ah) E E (b3 E (b3 E E)) E (pJ D G _ Y) nm)<|kx (eZ E)<|Rn (hA O (hA U (hN E hZ))) fun an af Z J=>sN ?_))
 rcases aj h with ⟨I,h⟩ | ⟨I,h⟩
 ·obtain ⟨N,X,h⟩:=ad h
  refine cF J (nt I) (xx<|sN<|av<|kx (bp af)<|kx (bp Z) (kc (cl (v:=.sl (some 2) (N.map (cI .i64))) E E (b3 E (b3 E E)) E (B5 D G _ X) nm)<|be<|be<|Rn (hN E (hV (a4 0) E hZ)) fun ai aa ab=>sN<|xx ?_))
  obtain rfl:=si h
  exact eR (bB aa (bB ab bK)) (AA (y:=.tup [.sl (some 2) (N.map (cI .i64)),a4 0]) E E (dL (hM (iR (c:=(cI .i64)) (fun _=>E)) (hM E sL))))
 refine cT J (nt I) (av<|be<|be<|Rn (hV .nils E (hV (a4 1) E hZ)) fun ak ac ae=>sN<|xx<|sR ?_)
 obtain rfl:=si h
 exact eR (bB ac (bB ae bK)) (AA (y:=.tup [.nils,a4 1]) E E (dL (hM E (hM E sL))))
noncomputable def jA (D:List Debt) (F:List Debt):Option Bool:=
 (mO D F).bind fun G=>
 some G
def vT (r:Bool):AV:=.bool r
theorem qC (D:List Debt) (G:List Debt) (r:Bool) (h:jA D G=some r):Ev (fun k=>CN k 15 [.sl none (D.map Debt.c),.sl none (G.map Debt.c)] []) (fun p=>cp p.2 p.1=vT r):=by
 unfold jA at h
 obtain ⟨U,I,h⟩:=ad h
 refine Ev.enter (F:=fun k=>f15 (CN k) k) (fun k=>bH E Tryz.func15 E E E (by decide +kernel) (Nl _ _)) (av<|be<|Rn (hN E (hN E hZ)) fun X J N=>sN<|av<|kx (bp J)<|kx (bp N) (kc (cl (v:=.bool U) E E (b3 E (b3 E E)) E (yr D G _ I) nm)<|be<|Rn (hN E hZ) fun Y O=>sN<|xx ?_))
 exact ct h (bB O bK) E
def k6 (F:Ar 16 (Ar 16 Int)) (G:List Int) (D:Nat) (M0:bs) (r:(List Int)×Bool) (p:AV×bs):Prop:=Gy p.1 = .tup [.sl none (r.1.map (cI .i64)),.bool r.2]/\p.2[D]? = some (.live ⟨.box,150,256,[(bY (bY (n:=16) (cI .i64) 0) (Ar.rep 16 0) F)]⟩)/\Fr [D] M0 p.2
def kz (F:Ar 16 (Ar 16 Int)) (G:List Int) (I:Int) (D:Nat) (M0:bs) (r:Unit⊕Bool) (q:oZ):Prop:=
  match r with
  | (.inl g)=>q.1 = .ret/\a3 q.2.1 4 = .sl none (G.map (cI .i64))/\a3 q.2.1 5 = .bool true/\q.2.2[D]? = some (.live ⟨.box,150,256,[(bY (bY (n:=16) (cI .i64) 0) (Ar.rep 16 0) F)]⟩)/\Fr [D] M0 q.2.2
  | (.inr g)=>q.1 = .nrm/\a3 q.2.1 0 = .loc D 1 0 0/\a3 q.2.1 1 = .sl none (G.map (cI .i64))/\a3 q.2.1 6 = a4 I/\a3 q.2.1 32 = .bool g/\q.2.2[D]? = some (.live ⟨.box,150,256,[(bY (bY (n:=16) (cI .i64) 0) (Ar.rep 16 0) F)]⟩)/\Fr [D] M0 q.2.2
abbrev i0:=Bool×Int
abbrev m3:=Bool
def pT (G:Ar 16 (Ar 16 Int)) (I:List Int) (J:Int) (F:Int) (D:Nat) (M0:bs) (s:i0) (e:b4) (M:bs):Prop:=a3 e 0 = .loc D 1 0 0/\a3 e 1 = .sl none (I.map (cI .i64))/\a3 e 6 = a4 J/\a3 e 7 = a4 F/\a3 e 8 = .bool s.1/\a3 e 9 = a4 s.2/\M[D]? = some (.live ⟨.box,150,256,[(bY (bY (n:=16) (cI .i64) 0) (Ar.rep 16 0) G)]⟩)/\Fr [D] M0 M
def vX (G:Ar 16 (Ar 16 Int)) (I:List Int) (J:Int) (F:Int) (D:Nat) (M0:bs) (g:m3) (x:Ex) (e:b4) (M:bs):Prop:=x = .ext 2/\a3 e 0 = .loc D 1 0 0/\a3 e 1 = .sl none (I.map (cI .i64))/\a3 e 6 = a4 J/\a3 e 7 = a4 F/\a3 e 8 = .bool g/\M[D]? = some (.live ⟨.box,150,256,[(bY (bY (n:=16) (cI .i64) 0) (Ar.rep 16 0) G)]⟩)/\Fr [D] M0 M
noncomputable def fE (D:List Int) (F:Int):i0->Option (i0⊕m3):=fun (O,J)=>
 if (decide (J < (D.length:Int)))=true then
  if O=true then
   some (.inl (true,(IntKind.i64.wrap (J + 1))))
  else
   (rd D J).bind fun G=>
   some (.inl ((G==F),(IntKind.i64.wrap (J + 1))))
 else
  some (.inr O)
theorem vt (X:Ar 16 (Ar 16 Int)) (G:List Int) (U:Int) (I:Int) (O:Nat) (M0:bs) (s:i0) (r:i0⊕m3) (h:fE G I s=some r) (e:b4) (M:bs) (a0:pT X G U I O M0 s e M):Ev (fun k=>(Fa (CN k) k (prune [0,1,6,7,8,9] e) M).bind fun q=>some q) (bQ (pT X G U I O M0) (vX X G U I O M0) r):=by
 obtain ⟨aN,aO⟩:=s
 unfold fE at h
 obtain ⟨an,ao,ap,aq,ar,au,aa,Y⟩:=a0
 generalize F:prune [0,1,6,7,8,9] e=bu
 have aw:=bZ F.symm E an
 have af:=bZ F.symm E ao
 have ax:=bZ F.symm E ap
 have ay:=bZ F.symm E aq
 have az:=bZ F.symm E ar
 have ah:=bZ F.symm E au
 refine sq (av<|kx (bp ah)<|kx (bp af)<|kx (i2 Tryz.underlying24 E)<|kx (dp E E)<|Rn (hV (.loc O 1 0 0) aw (hV (.sl none (G.map (cI .i64))) af (hV (a4 U) ax (hA ay (hV (.bool aN) az (hV (a4 aO) ah (hN E hZ))))))) fun a3 ab J ac N ai ae ak=>sN ?_)
 rcases aj h with ⟨Z,h⟩ | ⟨Z,h⟩
 ·refine cT ak Z (xx<|sN<|sq<|bl<|Rg<|kx (bp ai)<|kx (bp E) ?_)
  rcases aj h with ⟨D,h⟩ | ⟨D,h⟩
  ·refine kx (gsF E D) (kx (gsF E D)<|kx (gsF E D)<|kx (gsF E D)<|kx (gsF E D)<|kx (gsF E D)<|kx (cC E D E)<|be<|Rn (hA ab (hA J (hA ac (hA N (hV (.bool true) E (hA ae hZ)))))) fun a5 aA aB aC aD aE aF=>bN<|sN<|Rg<|kx (bp aF)<|kx (cu E E)<|be<|Rn (hA aA (hA aB (hA aC (hA aD (hA aE (hN E hZ)))))) fun a6 aG aH aI aJ aK aL=>?_)
   exact jd h ⟨aG,aH,aI,aJ,aK,aL,aa,Y⟩
  obtain ⟨a7,aM,h⟩:=ad h
  refine kx (guF E D (bp J)) (kx (guF E D (bp ae))<|kx (guF E D (kJ E E aM (de _)))<|kx (guF E D (cr E E))<|kx (guF E D (bp N))<|kx (guF E D (d8 E E))<|kx (cU E D E)<|be<|Rn (hA ab (hA J (hA ac (hA N (hN E (hA ae hZ)))))) fun a1 am aP aQ aR aS aT=>bN<|sN<|Rg<|kx (bp aT)<|kx (cu E E)<|be<|Rn (hA am (hA aP (hA aQ (hA aR (hA aS (hN E hZ)))))) fun a2 aU aV aW aX aY aZ=>?_)
  exact jd h ⟨aU,aV,aW,aX,aY,aZ,aa,Y⟩
 refine cF ak Z (xx<|sE ?_)
 exact md h ⟨E,ab,J,ac,N,ai,aa,Y⟩
abbrev iU:=Int
abbrev nb:=((List Int))⊕Unit
def qj (F:Ar 16 (Ar 16 Int)) (G:List Int) (J:(Ar 16 (Ar 16 Int))->(List Int)->Option ((List Int)×Bool)) (I:Int) (D:Nat) (M0:bs) (s:iU) (e:b4) (M:bs):Prop:=a3 e 0 = .loc D 1 0 0/\a3 e 1 = .sl none (G.map (cI .i64))/\a3 e 6 = a4 I/\a3 e 7 = a4 s/\M[D]? = some (.live ⟨.box,150,256,[(bY (bY (n:=16) (cI .i64) 0) (Ar.rep 16 0) F)]⟩)/\Fr [D] M0 M
def vi (F:Ar 16 (Ar 16 Int)) (G:List Int) (I:(Ar 16 (Ar 16 Int))->(List Int)->Option ((List Int)×Bool)) (J:Int) (D:Nat) (M0:bs) (r:nb) (x:Ex) (e:b4) (M:bs):Prop:=
  match r with
  | (.inl g)=>x = .ret/\a3 e 4 = .sl none (g.map (cI .i64))/\a3 e 5 = .bool true/\M[D]? = some (.live ⟨.box,150,256,[(bY (bY (n:=16) (cI .i64) 0) (Ar.rep 16 0) F)]⟩)/\Fr [D] M0 M
  | (.inr g)=>x = .ext 0/\M[D]? = some (.live ⟨.box,150,256,[(bY (bY (n:=16) (cI .i64) 0) (Ar.rep 16 0) F)]⟩)/\Fr [D] M0 M
noncomputable def ez (F:Ar 16 (Ar 16 Int)) (G:List Int) (X:(Ar 16 (Ar 16 Int))->(List Int)->Option ((List Int)×Bool)) (Y:Int):iU->Option (iU⊕nb):=fun D=>
 if (decide (D < 16))=true then
  (jF F Y).bind fun O=>
  (jF O D).bind fun U=>
  (Lw (fE G D) ((U==0),0)).bind fun I=>
  if I=true then
   some (.inl (IntKind.i64.wrap (D + 1)))
  else
   (qB 8 ([]:List Int) G).bind fun J=>
   (qB 8 J [D]).bind fun N=>
   (X F N).bind fun (ab,ac)=>
   if ac=true then
    some (.inr (.inl ab))
   else
    some (.inl (IntKind.i64.wrap (D + 1)))
 else
  some (.inr (.inr ()))
theorem pO (F:Ar 16 (Ar 16 Int)) (I:List Int) (O:(Ar 16 (Ar 16 Int))->(List Int)->Option ((List Int)×Bool)) (J:Int) (D:Nat) (M0:bs) (cf:∀ (F:Ar 16 (Ar 16 Int)) (I:List Int) (D:Nat) (M0:bs) (cx:M0[D]? = some (.live ⟨.box,150,256,[(bY (bY (n:=16) (cI .i64) 0) (Ar.rep 16 0) F)]⟩)) (r:(List Int)×Bool),O F I=some r->Ev (fun k=>CN k 102 [.loc D 1 0 0,.sl none (I.map (cI .i64))] M0) (k6 F I D M0 r)) (s:iU) (r:iU⊕nb) (h:ez F I O J s=some r) (e:b4) (M:bs) (ax:qj F I O J D M0 s e M):Ev (fun k=>(EP (CN k) k (prune [0,1,6,7] e) M).bind fun q=>some q) (bQ (qj F I O J D M0) (vi F I O J D M0) r):=by
 revert h ax
 revert s
 intro U h ax
 unfold ez at h
 obtain ⟨bI,bJ,bK,bL,N,az⟩:=ax
 generalize X:prune [0,1,6,7] e=dg
 have bM:=bZ X.symm E bI
 have bO:=bZ X.symm E bJ
 have bP:=bZ X.symm E bK
 have aL:=bZ X.symm E bL
 refine sq (av<|kx (bp aL)<|kx (dp E E)<|Rn (hV (.loc D 1 0 0) bM (hV (.sl none (I.map (cI .i64))) bO (hV (a4 J) bP (hV (a4 U) aL (hN E hZ))))) fun cr aM bT aN aO aP=>sN ?_)
 rcases aj h with ⟨ar,h⟩ | ⟨ar,h⟩
 ·obtain ⟨ct,aA,h⟩:=ad h
  obtain ⟨cv,aB,h⟩:=ad h
  obtain ⟨ch,aR,h⟩:=ad h
  refine cT aP ar (xx<|sN<|sq<|bl<|av<|kx (bp aM)<|kx (bp aN)<|kx (bp aO)<|kx (mL E N E)<|kx (l9 E N E E aA)<|kx (l9 E N E E aB)<|kx (wR (K:=AV.int .i64) (c:=(cI .i64)) (z:=0) (Z:=(Ar.rep 16 0)) (G:=F) (pre:=[]) (post:=[]) E N E E E E E (fun _=>E) aA aB)<|kx (d8 E E)<|be<|Rn (hA aM (hA bT (hA aN (hA aO (hN E hZ))))) fun cw bU bV bu bv bw=>sN<|sq<|av<|be<|Rn (hA bU (hA bV (hA bu (hA bv (hA bw (hV (a4 0) E hZ)))))) fun ci bx bz bA bB bC bD=>sN<|bl (Ev.loop (vt F I J U D M0) aR ⟨bx,bz,bA,bB,bC,bD,N,az⟩ fun x cj Y aS=>?_))
  obtain ⟨rfl,a0,a1,a2,a3,a5,au,ac⟩:=aS
  refine bE (sN<|sq<|av<|kx (bp a5)<|Rn (hV (.loc D 1 0 0) a0 (hV (.sl none (I.map (cI .i64))) a1 (hV (a4 J) a2 (hV (a4 U) a3 (hN E hZ))))) fun ck aw aa aC ab aD=>sN ?_)
  rcases aj h with ⟨ae,h⟩ | ⟨ae,h⟩
  ·refine cT aD ae (xx<|sE<|bE<|sN<|Rg<|kx (bp ab)<|kx (cu E E)<|be<|Rn (hA aw (hA aa (hA aC (hN E hZ)))) fun cl a6 a7 a8 bb=>?_)
   exact jd h ⟨a6,a7,a8,bb,au,ac⟩
  refine cF aD ae (xx<|sN<|av<|kx (bp aw) (ku (Ai (xs:=([]:List Int)) (c:=(cI .i64)) E E (by decide)) fun bd af=>?_))
  have ah:=Nf.mk ac
  have aT:=Fr.push ac af
  have bf:=bS af au
  have ai:=b6 au
  have aE:bd[Y.length]? = some (.live ⟨.grow,2,1,([]:List Int).map (cI .i64)⟩):=b2 af
  obtain ⟨bg,aU,h⟩:=ad h
  refine kx (bp aa) (kw (Dp E aE E (NC E) aU (de _) (by decide)) fun bh ak=>?_)
  have bi:=a9 ak ai bf
  have aF:bh[Y.length]? = some (.live ⟨.grow,2,1,bg.map (cI .i64)⟩):=bc ak aE
  have aV:=Fr.setNew aT ak ah
  obtain ⟨aG,aW,h⟩:=ad h
  refine kx (bp ab) (kx (kh (b3 E E) E ⟨E,by decide⟩)<|kw (Dp E aF E (DO (c:=(cI .i64)) (xs:=[U]) E) aW (de _) (by decide)) fun aH am=>?_)
  have bj:=a9 am ai bi
  have bk:aH[Y.length]? = some (.live ⟨.grow,2,1,aG.map (cI .i64)⟩):=bc am aF
  have aX:=Fr.setNew aV am ah
  obtain ⟨bm,an⟩:∃ x,x=aH.set Y.length .dead:=⟨_,E⟩
  have bn:=a9 an ai bj
  have aQ:=Fr.setNew aX an ah
  obtain ⟨⟨bo,bq⟩,ba,h⟩:=ad h
  refine Ev.nxw (Ev.callO E E (b3 E (b3 E E)) (AN E (AN (OC an (t7 bk E (de _))) Gx)) E (cf F aG D bm bn _ ba)) fun br aI ao=>?_
  obtain ⟨cm,ao,cg⟩:=ao
  obtain ⟨ap,aY,bt⟩:=ao
  have ap:br = .tup [.sl none (bo.map (cI .i64)),.bool bq]:=cg.symm.trans ap
  subst ap
  have aJ:aI[D]? = some (.live ⟨.box,150,256,[(bY (bY (n:=16) (cI .i64) 0) (Ar.rep 16 0) F)]⟩):=aY
  have ay:Fr [D] M0 aI:=Fr.call aQ bt (y4 (by simp) y2)
  refine be (kx (eO E E)<|kx (eO E E)<|be<|be<|Rn (hA aw (hA aa (hA aC (hA ab (hN E (hN E hZ)))))) fun cn aZ bW bX b0 b1 b5=>sN<|av<|kx (bp b5)<|Rn (hA aZ (hA bW (hA bX (hA b0 (hA b1 (hN E hZ)))))) fun co b7 b8 b9 ca cb aK=>sN ?_)
  rcases aj h with ⟨aq,h⟩ | ⟨aq,h⟩
  ·refine cT aK aq (av<|kx (bp cb)<|be<|be<|Rn (hN E (hV (.bool true) E hZ)) fun cp cc cd=>sN<|xx<|bR<|sR ?_)
   exact lr h ⟨E,cc,cd,aJ,ay⟩
  refine cF aK aq (xx<|bN<|sN<|Rg<|kx (bp ca)<|kx (cu E E)<|be<|Rn (hA b7 (hA b8 (hA b9 (hN E hZ)))) fun cq ce bF bG bH=>?_)
  exact jd h ⟨ce,bF,bG,bH,aJ,ay⟩
 refine cF aP ar (xx<|sE ?_)
 exact md h ⟨E,N,az⟩
noncomputable def jB (X:(Ar 16 (Ar 16 Int))->(List Int)->Option ((List Int)×Bool)) (G:Ar 16 (Ar 16 Int)) (D:List Int):Option ((List Int)×Bool):=
 (rd D (IntKind.i64.wrap ((D.length:Int) - 1))).bind fun I=>
 ((if (decide ((D.length:Int) > 1))=true then
  (rd D 0).bind fun J=>
  (jF G I).bind fun N=>
  (jF N J).bind fun F=>
  if (decide (F > 0))=true then
   some (.inl ())
  else
   some (.inr (decide (F > 0)))
 else
  some (.inr false):Option (Unit⊕Bool))).bind fun r=>match r with
 | (.inl _)=>
  some (D,true)
 | (.inr ac)=>
  (rd D 0).bind fun U=>
  (Lw (ez G D X I) (IntKind.i64.wrap (U + 1))).bind fun r=>match r with
  | (.inl O)=>
   some (O,true)
  | (.inr _)=>
   some (([]:List Int),false)
theorem wi (Y:(Ar 16 (Ar 16 Int))->(List Int)->Option ((List Int)×Bool)) (aB:∀ (J:Ar 16 (Ar 16 Int)) (N:List Int) (I:Nat) (M0:bs) (O:M0[I]? = some (.live ⟨.box,150,256,[(bY (bY (n:=16) (cI .i64) 0) (Ar.rep 16 0) J)]⟩)) (r:(List Int)×Bool),Y J N=some r->Ev (fun k=>CN k 102 [.loc I 1 0 0,.sl none (N.map (cI .i64))] M0) (k6 J N I M0 r)) (J:Ar 16 (Ar 16 Int)) (N:List Int) (I:Nat) (M0:bs) (O:M0[I]? = some (.live ⟨.box,150,256,[(bY (bY (n:=16) (cI .i64) 0) (Ar.rep 16 0) J)]⟩)) (r:(List Int)×Bool) (h:jB Y J N=some r):Ev (fun k=>CN k 102 [.loc I 1 0 0,.sl none (N.map (cI .i64))] M0) (k6 J N I M0 r):=by
 unfold jB at h
 have ac:Fr [I] M0 M0:=Fr.refl
 obtain ⟨U,aO,h⟩:=ad h
 obtain ⟨au,aT,h⟩:=ad h
 refine Ev.enter (F:=fun k=>f102 (CN k) k) (fun k=>bH E Tryz.func102 E E E (by decide +kernel) (JT _ _)) (av<|be<|be<|Rn (hV (.loc I 1 0 0) E (hN E hZ)) fun bt a5 ah=>sN<|av<|kx (bp ah)<|kx (bp ah)<|kx (i2 Tryz.underlying24 E)<|kx (lD E E)<|kx (kJ E E aO (de _))<|kx (cr E E)<|be<|Rn (hA a5 (hA ah (hN E hZ))) fun bu ai X ae=>sN<|sq ?_)
 refine Ev.cut (Q1:=kz J N U I M0 au) (by
     have h:=aT
     refine sq (Rd<|kf (bp X)<|kf (i2 Tryz.underlying24 E)<|kf (fB E E)<|kf (bp E) ?_)
     rcases aj h with ⟨D,h⟩ | ⟨D,h⟩
     ·obtain ⟨bo,aD,h⟩:=ad h
      obtain ⟨bq,aw,h⟩:=ad h
      obtain ⟨br,ax,h⟩:=ad h
      refine kf (guT E D (bp ai)) (kf (guT E D (bp ae))<|kf (guT E D (bp X))<|kf (guT E D (kJ E E aD (de _)))<|kf (guT E D (cr E E))<|kf (guT E D (mL E O E))<|kf (guT E D (l9 E O E E aw))<|kf (guT E D (l9 E O E E ax))<|kf (guT E D (wR (K:=AV.int .i64) (c:=(cI .i64)) (z:=0) (Z:=(Ar.rep 16 0)) (G:=J) (pre:=[]) (post:=[]) E O E E E E E (fun _=>E) aw ax))<|kf (guT E D (fB E E))<|kf (cC E D E)<|fZ<|Rn (hA ai (hA X (hA ae (hN E hZ)))) fun a6 aP az aQ af=>sN ?_)
      rcases aj h with ⟨ab,h⟩ | ⟨ab,h⟩
      ·refine cT af ab (av<|kx (bp az)<|be<|be<|Rn (hN E (hV (.bool true) E hZ)) fun a7 aR aS=>sN<|xx ?_)
       obtain rfl:=si h
       exact kd (show kz J N U I M0 _ _ from ⟨E,aR,aS,O,ac⟩)
      refine cF af ab (xx ?_)
      obtain rfl:=si h
      exact kd (show kz J N U I M0 _ _ from ⟨E,aP,az,aQ,af,O,ac⟩)
     refine kf (gsT E D) (kf (gsT E D)<|kf (gsT E D)<|kf (gsT E D)<|kf (gsT E D)<|kf (gsT E D)<|kf (gsT E D)<|kf (gsT E D)<|kf (gsT E D)<|kf (gsT E D)<|kf (cU E D E)<|fZ<|Rn (hA ai (hA X (hA ae (hV (.bool false) E hZ)))) fun a8 aC aX aY aA=>sN<|cF aA E<|xx ?_)
     obtain rfl:=si h
     exact kd (show kz J N U I M0 _ _ from ⟨E,aC,aX,aY,aA,O,ac⟩)) ?_
 rcases au with _ | bD
 ·intro x a9 ba aE
  obtain ⟨rfl,aZ,a0,a1,aF⟩:=aE
  refine sR ?_
  exact yN h (bB aZ (bB a0 bK)) ⟨E,a1,aF⟩
 intro x bb bc aU
 obtain ⟨rfl,a2,ak,a3,bd,am,ay⟩:=aU
 obtain ⟨bf,aG,h⟩:=ad h
 obtain ⟨aH,ar,h⟩:=ad h
 refine sN (sq<|av<|kx (bp ak)<|kx (kJ E E aG (de _))<|kx (cr E E)<|kx (cu E E)<|be<|Rn (hV (.loc I 1 0 0) a2 (hV (.sl none (N.map (cI .i64))) ak (hV (a4 U) a3 (hN E hZ)))) fun bg an ao ap aq=>sN<|bl ?_)
 rcases aH with bm | _
 ·refine Ev.loop (pO J N Y U I M0 aB) ar ⟨an,ao,ap,aq,am,ay⟩ fun x bh bi aa=>?_
  obtain ⟨rfl,aI,aJ,aK,aV⟩:=aa
  refine bR (sR ?_)
  exact yN h (bB aI (bB aJ bK)) ⟨E,aK,aV⟩
 refine Ev.loop (pO J N Y U I M0 aB) ar ⟨an,ao,ap,aq,am,ay⟩ fun x bj bk aa=>?_
 obtain ⟨rfl,aL,aW⟩:=aa
 refine bE (sN<|av<|kx (kh E E ⟨E,by decide⟩)<|be<|be<|Rn (hN E (hV (.bool false) E hZ)) fun bn aM aN=>sN<|xx ?_)
 exact yN h (bB aM (bB aN bK)) ⟨E,aL,aW⟩
noncomputable def ev:Nat->(Ar 16 (Ar 16 Int))->(List Int)->Option ((List Int)×Bool)
  | 0,_,_=>none
  | k0 + 1,a1,a2=>jB (ev k0) a1 a2
theorem qx:∀ (I:Nat) (D:Ar 16 (Ar 16 Int)) (F:List Int) (G:Nat) (M0:bs) (J:M0[G]? = some (.live ⟨.box,150,256,[(bY (bY (n:=16) (cI .i64) 0) (Ar.rep 16 0) D)]⟩)) (r:(List Int)×Bool) (h:ev I D F=some r),Ev (fun k=>CN k 102 [.loc G 1 0 0,.sl none (F.map (cI .i64))] M0) (k6 D F G M0 r)
  | 0,D,F,G,M0,J,r,h=>by cases h
  | I + 1,D,F,G,M0,J,r,h=>wi (ev I) (qx I) D F G M0 J r h
noncomputable def sa (D:Ar 16 (Ar 16 Int)) (F:List Int):Option ((List Int)×Bool):=ev 64 D F
theorem yQ (D:Ar 16 (Ar 16 Int)) (F:List Int) (G:Nat) (M0:bs) (I:M0[G]? = some (.live ⟨.box,150,256,[(bY (bY (n:=16) (cI .i64) 0) (Ar.rep 16 0) D)]⟩)) (r:(List Int)×Bool) (h:sa D F=some r):Ev (fun k=>CN k 102 [.loc G 1 0 0,.sl none (F.map (cI .i64))] M0) (k6 D F G M0 r):=qx 64 D F G M0 I r h
abbrev fK:=Int
abbrev kl:=((List Int))⊕Unit
def nh (F:Ar 16 (Ar 16 Int)) (D:Nat) (M0:bs) (s:fK) (e:b4) (M:bs):Prop:=a3 e 0 = .loc D 1 0 0/\a3 e 4 = a4 s/\M[D]? = some (.live ⟨.box,150,256,[(bY (bY (n:=16) (cI .i64) 0) (Ar.rep 16 0) F)]⟩)/\Fr [D] M0 M
def sK (F:Ar 16 (Ar 16 Int)) (D:Nat) (M0:bs) (r:kl) (x:Ex) (e:b4) (M:bs):Prop:=
  match r with
  | (.inl g)=>x = .ret/\a3 e 2 = .sl none (g.map (cI .i64))/\a3 e 3 = .bool true/\M[D]? = some (.live ⟨.box,150,256,[(bY (bY (n:=16) (cI .i64) 0) (Ar.rep 16 0) F)]⟩)/\Fr [D] M0 M
  | (.inr g)=>x = .ext 0/\M[D]? = some (.live ⟨.box,150,256,[(bY (bY (n:=16) (cI .i64) 0) (Ar.rep 16 0) F)]⟩)/\Fr [D] M0 M
noncomputable def dM (F:Ar 16 (Ar 16 Int)):fK->Option (fK⊕kl):=fun D=>
 if (decide (D < 16))=true then
  (sa F [D]).bind fun (O,Y)=>
  if Y=true then
   some (.inr (.inl O))
  else
   some (.inl (IntKind.i64.wrap (D + 1)))
 else
  some (.inr (.inr ()))
theorem m0 (F:Ar 16 (Ar 16 Int)) (D:Nat) (M0:bs) (s:fK) (r:fK⊕kl) (h:dM F s=some r) (e:b4) (M:bs) (O:nh F D M0 s e M):Ev (fun k=>(Ip (CN k) k (prune [0,4] e) M).bind fun q=>some q) (bQ (nh F D M0) (sK F D M0) r):=by
 revert h O
 revert s
 intro U h O
 unfold dM at h
 obtain ⟨am,an,aa,X⟩:=O
 generalize Y:prune [0,4] e=aT
 have ao:=bZ Y.symm E am
 have ab:=bZ Y.symm E an
 refine sq (av<|kx (bp ab)<|kx (dp E E)<|Rn (hV (.loc D 1 0 0) ao (hV (a4 U) ab (hN E hZ))) fun aL ac ae af=>sN ?_)
 rcases aj h with ⟨G,h⟩ | ⟨G,h⟩
 ·obtain ⟨⟨ap,aq⟩,ay,h⟩:=ad h
  refine cT af G (xx<|sN<|sq<|bl<|av<|kx (bp ac)<|kx (bp ae)<|kx (kh (b3 E E) E ⟨E,by decide⟩) (Ev.nxw (Ev.callO E E (b3 E (b3 E E)) (AN E (AN E Gx)) E (yQ F [U] D M aa _ ay)) fun ar ah I=>?_))
  obtain ⟨aM,I,aJ⟩:=I
  obtain ⟨J,au,aI⟩:=I
  have J:ar = .tup [.sl none (ap.map (cI .i64)),.bool aq]:=aJ.symm.trans J
  subst J
  have ai:ah[D]? = some (.live ⟨.box,150,256,[(bY (bY (n:=16) (cI .i64) 0) (Ar.rep 16 0) F)]⟩):=au
  have Z:Fr [D] M0 ah:=Fr.call X aI (y4 (by simp) y2)
  refine be (kx (eO E E)<|kx (eO E E)<|be<|be<|Rn (hA ac (hA ae (hN E (hN E hZ)))) fun aN aw ax az aA=>sN<|av<|kx (bp aA)<|Rn (hA aw (hA ax (hA az (hN E hZ)))) fun aK aB aC aD ak=>sN ?_)
  rcases aj h with ⟨N,h⟩ | ⟨N,h⟩
  ·refine cT ak N (av<|kx (bp aD)<|be<|be<|Rn (hN E (hV (.bool true) E hZ)) fun aO aE aF=>sN<|xx<|bR<|sR ?_)
   exact lr h ⟨E,aE,aF,ai,Z⟩
  refine cF ak N (xx<|bN<|sN<|Rg<|kx (bp aC)<|kx (cu E E)<|be<|Rn (hA aB (hN E hZ)) fun aP aG aH=>?_)
  exact jd h ⟨aG,aH,ai,Z⟩
 refine cF af G (xx<|sE ?_)
 exact md h ⟨E,aa,X⟩
noncomputable def jp (D:Ar 16 (Ar 16 Int)):Option ((List Int)×Bool):=
 (Lw (dM D) 0).bind fun r=>match r with
 | (.inl J)=>
  some (J,true)
 | (.inr _)=>
  some (([]:List Int),false)
def vJ (F:Ar 16 (Ar 16 Int)) (D:Nat) (M0:bs) (r:(List Int)×Bool) (p:AV×bs):Prop:=Gy p.1 = .tup [.sl none (r.1.map (cI .i64)),.bool r.2]/\p.2[D]? = some (.live ⟨.box,150,256,[(bY (bY (n:=16) (cI .i64) 0) (Ar.rep 16 0) F)]⟩)/\Fr [D] M0 p.2
theorem uS (G:Ar 16 (Ar 16 Int)) (D:Nat) (M0:bs) (X:M0[D]? = some (.live ⟨.box,150,256,[(bY (bY (n:=16) (cI .i64) 0) (Ar.rep 16 0) G)]⟩)) (r:(List Int)×Bool) (h:jp G=some r):Ev (fun k=>CN k 51 [.loc D 1 0 0] M0) (vJ G D M0 r):=by
 unfold jp at h
 have N:Fr [D] M0 M0:=Fr.refl
 obtain ⟨aa,J,h⟩:=ad h
 refine Ev.enter (F:=fun k=>f51 (CN k) k) (fun k=>bH E Tryz.func51 E E E (by decide +kernel) (LG _ _)) (av<|be<|be<|Rn (hV (.loc D 1 0 0) E hZ) fun aq aj=>sN<|sq<|av<|be<|Rn (hA aj (hV (a4 0) E hZ)) fun au O U=>sN<|bl ?_)
 rcases aa with ar | _
 ·refine Ev.loop (m0 G D M0) J ⟨O,U,X,N⟩ fun x ak am I=>?_
  obtain ⟨rfl,ab,ac,ae,Y⟩:=I
  refine bR (sR ?_)
  exact yN h (bB ab (bB ac bK)) ⟨E,ae,Y⟩
 refine Ev.loop (m0 G D M0) J ⟨O,U,X,N⟩ fun x an ao I=>?_
 obtain ⟨rfl,af,Z⟩:=I
 refine bE (sN<|av<|kx (kh E E ⟨E,by decide⟩)<|be<|be<|Rn (hN E (hV (.bool false) E hZ)) fun ap ah ai=>sN<|xx ?_)
 exact yN h (bB ah (bB ai bK)) ⟨E,af,Z⟩
abbrev fG:=Int×(Ar 16 (Ar 16 Int))
abbrev kj:=(Ar 16 (Ar 16 Int))
def mY (F:List Int) (G:Int) (D:Nat) (M0:bs) (s:fG) (e:b4) (M:bs):Prop:=a3 e 0 = .loc D 1 0 0/\a3 e 1 = .sl none (F.map (cI .i64))/\a3 e 2 = a4 G/\a3 e 6 = a4 (F.length:Int)/\a3 e 7 = a4 s.1/\M[D]? = some (.live ⟨.box,150,256,[(bY (bY (n:=16) (cI .i64) 0) (Ar.rep 16 0) s.2)]⟩)/\Fr [D] M0 M
def sv (F:List Int) (G:Int) (D:Nat) (M0:bs) (g:kj) (x:Ex) (e:b4) (M:bs):Prop:=x = .ext 0/\M[D]? = some (.live ⟨.box,150,256,[(bY (bY (n:=16) (cI .i64) 0) (Ar.rep 16 0) g)]⟩)/\Fr [D] M0 M
noncomputable def em (D:List Int) (N:Int):fG->Option (fG⊕kj):=fun (J,O)=>
 if (decide (J < (D.length:Int)))=true then
  (rd D J).bind fun F=>
  (rem .i64 (IntKind.i64.wrap (J + 1)) (D.length:Int)).bind fun U=>
  (rd D U).bind fun G=>
  (jF O F).bind fun X=>
  (jF X G).bind fun Y=>
  (jF O F).bind fun I=>
  (jF I G).bind fun Z=>
  some (.inl ((IntKind.i64.wrap (J + 1)),(O.set F.toNat (I.set G.toNat (IntKind.i64.wrap (Y - N))))))
 else
  some (.inr O)
theorem r4 (I:List Int) (F:Int) (N:Nat) (M0:bs) (s:fG) (r:fG⊕kj) (h:em I F s=some r) (e:b4) (M:bs) (aW:mY I F N M0 s e M):Ev (fun k=>(Jt (CN k) k (prune [0,1,2,6,7] e) M).bind fun q=>some q) (bQ (mY I F N M0) (sv I F N M0) r):=by
 obtain ⟨au,O⟩:=s
 unfold em at h
 obtain ⟨aA,aB,aC,aD,aE,D,ab⟩:=aW
 generalize J:prune [0,1,2,6,7] e=bj
 have aF:=bZ J.symm E aA
 have aG:=bZ J.symm E aB
 have aH:=bZ J.symm E aC
 have ak:=bZ J.symm E aD
 have am:=bZ J.symm E aE
 refine sq (av<|kx (bp am)<|kx (bp ak)<|kx (dp E E)<|Rn (hV (.loc N 1 0 0) aF (hV (.sl none (I.map (cI .i64))) aG (hV (a4 F) aH (hV (a4 (I.length:Int)) ak (hV (a4 au) am (hN E hZ)))))) fun aX an X ao ap Y aq=>sN ?_)
 rcases aj h with ⟨U,h⟩ | ⟨U,h⟩
 ·obtain ⟨aI,aw,h⟩:=ad h
  obtain ⟨aY,ax,h⟩:=ad h
  obtain ⟨aJ,ay,h⟩:=ad h
  obtain ⟨aZ,ac,h⟩:=ad h
  obtain ⟨aa,ae,h⟩:=ad h
  obtain ⟨aK,af,h⟩:=ad h
  obtain ⟨a0,ah,h⟩:=ad h
  refine cT aq U (xx<|sN<|sq<|bl<|Rd<|kf (bp an)<|kf (bp X)<|kf (bp Y)<|kf (kJ E E aw (de _))<|kf (cr E E)<|kf (bp X)<|kf (bp Y)<|kf (cu E E)<|kf (bp ap)<|kf (Bx E E ax)<|kf (kJ E E ay (de _))<|kf (cr E E)<|kf (mL E D E)<|kf (l9 E D E E ac)<|kf (l9 E D E E ae)<|kf (wR (K:=AV.int .i64) (c:=(cI .i64)) (z:=0) (Z:=(Ar.rep 16 0)) (G:=O) (pre:=[]) (post:=[]) E D E E E E E (fun _=>E) ac ae)<|kf (bp ao)<|kf (lD E E)<|kf (mL E D E)<|kf (l9 E D E E af)<|kf (l9 E D E E ah)<|fZ<|kw (EX (c:=(cI .i64)) (z:=0) (Z:=(Ar.rep 16 0)) (G:=O) (pre:=[]) (post:=[]) (w':=(IntKind.i64.wrap (aa - F))) E E D E E E E E (fun _=>E) E E af ah) fun aL ai=>?_)
  have aM:aL[N]? = some (.live ⟨.box,150,256,[(bY (bY (n:=16) (cI .i64) 0) (Ar.rep 16 0) (O.set aI.toNat (aK.set aJ.toNat (IntKind.i64.wrap (aa - F)))))]⟩):=bc ai D
  have az:=Fr.setIn ab ai (by simp)
  refine Rn (hA an (hA X (hA ao (hA ap (hA Y hZ))))) fun a1 aN aO aP ar aQ=>bN (sN<|Rg<|kx (bp aQ)<|kx (cu E E)<|be<|Rn (hA aN (hA aO (hA aP (hA ar (hN E hZ))))) fun a2 aR aS aT aU aV=>?_)
  exact jd h ⟨aR,aS,aT,aU,aV,aM,az⟩
 refine cF aq U (xx<|sE ?_)
 exact md h ⟨E,D,ab⟩
noncomputable def jo (F:Ar 16 (Ar 16 Int)) (G:List Int) (I:Int):Option ((Ar 16 (Ar 16 Int))):=
 (Lw (em G I) (0,F)).bind fun D=>
 some D
def vr (F:Ar 16 (Ar 16 Int)) (G:List Int) (I:Int) (D:Nat) (M0:bs) (r:(Ar 16 (Ar 16 Int))) (p:AV×bs):Prop:=p.1 = .tup []/\p.2[D]? = some (.live ⟨.box,150,256,[(bY (bY (n:=16) (cI .i64) 0) (Ar.rep 16 0) r)]⟩)/\Fr [D] M0 p.2
theorem uW (J:Ar 16 (Ar 16 Int)) (G:List Int) (I:Int) (D:Nat) (M0:bs) (ak:M0[D]? = some (.live ⟨.box,150,256,[(bY (bY (n:=16) (cI .i64) 0) (Ar.rep 16 0) J)]⟩)) (r:(Ar 16 (Ar 16 Int))) (h:jo J G I=some r):Ev (fun k=>CN k 53 [.loc D 1 0 0,.sl none (G.map (cI .i64)),a4 I] M0) (vr J G I D M0 r):=by
 unfold jo at h
 have X:Fr [D] M0 M0:=Fr.refl
 obtain ⟨am,N,h⟩:=ad h
 refine Ev.enter (F:=fun k=>f53 (CN k) k) (fun k=>bH E Tryz.func53 E E E (by decide +kernel) (LN _ _)) (av<|be<|kx (i2 Tryz.underlying24 E)<|be<|Rn (hV (.loc D 1 0 0) E (hN E (hN E (hN E hZ)))) fun ap ae af ah ai=>sN<|av<|be<|Rn (hA ae (hA af (hA ah (hA ai (hV (a4 0) E hZ))))) fun aq aj Y Z aa ab=>sN<|bl (Ev.loop (r4 G I D M0) N ⟨aj,Y,Z,aa,ab,ak,X⟩ fun x an ao O=>?_))
 obtain ⟨rfl,ac,U⟩:=O
 refine bE ?_
 obtain rfl:=si h
 exact eN bK ⟨E,ac,U⟩
abbrev fA:=Int×(Ar 16 (Ar 16 Int))
abbrev jL:=Int×(Ar 16 (Ar 16 Int))
def mA (D:Nat) (s:fA) (e:b4) (M:bs):Prop:=a3 e 7 = .loc D 1 0 0/\a3 e 10 = a4 s.1/\M[D]? = some (.live ⟨.box,150,256,[(bY (bY (n:=16) (cI .i64) 0) (Ar.rep 16 0) s.2)]⟩)
def rO (D:Nat) (g:jL) (x:Ex) (e:b4) (M:bs):Prop:=x = .ext 0/\a3 e 7 = .loc D 1 0 0/\a3 e 10 = a4 g.1/\M[D]? = some (.live ⟨.box,150,256,[(bY (bY (n:=16) (cI .i64) 0) (Ar.rep 16 0) g.2)]⟩)
noncomputable def dB:fA->Option (fA⊕jL):=fun (O,J)=>
 (jp J).bind fun (Y,ab)=>
 if ab=true then
  (lX J Y).bind fun D=>
  (jo J Y D).bind fun F=>
  some (.inl ((IntKind.i64.wrap (O + (IntKind.i64.wrap (D * (Y.length:Int))))),F))
 else
  some (.inr (O,J))
theorem rq (D:Nat) (s:fA) (r:fA⊕jL) (h:dB s=some r) (e:b4) (M:bs) (aR:mA D s e M):Ev (fun k=>(GZ (CN k) k (prune [7,10] e) M).bind fun q=>some q) (bQ (mA D) (rO D) r):=by
 obtain ⟨an,F⟩:=s
 unfold dB at h
 obtain ⟨az,aA,aB⟩:=aR
 generalize Z:prune [7,10] e=bo
 have aa:=bZ Z.symm E az
 have aD:=bZ Z.symm E aA
 obtain ⟨⟨O,aE⟩,aC,h⟩:=ad h
 refine bl (av<|kx (bp aa) (Ev.nxw (Ev.callO E E (b3 E E) (AN E Gx) E (uS F D M aB _ aC)) fun aF ab G=>?_))
 obtain ⟨aW,G,aS⟩:=G
 obtain ⟨I,aG,aT⟩:=G
 have I:aF = .tup [.sl none (O.map (cI .i64)),.bool aE]:=aS.symm.trans I
 subst I
 have U:ab[D]? = some (.live ⟨.box,150,256,[(bY (bY (n:=16) (cI .i64) 0) (Ar.rep 16 0) F)]⟩):=aG
 refine be (kx (eO E E)<|kx (eO E E)<|be<|be<|Rn (hV (.loc D 1 0 0) aa (hV (a4 an) aD (hN E (hN E hZ)))) fun aX aH aI aJ aK=>sN<|sq<|av<|kx (bp aK)<|kx (eZ E)<|Rn (hA aH (hA aI (hA aJ (hN E hZ)))) fun aY X ac ae af=>sN ?_)
 rcases aj h with ⟨J,h⟩ | ⟨J,h⟩
 ·obtain ⟨ah,ao,h⟩:=ad h
  obtain ⟨am,ap,h⟩:=ad h
  refine cF af (nt J) (xx<|sN<|av<|kx (bp X)<|kx (bp ae) (kc (cl (v:=a4 ah) E E (b3 E (b3 E E)) (zV (kq U E E E ⟨E,blt E⟩) (zV E ER)) (xH F O _ ao) (fun _=>E))<|be<|Rn (hA X (hA ac (hA ae (hN E hZ)))) fun aZ ai aL ak Y=>sN<|av<|kx (bp ai)<|kx (bp ak)<|kx (bp Y) (Ev.nxw (Ev.callW E E (b3 E (b3 E (b3 E E))) (uW F O ah D ab U _ ap)) fun aM aN aq=>?_)))
  obtain ⟨N,aO,aU⟩:=aq
  have N:aM = .tup []:=N
  subst N
  have aP:aN[D]? = some (.live ⟨.box,150,256,[(bY (bY (n:=16) (cI .i64) 0) (Ar.rep 16 0) am)]⟩):=aO
  refine Rn (hA ai (hA aL (hA ak (hA Y hZ)))) fun a0 aQ ar au aw=>sN (Rg<|kx (bp ar)<|kx (bp aw)<|kx (bp au)<|kx (i2 Tryz.underlying24 E)<|kx (Cn E E)<|kx (cu E E)<|be<|Rn (hA aQ (hN E hZ)) fun aV ax ay=>bN ?_)
  exact jd h ⟨ax,ay,aP⟩
 refine cT af (nt J) (xx<|sE (bO E ?_))
 exact md h ⟨E,X,ac,U⟩
noncomputable def iJ (G:Int) (F:List Debt):Option ((List Debt)×Int×Int):=
 (qb G F).bind fun I=>
 if I=true then
  (iZ F).bind fun D=>
  (fi D).bind fun (ae,Y)=>
  if (Y != 0)=true then
   some (([]:List Debt),0,Y)
  else
   (Lw (dB) (0,D)).bind fun (aa,ab)=>
   (fi ab).bind fun (ac,J)=>
   if (J != 0)=true then
    some (([]:List Debt),0,J)
   else
    some (ac,aa,0)
 else
  some (([]:List Debt),0,1)
def tE (r:(List Debt)×Int×Int):AV:=.tup [.sl none (r.1.map Debt.c),a4 r.2.1,a4 r.2.2]
theorem uk (O:Int) (D:List Debt) (r:(List Debt)×Int×Int) (h:iJ O D=some r):Ev (fun k=>CN k 14 [a4 O,.sl none (D.map Debt.c)] []) (fun p=>As (cp p.2 p.1)=tE r/\iu (cp p.2 p.1)=true):=by
 unfold iJ at h
 obtain ⟨a0,aN,h⟩:=ad h
 refine Ev.enter (F:=fun k=>f14 (CN k) k) (fun k=>bH E Tryz.func14 E E E (by decide +kernel) (L7 _ _)) (av<|be<|be<|be<|Rn (hN E (hN E hZ)) fun bf aY am=>sN<|sq<|av<|kx (bp aY)<|kx (bp am) (kc (cl (v:=.bool a0) E E (b3 E (b3 E E)) E (Ah O D _ aN) nm)<|kx (eZ E)<|Rn (hA am (hN E hZ)) fun bg aZ ab=>sN ?_))
 rcases aj h with ⟨J,h⟩ | ⟨J,h⟩
 ·obtain ⟨G,ao,h⟩:=ad h
  refine cF ab (nt J) (xx<|sN<|av<|kx (bp aZ) (Ev.nxcp (Ev.callT (v:=.pt (some 150) (bY (bY (n:=16) (cI .i64) 0) (Ar.rep 16 0) G)) E (b3 E E) E (s5 D _ ao) (Bh (v':=.loc ([]:bs).length 1 0 0) (l:=[⟨.box,150,256,[(bY (bY (n:=16) (cI .i64) 0) (Ar.rep 16 0) G)]⟩]) E (by simp [yE,s6,rK,k7,NU]) E E)) fun an ap=>?_))
  have ac:an[([]:bs).length]? = some (.live ⟨.box,150,256,[(bY (bY (n:=16) (cI .i64) 0) (Ar.rep 16 0) G)]⟩):=ji ap 0 E
  obtain ⟨⟨aP,ae⟩,aC,h⟩:=ad h
  refine be (Rn (hV (.loc ([]:bs).length 1 0 0) E hZ) fun a1 af=>sN<|sq<|av<|kx (bp af) (kc (cl (v:=.tup [.sl (some 82) (aP.map Debt.c),a4 ae]) E E (b3 E E) (zV (kq ac E E E ⟨E,blt E⟩) ER) (o3 G _ aC) (fun _=>(dL (hM (iR (c:=Debt.c) Debt.flF) (hM E sL)))))<|be<|kx (eO E E)<|kx (eO E E)<|be<|be<|Rn (hA af (hN E hZ)) fun a2 aQ ah=>sN<|av<|kx (bp ah)<|kx (gD E E)<|Rn (hA aQ (hA ah (hN E hZ))) fun a3 aR aS ak=>sN ?_))
  rcases aj h with ⟨N,h⟩ | ⟨N,h⟩
  ·refine cT ak N (av<|kx (kh E E ⟨E,by decide⟩)<|kx (bp aS)<|be<|be<|be<|Rn (hN E (hV (a4 0) E (hN E hZ))) fun a5 aT aU aV=>sN<|xx<|sR ?_)
   obtain rfl:=si h
   exact eR (bB aT (bB aU (bB aV bK))) (AA (y:=.tup [.sl (some 82) (([]:List Debt).map Debt.c),a4 0,a4 ae]) E E (dL (hM (iR (c:=Debt.c) Debt.flF) (hM E (hM E sL)))))
  obtain ⟨⟨U,ar⟩,ai,h⟩:=ad h
  refine cF ak N (xx<|sN<|av<|be<|Rn (hA aR (hV (a4 0) E hZ)) fun a6 aW aX=>sN<|sq<|bl (Ev.loop (rq (([]:bs).length)) ai ⟨aW,aX,ac⟩ fun x a7 a8 aO=>?_))
  obtain ⟨rfl,au,aw,ax⟩:=aO
  obtain ⟨⟨X,Y⟩,aq,h⟩:=ad h
  refine bE (sN<|av<|kx (bp au) (kc (cl (v:=.tup [.sl (some 82) (X.map Debt.c),a4 Y]) E E (b3 E E) (zV (kq ax E E E ⟨E,blt E⟩) ER) (o3 ar _ aq) (fun _=>(dL (hM (iR (c:=Debt.c) Debt.flF) (hM E sL)))))<|be<|kx (eO E E)<|kx (eO E E)<|be<|be<|Rn (hV (a4 U) aw (hN E (hN E hZ))) fun a9 ay az Z=>sN<|sq<|av<|kx (bp Z)<|kx (gD E E)<|Rn (hA ay (hA az (hA Z (hN E hZ)))) fun ba aA aB aD aa=>sN ?_))
  rcases aj h with ⟨I,h⟩ | ⟨I,h⟩
  ·refine cT aa I (av<|kx (kh E E ⟨E,by decide⟩)<|kx (bp aD)<|be<|be<|be<|Rn (hN E (hV (a4 0) E (hN E hZ))) fun bb aE aF aG=>sN<|xx<|sR ?_)
   obtain rfl:=si h
   exact eR (bB aE (bB aF (bB aG bK))) (AA (y:=.tup [.sl (some 82) (([]:List Debt).map Debt.c),a4 0,a4 Y]) E E (dL (hM (iR (c:=Debt.c) Debt.flF) (hM E (hM E sL)))))
  refine cF aa I (xx<|sN<|av<|kx (bp aB)<|kx (bp aA)<|be<|be<|be<|Rn (hN E (hN E (hV (a4 0) E hZ))) fun bc aH aI aJ=>sN<|xx ?_)
  obtain rfl:=si h
  exact eR (bB aH (bB aI (bB aJ bK))) (AA (y:=.tup [.sl (some 82) (X.map Debt.c),a4 U,a4 0]) E E (dL (hM (iR (c:=Debt.c) Debt.flF) (hM E (hM E sL)))))
 refine cT ab (nt J) (av<|kx (kh E E ⟨E,by decide⟩)<|be<|be<|be<|Rn (hN E (hV (a4 0) E (hV (a4 1) E hZ))) fun bd aK aL aM=>sN<|xx<|sR ?_)
 obtain rfl:=si h
 exact eR (bB aK (bB aL (bB aM bK))) (AA (y:=.tup [.sl (some 82) (([]:List Debt).map Debt.c),a4 0,a4 1]) E E (dL (hM (iR (c:=Debt.c) Debt.flF) (hM E (hM E sL)))))
def gl (F:Ar 16 (Ar 16 Int)) (G:List Int) (D:Nat) (M0:bs) (r:((List Int))⊕Unit) (p:AV×bs):Prop:=
  match r with
  | (.inl g)=>Gy p.1 = .sl none (g.map (cI .i64))/\p.2[D]? = some (.live ⟨.box,91,256,[(bY (bY (n:=16) (cI .i64) 0) (Ar.rep 16 0) F)]⟩)/\Fr [D] M0 p.2
  | (.inr g)=>Gy p.1 = .nils/\p.2[D]? = some (.live ⟨.box,91,256,[(bY (bY (n:=16) (cI .i64) 0) (Ar.rep 16 0) F)]⟩)/\Fr [D] M0 p.2
def gH (F:Ar 16 (Ar 16 Int)) (G:List Int) (I:Int) (J:Int) (D:Nat) (M0:bs) (r:Unit⊕Bool) (q:oZ):Prop:=
  match r with
  | (.inl g)=>q.1 = .ret/\a3 q.2.1 4 = .sl none (G.map (cI .i64))/\q.2.2[D]? = some (.live ⟨.box,91,256,[(bY (bY (n:=16) (cI .i64) 0) (Ar.rep 16 0) F)]⟩)/\Fr [D] M0 q.2.2
  | (.inr g)=>q.1 = .nrm/\a3 q.2.1 0 = .loc D 1 0 0/\a3 q.2.1 1 = .sl none (G.map (cI .i64))/\a3 q.2.1 5 = a4 I/\a3 q.2.1 6 = a4 J/\a3 q.2.1 30 = .bool g/\q.2.2[D]? = some (.live ⟨.box,91,256,[(bY (bY (n:=16) (cI .i64) 0) (Ar.rep 16 0) F)]⟩)/\Fr [D] M0 q.2.2
def gF (G:Ar 16 (Ar 16 Int)) (I:List Int) (J:Int) (F:Int) (D:Nat) (M0:bs) (r:Bool⊕Bool) (q:oZ):Prop:=
  match r with
  | (.inl g)=>q.1=(.ext 1)/\a3 q.2.1 0 = .loc D 1 0 0/\a3 q.2.1 1 = .sl none (I.map (cI .i64))/\a3 q.2.1 6 = a4 J/\a3 q.2.1 7 = a4 F/\a3 q.2.1 50 = .bool g/\q.2.2[D]? = some (.live ⟨.box,91,256,[(bY (bY (n:=16) (cI .i64) 0) (Ar.rep 16 0) G)]⟩)/\Fr [D] M0 q.2.2
  | (.inr g)=>q.1 = .nrm/\a3 q.2.1 0 = .loc D 1 0 0/\a3 q.2.1 1 = .sl none (I.map (cI .i64))/\a3 q.2.1 6 = a4 J/\a3 q.2.1 7 = a4 F/\a3 q.2.1 50 = .bool g/\q.2.2[D]? = some (.live ⟨.box,91,256,[(bY (bY (n:=16) (cI .i64) 0) (Ar.rep 16 0) G)]⟩)/\Fr [D] M0 q.2.2
abbrev e3:=Int
abbrev jv:=((List Int))⊕Unit
def lQ (F:Ar 16 (Ar 16 Int)) (G:List Int) (J:(Ar 16 (Ar 16 Int))->(List Int)->Option (((List Int))⊕Unit)) (I:Int) (D:Nat) (M0:bs) (s:e3) (e:b4) (M:bs):Prop:=a3 e 0 = .loc D 1 0 0/\a3 e 1 = .sl none (G.map (cI .i64))/\a3 e 6 = a4 I/\a3 e 7 = a4 s/\M[D]? = some (.live ⟨.box,91,256,[(bY (bY (n:=16) (cI .i64) 0) (Ar.rep 16 0) F)]⟩)/\Fr [D] M0 M
def rf (F:Ar 16 (Ar 16 Int)) (G:List Int) (I:(Ar 16 (Ar 16 Int))->(List Int)->Option (((List Int))⊕Unit)) (J:Int) (D:Nat) (M0:bs) (r:jv) (x:Ex) (e:b4) (M:bs):Prop:=
  match r with
  | (.inl g)=>x = .ret/\a3 e 4 = .sl none (g.map (cI .i64))/\M[D]? = some (.live ⟨.box,91,256,[(bY (bY (n:=16) (cI .i64) 0) (Ar.rep 16 0) F)]⟩)/\Fr [D] M0 M
  | (.inr g)=>x = .ext 0/\M[D]? = some (.live ⟨.box,91,256,[(bY (bY (n:=16) (cI .i64) 0) (Ar.rep 16 0) F)]⟩)/\Fr [D] M0 M
noncomputable def cP (G:Ar 16 (Ar 16 Int)) (I:List Int) (X:(Ar 16 (Ar 16 Int))->(List Int)->Option (((List Int))⊕Unit)) (Z:Int):e3->Option (e3⊕jv):=fun D=>
 if (decide (D < 16))=true then
  (((jF G Z).bind fun O=>
  (jF O D).bind fun U=>
  if (U==0)=true then
   some (.inl true)
  else
   (fF I D).bind fun F=>
   if F=true then
    some (.inl F)
   else
    some (.inr F):Option (Bool⊕Bool))).bind fun r=>match r with
  | (.inl af)=>
   some (.inl (IntKind.i64.wrap (D + 1)))
  | (.inr ah)=>
   (dZ I).bind fun J=>
   (qB 8 J [D]).bind fun N=>
   (X G N).bind fun r=>match r with
   | (.inl Y)=>
    if (decide (0 < Y.length))=true then
     some (.inr (.inl Y))
    else
     none
   | (.inr _)=>
    some (.inl (IntKind.i64.wrap (D + 1)))
 else
  some (.inr (.inr ()))
theorem lU (F:Ar 16 (Ar 16 Int)) (I:List Int) (aa:(Ar 16 (Ar 16 Int))->(List Int)->Option (((List Int))⊕Unit)) (J:Int) (D:Nat) (M0:bs) (a5:∀ (F:Ar 16 (Ar 16 Int)) (I:List Int) (D:Nat) (M0:bs) (cZ:M0[D]? = some (.live ⟨.box,91,256,[(bY (bY (n:=16) (cI .i64) 0) (Ar.rep 16 0) F)]⟩)) (r:((List Int))⊕Unit),aa F I=some r->Ev (fun k=>CN k 101 [.loc D 1 0 0,.sl none (I.map (cI .i64))] M0) (gl F I D M0 r)) (s:e3) (r:e3⊕jv) (h:cP F I aa J s=some r) (e:b4) (M:bs) (aC:lQ F I aa J D M0 s e M):Ev (fun k=>(EZ (CN k) k (prune [0,1,6,7] e) M).bind fun q=>some q) (bQ (lQ F I aa J D M0) (rf F I aa J D M0) r):=by
 revert h aC
 revert s
 intro N h aC
 unfold cP at h
 obtain ⟨b2,b5,cj,ck,U,ae⟩:=aC
 generalize af:prune [0,1,6,7] e=dJ
 have cm:=bZ af.symm E b2
 have cn:=bZ af.symm E b5
 have co:=bZ af.symm E cj
 have aT:=bZ af.symm E ck
 refine sq (av<|kx (bp aT)<|kx (dp E E)<|Rn (hV (.loc D 1 0 0) cm (hV (.sl none (I.map (cI .i64))) cn (hV (a4 J) co (hV (a4 N) aT (hN E hZ))))) fun cE an ao ap ab aU=>sN ?_)
 rcases aj h with ⟨aA,h⟩ | ⟨aA,h⟩
 ·obtain ⟨aK,bz,h⟩:=ad h
  refine cT aU aA (xx<|sN<|sq<|bl<|sq ?_)
  refine Ev.cut (Q1:=gF F I J N D M0 aK) (by
      have h:=bz
      obtain ⟨cG,aL,h⟩:=ad h
      obtain ⟨cH,aM,h⟩:=ad h
      refine av (kx (bp an)<|kx (bp ap)<|kx (bp ab)<|kx (mL E U E)<|kx (l9 E U E E aL)<|kx (l9 E U E E aM)<|kx (wR (K:=AV.int .i64) (c:=(cI .i64)) (z:=0) (Z:=(Ar.rep 16 0)) (G:=F) (pre:=[]) (post:=[]) E U E E E E E (fun _=>E) aL aM)<|kx (d8 E E)<|kx (bp E) ?_)
      rcases aj h with ⟨O,h⟩ | ⟨O,h⟩
      ·refine kx (gsF E O) (kx (gsF E O) (kc (Ev.gsF E O)<|kx (cC E O E)<|Rn (hA an (hA ao (hA ap (hA ab (hV (.bool true) E hZ))))) fun cJ cp bj bk bm aN=>sN<|cT aN E<|xx ?_))
       obtain rfl:=si h
       exact kd (show gF F I J N D M0 _ _ from ⟨E,cp,bj,bk,bm,aN,U,ae⟩)
      obtain ⟨bn,bA,h⟩:=ad h
      refine kx (guF E O (bp ao)) (kx (guF E O (bp ab)) (kc (Ev.guF E O (cl (v:=.bool bn) E E (b3 E (b3 E E)) E (rb I N _ bA) nm))<|kx (cU E O E)<|Rn (hA an (hA ao (hA ap (hA ab (hN E hZ))))) fun cK aO aP aQ aR ah=>sN ?_))
      rcases aj h with ⟨aq,h⟩ | ⟨aq,h⟩
      ·refine cT ah aq (xx ?_)
       obtain rfl:=si h
       exact kd (show gF F I J N D M0 _ _ from ⟨E,aO,aP,aQ,aR,ah,U,ae⟩)
      refine cF ah aq (xx ?_)
      obtain rfl:=si h
      exact kd (show gF F I J N D M0 _ _ from ⟨E,aO,aP,aQ,aR,ah,U,ae⟩)) ?_
  rcases aK with di | dj
  ·intro x cL cM bB
   obtain ⟨rfl,bo,bq,br,bt,cN,bu,bC⟩:=bB
   refine sE (bE<|sN<|Rg<|kx (bp bt)<|kx (cu E E)<|be<|Rn (hV (.loc D 1 0 0) bo (hA bq (hV (a4 J) br (hN E hZ)))) fun cO bv bw bx a6=>?_)
   exact jd h ⟨bv,bw,bx,a6,bu,bC⟩
  intro x cQ X bD
  obtain ⟨rfl,aB,ai,aS,ak,cR,aD,aE⟩:=bD
  obtain ⟨Y,bF,h⟩:=ad h
  refine sN (av<|kx (bp aB)<|kx (bp ai) (Ev.nxcp (Ev.callT (v:=.sl (some 2) (Y.map (cI .i64))) E (b3 E E) E (n3 I _ bF) (Bh (v':=.lsl X.length Y.length 0 Y.length) (l:=[⟨.grow,2,1,Y.map (cI .i64)⟩]) (JB (c:=(cI .i64)) (fun _=>E)) (by simp [yE,s6,rK,k7,Og]) E E)) fun a7 ar=>?_))
  have b6:=bS ar aD
  have aF:D≠X.length:=by have:=cv (M:=X) aD; omega
  have aV:a7[X.length]? = some (.live ⟨.grow,2,1,Y.map (cI .i64)⟩):=ji ar 0 E
  have aG:=Nf.mk aE
  have a8:=Fr.push aE ar
  obtain ⟨am,ba,h⟩:=ad h
  refine kx (bp ak) (kx (kh (b3 E E) E ⟨E,by decide⟩)<|kw (Dp E aV E (DO (c:=(cI .i64)) (xs:=[N]) E) ba (de _) (by decide)) fun aW au=>?_)
  have b7:=a9 au aF b6
  have aX:aW[X.length]? = some (.live ⟨.grow,2,1,am.map (cI .i64)⟩):=bc au aV
  have bb:=Fr.setNew a8 au aG
  obtain ⟨aY,ac⟩:∃ x,x=aW.set X.length .dead:=⟨_,E⟩
  have aZ:=a9 ac aF b7
  have aH:=Fr.setNew bb ac aG
  obtain ⟨b8,aI,h⟩:=ad h
  rcases b8 with bi | _
  ·refine Ev.nxw (Ev.callO E E (b3 E (b3 E E)) (AN E (AN (OC ac (t7 aX E (de _))) Gx)) E (a5 F am D aY aZ _ aI)) fun b9 a0 aw=>?_
   obtain ⟨cS,aw,cq⟩:=aw
   obtain ⟨ax,ca,bd⟩:=aw
   have ax:b9 = .sl none (bi.map (cI .i64)):=cq.symm.trans ax
   subst ax
   have cb:a0[D]? = some (.live ⟨.box,91,256,[(bY (bY (n:=16) (cI .i64) 0) (Ar.rep 16 0) F)]⟩):=ca
   have bf:Fr [D] M0 a0:=Fr.call aH bd (y4 (by simp) y2)
   refine be (Rn (hV (.loc D 1 0 0) aB (hV (.sl none (I.map (cI .i64))) ai (hV (a4 J) aS (hV (a4 N) ak (hN E hZ))))) fun cV cc cd ce cf a1=>sN<|av<|kx (bp a1) ?_)
   rcases aj h with ⟨aJ,h⟩ | ⟨aJ,h⟩
   ·refine kx (LH (c:=(cI .i64)) (xs:=bi) Tryz.underlying24 aJ E E) (Rn (hA cc (hA cd (hA ce (hA cf (hA a1 (hV (.bool true) E hZ)))))) fun cW cX cY ct cw cg ch=>sN<|cT ch E<|av<|kx (bp cg)<|be<|Rn (hN E hZ) fun cx ci=>sN<|xx<|bR<|sR ?_)
    exact lr h ⟨E,ci,cb,bf⟩
   cases h
  refine Ev.nxw (Ev.callO E E (b3 E (b3 E E)) (AN E (AN (OC ac (t7 aX E (de _))) Gx)) E (a5 F am D aY aZ _ aI)) fun bG a2 ay=>?_
  obtain ⟨cy,ay,cr⟩:=ay
  obtain ⟨az,bH,bg⟩:=ay
  have az:bG = .nils:=cr.symm.trans az
  subst az
  have bI:a2[D]? = some (.live ⟨.box,91,256,[(bY (bY (n:=16) (cI .i64) 0) (Ar.rep 16 0) F)]⟩):=bH
  have bh:Fr [D] M0 a2:=Fr.call aH bg (y4 (by simp) y2)
  refine be (Rn (hV (.loc D 1 0 0) aB (hV (.sl none (I.map (cI .i64))) ai (hV (a4 J) aS (hV (a4 N) ak (hV .nils E hZ))))) fun cz bJ bK bL bM a3=>sN<|av<|kx (bp a3)<|kx (KG Tryz.underlying24 E E)<|Rn (hA bJ (hA bK (hA bL (hA bM (hA a3 (hV (.bool false) E hZ)))))) fun cA bO bP bT bU cB bV=>sN<|cF bV E<|xx<|bN<|sN<|Rg<|kx (bp bU)<|kx (cu E E)<|be<|Rn (hA bO (hA bP (hA bT (hN E hZ)))) fun cD bW bX b0 b1=>?_)
  exact jd h ⟨bW,bX,b0,b1,bI,bh⟩
 refine cF aU aA (xx<|sE ?_)
 exact md h ⟨E,U,ae⟩
noncomputable def e4 (U:(Ar 16 (Ar 16 Int))->(List Int)->Option (((List Int))⊕Unit)) (G:Ar 16 (Ar 16 Int)) (D:List Int):Option (((List Int))⊕Unit):=
 (rd D 0).bind fun I=>
 (rd D (IntKind.i64.wrap ((D.length:Int) - 1))).bind fun J=>
 ((if (decide ((D.length:Int) > 1))=true then
  (jF G J).bind fun N=>
  (jF N I).bind fun F=>
  if (decide (F > 0))=true then
   some (.inl ())
  else
   some (.inr (decide (F > 0)))
 else
  some (.inr false):Option (Unit⊕Bool))).bind fun r=>match r with
 | (.inl _)=>
  some (.inl D)
 | (.inr aa)=>
  (Lw (cP G D U J) (IntKind.i64.wrap (I + 1))).bind fun r=>match r with
  | (.inl O)=>
   some (.inl O)
  | (.inr _)=>
   some (.inr ())
theorem rV (Y:(Ar 16 (Ar 16 Int))->(List Int)->Option (((List Int))⊕Unit)) (aC:∀ (J:Ar 16 (Ar 16 Int)) (N:List Int) (I:Nat) (M0:bs) (O:M0[I]? = some (.live ⟨.box,91,256,[(bY (bY (n:=16) (cI .i64) 0) (Ar.rep 16 0) J)]⟩)) (r:((List Int))⊕Unit),Y J N=some r->Ev (fun k=>CN k 101 [.loc I 1 0 0,.sl none (N.map (cI .i64))] M0) (gl J N I M0 r)) (J:Ar 16 (Ar 16 Int)) (N:List Int) (I:Nat) (M0:bs) (O:M0[I]? = some (.live ⟨.box,91,256,[(bY (bY (n:=16) (cI .i64) 0) (Ar.rep 16 0) J)]⟩)) (r:((List Int))⊕Unit) (h:e4 Y J N=some r):Ev (fun k=>CN k 101 [.loc I 1 0 0,.sl none (N.map (cI .i64))] M0) (gl J N I M0 r):=by
 unfold e4 at h
 have ae:Fr [I] M0 M0:=Fr.refl
 obtain ⟨aa,aL,h⟩:=ad h
 obtain ⟨U,aM,h⟩:=ad h
 obtain ⟨ay,aT,h⟩:=ad h
 refine Ev.enter (F:=fun k=>f101 (CN k) k) (fun k=>bH E Tryz.func101 E E E (by decide +kernel) (Ku _ _)) (av<|be<|Rn (hV (.loc I 1 0 0) E (hN E hZ)) fun bq a5 X=>sN<|sq<|Rd<|kf (bp X)<|kf (kJ E E aL (de _))<|kf (cr E E)<|kf (bp X)<|kf (bp X)<|kf (i2 Tryz.underlying24 E)<|kf (lD E E)<|kf (kJ E E aM (de _))<|kf (cr E E)<|r3<|r3<|fZ<|Rn (hA a5 (hA X (hN E (hN E hZ)))) fun br af ah ai ak=>sN<|sq ?_)
 refine Ev.cut (Q1:=gH J N aa U I M0 ay) (by
     have h:=aT
     refine av (kx (bp ah)<|kx (i2 Tryz.underlying24 E)<|kx (fB E E)<|kx (bp E) ?_)
     rcases aj h with ⟨D,h⟩ | ⟨D,h⟩
     ·obtain ⟨bk,az,h⟩:=ad h
      obtain ⟨bn,aA,h⟩:=ad h
      refine kx (guT E D (bp af)) (kx (guT E D (bp ak))<|kx (guT E D (bp ai))<|kx (guT E D (mL E O E))<|kx (guT E D (l9 E O E E az))<|kx (guT E D (l9 E O E E aA))<|kx (guT E D (wR (K:=AV.int .i64) (c:=(cI .i64)) (z:=0) (Z:=(Ar.rep 16 0)) (G:=J) (pre:=[]) (post:=[]) E O E E E E E (fun _=>E) az aA))<|kx (guT E D (fB E E))<|kx (cC E D E)<|Rn (hA af (hA ah (hA ai (hA ak (hN E hZ))))) fun bo aN an aO aP am=>sN ?_)
      rcases aj h with ⟨ac,h⟩ | ⟨ac,h⟩
      ·refine cT am ac (av<|kx (bp an)<|be<|Rn (hN E hZ) fun a6 aQ=>sN<|xx ?_)
       obtain rfl:=si h
       exact kd (show gH J N aa U I M0 _ _ from ⟨E,aQ,O,ae⟩)
      refine cF am ac (xx ?_)
      obtain rfl:=si h
      exact kd (show gH J N aa U I M0 _ _ from ⟨E,aN,an,aO,aP,am,O,ae⟩)
     refine kx (gsT E D) (kx (gsT E D)<|kx (gsT E D)<|kx (gsT E D)<|kx (gsT E D)<|kx (gsT E D)<|kx (gsT E D)<|kx (gsT E D)<|kx (cU E D E)<|Rn (hA af (hA ah (hA ai (hA ak (hV (.bool false) E hZ))))) fun a7 aR aS aD aX ao=>sN<|cF ao E<|xx ?_)
     obtain rfl:=si h
     exact kd (show gH J N aa U I M0 _ _ from ⟨E,aR,aS,aD,aX,ao,O,ae⟩)) ?_
 rcases ay with _ | bC
 ·intro x a8 a9 aE
  obtain ⟨rfl,aY,aZ,aF⟩:=aE
  refine sR ?_
  exact yN h (bB aY bK) ⟨E,aZ,aF⟩
 intro x ba bb aU
 obtain ⟨rfl,a0,a1,a2,a3,bc,ap,aB⟩:=aU
 obtain ⟨aG,ax,h⟩:=ad h
 refine sN (sq<|av<|kx (bp a2)<|kx (cu E E)<|be<|Rn (hV (.loc I 1 0 0) a0 (hV (.sl none (N.map (cI .i64))) a1 (hV (a4 U) a3 (hN E hZ)))) fun bd aq ar au aw=>sN<|bl ?_)
 rcases aG with bm | _
 ·refine Ev.loop (lU J N Y U I M0 aC) ax ⟨aq,ar,au,aw,ap,aB⟩ fun x bf bg ab=>?_
  obtain ⟨rfl,aH,aI,aV⟩:=ab
  refine bR (sR ?_)
  exact yN h (bB aH bK) ⟨E,aI,aV⟩
 refine Ev.loop (lU J N Y U I M0 aC) ax ⟨aq,ar,au,aw,ap,aB⟩ fun x bh bi ab=>?_
 obtain ⟨rfl,aJ,aW⟩:=ab
 refine bE (sN<|av<|be<|Rn (hV .nils E hZ) fun bj aK=>sN<|xx ?_)
 exact yN h (bB aK bK) ⟨E,aJ,aW⟩
noncomputable def cX:Nat->(Ar 16 (Ar 16 Int))->(List Int)->Option (((List Int))⊕Unit)
  | 0,_,_=>none
  | k0 + 1,a1,a2=>e4 (cX k0) a1 a2
theorem mJ:∀ (I:Nat) (D:Ar 16 (Ar 16 Int)) (F:List Int) (G:Nat) (M0:bs) (J:M0[G]? = some (.live ⟨.box,91,256,[(bY (bY (n:=16) (cI .i64) 0) (Ar.rep 16 0) D)]⟩)) (r:((List Int))⊕Unit) (h:cX I D F=some r),Ev (fun k=>CN k 101 [.loc G 1 0 0,.sl none (F.map (cI .i64))] M0) (gl D F G M0 r)
  | 0,D,F,G,M0,J,r,h=>by cases h
  | I + 1,D,F,G,M0,J,r,h=>rV (cX I) (mJ I) D F G M0 J r h
noncomputable def mh (D:Ar 16 (Ar 16 Int)) (F:List Int):Option (((List Int))⊕Unit):=cX 64 D F
theorem nL (D:Ar 16 (Ar 16 Int)) (F:List Int) (G:Nat) (M0:bs) (I:M0[G]? = some (.live ⟨.box,91,256,[(bY (bY (n:=16) (cI .i64) 0) (Ar.rep 16 0) D)]⟩)) (r:((List Int))⊕Unit) (h:mh D F=some r):Ev (fun k=>CN k 101 [.loc G 1 0 0,.sl none (F.map (cI .i64))] M0) (gl D F G M0 r):=mJ 64 D F G M0 I r h
abbrev eU:=Int
abbrev jn:=((List Int))⊕Unit
def l2 (F:Ar 16 (Ar 16 Int)) (D:Nat) (M0:bs) (s:eU) (e:b4) (M:bs):Prop:=a3 e 0 = .loc D 1 0 0/\a3 e 5 = a4 s/\M[D]? = some (.live ⟨.box,91,256,[(bY (bY (n:=16) (cI .i64) 0) (Ar.rep 16 0) F)]⟩)/\Fr [D] M0 M
def qS (F:Ar 16 (Ar 16 Int)) (D:Nat) (M0:bs) (r:jn) (x:Ex) (e:b4) (M:bs):Prop:=
  match r with
  | (.inl g)=>x = .ret/\a3 e 2 = .sl none (g.map (cI .i64))/\M[D]? = some (.live ⟨.box,91,256,[(bY (bY (n:=16) (cI .i64) 0) (Ar.rep 16 0) F)]⟩)/\Fr [D] M0 M
  | (.inr g)=>x = .ext 0/\M[D]? = some (.live ⟨.box,91,256,[(bY (bY (n:=16) (cI .i64) 0) (Ar.rep 16 0) F)]⟩)/\Fr [D] M0 M
noncomputable def dq (F:Ar 16 (Ar 16 Int)):eU->Option (eU⊕jn):=fun D=>
 if (decide (D < 16))=true then
  (mh F [D]).bind fun r=>match r with
  | (.inl O)=>
   if (decide (0 < O.length))=true then
    some (.inr (.inl O))
   else
    none
  | (.inr _)=>
   some (.inl (IntKind.i64.wrap (D + 1)))
 else
  some (.inr (.inr ()))
theorem lO (F:Ar 16 (Ar 16 Int)) (D:Nat) (M0:bs) (s:eU) (r:eU⊕jn) (h:dq F s=some r) (e:b4) (M:bs) (aa:l2 F D M0 s e M):Ev (fun k=>(Jr (CN k) k (prune [0,5] e) M).bind fun q=>some q) (bQ (l2 F D M0) (qS F D M0) r):=by
 revert h aa
 revert s
 intro G h aa
 unfold dq at h
 obtain ⟨az,aA,Y,I⟩:=aa
 generalize af:prune [0,5] e=bn
 have aB:=bZ af.symm E az
 have ak:=bZ af.symm E aA
 refine av (kx (dp ak E)<|Rn (hV (.loc D 1 0 0) aB (hV (a4 G) ak (hN E hZ))) fun a5 aC am an=>sN<|sq ?_)
 rcases aj h with ⟨J,h⟩ | ⟨J,h⟩
 ·obtain ⟨aD,ah,h⟩:=ad h
  refine cT an J (xx<|sN<|sq<|bl<|av<|kx (bp am)<|be<|Rn (hA aC (hN E (hA am hZ))) fun a6 Z aE ao=>sN<|av<|kx (bp Z)<|kx (bp aE)<|kx (kh (b3 E E) E ⟨E,by decide⟩) ?_)
  rcases aD with ay | _
  ·refine Ev.nxw (Ev.callO E E (b3 E (b3 E E)) (AN E (AN E Gx)) E (nL F [G] D M Y _ ah)) fun aF ap N=>?_
   obtain ⟨a7,N,aW⟩:=N
   obtain ⟨O,aG,ar⟩:=N
   have O:aF = .sl none (ay.map (cI .i64)):=aW.symm.trans O
   subst O
   have aH:ap[D]? = some (.live ⟨.box,91,256,[(bY (bY (n:=16) (cI .i64) 0) (Ar.rep 16 0) F)]⟩):=aG
   have au:Fr [D] M0 ap:=Fr.call I ar (y4 (by simp) y2)
   refine be (Rn (hA Z (hN E (hA ao hZ))) fun a8 aI ab aJ=>sN<|av<|kx (bp ab) ?_)
   rcases aj h with ⟨ai,h⟩ | ⟨ai,h⟩
   ·refine kx (LH (c:=(cI .i64)) (xs:=ay) Tryz.underlying24 ai E E) (Rn (hA aI (hA ab (hA aJ (hV (.bool true) E hZ)))) fun a9 ba aK bb aL=>sN<|cT aL E<|av<|kx (bp aK)<|be<|Rn (hN E hZ) fun aY aM=>sN<|xx<|bR<|sR ?_)
    exact lr h ⟨E,aM,aH,au⟩
   cases h
  refine Ev.nxw (Ev.callO E E (b3 E (b3 E E)) (AN E (AN E Gx)) E (nL F [G] D M Y _ ah)) fun aN ac U=>?_
  obtain ⟨aZ,U,aX⟩:=U
  obtain ⟨X,aq,aw⟩:=U
  have X:aN = .nils:=aX.symm.trans X
  subst X
  have aO:ac[D]? = some (.live ⟨.box,91,256,[(bY (bY (n:=16) (cI .i64) 0) (Ar.rep 16 0) F)]⟩):=aq
  have ax:Fr [D] M0 ac:=Fr.call I aw (y4 (by simp) y2)
  refine be (Rn (hA Z (hV .nils E (hA ao hZ))) fun a0 aP ae aQ=>sN<|av<|kx (bp ae)<|kx (KG Tryz.underlying24 E E)<|Rn (hA aP (hA ae (hA aQ (hV (.bool false) E hZ)))) fun a1 aR a2 aS aT=>sN<|cF aT E<|xx<|bN<|sN<|Rg<|kx (cu aS E)<|be<|Rn (hA aR (hN E hZ)) fun a3 aU aV=>?_)
  exact jd h ⟨aU,aV,aO,ax⟩
 refine cF an J (xx<|sE ?_)
 exact md h ⟨E,Y,I⟩
noncomputable def cQ (D:Ar 16 (Ar 16 Int)):Option (((List Int))⊕Unit):=
 (Lw (dq D) 0).bind fun r=>match r with
 | (.inl J)=>
  some (.inl J)
 | (.inr _)=>
  some (.inr ())
def tV (F:Ar 16 (Ar 16 Int)) (D:Nat) (M0:bs) (r:((List Int))⊕Unit) (p:AV×bs):Prop:=
  match r with
  | (.inl g)=>Gy p.1 = .sl none (g.map (cI .i64))/\p.2[D]? = some (.live ⟨.box,91,256,[(bY (bY (n:=16) (cI .i64) 0) (Ar.rep 16 0) F)]⟩)/\Fr [D] M0 p.2
  | (.inr g)=>Gy p.1 = .nils/\p.2[D]? = some (.live ⟨.box,91,256,[(bY (bY (n:=16) (cI .i64) 0) (Ar.rep 16 0) F)]⟩)/\Fr [D] M0 p.2
theorem io (G:Ar 16 (Ar 16 Int)) (D:Nat) (M0:bs) (X:M0[D]? = some (.live ⟨.box,91,256,[(bY (bY (n:=16) (cI .i64) 0) (Ar.rep 16 0) G)]⟩)) (r:((List Int))⊕Unit) (h:cQ G=some r):Ev (fun k=>CN k 47 [.loc D 1 0 0] M0) (tV G D M0 r):=by
 unfold cQ at h
 have N:Fr [D] M0 M0:=Fr.refl
 obtain ⟨ab,J,h⟩:=ad h
 refine Ev.enter (F:=fun k=>f47 (CN k) k) (fun k=>bH E Tryz.func47 E E E (by decide +kernel) (Mf _ _)) (av<|be<|Rn (hV (.loc D 1 0 0) E hZ) fun ap ah=>sN<|sq<|av<|be<|Rn (hA ah (hV (a4 0) E hZ)) fun aq O U=>sN<|bl ?_)
 rcases ab with ao | _
 ·refine Ev.loop (lO G D M0) J ⟨O,U,X,N⟩ fun x ai aj I=>?_
  obtain ⟨rfl,ac,ae,Y⟩:=I
  refine bR (sR ?_)
  exact yN h (bB ac bK) ⟨E,ae,Y⟩
 refine Ev.loop (lO G D M0) J ⟨O,U,X,N⟩ fun x ak am I=>?_
 obtain ⟨rfl,af,Z⟩:=I
 refine bE (sN<|av<|be<|Rn (hV .nils E hZ) fun an aa=>sN<|xx ?_)
 exact yN h (bB aa bK) ⟨E,af,Z⟩
end Go.Proofs.YtkdinadmheomfaaGreat
