/- Printed by a program of ours (ext.py). -/
import Derived.Test.YtkdinadmheomfaaGreatFnsTop
set_option linter.unusedVariables false
set_option linter.unusedSimpArgs false
set_option maxRecDepth 100000
set_option maxHeartbeats 20000000
namespace Go.Proofs.YtkdinadmheomfaaGreat
open Go Go.Ab
structure Tally where
  Debtor:Int
  Holder:Int
  Cut:Int
  Amount:Int
  Left:Int
  deriving DecidableEq
def Tally.c (x:Tally):List AV:=[a4 x.Debtor,a4 x.Holder,a4 x.Cut,a4 x.Amount,a4 x.Left]
theorem Tally.fl:Fl Tally.c 5:=fun _=>⟨rfl,rfl⟩
theorem Tally.flF:JP Tally.c:=fun _=>rfl
structure Book where
  Day:Int
  Cash:List Int
  Tallies:List Tally
  deriving DecidableEq
def Book.c (x:Book):List AV:=[a4 x.Day,.sl none (x.Cash.map (cI .i64)),.sl none (x.Tallies.map Tally.c)]
theorem Book.fl:Fl Book.c 3:=fun _=>⟨rfl,rfl⟩
structure Debt where
  From:Int
  To:Int
  Amount:Int
  deriving DecidableEq
def Debt.c (x:Debt):List AV:=[a4 x.From,a4 x.To,a4 x.Amount]
theorem Debt.fl:Fl Debt.c 3:=fun _=>⟨rfl,rfl⟩
theorem Debt.flF:JP Debt.c:=fun _=>rfl
structure Notch where
  Kind:Int
  At:Int
  deriving DecidableEq
def Notch.c (x:Notch):List AV:=[.int .i8 x.Kind,.int .i16 x.At]
theorem Notch.fl:Fl Notch.c 2:=fun _=>⟨rfl,rfl⟩
theorem Notch.flF:JP Notch.c:=fun _=>rfl
structure Half where
  Stock:Bool
  Notches:List Notch
  Grain:Ar 16 Int
  deriving DecidableEq
def Half.c (x:Half):List AV:=(.bool x.Stock::(.sl none (x.Notches.map Notch.c)::((bY (cI .i8) 0 x.Grain)++([]:List AV))))
theorem Half.fl:Fl Half.c 18:=fun _=>⟨rfl,rfl⟩
structure Deal where
  Day:Int
  Kind:Int
  Tally:Int
  From:Int
  To:Int
  Amount:Int
  deriving DecidableEq
def Deal.c (x:Deal):List AV:=[a4 x.Day,.int .i8 x.Kind,a4 x.Tally,a4 x.From,a4 x.To,a4 x.Amount]
theorem Deal.fl:Fl Deal.c 6:=fun _=>⟨rfl,rfl⟩
theorem Deal.flF:JP Deal.c:=fun _=>rfl
structure L00Src where
  Code:List Int
  At:Int
  Seed:Int
  deriving DecidableEq
def L00Src.c (x:L00Src):List AV:=[.sl none (x.Code.map (cI .u8)),a4 x.At,.int .u64 x.Seed]
theorem L00Src.fl:Fl L00Src.c 3:=fun _=>⟨rfl,rfl⟩
theorem NU:cx.P.cellsOf 150=256:=by kernel_rfl
theorem Og:cx.P.cellsOf 2=1:=by kernel_rfl
theorem K9:cx.P.cellsOf 80=5:=by kernel_rfl
theorem Lj:q6 cx.P 6 27=[0,3,81]:=by kernel_rfl
theorem y6:b5 cx.P 109=[.int .i8 0,.int .i16 0]:=by kernel_rfl
theorem wr:b5 cx.P 118=(bY (cI .i64) 0 (Ar.rep 6 0)):=by kernel_rfl
theorem sb:b5 cx.P 132=[a4 0,.int .i8 0,a4 0,a4 0,a4 0,a4 0]:=by kernel_rfl
theorem JZ:b5 cx.P 138=[.nils,a4 0,.int .u64 0]:=by kernel_rfl
theorem JV:b5 cx.P 150=(bY (bY (n:=16) (cI .i64) 0) (Ar.rep 16 0) (Ar.rep 16 (Ar.rep 16 0))):=by kernel_rfl
theorem NT:b5 cx.P 2=[a4 0]:=by kernel_rfl
theorem cy:b5 cx.P 27=[a4 0,.nils,.nils]:=by kernel_rfl
theorem xY:b5 cx.P 49=(bY (cI .i8) 0 (Ar.rep 16 0)):=by kernel_rfl
theorem qk:b5 cx.P 51=(.bool false::(.nils::((bY (cI .i8) 0 (Ar.rep 16 0))++([]:List AV)))):=by kernel_rfl
theorem vv:b5 cx.P 60=(bY (cI .i16) 0 (Ar.rep 6 0)):=by kernel_rfl
theorem z1:b5 cx.P 80=[a4 0,a4 0,a4 0,a4 0,a4 0]:=by kernel_rfl
theorem vx:b5 cx.P 82=[a4 0,a4 0,a4 0]:=by kernel_rfl
theorem LI:b5 cx.P 89=(bY (cI .i64) 0 (Ar.rep 16 0)):=by kernel_rfl
theorem BZ:b5 cx.P 91=(bY (bY (n:=16) (cI .i64) 0) (Ar.rep 16 0) (Ar.rep 16 (Ar.rep 16 0))):=by kernel_rfl
abbrev eW:=Int
abbrev jx:=Int⊕Unit
def l8 (D:List Int) (F:Int) (s:eW) (e:b4) (M:bs):Prop:=a3 e 0 = .sl none (D.map (cI .i64))/\a3 e 1 = a4 F/\a3 e 7 = a4 (D.length:Int)/\a3 e 8 = a4 s
def rh (D:List Int) (F:Int) (r:jx) (x:Ex) (e:b4) (M:bs):Prop:=
  match r with
  | (.inl g)=>x = .ret/\a3 e 4 = a4 g
  | (.inr g)=>x = .ext 0/\True
noncomputable def dO (F:List Int) (I:Int):eW->Option (eW⊕jx):=fun D=>
 if (decide (D < (F.length:Int)))=true then
  (rd F D).bind fun G=>
  if (I==G)=true then
   some (.inr (.inl D))
  else
   some (.inl (IntKind.i64.wrap (D + 1)))
 else
  some (.inr (.inr ()))
theorem l1 (D:List Int) (F:Int) (s:eW) (r:eW⊕jx) (h:dO D F s=some r) (e:b4) (M:bs) (N:l8 D F s e M):Ev (fun k=>(EM (CN k) k (prune [0,1,7,8] e) M).bind fun q=>some q) (bQ (l8 D F) (rh D F) r):=by
 revert h N
 revert s
 intro aA h N
 unfold dO at h
 obtain ⟨aC,aD,aE,aF⟩:=N
 generalize G:prune [0,1,7,8] e=aR
 have aG:=bZ G.symm E aC
 have ae:=bZ G.symm E aD
 have O:=bZ G.symm E aE
 have U:=bZ G.symm E aF
 refine av (kx (dp U O)<|Rn (hV (.sl none (D.map (cI .i64))) aG (hV (a4 F) ae (hV (a4 (D.length:Int)) O (hV (a4 aA) U (hN E hZ))))) fun aI af ah ai X Y=>sN<|sq ?_)
 rcases aj h with ⟨I,h⟩ | ⟨I,h⟩
 ·obtain ⟨aJ,aB,h⟩:=ad h
  refine cT Y I (xx<|sN<|sq<|bl<|av<|kx (bp X)<|be<|Rn (hA af (hA ah (hN E (hA ai (hA X hZ))))) fun aK Z aa ab ak am=>sN<|av<|kx (bp aa)<|kx (bp Z)<|kx (bp ab)<|kx (kJ E E aB (de _))<|kx (cr E E)<|kx (d8 E E)<|Rn (hA Z (hA aa (hA ab (hA ak (hA am (hN E hZ)))))) fun aL an ao ap aq ar ac=>sN ?_)
  rcases aj h with ⟨J,h⟩ | ⟨J,h⟩
  ·refine cT ac J (av<|kx (bp ap)<|be<|Rn (hN E hZ) fun aM au=>sN<|xx<|bR<|sR ?_)
   exact lr h ⟨E,au⟩
  refine cF ac J (xx<|bN<|sN<|Rg<|kx (cu ar E)<|be<|Rn (hA an (hA ao (hA aq (hN E hZ)))) fun aH aw ax ay az=>?_)
  exact jd h ⟨aw,ax,ay,az⟩
 refine cF Y I (xx<|sE ?_)
 exact md h ⟨E,trivial⟩
noncomputable def jW (D:List Int) (F:Int):Option Int:=
 (Lw (dO D F) 0).bind fun r=>match r with
 | (.inl J)=>
  some J
 | (.inr _)=>
  some (-1)
def sF (r:Int):AV:=a4 r
theorem tq (D:List Int) (G:Int) (r:Int) (h:jW D G=some r):Ev (fun k=>CN k 130 [.sl none (D.map (cI .i64)),a4 G] []) (fun p=>cp p.2 p.1=sF r):=by
 unfold jW at h
 obtain ⟨Z,J,h⟩:=ad h
 refine Ev.enter (F:=fun k=>f130 (CN k) k) (fun k=>bH E Tryz.func130 E E E (by decide +kernel) (J9 _ _)) (av<|be<|Rn (hN E (hN E hZ)) fun am O ac=>sN<|sq<|av<|kx (bp O)<|kx (i2 Tryz.underlying24 E)<|be<|Rn (hA O (hA ac (hN E (hV (a4 0) E hZ)))) fun an U X Y N=>sN<|bl ?_)
 rcases Z with ae | _
 ·refine Ev.loop (l1 D G) J ⟨U,X,Y,N⟩ fun x af ah I=>?_
  obtain ⟨rfl,aa⟩:=I
  refine bR (sR ?_)
  exact ct h (bB aa bK) E
 refine Ev.loop (l1 D G) J ⟨U,X,Y,N⟩ fun x ai aj I=>?_
 obtain ⟨rfl,_⟩:=I
 refine bE (sN<|av<|be<|Rn (hV (a4 (-1)) E hZ) fun ak ab=>sN<|xx ?_)
 exact ct h (bB ab bK) E
noncomputable def hI (D:Int):Option (Bool×Bool×Bool×Bool):=
 if (D==1)=true then
  some (false,true,true,true)
 else
  if (D==2)=true then
   some (true,true,true,false)
  else
   if (D==3)=true then
    some (true,false,false,true)
   else
    some (true,true,false,false)
def Au (r:Bool×Bool×Bool×Bool):AV:=.tup [.bool r.1,.bool r.2.1,.bool r.2.2.1,.bool r.2.2.2]
theorem wX (J:Int) (r:Bool×Bool×Bool×Bool) (h:hI J=some r):Ev (fun k=>CN k 129 [.int .i8 J] []) (fun p=>cp p.2 p.1=Au r):=by
 unfold hI at h
 refine Ev.enter (F:=fun k=>f129 (CN k) k) (fun k=>bH E Tryz.func129 E E E (by decide +kernel) (KS _ _)) (av<|be<|be<|be<|be<|Rn (hN E hZ) fun aD aw=>sN<|sq<|av<|kx (bp aw)<|Rn (hN E hZ) fun aE X=>sN<|bl<|av<|kx (d8 X E)<|be<|Rn (hA X (hN E hZ)) fun aF Y N=>sN ?_)
 rcases aj h with ⟨D,h⟩ | ⟨D,h⟩
 ·refine cT N D (av<|be<|be<|be<|be<|Rn (hV (.bool false) E (hV (.bool true) E (hV (.bool true) E (hV (.bool true) E hZ)))) fun ax ae af ah ai=>sN<|xx<|bR<|sR ?_)
  exact ct h (bB ae (bB af (bB ah (bB ai bK)))) E
 refine cF N D (av<|kx (d8 Y E)<|be<|Rn (hA Y (hN E hZ)) fun ay ak O=>sN ?_)
 rcases aj h with ⟨G,h⟩ | ⟨G,h⟩
 ·refine cT O G (av<|be<|be<|be<|be<|Rn (hV (.bool true) E (hV (.bool true) E (hV (.bool true) E (hV (.bool false) E hZ)))) fun az am an ao ap=>sN<|xx<|bR<|sR ?_)
  exact ct h (bB am (bB an (bB ao (bB ap bK)))) E
 refine cF O G (av<|kx (d8 ak E)<|be<|Rn (hN E hZ) fun aA U=>sN ?_)
 rcases aj h with ⟨I,h⟩ | ⟨I,h⟩
 ·refine cT U I (av<|be<|be<|be<|be<|Rn (hV (.bool true) E (hV (.bool false) E (hV (.bool false) E (hV (.bool true) E hZ)))) fun aB aq ar au Z=>sN<|xx<|bR<|sR ?_)
  exact ct h (bB aq (bB ar (bB au (bB Z bK)))) E
 refine cF U I (xx<|bN<|sN<|av<|be<|be<|be<|be<|Rn (hV (.bool true) E (hV (.bool true) E (hV (.bool false) E (hV (.bool false) E hZ)))) fun aC aa ab ac ad=>sN<|xx ?_)
 exact ct h (bB aa (bB ab (bB ac (bB ad bK)))) E
noncomputable def eQ (F:Bool) (D:Int) (G:Int) (I:Int):Option Bool:=
 if F=true then
  if (decide (D>=G))=true then
   if (decide (D<=I))=true then
    some true
   else
    some false
  else
   some false
 else
  some (D==0)
def tS (r:Bool):AV:=.bool r
theorem jg (O:Bool) (U:Int) (X:Int) (Y:Int) (r:Bool) (h:eQ O U X Y=some r):Ev (fun k=>CN k 128 [.bool O,a4 U,a4 X,a4 Y] []) (fun p=>cp p.2 p.1=tS r):=by
 unfold eQ at h
 refine Ev.enter (F:=fun k=>f128 (CN k) k) (fun k=>bH E Tryz.func128 E E E (by decide +kernel) (J3 _ _)) (av<|be<|Rn (hN E (hN E (hN E (hN E hZ)))) fun am J N ad ae=>sN<|av<|kx (bp J)<|kx (bp E) ?_)
 rcases aj h with ⟨D,h⟩ | ⟨D,h⟩
 ·refine kx (guT E D (bp N)) (kx (guT E D (bp ad))<|kx (guT E D (q5 E E))<|kx (cC E D E)<|kx (bp E) ?_)
  rcases aj h with ⟨I,h⟩ | ⟨I,h⟩
  ·refine kx (guT E I (bp N)) (kx (guT E I (bp ae))<|kx (guT E I (yb E E))<|kx (cC E I E)<|kx (bp E) ?_)
   rcases aj h with ⟨G,h⟩ | ⟨G,h⟩
   ·refine kx (gsF E G) (kx (gsF E G)<|kx (gsF E G)<|kx (gsU E)<|kx (gsU E)<|kx (gsF E G)<|kx (cC E G E)<|be<|Rn (hV (.bool true) E hZ) fun af Z=>sN<|xx ?_)
    exact ct h (bB Z bK) E
   refine kx (guF E G (bp J)) (kx (guF E G (eZ E))<|kx (guF E G (bp E))<|kx (gsT E (nt D))<|kx (gsT E (nt D))<|kx (guF E G (cU E (nt D) E))<|kx (cU E G E)<|be<|Rn (hV (.bool false) E hZ) fun ah aa=>sN<|xx ?_)
   exact ct h (bB aa bK) E
  refine kx (gsT E I) (kx (gsT E I)<|kx (gsT E I)<|kx (cU E I E)<|be<|kx (guF E E (bp J))<|kx (guF E E (eZ E))<|kx (guF E E (bp E))<|kx (gsT E (nt D))<|kx (gsT E (nt D))<|kx (guF E E (cU E (nt D) E))<|kx (cU E E E)<|be<|Rn (hV (.bool false) E hZ) fun ai ab=>sN<|xx ?_)
  exact ct h (bB ab bK) E
 refine kx (gsT E D) (kx (gsT E D)<|kx (gsT E D)<|kx (cU E D E)<|be<|kx (gsT E E)<|kx (gsT E E)<|kx (gsT E E)<|kx (cU E E E)<|be<|kx (guF E E (bp J))<|kx (guF E E (eZ E))<|kx (guF E E (bp E))<|kx (guT E (nt D) (bp N))<|kx (guT E (nt D) (d8 E E))<|kx (guF E E (cC E (nt D) E))<|kx (cU E E E)<|be<|Rn (hN E hZ) fun ak ac=>sN<|xx ?_)
 exact ct h (bB ac bK) E
noncomputable def m5:Option ((List Int)):=
 some [1,2,4,6,9,12]
def vS (r:(List Int)):AV:=.sl (some 2) (r.map (cI .i64))
theorem wO (r:(List Int)) (h:m5=some r):Ev (fun k=>CN k 127 [] []) (fun p=>cp p.2 p.1=vS r):=by
 unfold m5 at h
 refine Ev.enter (F:=fun k=>f127 (CN k) k) (fun k=>bH E Tryz.func127 E E E (by decide +kernel) (Kw _ _)) (av<|be<|Rn hZ fun G=>sN<|av<|kx (kh (b3 E (b3 E (b3 E (b3 E (b3 E (b3 E E)))))) E ⟨E,by decide⟩)<|be<|Rn (hN E hZ) fun I D=>sN<|xx ?_)
 exact ct h (bB D bK) E
noncomputable def lj (D:Notch):Option Int:=
 (m5).bind fun F=>
 (rd F D.Kind).bind fun G=>
 some (IntKind.i64.wrap ((IntKind.i64.wrap D.At) + G))
def xJ (r:Int):AV:=a4 r
theorem s4 (D:Notch) (r:Int) (h:lj D=some r):Ev (fun k=>CN k 126 [.agg [.int .i8 D.Kind,.int .i16 D.At]] []) (fun p=>cp p.2 p.1=xJ r):=by
 unfold lj at h
 obtain ⟨O,I,h⟩:=ad h
 obtain ⟨Y,J,h⟩:=ad h
 refine Ev.enter (F:=fun k=>f126 (CN k) k) (fun k=>bH E Tryz.func126 E E E (by decide +kernel) (Ko _ _)) (av<|kx (ps E E ⟨E,E,by decide⟩)<|be<|Rn (hN E hZ) fun U G=>sN<|sq<|Rd<|kf (cW G ⟨ble E,blt E⟩ E)<|kf (cr E E)<|kf (A0 E)<|fc (cl (v:=.sl (some 2) (O.map (cI .i64))) E E E E (wO  _ I) nm)<|kf (cW G ⟨ble E,blt E⟩ E)<|kf (cr E E)<|kf (kJ E E J (de _))<|kf (cr E E)<|kf (cu E E)<|r3<|fZ<|Rn (hN E hZ) fun X N=>sN<|xx ?_)
 exact ct h (bB N bK) E
noncomputable def dm (D:Int) (F:Int) (G:Int):Option Bool:=
 if (decide (D>=F))=true then
  some (decide (D<=G))
 else
  some false
def zu (r:Bool):AV:=.bool r
theorem dn (G:Int) (I:Int) (J:Int) (r:Bool) (h:dm G I J=some r):Ev (fun k=>CN k 100 [a4 G,a4 I,a4 J] []) (fun p=>cp p.2 p.1=zu r):=by
 unfold dm at h
 refine Ev.enter (F:=fun k=>f100 (CN k) k) (fun k=>bH E Tryz.func100 E E E (by decide +kernel) (J1 _ _)) (av<|be<|Rn (hN E (hN E (hN E hZ))) fun aa N U X=>sN<|av<|kx (bp N)<|kx (bp U)<|kx (q5 E E)<|kx (bp E) ?_)
 rcases aj h with ⟨D,h⟩ | ⟨D,h⟩
 ·refine kx (guT E D (bp N)) (kx (guT E D (bp X))<|kx (guT E D (yb E E))<|kx (cC E D E)<|be<|Rn (hN E hZ) fun ab Y=>sN<|xx ?_)
  exact ct h (bB Y bK) E
 refine kx (gsT E D) (kx (gsT E D)<|kx (gsT E D)<|kx (cU E D E)<|be<|Rn (hV (.bool false) E hZ) fun Z O=>sN<|xx ?_)
 exact ct h (bB O bK) E
noncomputable def m9 (D:Int):Option Bool:=
 (dm D 0 5).bind fun F=>
 some F
def xC (r:Bool):AV:=.bool r
theorem yx (D:Int) (r:Bool) (h:m9 D=some r):Ev (fun k=>CN k 125 [a4 D] []) (fun p=>cp p.2 p.1=xC r):=by
 unfold m9 at h
 obtain ⟨N,G,h⟩:=ad h
 refine Ev.enter (F:=fun k=>f125 (CN k) k) (fun k=>bH E Tryz.func125 E E E (by decide +kernel) (J6 _ _)) (av<|be<|Rn (hN E hZ) fun O I=>sN<|av<|kx (bp I) (kc (cl (v:=.bool N) E E (b3 E (b3 E (b3 E E))) E (dn D 0 5 _ G) nm)<|be<|Rn (hN E hZ) fun U J=>sN<|xx ?_))
 exact ct h (bB J bK) E
abbrev kO:=Int×(List Int)
abbrev qa:=(List Int)
def sY (F:Ar 16 Int) (G:Ar 16 Int) (D:Nat) (s:kO) (e:b4) (M:bs):Prop:=a3 e 2 = .pt none (bY (cI .i8) 0 F)/\a3 e 3 = .pt none (bY (cI .i8) 0 G)/\a3 e 5 = .lsl D s.2.length 0 s.2.length/\a3 e 8 = a4 s.1/\M[D]? = some (.live ⟨.grow,2,1,s.2.map (cI .i64)⟩)
def yJ (F:Ar 16 Int) (G:Ar 16 Int) (D:Nat) (g:qa) (x:Ex) (e:b4) (M:bs):Prop:=x = .ext 0/\a3 e 5 = .lsl D g.length 0 g.length/\M[D]? = some (.live ⟨.grow,2,1,g.map (cI .i64)⟩)
noncomputable def jU (F:Ar 16 Int) (G:Ar 16 Int):kO->Option (kO⊕qa):=fun (J,O)=>
 if (decide (J < 16))=true then
  (jF F J).bind fun D=>
  (jF G J).bind fun I=>
  if ((IntKind.i8.wrap (D + I)) != 0)=true then
   (qB 8 O [J]).bind fun N=>
   some (.inl ((IntKind.i64.wrap (J + 1)),N))
  else
   some (.inl ((IntKind.i64.wrap (J + 1)),O))
 else
  some (.inr O)
theorem yV (F:Ar 16 Int) (G:Ar 16 Int) (D:Nat) (s:kO) (r:kO⊕qa) (h:jU F G s=some r) (e:b4) (M:bs) (aW:sY F G D s e M):Ev (fun k=>(EH (CN k) k (prune [2,3,5,8] e) M).bind fun q=>some q) (bQ (sY F G D) (yJ F G D) r):=by
 obtain ⟨aa,ab⟩:=s
 unfold jU at h
 obtain ⟨ax,ay,az,aA,J⟩:=aW
 generalize I:prune [2,3,5,8] e=bo
 have aB:=bZ I.symm E ax
 have aC:=bZ I.symm E ay
 have aD:=bZ I.symm E az
 have ac:=bZ I.symm E aA
 refine av (kx (dp ac E)<|Rn (hV (.pt none (bY (cI .i8) 0 F)) aB (hV (.pt none (bY (cI .i8) 0 G)) aC (hV (.lsl D ab.length 0 ab.length) aD (hV (a4 aa) ac (hN E hZ))))) fun aZ aE aF ae af ah=>sN<|sq ?_)
 rcases aj h with ⟨N,h⟩ | ⟨N,h⟩
 ·obtain ⟨a0,aq,h⟩:=ad h
  obtain ⟨a1,ar,h⟩:=ad h
  refine cT ah N (xx<|sN<|sq<|bl<|av<|kx (bp af)<|be<|Rn (hA aE (hA aF (hA ae (hN E (hA af hZ))))) fun a2 ai ak aG U aH=>sN<|sq<|Rd<|kf (bp U)<|kf (qX (c:=(cI .i8)) (z:=0) (g:=F) ai E aq (fun _=>E))<|kf (cr E E)<|kf (bp U)<|kf (qX (c:=(cI .i8)) (z:=0) (g:=G) ak E ar (fun _=>E))<|kf (cr E E)<|kf (cu E E)<|kf (gD E E)<|fZ<|Rn (hA ai (hA ak (hA aG (hA U (hA aH (hN E hZ)))))) fun a3 am an ao aI Y Z=>sN ?_)
  rcases aj h with ⟨O,h⟩ | ⟨O,h⟩
  ·obtain ⟨X,au,h⟩:=ad h
   refine cT Z O (Rg<|kx (bp ao)<|kx (bp aI)<|kx (kh (b3 E E) E ⟨E,by decide⟩)<|kw (Dp E J E (DO (c:=(cI .i64)) (xs:=[aa]) E) au (de _) (by decide)) fun aJ aw=>?_)
   have aK:aJ[D]? = some (.live ⟨.grow,2,1,X.map (cI .i64)⟩):=bc aw J
   refine be (Rn (hA am (hA an (hV (.lsl D X.length 0 X.length) E (hA Y hZ)))) fun a5 aL aM ap aN=>bN<|sN<|Rg<|kx (cu aN E)<|be<|Rn (hA aL (hA aM (hA ap (hN E hZ)))) fun aX aO aP aQ aR=>?_)
   exact jd h ⟨aO,aP,aQ,aR,aK⟩
  refine cF Z O (xx<|bN<|sN<|Rg<|kx (cu Y E)<|be<|Rn (hA am (hA an (hA ao (hN E hZ)))) fun aY aS aT aU aV=>?_)
  exact jd h ⟨aS,aT,aU,aV,J⟩
 refine cF ah N (xx<|sE ?_)
 exact md h ⟨E,ae,J⟩
noncomputable def rt (F:Ar 16 Int) (G:Ar 16 Int):Option ((List Int)):=
 (Lw (jU F G) (0,([]:List Int))).bind fun D=>
 some D
def Ax (r:(List Int)):AV:=.sl (some 2) (r.map (cI .i64))
theorem Bw (D:Ar 16 Int) (G:Ar 16 Int) (r:(List Int)) (h:rt D G=some r):Ev (fun k=>CN k 124 [.agg (bY (cI .i8) 0 D),.agg (bY (cI .i8) 0 G)] []) (fun p=>cp p.2 p.1=Ax r):=by
 unfold rt at h
 refine Ev.enter (F:=fun k=>f124 (CN k) k) (fun k=>bH E Tryz.func124 E E E (by decide +kernel) (Kg _ _)) (av<|kx (ps E E ⟨E,E,by decide⟩)<|kx (ps E E ⟨E,E,by decide⟩)<|be<|Rn (hN E (hN E hZ)) fun ar aj ak=>sN<|av (ku (Ai (xs:=([]:List Int)) (c:=(cI .i64)) E E (by decide)) fun J Y=>?_))
 have am:J[([]:bs).length]? = some (.live ⟨.grow,2,1,([]:List Int).map (cI .i64)⟩):=b2 Y
 obtain ⟨I,N,h⟩:=ad h
 refine be (Rn (hA aj (hA ak (hV (.lsl ([]:bs).length ([]:List Int).length 0 ([]:List Int).length) E hZ))) fun au Z aa ab=>sN<|sq<|av<|be<|Rn (hA Z (hA aa (hA ab (hV (a4 0) E hZ)))) fun ao ac ae af ah=>sN<|bl (Ev.loop (yV D G (([]:bs).length)) N ⟨ac,ae,af,ah,am⟩ fun x ap aq O=>?_))
 obtain ⟨rfl,ai,U⟩:=O
 refine bE (sN<|av<|kx (bp ai)<|be<|Rn (hV (.lsl ([]:bs).length I.length 0 I.length) E hZ) fun an X=>sN<|xx ?_)
 exact ct h (bB X bK) (eh U E (de _))
noncomputable def fF (D:List Int) (F:Int):Option Bool:=
 (jW D F).bind fun G=>
 some (decide (G>=0))
def qr (r:Bool):AV:=.bool r
theorem rb (D:List Int) (G:Int) (r:Bool) (h:fF D G=some r):Ev (fun k=>CN k 123 [.sl none (D.map (cI .i64)),a4 G] []) (fun p=>cp p.2 p.1=qr r):=by
 unfold fF at h
 obtain ⟨U,I,h⟩:=ad h
 refine Ev.enter (F:=fun k=>f123 (CN k) k) (fun k=>bH E Tryz.func123 E E E (by decide +kernel) (KM _ _)) (av<|be<|Rn (hN E (hN E hZ)) fun X J N=>sN<|av<|kx (bp J)<|kx (bp N) (kc (cl (v:=a4 U) E E (b3 E (b3 E E)) E (tq D G _ I) nm)<|kx (q5 E E)<|be<|Rn (hN E hZ) fun Y O=>sN<|xx ?_))
 exact ct h (bB O bK) E
noncomputable def mC (D:Int):Option Bool:=
 (dm D 0 100000).bind fun F=>
 some F
def yX (r:Bool):AV:=.bool r
theorem tN (D:Int) (r:Bool) (h:mC D=some r):Ev (fun k=>CN k 97 [a4 D] []) (fun p=>cp p.2 p.1=yX r):=by
 unfold mC at h
 obtain ⟨N,G,h⟩:=ad h
 refine Ev.enter (F:=fun k=>f97 (CN k) k) (fun k=>bH E Tryz.func97 E E E (by decide +kernel) (Nq _ _)) (av<|be<|Rn (hN E hZ) fun O I=>sN<|av<|kx (bp I) (kc (cl (v:=.bool N) E E (b3 E (b3 E (b3 E E))) E (dn D 0 100000 _ G) nm)<|be<|Rn (hN E hZ) fun U J=>sN<|xx ?_))
 exact ct h (bB J bK) E
noncomputable def mN (D:Deal):Option Bool:=
 (dm D.Tally 0 39).bind fun G=>
 (dm D.From 0 15).bind fun F=>
 (dm D.To 0 15).bind fun I=>
 (dm D.Amount 1 100000000).bind fun J=>
 (mC D.Day).bind fun N=>
 if N=true then
  if (D.Kind==1)=true then
   if (D.Tally==0)=true then
    if F=true then
     if I=true then
      some J
     else
      some false
    else
     some false
   else
    some false
  else
   if (D.Kind==2)=true then
    if G=true then
     if F=true then
      if I=true then
       some (D.Amount==0)
      else
       some false
     else
      some false
    else
     some false
   else
    if (D.Kind==3)=true then
     if G=true then
      if (D.From==0)=true then
       if (D.To==0)=true then
        some J
       else
        some false
      else
       some false
     else
      some false
    else
     if (D.Kind==4)=true then
      if G=true then
       if F=true then
        if (D.To==0)=true then
         some (D.Amount==0)
        else
         some false
       else
        some false
      else
       some false
     else
      some false
 else
  some false
def xS (r:Bool):AV:=.bool r
theorem yt (O:Deal) (r:Bool) (h:mN O=some r):Ev (fun k=>CN k 122 [.pt none [a4 O.Day,.int .i8 O.Kind,a4 O.Tally,a4 O.From,a4 O.To,a4 O.Amount]] []) (fun p=>cp p.2 p.1=xS r):=by
 unfold mN at h
 obtain ⟨bO,aT,h⟩:=ad h
 obtain ⟨aU,aO,h⟩:=ad h
 obtain ⟨aV,aN,h⟩:=ad h
 obtain ⟨aW,bd,h⟩:=ad h
 obtain ⟨aX,bf,h⟩:=ad h
 refine Ev.enter (F:=fun k=>f122 (CN k) k) (fun k=>bH E Tryz.func122 E E E (by decide +kernel) (Kf _ _)) (av<|be<|Rn (hN E hZ) fun ci aL=>sN<|av<|kx (bp aL)<|kx (fd E)<|kx (cW E ⟨ble E,blt E⟩ E)<|kx (cr E E) (kc (cl (v:=.bool bO) E E (b3 E (b3 E (b3 E E))) E (dn O.Tally 0 39 _ aT) nm)<|be<|Rn (hA aL (hN E hZ)) fun cj aM bM=>sN<|av<|kx (bp aM)<|kx (fd E)<|kx (cW E ⟨ble E,blt E⟩ E)<|kx (cr E E) (kc (cl (v:=.bool aU) E E (b3 E (b3 E (b3 E E))) E (dn O.From 0 15 _ aO) nm)<|be<|Rn (hA aM (hA bM (hN E hZ))) fun b2 ar aY aZ=>sN<|av<|kx (bp ar)<|kx (fd E)<|kx (cW E ⟨ble E,blt E⟩ E)<|kx (cr E E) (kc (cl (v:=.bool aV) E E (b3 E (b3 E (b3 E E))) E (dn O.To 0 15 _ aN) nm)<|be<|Rn (hA ar (hA aY (hA aZ (hN E hZ)))) fun b4 au a0 a1 a2=>sN<|av<|kx (bp au)<|kx (fd E)<|kx (cW E ⟨ble E,blt E⟩ E)<|kx (cr E E) (kc (cl (v:=.bool aW) E E (b3 E (b3 E (b3 E E))) E (dn O.Amount 1 100000000 _ bd) nm)<|be<|Rn (hA au (hA a0 (hA a1 (hA a2 (hN E hZ))))) fun b5 aw a3 a5 a6 a7=>sN<|sq<|av<|kx (bp aw)<|kx (fd E)<|kx (cW E ⟨ble E,blt E⟩ E)<|kx (cr E E) (kc (cl (v:=.bool aX) E E (b3 E E) E (tN O.Day _ bf) nm)<|kx (eZ E)<|Rn (hA aw (hA a3 (hA a5 (hA a6 (hA a7 (hN E hZ)))))) fun b6 ax a8 a9 ba bb ay=>sN ?_))))))
 rcases aj h with ⟨ah,h⟩ | ⟨ah,h⟩
 ·refine cF ay (nt ah) (xx<|sN<|sq<|av<|kx (bp ax)<|kx (fd E)<|kx (cW E ⟨ble E,blt E⟩ E)<|kx (cr E E)<|Rn (hA ax (hA a8 (hA a9 (hA ba (hA bb (hN E hZ)))))) fun b7 bc aP aQ bw bx az=>sN<|bl<|av<|kx (d8 az E)<|be<|Rn (hA bc (hA aP (hA aQ (hA bw (hA bx (hA az (hN E hZ))))))) fun b8 aA bz aB aC aD aE aF=>sN ?_)
  rcases aj h with ⟨ai,h⟩ | ⟨ai,h⟩
  ·refine cT aF ai (av<|kx (bp aA)<|kx (fd E)<|kx (cW E ⟨ble E,blt E⟩ E)<|kx (cr E E)<|kx (d8 E E)<|kx (bp E) ?_)
   rcases aj h with ⟨Y,h⟩ | ⟨Y,h⟩
   ·refine kx (guT E Y (bp aB)) (kx (cC E Y E)<|kx (bp E) ?_)
    rcases aj h with ⟨Z,h⟩ | ⟨Z,h⟩
    ·refine kx (guT E Z (bp aC)) (kx (cC E Z E)<|kx (bp E) ?_)
     rcases aj h with ⟨aa,h⟩ | ⟨aa,h⟩
     ·refine kx (guT E aa (bp aD)) (kx (cC E aa E)<|be<|Rn (hN E hZ) fun ca bA=>sN<|xx<|bR<|sR ?_)
      exact ct h (bB bA bK) E
     refine kx (gsT E aa) (kx (cU E aa E)<|be<|Rn (hV (.bool false) E hZ) fun cb bC=>sN<|xx<|bR<|sR ?_)
     exact ct h (bB bC bK) E
    refine kx (gsT E Z) (kx (cU E Z E)<|be<|kx (gsT E E)<|kx (cU E E E)<|be<|Rn (hV (.bool false) E hZ) fun cc bD=>sN<|xx<|bR<|sR ?_)
    exact ct h (bB bD bK) E
   refine kx (gsT E Y) (kx (cU E Y E)<|be<|kx (gsT E E)<|kx (cU E E E)<|be<|kx (gsT E E)<|kx (cU E E E)<|be<|Rn (hV (.bool false) E hZ) fun cd bE=>sN<|xx<|bR<|sR ?_)
   exact ct h (bB bE bK) E
  refine cF aF ai (av<|kx (d8 aE E)<|be<|Rn (hA aA (hA bz (hA aB (hA aC (hA aD (hA aE (hN E hZ))))))) fun ce aG aH aI bF bG aJ aK=>sN ?_)
  rcases aj h with ⟨ak,h⟩ | ⟨ak,h⟩
  ·refine cT aK ak (av<|kx (bp aH)<|kx (bp E) ?_)
   rcases aj h with ⟨ab,h⟩ | ⟨ab,h⟩
   ·refine kx (guT E ab (bp aI)) (kx (cC E ab E)<|kx (bp E) ?_)
    rcases aj h with ⟨ac,h⟩ | ⟨ac,h⟩
    ·refine kx (guT E ac (bp bF)) (kx (cC E ac E)<|kx (bp E) ?_)
     rcases aj h with ⟨N,h⟩ | ⟨N,h⟩
     ·refine kx (guT E N (bp aG)) (kx (guT E N (fd E))<|kx (guT E N (cW E ⟨ble E,blt E⟩ E))<|kx (guT E N (cr E E))<|kx (guT E N (d8 E E))<|kx (cC E N E)<|be<|Rn (hN E hZ) fun cf bI=>sN<|xx<|bR<|sR ?_)
      exact ct h (bB bI bK) E
     refine kx (gsT E N) (kx (gsT E N)<|kx (gsT E N)<|kx (gsT E N)<|kx (gsT E N)<|kx (cU E N E)<|be<|Rn (hV (.bool false) E hZ) fun cg bJ=>sN<|xx<|bR<|sR ?_)
     exact ct h (bB bJ bK) E
    refine kx (gsT E ac) (kx (cU E ac E)<|be<|kx (gsT E E)<|kx (gsT E E)<|kx (gsT E E)<|kx (gsT E E)<|kx (gsT E E)<|kx (cU E E E)<|be<|Rn (hV (.bool false) E hZ) fun ch bL=>sN<|xx<|bR<|sR ?_)
    exact ct h (bB bL bK) E
   refine kx (gsT E ab) (kx (cU E ab E)<|be<|kx (gsT E E)<|kx (cU E E E)<|be<|kx (gsT E E)<|kx (gsT E E)<|kx (gsT E E)<|kx (gsT E E)<|kx (gsT E E)<|kx (cU E E E)<|be<|Rn (hV (.bool false) E hZ) fun b9 bg=>sN<|xx<|bR<|sR ?_)
   exact ct h (bB bg bK) E
  refine cF aK ak (av<|kx (d8 aJ E)<|be<|Rn (hA aG (hA aH (hA aI (hA bG (hA aJ (hN E hZ)))))) fun bP am an bh bi bj ao=>sN ?_)
  rcases aj h with ⟨ae,h⟩ | ⟨ae,h⟩
  ·refine cT ao ae (av<|kx (bp an)<|kx (bp E) ?_)
   rcases aj h with ⟨D,h⟩ | ⟨D,h⟩
   ·refine kx (guT E D (bp am)) (kx (guT E D (fd E))<|kx (guT E D (cW E ⟨ble E,blt E⟩ E))<|kx (guT E D (cr E E))<|kx (guT E D (d8 E E))<|kx (cC E D E)<|kx (bp E) ?_)
    rcases aj h with ⟨G,h⟩ | ⟨G,h⟩
    ·refine kx (guT E G (bp am)) (kx (guT E G (fd E))<|kx (guT E G (cW E ⟨ble E,blt E⟩ E))<|kx (guT E G (cr E E))<|kx (guT E G (d8 E E))<|kx (cC E G E)<|kx (bp E) ?_)
     rcases aj h with ⟨U,h⟩ | ⟨U,h⟩
     ·refine kx (guT E U (bp bi)) (kx (cC E U E)<|be<|Rn (hN E hZ) fun bQ bk=>sN<|xx<|bR<|sR ?_)
      exact ct h (bB bk bK) E
     refine kx (gsT E U) (kx (cU E U E)<|be<|Rn (hV (.bool false) E hZ) fun bS bm=>sN<|xx<|bR<|sR ?_)
     exact ct h (bB bm bK) E
    refine kx (gsT E G) (kx (gsT E G)<|kx (gsT E G)<|kx (gsT E G)<|kx (gsT E G)<|kx (cU E G E)<|be<|kx (gsT E E)<|kx (cU E E E)<|be<|Rn (hV (.bool false) E hZ) fun bT bn=>sN<|xx<|bR<|sR ?_)
    exact ct h (bB bn bK) E
   refine kx (gsT E D) (kx (gsT E D)<|kx (gsT E D)<|kx (gsT E D)<|kx (gsT E D)<|kx (cU E D E)<|be<|kx (gsT E E)<|kx (gsT E E)<|kx (gsT E E)<|kx (gsT E E)<|kx (gsT E E)<|kx (cU E E E)<|be<|kx (gsT E E)<|kx (cU E E E)<|be<|Rn (hV (.bool false) E hZ) fun bU bo=>sN<|xx<|bR<|sR ?_)
   exact ct h (bB bo bK) E
  refine cF ao ae (av<|kx (d8 bj E)<|be<|Rn (hA am (hA an (hA bh (hN E hZ)))) fun bV ap bq br aq=>sN ?_)
  rcases aj h with ⟨af,h⟩ | ⟨af,h⟩
  ·refine cT aq af (av<|kx (bp bq)<|kx (bp E) ?_)
   rcases aj h with ⟨X,h⟩ | ⟨X,h⟩
   ·refine kx (guT E X (bp br)) (kx (cC E X E)<|kx (bp E) ?_)
    rcases aj h with ⟨I,h⟩ | ⟨I,h⟩
    ·refine kx (guT E I (bp ap)) (kx (guT E I (fd E))<|kx (guT E I (cW E ⟨ble E,blt E⟩ E))<|kx (guT E I (cr E E))<|kx (guT E I (d8 E E))<|kx (cC E I E)<|kx (bp E) ?_)
     rcases aj h with ⟨J,h⟩ | ⟨J,h⟩
     ·refine kx (guT E J (bp ap)) (kx (guT E J (fd E))<|kx (guT E J (cW E ⟨ble E,blt E⟩ E))<|kx (guT E J (cr E E))<|kx (guT E J (d8 E E))<|kx (cC E J E)<|be<|Rn (hN E hZ) fun bW bs=>sN<|xx<|bR<|sR ?_)
      exact ct h (bB bs bK) E
     refine kx (gsT E J) (kx (gsT E J)<|kx (gsT E J)<|kx (gsT E J)<|kx (gsT E J)<|kx (cU E J E)<|be<|Rn (hV (.bool false) E hZ) fun bX bt=>sN<|xx<|bR<|sR ?_)
     exact ct h (bB bt bK) E
    refine kx (gsT E I) (kx (gsT E I)<|kx (gsT E I)<|kx (gsT E I)<|kx (gsT E I)<|kx (cU E I E)<|be<|kx (gsT E E)<|kx (gsT E E)<|kx (gsT E E)<|kx (gsT E E)<|kx (gsT E E)<|kx (cU E E E)<|be<|Rn (hV (.bool false) E hZ) fun bY bu=>sN<|xx<|bR<|sR ?_)
    exact ct h (bB bu bK) E
   refine kx (gsT E X) (kx (cU E X E)<|be<|kx (gsT E E)<|kx (gsT E E)<|kx (gsT E E)<|kx (gsT E E)<|kx (gsT E E)<|kx (cU E E E)<|be<|kx (gsT E E)<|kx (gsT E E)<|kx (gsT E E)<|kx (gsT E E)<|kx (gsT E E)<|kx (cU E E E)<|be<|Rn (hV (.bool false) E hZ) fun bZ bv=>sN<|xx<|bR<|sR ?_)
   exact ct h (bB bv bK) E
  refine cF aq af (xx<|bN<|sN<|av<|be<|Rn (hV (.bool false) E hZ) fun b0 aR=>sN<|xx ?_)
  exact ct h (bB aR bK) E
 refine cT ay (nt ah) (av<|be<|Rn (hV (.bool false) E hZ) fun b1 aS=>sN<|xx<|sR ?_)
 exact ct h (bB aS bK) E
noncomputable def hO (D:List Tally):Option ((List Tally)):=
 (qB 40 ([]:List Tally) D).bind fun F=>
 some F
def sB (r:(List Tally)):AV:=.sl (some 80) (r.map Tally.c)
theorem tu (D:List Tally) (r:(List Tally)) (h:hO D=some r):Ev (fun k=>CN k 121 [.sl none (D.map Tally.c)] []) (fun p=>cp p.2 p.1=sB r):=by
  refine Ev.prim E ?_
  by_cases hn:D=[]
  · subst hn
    have e:r=[]:=by simpa [hO,qB] using h.symm
    subst e
    exact Ev.nilBoth (by kernel_rfl) (by kernel_rfl)
  · have U:0 < D.length:=List.length_pos_iff.2 hn
    refine Ev.nilNot (by simpa using hn) ?_
    unfold hO at h
    obtain ⟨aa,I,h⟩:=ad h
    refine Ev.enter0 (F:=fun _=>f121 (OG 2) 2) (fun k=>bH E Tryz.func121 E E E (by decide +kernel) (KK _ _)) (av<|be<|Rn (hN E hZ) fun Y G=>sN<|sq<|av<|kx (bp G)<|kx (GV Tryz.underlying25 U E E)<|Rn (hA G (hV (.bool false) E hZ)) fun Z N O=>sN<|cF O E<|xx<|sN<|av<|kx (kh E E ⟨E,by decide⟩)<|kx (bp N)<|kx (NS (c:=Tally.c) (xs:=([]:List Tally)) E (NC E) I Tally.fl (by decide))<|be<|Rn (hN E hZ) fun X J=>sN<|xx ?_)
    exact ct h (bB J bK) E
noncomputable def dZ (D:List Int):Option ((List Int)):=
 (qB 8 ([]:List Int) D).bind fun F=>
 some F
def sM (r:(List Int)):AV:=.sl (some 2) (r.map (cI .i64))
theorem n3 (D:List Int) (r:(List Int)) (h:dZ D=some r):Ev (fun k=>CN k 120 [.sl none (D.map (cI .i64))] []) (fun p=>cp p.2 p.1=sM r):=by
  refine Ev.prim E ?_
  by_cases hn:D=[]
  · subst hn
    have e:r=[]:=by simpa [dZ,qB] using h.symm
    subst e
    exact Ev.nilBoth (by kernel_rfl) (by kernel_rfl)
  · have U:0 < D.length:=List.length_pos_iff.2 hn
    refine Ev.nilNot (by simpa using hn) ?_
    unfold dZ at h
    obtain ⟨aa,I,h⟩:=ad h
    refine Ev.enter0 (F:=fun _=>f120 (OG 2) 2) (fun k=>bH E Tryz.func120 E E E (by decide +kernel) (KN _ _)) (av<|be<|Rn (hN E hZ) fun Y G=>sN<|sq<|av<|kx (bp G)<|kx (GV Tryz.underlying24 U E E)<|Rn (hA G (hV (.bool false) E hZ)) fun Z N O=>sN<|cF O E<|xx<|sN<|av<|kx (kh E E ⟨E,by decide⟩)<|kx (bp N)<|kx (NS (c:=(cI .i64)) (xs:=([]:List Int)) E (NC E) I (de _) (by decide))<|be<|Rn (hN E hZ) fun X J=>sN<|xx ?_)
    exact ct h (bB J bK) E
noncomputable def ll (D:Book):Option (Int×(List Int)×(List Tally)):=
 (dZ D.Cash).bind fun F=>
 (hO D.Tallies).bind fun G=>
 some (D.Day,F,G)
def x1 (r:Int×(List Int)×(List Tally)):AV:=.agg [a4 r.1,.sl (some 2) (r.2.1.map (cI .i64)),.sl (some 80) (r.2.2.map Tally.c)]
theorem s1 (D:Book) (r:Int×(List Int)×(List Tally)) (h:ll D=some r):Ev (fun k=>CN k 91 [.agg [a4 D.Day,.sl none (D.Cash.map (cI .i64)),.sl none (D.Tallies.map Tally.c)]] []) (fun p=>cp p.2 p.1=x1 r):=by
 unfold ll at h
 refine Ev.enter (F:=fun k=>f91 (CN k) k) (fun k=>bH E Tryz.func91 E E E (by decide +kernel) (LS _ _)) (av (ku (NL E E ⟨E,E,by decide⟩) fun J ay=>?_))
 have ai:J[([]:bs).length]? = some (.live ⟨.box,27,3,[[a4 D.Day,.sl none (D.Cash.map (cI .i64)),.sl none (D.Tallies.map Tally.c)]]⟩):=b2 ay
 refine ku (lG cy) fun aj ac=>?_
 have I:=bS ac ai
 have O:=b6 ai
 have az:aj[J.length]? = some (.live ⟨.box,27,3,[[a4 0,.nils,.nils]]⟩):=b2 ac
 obtain ⟨N,aw,h⟩:=ad h
 refine Rn (hV (.loc ([]:bs).length 1 0 0) E (hV (.loc J.length 1 0 0) E hZ)) fun aB U aA=>sN (av<|kx (dQ U I E)<|kx (e8 E I E E E) (kc (cl (v:=.sl (some 2) (N.map (cI .i64))) E E (b3 E E) E (n3 D.Cash _ aw) nm)<|kx (dQ U I E)<|kw (yc E E I E E ⟨E,ble E⟩ E E) fun ak Z=>?_))
 have G:ak[([]:bs).length]? = some (.live ⟨.box,27,3,[[a4 D.Day,.sl (some 2) (N.map (cI .i64)),.sl none (D.Tallies.map Tally.c)]]⟩):=bc Z I
 have am:=a9 Z (Ne.symm O) az
 obtain ⟨X,ax,h⟩:=ad h
 refine Rn (hA U (hA aA hZ)) fun aC Y an=>sN (av<|kx (dQ Y G E)<|kx (e8 E G E E E) (kc (cl (v:=.sl (some 80) (X.map Tally.c)) E E (b3 E E) E (tu D.Tallies _ ax) nm)<|kx (dQ Y G E)<|kw (yc E E G E E ⟨E,ble E⟩ E E) fun ao aa=>?_))
 have ae:ao[([]:bs).length]? = some (.live ⟨.box,27,3,[[a4 D.Day,.sl (some 2) (N.map (cI .i64)),.sl (some 80) (X.map Tally.c)]]⟩):=bc aa G
 have af:=a9 aa (Ne.symm O) am
 refine Rn (hA Y (hA an hZ)) fun aD ap ah=>sN (av<|kx (cm ap ae E E (ble E) E)<|kw (yc ah E af E E ⟨E,ble E⟩ E E) fun aq ab=>?_)
 have aE:=a9 ab O ae
 have ar:aq[J.length]? = some (.live ⟨.box,27,3,[[a4 D.Day,.sl (some 2) (N.map (cI .i64)),.sl (some 80) (X.map Tally.c)]]⟩):=bc ab af
 refine Rn (hA ah hZ) fun aF au=>sN (xx ?_)
 exact ct h (eC (ag:=true) (sz:=3) ⟨by kernel_rfl,by kernel_rfl,by kernel_rfl⟩ (cm au ar E E (ble E) E) bK) E
def du (G:Book) (D:Deal) (J:Bool) (N:Bool) (I:Nat) (F:Nat) (r:Unit⊕Bool) (q:oZ):Prop:=
  match r with
  | (.inl g)=>q.1 = .ret/\a3 q.2.1 4 = .loc F 1 0 0/\a3 q.2.1 5 = a4 2/\q.2.2[F]? = some (.live ⟨.box,27,3,[[a4 0,.nils,.nils]]⟩)
  | (.inr g)=>q.1 = .nrm/\a3 q.2.1 2 = .loc I 1 0 0/\a3 q.2.1 3 = .pt none [a4 D.Day,.int .i8 D.Kind,a4 D.Tally,a4 D.From,a4 D.To,a4 D.Amount]/\a3 q.2.1 4 = .loc F 1 0 0/\a3 q.2.1 7 = .bool J/\a3 q.2.1 8 = .bool N/\a3 q.2.1 55 = .bool g/\q.2.2[I]? = some (.live ⟨.box,27,3,[[a4 G.Day,.sl none (G.Cash.map (cI .i64)),.sl none (G.Tallies.map Tally.c)]]⟩)/\q.2.2[F]? = some (.live ⟨.box,27,3,[[a4 0,.nils,.nils]]⟩)
def m7 (G:Book) (D:Deal) (J:Bool) (I:Nat) (F:Nat) (r:Unit⊕Bool) (q:oZ):Prop:=
  match r with
  | (.inl g)=>q.1 = .ret/\a3 q.2.1 4 = .loc F 1 0 0/\a3 q.2.1 5 = a4 4/\q.2.2[F]? = some (.live ⟨.box,27,3,[[a4 0,.nils,.nils]]⟩)
  | (.inr g)=>q.1 = .nrm/\a3 q.2.1 2 = .loc I 1 0 0/\a3 q.2.1 3 = .pt none [a4 D.Day,.int .i8 D.Kind,a4 D.Tally,a4 D.From,a4 D.To,a4 D.Amount]/\a3 q.2.1 4 = .loc F 1 0 0/\a3 q.2.1 7 = .bool J/\a3 q.2.1 67 = .bool g/\q.2.2[I]? = some (.live ⟨.box,27,3,[[a4 G.Day,.sl none (G.Cash.map (cI .i64)),.sl none (G.Tallies.map Tally.c)]]⟩)/\q.2.2[F]? = some (.live ⟨.box,27,3,[[a4 0,.nils,.nils]]⟩)
def f2 (D:Deal) (J:List Int) (I:List Tally) (N:Nat) (G:Nat) (F:Nat) (O:Nat) (r:Unit⊕Bool) (q:oZ):Prop:=
  match r with
  | (.inl g)=>q.1 = .ret/\a3 q.2.1 4 = .loc G 1 0 0/\a3 q.2.1 5 = a4 4/\q.2.2[G]? = some (.live ⟨.box,27,3,[[a4 0,.nils,.nils]]⟩)
  | (.inr g)=>q.1 = .nrm/\a3 q.2.1 2 = .loc N 1 0 0/\a3 q.2.1 3 = .pt none [a4 D.Day,.int .i8 D.Kind,a4 D.Tally,a4 D.From,a4 D.To,a4 D.Amount]/\a3 q.2.1 4 = .loc G 1 0 0/\a3 q.2.1 11 = .loc (F + 1) I.length (0 + D.Tally.toNat) 0/\a3 q.2.1 134 = .bool g/\q.2.2[N]? = some (.live ⟨.box,27,3,[[a4 D.Day,.lsl F J.length 0 J.length,.lsl (F + 1) I.length 0 I.length]]⟩)/\q.2.2[F]? = some (.live ⟨.grow,2,1,J.map (cI .i64)⟩)/\q.2.2[(F + 1)]? = some (.live ⟨.grow,80,5,I.map Tally.c⟩)/\q.2.2[G]? = some (.live ⟨.box,27,3,[[a4 0,.nils,.nils]]⟩)
noncomputable def dx (G:Book) (D:Deal):Option (Int⊕(Int×(List Int)×(List Tally))):=
 if (decide (D.Day < G.Day))=true then
  some (.inl 4)
 else
  (hI D.Kind).bind fun (ab,ac,ae,az)=>
  ((if ac=true then
   if (decide (D.From>=(G.Cash.length:Int)))=true then
    some (.inl ())
   else
    if ae=true then
     if (decide (D.To>=(G.Cash.length:Int)))=true then
      some (.inl ())
     else
      if ab=true then
       if (decide (D.Tally>=(G.Tallies.length:Int)))=true then
        some (.inl ())
       else
        some (.inr (decide (D.Tally>=(G.Tallies.length:Int))))
      else
       some (.inr false)
    else
     if ab=true then
      if (decide (D.Tally>=(G.Tallies.length:Int)))=true then
       some (.inl ())
      else
       some (.inr (decide (D.Tally>=(G.Tallies.length:Int))))
     else
      some (.inr false)
  else
   if ae=true then
    if (decide (D.To>=(G.Cash.length:Int)))=true then
     some (.inl ())
    else
     if ab=true then
      if (decide (D.Tally>=(G.Tallies.length:Int)))=true then
       some (.inl ())
      else
       some (.inr (decide (D.Tally>=(G.Tallies.length:Int))))
     else
      some (.inr false)
   else
    if ab=true then
     if (decide (D.Tally>=(G.Tallies.length:Int)))=true then
      some (.inl ())
     else
      some (.inr (decide (D.Tally>=(G.Tallies.length:Int))))
    else
     some (.inr false):Option (Unit⊕Bool))).bind fun r=>match r with
  | (.inl _)=>
   some (.inl 2)
  | (.inr aq)=>
   ((if ac=true then
    if ae=true then
     if (D.From==D.To)=true then
      some (.inl ())
     else
      some (.inr (D.From==D.To))
    else
     some (.inr false)
   else
    some (.inr false):Option (Unit⊕Bool))).bind fun r=>match r with
   | (.inl _)=>
    some (.inl 4)
   | (.inr ar)=>
    (ll G).bind fun (au,O,Y)=>
    if (D.Kind==1)=true then
     if ((Y.length:Int)==40)=true then
      some (.inl 3)
     else
      (qB 40 Y [(Tally.mk D.From D.To D.Day D.Amount D.Amount)]).bind fun N=>
      some (.inr (D.Day,O,N))
    else
     (rd Y D.Tally).bind fun F=>
     ((if ac=true then
      if (D.From != F.Holder)=true then
       some (.inl ())
      else
       if (F.Left==0)=true then
        some (.inl ())
       else
        if (D.Kind==3)=true then
         if (decide (D.Amount > F.Left))=true then
          some (.inl ())
         else
          some (.inr (decide (D.Amount > F.Left)))
        else
         some (.inr false)
     else
      if (F.Left==0)=true then
       some (.inl ())
      else
       if (D.Kind==3)=true then
        if (decide (D.Amount > F.Left))=true then
         some (.inl ())
        else
         some (.inr (decide (D.Amount > F.Left)))
       else
        some (.inr false):Option (Unit⊕Bool))).bind fun r=>match r with
     | (.inl _)=>
      some (.inl 4)
     | (.inr aw)=>
      if (D.Kind==2)=true then
       if (D.To==((Tally.mk F.Debtor D.To F.Cut F.Amount F.Left)).Debtor)=true then
        some (.inr (D.Day,O,((Y.set D.Tally.toNat (Tally.mk F.Debtor D.To F.Cut F.Amount F.Left)).set D.Tally.toNat (Tally.mk ((Tally.mk F.Debtor D.To F.Cut F.Amount F.Left)).Debtor ((Tally.mk F.Debtor D.To F.Cut F.Amount F.Left)).Holder ((Tally.mk F.Debtor D.To F.Cut F.Amount F.Left)).Cut ((Tally.mk F.Debtor D.To F.Cut F.Amount F.Left)).Amount 0))))
       else
        some (.inr (D.Day,O,(Y.set D.Tally.toNat (Tally.mk F.Debtor D.To F.Cut F.Amount F.Left))))
      else
       if (D.Kind==3)=true then
        (rd O F.Debtor).bind fun U=>
        if (decide (U < D.Amount))=true then
         some (.inl 8)
        else
         (rd O F.Debtor).bind fun I=>
         (rd O F.Debtor).bind fun Z=>
         (rd (O.set F.Debtor.toNat (IntKind.i64.wrap (I - D.Amount))) F.Holder).bind fun J=>
         (rd (O.set F.Debtor.toNat (IntKind.i64.wrap (I - D.Amount))) F.Holder).bind fun aa=>
         (rd ((O.set F.Debtor.toNat (IntKind.i64.wrap (I - D.Amount))).set F.Holder.toNat (IntKind.i64.wrap (J + D.Amount))) (((Tally.mk F.Debtor F.Holder F.Cut F.Amount (IntKind.i64.wrap (F.Left - D.Amount)))).Holder)).bind fun X=>
         if (decide (X > 100000000))=true then
          some (.inl 3)
         else
          some (.inr (D.Day,((O.set F.Debtor.toNat (IntKind.i64.wrap (I - D.Amount))).set F.Holder.toNat (IntKind.i64.wrap (J + D.Amount))),(Y.set D.Tally.toNat (Tally.mk F.Debtor F.Holder F.Cut F.Amount (IntKind.i64.wrap (F.Left - D.Amount))))))
       else
        if (D.Kind==4)=true then
         some (.inr (D.Day,O,(Y.set D.Tally.toNat (Tally.mk F.Debtor F.Holder F.Cut F.Amount 0))))
        else
         some (.inr (D.Day,O,Y))
def C7 (r:Int⊕(Int×(List Int)×(List Tally))):AV:=
  match r with
  | (.inl g)=>.tup [.agg [a4 0,.nils,.nils],a4 g]
  | (.inr g)=>.tup [.agg [a4 g.1,.sl (some 2) (g.2.1.map (cI .i64)),.sl (some 80) (g.2.2.map Tally.c)],a4 0]
theorem zZ (U:Book) (D:Deal) (r:Int⊕(Int×(List Int)×(List Tally))) (h:dx U D=some r):Ev (fun k=>CN k 119 [.agg [a4 U.Day,.sl none (U.Cash.map (cI .i64)),.sl none (U.Tallies.map Tally.c)],.agg [a4 D.Day,.int .i8 D.Kind,a4 D.Tally,a4 D.From,a4 D.To,a4 D.Amount]] []) (fun p=>cp p.2 p.1=C7 r):=by
 unfold dx at h
 refine Ev.enter (F:=fun k=>f119 (CN k) k) (fun k=>bH E Tryz.func119 E E E (by decide +kernel) (K2 _ _)) (av (ku (NL E E ⟨E,E,by decide⟩) fun I iE=>?_))
 have eJ:I[([]:bs).length]? = some (.live ⟨.box,27,3,[[a4 U.Day,.sl none (U.Cash.map (cI .i64)),.sl none (U.Tallies.map Tally.c)]]⟩):=b2 iE
 refine kx (ps E E ⟨E,E,by decide⟩) (ku (lG cy) fun eK eg=>?_)
 have Y:=bS eg eJ
 have Z:=b6 eJ
 have ab:eK[I.length]? = some (.live ⟨.box,27,3,[[a4 0,.nils,.nils]]⟩):=b2 eg
 refine be (Rn (hV (.loc ([]:bs).length 1 0 0) E (hN E (hV (.loc I.length 1 0 0) E hZ))) fun lR ei ej iF=>sN<|sq<|av<|kx (cW ej ⟨ble E,blt E⟩ E)<|kx (cr E E)<|kx (dQ ei Y E)<|kx (e8 E Y E E E)<|kx (dp E E)<|Rn (hA ei (hA ej (hA iF (hN E hZ)))) fun lS iG eE ch eF=>sN ?_)
 rcases aj h with ⟨cP,h⟩ | ⟨cP,h⟩
 ·refine cT eF cP (av<|kx (gg cy E (dz E))<|kw (dW ch E ab E E ⟨E,ble E⟩ E E) fun iH db=>?_)
  have lT:=a9 db Z Y
  have iI:iH[I.length]? = some (.live ⟨.box,27,3,[[a4 0,.nils,.nils]]⟩):=bc db ab
  refine be (Rn (hA ch (hV (a4 4) E hZ)) fun lU iJ iK=>sN<|xx<|sR ?_)
  exact ct h (eC (ag:=true) (sz:=3) ⟨by kernel_rfl,by kernel_rfl,by kernel_rfl⟩ (cm iJ iI E E (ble E) E) (bB iK bK)) E
 obtain ⟨⟨iL,aa,ak,iM⟩,gh,h⟩:=ad h
 obtain ⟨dc,eL,h⟩:=ad h
 refine cF eF cP (xx<|sN<|av<|kx (cW eE ⟨ble E,blt E⟩ E)<|kx (cr E E) (kc (cl (v:=.tup [.bool iL,.bool aa,.bool ak,.bool iM]) E E (b3 E E) E (wX D.Kind _ gh) nm)<|be<|kx (eO E E)<|kx (eO E E)<|kx (eO E E)<|kx (eO E E)<|be<|be<|be<|be<|Rn (hA iG (hA eE (hA ch (hN E (hN E (hN E hZ)))))) fun lV eG iN iO iP ii ij=>sN<|av<|kx (dQ eG Y E)<|kx (e8 E Y E E E)<|kx (i2 Tryz.underlying24 E)<|be<|Rn (hA eG (hA iN (hA iO (hA iP (hA ii (hA ij (hN E hZ))))))) fun lW au af aP bV aH aB ci=>sN<|sq ?_))
 refine Ev.cut (Q1:=du U D aa ak (([]:bs).length) I.length dc) (by
     have h:=eL
     refine av (kx (bp aH)<|kx (bp E) ?_)
     rcases aj h with ⟨aK,h⟩ | ⟨aK,h⟩
     ·refine kx (guT E aK (cW af ⟨ble E,blt E⟩ E)) (kx (guT E aK (cr E E))<|kx (guT E aK (bp ci))<|kx (guT E aK (q5 E E))<|kx (cC E aK E)<|kx (bp E) ?_)
      rcases aj h with ⟨aL,h⟩ | ⟨aL,h⟩
      ·refine kx (gsF E aL) (kx (gsF E aL)<|kx (gsU E)<|kx (gsU E)<|kx (gsU E)<|kx (gsU E)<|kx (gsF E aL)<|kx (cC E aL E)<|be<|kx (gsF E E)<|kx (gsF E E)<|kx (gsU E)<|kx (gsU E)<|kx (gsU E)<|kx (gsU E)<|kx (gsU E)<|kx (gsU E)<|kx (gsF E E)<|kx (cC E E E)<|Rn (hA au (hA af (hA aP (hA aH (hA aB (hV (.bool true) E hZ)))))) fun lX lY lv eH lw lx ik=>sN<|cT ik E<|av<|kx (gg cy E (dz E))<|kw (dW eH E ab E E ⟨E,ble E⟩ E E) fun il dd=>?_)
       have ly:=a9 dd Z Y
       have im:il[I.length]? = some (.live ⟨.box,27,3,[[a4 0,.nils,.nils]]⟩):=bc dd ab
       refine be (Rn (hA eH (hV (a4 2) E hZ)) fun lz i9 ja=>sN<|xx ?_)
       obtain rfl:=si h
       exact kd (show du U D aa ak (([]:bs).length) I.length _ _ from ⟨E,i9,ja,im⟩)
      refine kx (guF E aL (bp aB)) (kx (guF E aL (bp E)) ?_)
      rcases aj h with ⟨aM,h⟩ | ⟨aM,h⟩
      ·refine kx (guT E aM (cW af ⟨ble E,blt E⟩ E)) (kx (guT E aM (cr E E))<|kx (guT E aM (bp ci))<|kx (guT E aM (q5 E E))<|kx (guF E aL (cC E aM E))<|kx (cU E aL E)<|kx (bp E) ?_)
       rcases aj h with ⟨aN,h⟩ | ⟨aN,h⟩
       ·refine kx (gsF E aN) (kx (gsF E aN)<|kx (gsU E)<|kx (gsU E)<|kx (gsU E)<|kx (gsU E)<|kx (gsU E)<|kx (gsU E)<|kx (gsF E aN)<|kx (cC E aN E)<|Rn (hA au (hA af (hA aP (hA aH (hA aB (hV (.bool true) E hZ)))))) fun lA lB lC eI lE lF jb=>sN<|cT jb E<|av<|kx (gg cy E (dz E))<|kw (dW eI E ab E E ⟨E,ble E⟩ E E) fun jd dO=>?_)
        have lH:=a9 dO Z Y
        have je:jd[I.length]? = some (.live ⟨.box,27,3,[[a4 0,.nils,.nils]]⟩):=bc dO ab
        refine be (Rn (hA eI (hV (a4 2) E hZ)) fun lI jf jg=>sN<|xx ?_)
        obtain rfl:=si h
        exact kd (show du U D aa ak (([]:bs).length) I.length _ _ from ⟨E,jf,jg,je⟩)
       refine kx (guF E aN (bp bV)) (kx (guF E aN (bp E)) ?_)
       rcases aj h with ⟨ar,h⟩ | ⟨ar,h⟩
       ·refine kx (guT E ar (cW af ⟨ble E,blt E⟩ E)) (kx (guT E ar (cr E E))<|kx (guT E ar (dQ au Y E))<|kx (guT E ar (e8 E Y E E E))<|kx (guT E ar (i2 Tryz.underlying25 E))<|kx (guT E ar (q5 E E))<|kx (guF E aN (cC E ar E))<|kx (cU E aN E)<|Rn (hA au (hA af (hA aP (hA aH (hA aB (hN E hZ)))))) fun lJ jh jj c9 jk jl da=>sN ?_)
        rcases aj h with ⟨cQ,h⟩ | ⟨cQ,h⟩
        ·refine cT da cQ (av<|kx (gg cy E (dz E))<|kw (dW c9 E ab E E ⟨E,ble E⟩ E E) fun jm df=>?_)
         have jT:=a9 df Z Y
         have fq:jm[I.length]? = some (.live ⟨.box,27,3,[[a4 0,.nils,.nils]]⟩):=bc df ab
         refine be (Rn (hA c9 (hV (a4 2) E hZ)) fun jU fr fs=>sN<|xx ?_)
         obtain rfl:=si h
         exact kd (show du U D aa ak (([]:bs).length) I.length _ _ from ⟨E,fr,fs,fq⟩)
        refine cF da cQ (xx ?_)
        obtain rfl:=si h
        exact kd (show du U D aa ak (([]:bs).length) I.length _ _ from ⟨E,jh,jj,c9,jk,jl,da,Y,ab⟩)
       refine kx (gsT E ar) (kx (gsT E ar)<|kx (gsT E ar)<|kx (gsT E ar)<|kx (gsT E ar)<|kx (gsT E ar)<|kx (guF E aN (cU E ar E))<|kx (cU E aN E)<|Rn (hA au (hA af (hA aP (hA aH (hA aB (hV (.bool false) E hZ)))))) fun jV ft fu fv fw gt dP=>sN<|cF dP E<|xx ?_)
       obtain rfl:=si h
       exact kd (show du U D aa ak (([]:bs).length) I.length _ _ from ⟨E,ft,fu,fv,fw,gt,dP,Y,ab⟩)
      refine kx (gsT E aM) (kx (gsT E aM)<|kx (gsT E aM)<|kx (gsT E aM)<|kx (guF E aL (cU E aM E))<|kx (cU E aL E)<|be<|kx (guF E E (bp bV))<|kx (guF E E (bp E)) ?_)
      rcases aj h with ⟨aw,h⟩ | ⟨aw,h⟩
      ·refine kx (guT E aw (cW af ⟨ble E,blt E⟩ E)) (kx (guT E aw (cr E E))<|kx (guT E aw (dQ au Y E))<|kx (guT E aw (e8 E Y E E E))<|kx (guT E aw (i2 Tryz.underlying25 E))<|kx (guT E aw (q5 E E))<|kx (guF E E (cC E aw E))<|kx (cU E E E)<|Rn (hA au (hA af (hA aP (hA aH (hA aB (hN E hZ)))))) fun jW fx fy cR fz fA cS=>sN ?_)
       rcases aj h with ⟨cd,h⟩ | ⟨cd,h⟩
       ·refine cT cS cd (av<|kx (gg cy E (dz E))<|kw (dW cR E ab E E ⟨E,ble E⟩ E E) fun eY dg=>?_)
        have jX:=a9 dg Z Y
        have eZ:eY[I.length]? = some (.live ⟨.box,27,3,[[a4 0,.nils,.nils]]⟩):=bc dg ab
        refine be (Rn (hA cR (hV (a4 2) E hZ)) fun jY e1 e2=>sN<|xx ?_)
        obtain rfl:=si h
        exact kd (show du U D aa ak (([]:bs).length) I.length _ _ from ⟨E,e1,e2,eZ⟩)
       refine cF cS cd (xx ?_)
       obtain rfl:=si h
       exact kd (show du U D aa ak (([]:bs).length) I.length _ _ from ⟨E,fx,fy,cR,fz,fA,cS,Y,ab⟩)
      refine kx (gsT E aw) (kx (gsT E aw)<|kx (gsT E aw)<|kx (gsT E aw)<|kx (gsT E aw)<|kx (gsT E aw)<|kx (guF E E (cU E aw E))<|kx (cU E E E)<|Rn (hA au (hA af (hA aP (hA aH (hA aB (hV (.bool false) E hZ)))))) fun jp e3 e4 e5 e6 e7 dR=>sN<|cF dR E<|xx ?_)
      obtain rfl:=si h
      exact kd (show du U D aa ak (([]:bs).length) I.length _ _ from ⟨E,e3,e4,e5,e6,e7,dR,Y,ab⟩)
     refine kx (gsT E aK) (kx (gsT E aK)<|kx (gsT E aK)<|kx (gsT E aK)<|kx (cU E aK E)<|be<|kx (guF E E (bp aB))<|kx (guF E E (bp E)) ?_)
     rcases aj h with ⟨aI,h⟩ | ⟨aI,h⟩
     ·refine kx (guT E aI (cW af ⟨ble E,blt E⟩ E)) (kx (guT E aI (cr E E))<|kx (guT E aI (bp ci))<|kx (guT E aI (q5 E E))<|kx (guF E E (cC E aI E))<|kx (cU E E E)<|kx (bp E) ?_)
      rcases aj h with ⟨aJ,h⟩ | ⟨aJ,h⟩
      ·refine kx (gsF E aJ) (kx (gsF E aJ)<|kx (gsU E)<|kx (gsU E)<|kx (gsU E)<|kx (gsU E)<|kx (gsU E)<|kx (gsU E)<|kx (gsF E aJ)<|kx (cC E aJ E)<|Rn (hA au (hA af (hA aP (hA aH (hA aB (hV (.bool true) E hZ)))))) fun jq jr js dS jt ju e9=>sN<|cT e9 E<|av<|kx (gg cy E (dz E))<|kw (dW dS E ab E E ⟨E,ble E⟩ E E) fun fa dh=>?_)
       have jv:=a9 dh Z Y
       have fb:fa[I.length]? = some (.live ⟨.box,27,3,[[a4 0,.nils,.nils]]⟩):=bc dh ab
       refine be (Rn (hA dS (hV (a4 2) E hZ)) fun jw fc fd=>sN<|xx ?_)
       obtain rfl:=si h
       exact kd (show du U D aa ak (([]:bs).length) I.length _ _ from ⟨E,fc,fd,fb⟩)
      refine kx (guF E aJ (bp bV)) (kx (guF E aJ (bp E)) ?_)
      rcases aj h with ⟨ax,h⟩ | ⟨ax,h⟩
      ·refine kx (guT E ax (cW af ⟨ble E,blt E⟩ E)) (kx (guT E ax (cr E E))<|kx (guT E ax (dQ au Y E))<|kx (guT E ax (e8 E Y E E E))<|kx (guT E ax (i2 Tryz.underlying25 E))<|kx (guT E ax (q5 E E))<|kx (guF E aJ (cC E ax E))<|kx (cU E aJ E)<|Rn (hA au (hA af (hA aP (hA aH (hA aB (hN E hZ)))))) fun jx fe ff cV fg fh cX=>sN ?_)
       rcases aj h with ⟨ce,h⟩ | ⟨ce,h⟩
       ·refine cT cX ce (av<|kx (gg cy E (dz E))<|kw (dW cV E ab E E ⟨E,ble E⟩ E E) fun fi di=>?_)
        have jy:=a9 di Z Y
        have fj:fi[I.length]? = some (.live ⟨.box,27,3,[[a4 0,.nils,.nils]]⟩):=bc di ab
        refine be (Rn (hA cV (hV (a4 2) E hZ)) fun jz fk fm=>sN<|xx ?_)
        obtain rfl:=si h
        exact kd (show du U D aa ak (([]:bs).length) I.length _ _ from ⟨E,fk,fm,fj⟩)
       refine cF cX ce (xx ?_)
       obtain rfl:=si h
       exact kd (show du U D aa ak (([]:bs).length) I.length _ _ from ⟨E,fe,ff,cV,fg,fh,cX,Y,ab⟩)
      refine kx (gsT E ax) (kx (gsT E ax)<|kx (gsT E ax)<|kx (gsT E ax)<|kx (gsT E ax)<|kx (gsT E ax)<|kx (guF E aJ (cU E ax E))<|kx (cU E aJ E)<|Rn (hA au (hA af (hA aP (hA aH (hA aB (hV (.bool false) E hZ)))))) fun jA fn fo fp eX fC dT=>sN<|cF dT E<|xx ?_)
      obtain rfl:=si h
      exact kd (show du U D aa ak (([]:bs).length) I.length _ _ from ⟨E,fn,fo,fp,eX,fC,dT,Y,ab⟩)
     refine kx (gsT E aI) (kx (gsT E aI)<|kx (gsT E aI)<|kx (gsT E aI)<|kx (guF E E (cU E aI E))<|kx (cU E E E)<|be<|kx (guF E E (bp bV))<|kx (guF E E (bp E)) ?_)
     rcases aj h with ⟨ay,h⟩ | ⟨ay,h⟩
     ·refine kx (guT E ay (cW af ⟨ble E,blt E⟩ E)) (kx (guT E ay (cr E E))<|kx (guT E ay (dQ au Y E))<|kx (guT E ay (e8 E Y E E E))<|kx (guT E ay (i2 Tryz.underlying25 E))<|kx (guT E ay (q5 E E))<|kx (guF E E (cC E ay E))<|kx (cU E E E)<|Rn (hA au (hA af (hA aP (hA aH (hA aB (hN E hZ)))))) fun jB fD fE cY fF fG cZ=>sN ?_)
      rcases aj h with ⟨cf,h⟩ | ⟨cf,h⟩
      ·refine cT cZ cf (av<|kx (gg cy E (dz E))<|kw (dW cY E ab E E ⟨E,ble E⟩ E E) fun fH dj=>?_)
       have jC:=a9 dj Z Y
       have fI:fH[I.length]? = some (.live ⟨.box,27,3,[[a4 0,.nils,.nils]]⟩):=bc dj ab
       refine be (Rn (hA cY (hV (a4 2) E hZ)) fun jD gf gi=>sN<|xx ?_)
       obtain rfl:=si h
       exact kd (show du U D aa ak (([]:bs).length) I.length _ _ from ⟨E,gf,gi,fI⟩)
      refine cF cZ cf (xx ?_)
      obtain rfl:=si h
      exact kd (show du U D aa ak (([]:bs).length) I.length _ _ from ⟨E,fD,fE,cY,fF,fG,cZ,Y,ab⟩)
     refine kx (gsT E ay) (kx (gsT E ay)<|kx (gsT E ay)<|kx (gsT E ay)<|kx (gsT E ay)<|kx (gsT E ay)<|kx (guF E E (cU E ay E))<|kx (cU E E E)<|Rn (hA au (hA af (hA aP (hA aH (hA aB (hV (.bool false) E hZ)))))) fun jE gj gk gl gm gn dU=>sN<|cF dU E<|xx ?_)
     obtain rfl:=si h
     exact kd (show du U D aa ak (([]:bs).length) I.length _ _ from ⟨E,gj,gk,gl,gm,gn,dU,Y,ab⟩)) ?_
 rcases dc with _ | mQ
 ·intro x jF jG eM
  obtain ⟨rfl,go,gp,gq⟩:=eM
  refine sR ?_
  exact ct h (eC (ag:=true) (sz:=3) ⟨by kernel_rfl,by kernel_rfl,by kernel_rfl⟩ (cm go gq E E (ble E) E) (bB gp bK)) E
 intro x jH jI eN
 obtain ⟨rfl,c0,ba,c1,bT,gr,jJ,bU,bb⟩:=eN
 obtain ⟨dV,eP,h⟩:=ad h
 refine sN (sq ?_)
 refine Ev.cut (Q1:=m7 U D aa (([]:bs).length) I.length dV) (by
     have h:=eP
     refine av (kx (bp bT)<|kx (bp E) ?_)
     rcases aj h with ⟨a1,h⟩ | ⟨a1,h⟩
     ·refine kx (guT E a1 (bp gr)) (kx (cC E a1 E)<|kx (bp E) ?_)
      rcases aj h with ⟨aC,h⟩ | ⟨aC,h⟩
      ·refine kx (guT E aC (cW ba ⟨ble E,blt E⟩ E)) (kx (guT E aC (cr E E))<|kx (guT E aC (cW ba ⟨ble E,blt E⟩ E))<|kx (guT E aC (cr E E))<|kx (guT E aC (d8 E E))<|kx (cC E aC E)<|Rn (hV (.loc ([]:bs).length 1 0 0) c0 (hV (.pt none [a4 D.Day,.int .i8 D.Kind,a4 D.Tally,a4 D.From,a4 D.To,a4 D.Amount]) ba (hV (.loc I.length 1 0 0) c1 (hV (.bool aa) bT (hN E hZ))))) fun jK gu gv c2 gw c3=>sN ?_)
       rcases aj h with ⟨cg,h⟩ | ⟨cg,h⟩
       ·refine cT c3 cg (av<|kx (gg cy E (dz E))<|kw (dW c2 E bb E E ⟨E,ble E⟩ E E) fun gx dk=>?_)
        have jL:=a9 dk Z bU
        have gy:gx[I.length]? = some (.live ⟨.box,27,3,[[a4 0,.nils,.nils]]⟩):=bc dk bb
        refine be (Rn (hA c2 (hV (a4 4) E hZ)) fun jM gA gB=>sN<|xx ?_)
        obtain rfl:=si h
        exact kd (show m7 U D aa (([]:bs).length) I.length _ _ from ⟨E,gA,gB,gy⟩)
       refine cF c3 cg (xx ?_)
       obtain rfl:=si h
       exact kd (show m7 U D aa (([]:bs).length) I.length _ _ from ⟨E,gu,gv,c2,gw,c3,bU,bb⟩)
      refine kx (gsT E aC) (kx (gsT E aC)<|kx (gsT E aC)<|kx (gsT E aC)<|kx (gsT E aC)<|kx (cU E aC E)<|Rn (hV (.loc ([]:bs).length 1 0 0) c0 (hV (.pt none [a4 D.Day,.int .i8 D.Kind,a4 D.Tally,a4 D.From,a4 D.To,a4 D.Amount]) ba (hV (.loc I.length 1 0 0) c1 (hV (.bool aa) bT (hV (.bool false) E hZ))))) fun jN fL fM fN fO dX=>sN<|cF dX E<|xx ?_)
      obtain rfl:=si h
      exact kd (show m7 U D aa (([]:bs).length) I.length _ _ from ⟨E,fL,fM,fN,fO,dX,bU,bb⟩)
     refine kx (gsT E a1) (kx (cU E a1 E)<|be<|kx (gsT E E)<|kx (gsT E E)<|kx (gsT E E)<|kx (gsT E E)<|kx (gsT E E)<|kx (cU E E E)<|Rn (hV (.loc ([]:bs).length 1 0 0) c0 (hV (.pt none [a4 D.Day,.int .i8 D.Kind,a4 D.Tally,a4 D.From,a4 D.To,a4 D.Amount]) ba (hV (.loc I.length 1 0 0) c1 (hV (.bool aa) bT (hV (.bool false) E hZ))))) fun jn fP fR fS fT dY=>sN<|cF dY E<|xx ?_)
     obtain rfl:=si h
     exact kd (show m7 U D aa (([]:bs).length) I.length _ _ from ⟨E,fP,fR,fS,fT,dY,bU,bb⟩)) ?_
 rcases dV with _ | m8
 ·intro x jo kz eQ
  obtain ⟨rfl,fU,fV,fW⟩:=eQ
  refine sR ?_
  exact ct h (eC (ag:=true) (sz:=3) ⟨by kernel_rfl,by kernel_rfl,by kernel_rfl⟩ (cm fU fW E E (ble E) E) (bB fV bK)) E
 intro x kA J eR
 obtain ⟨rfl,c4,fX,fY,f0,kB,bL,c5⟩:=eR
 obtain ⟨⟨c6,N,O⟩,fQ,h⟩:=ad h
 refine sN (av<|kx (cm c4 bL E E (ble E) E) (Ev.nxcp (Ev.callT (v:=.agg [a4 c6,.sl (some 2) (N.map (cI .i64)),.sl (some 80) (O.map Tally.c)]) E (b3 E E) E (s1 U _ fQ) (Bh (v':=.agg [a4 c6,.lsl J.length N.length 0 N.length,.lsl (J.length + 1) O.length 0 O.length]) (l:=[⟨.grow,2,1,N.map (cI .i64)⟩,⟨.grow,80,5,O.map Tally.c⟩]) (Bm (hM E (hM (iB (c:=(cI .i64)) (fun _=>E)) (hM (iB (c:=Tally.c) Tally.flF) sL)))) (by simp [yE,s6,rK,k7,Og,K9]) E E)) fun dZ bm=>?_))
 have d0:=bS bm bL
 have f1:=bS bm c5
 have a2:([]:bs).length≠J.length:=by have:=cv (M:=J) bL; omega
 have aq:I.length≠J.length:=by have:=cv (M:=J) c5; omega
 have d1:dZ[J.length]? = some (.live ⟨.grow,2,1,N.map (cI .i64)⟩):=ji bm 0 E
 have aS:([]:bs).length≠(J.length + 1):=by have:=cv (M:=J) bL; omega
 have ac:I.length≠(J.length + 1):=by have:=cv (M:=J) c5; omega
 have aT:J.length≠(J.length + 1):=by omega
 have d2:dZ[(J.length + 1)]? = some (.live ⟨.grow,80,5,O.map Tally.c⟩):=ji bm 1 E
 refine kw (dW c4 E d0 E E ⟨E,ble E⟩ (g8 E (g8 (uz d1 (by simp)) (g8 (uz d2 (by simp)) sG))) E) fun f3 bn=>?_
 have c7:f3[([]:bs).length]? = some (.live ⟨.box,27,3,[[a4 c6,.lsl J.length N.length 0 N.length,.lsl (J.length + 1) O.length 0 O.length]]⟩):=bc bn d0
 have f4:=a9 bn (Ne.symm Z) f1
 have f5:=a9 bn (Ne.symm a2) d1
 have f6:=a9 bn (Ne.symm aS) d2
 refine Rn (hV (.loc ([]:bs).length 1 0 0) c4 (hV (.pt none [a4 D.Day,.int .i8 D.Kind,a4 D.Tally,a4 D.From,a4 D.To,a4 D.Amount]) fX (hV (.loc I.length 1 0 0) fY (hV (.bool aa) f0 hZ)))) fun kC d3 d4 f7 f8=>sN (av<|kx (cW d4 ⟨ble E,blt E⟩ E)<|kx (cr E E)<|kx (dQ d3 c7 E)<|kw (dW E E c7 E E ⟨E,ble E⟩ E E) fun f9 bo=>?_)
 have ah:f9[([]:bs).length]? = some (.live ⟨.box,27,3,[[a4 D.Day,.lsl J.length N.length 0 N.length,.lsl (J.length + 1) O.length 0 O.length]]⟩):=bc bo c7
 have ai:=a9 bo (Ne.symm Z) f4
 have aO:=a9 bo (Ne.symm a2) f5
 have X:=a9 bo (Ne.symm aS) f6
 refine Rn (hA d3 (hA d4 (hA f7 (hA f8 hZ)))) fun kD ga dl gb gc=>sN (sq<|av<|kx (cW dl ⟨ble E,blt E⟩ E)<|kx (cr E E)<|kx (d8 E E)<|Rn (hA ga (hA dl (hA gb (hA gc (hN E hZ))))) fun kE bM c8 dm gd dn=>sN ?_)
 rcases aj h with ⟨bX,h⟩ | ⟨bX,h⟩
 ·refine cT dn bX (sq<|av<|kx (dQ bM ah E)<|kx (e8 E ah E E E)<|kx (Or Tryz.underlying25 E X (by simp))<|kx (d8 E E)<|Rn (hA bM (hA c8 (hA dm (hN E hZ)))) fun kF cj bd ck dq=>sN ?_)
  rcases aj h with ⟨bY,h⟩ | ⟨bY,h⟩
  ·refine cT dq bY (av<|kx (gg cy E (dz E))<|kw (dW ck E ai E E ⟨E,ble E⟩ E E) fun fJ bq=>?_)
   have kG:=a9 bq Z ah
   have fK:fJ[I.length]? = some (.live ⟨.box,27,3,[[a4 0,.nils,.nils]]⟩):=bc bq ai
   have kH:=a9 bq (Ne.symm aq) aO
   have kI:=a9 bq (Ne.symm ac) X
   refine be (Rn (hA ck (hV (a4 3) E hZ)) fun kJ hb hc=>sN<|xx<|sR<|sR ?_)
   exact ct h (eC (ag:=true) (sz:=3) ⟨by kernel_rfl,by kernel_rfl,by kernel_rfl⟩ (cm hb fK E E (ble E) E) (bB hc bK)) E
  obtain ⟨bf,eS,h⟩:=ad h
  refine cF dq bY (xx<|sN<|av<|kx (dQ cj ah E)<|kx (e8 E ah E E E)<|kx (cW bd ⟨ble E,blt E⟩ E)<|kx (cr E E)<|kx (cW bd ⟨ble E,blt E⟩ E)<|kx (cr E E)<|kx (cW bd ⟨ble E,blt E⟩ E)<|kx (cr E E)<|kx (cW bd ⟨ble E,blt E⟩ E)<|kx (cr E E)<|kx (cW bd ⟨ble E,blt E⟩ E)<|kx (cr E E)<|kx (gg z1 (b3 (t6 E) (b3 (t6 E) (b3 (t6 E) (b3 (t6 E) (b3 (t6 E) E))))) (gz ⟨E,ble E⟩ E E (gz ⟨E,ble E⟩ E E (gz ⟨E,ble E⟩ E E (gz ⟨E,ble E⟩ E E (gz ⟨E,ble E⟩ E E (dz E)))))))<|kx (kh (b3 E E) E ⟨E,by decide⟩)<|kw (Dp E X E (DO (c:=Tally.c) (xs:=[(Tally.mk D.From D.To D.Day D.Amount D.Amount)]) E) eS Tally.fl (by decide)) fun hd br=>?_)
  have cn:=a9 br aS ah
  have he:=a9 br ac ai
  have hf:=a9 br aT aO
  have dr:hd[(J.length + 1)]? = some (.live ⟨.grow,80,5,bf.map Tally.c⟩):=bc br X
  refine kx (dQ cj cn E) (kw (dW E E cn E E ⟨E,ble E⟩ (g8 (uz dr (by simp)) sG) E) fun hg bt=>?_)
  have ds:hg[([]:bs).length]? = some (.live ⟨.box,27,3,[[a4 D.Day,.lsl J.length N.length 0 N.length,.lsl (J.length + 1) bf.length 0 bf.length]]⟩):=bc bt cn
  have dt:=a9 bt (Ne.symm Z) he
  have dv:=a9 bt (Ne.symm a2) hf
  have dw:=a9 bt (Ne.symm aS) dr
  refine Rn (hA cj (hA ck hZ)) fun kK hh dy=>sN (av<|kx (cm hh ds E E (ble E) E)<|kw (dW dy E dt E E ⟨E,ble E⟩ (g8 E (g8 (uz dv (by simp)) (g8 (uz dw (by simp)) sG))) E) fun hi bu=>?_)
  have kL:=a9 bu Z ds
  have hj:hi[I.length]? = some (.live ⟨.box,27,3,[[a4 D.Day,.lsl J.length N.length 0 N.length,.lsl (J.length + 1) bf.length 0 bf.length]]⟩):=bc bu dt
  have hk:=a9 bu (Ne.symm aq) dv
  have hl:=a9 bu (Ne.symm ac) dw
  refine be (Rn (hA dy (hV (a4 0) E hZ)) fun kM hm hn=>sN<|xx<|sR ?_)
  exact ct h (eC (ag:=true) (sz:=3) ⟨by kernel_rfl,by kernel_rfl,by kernel_rfl⟩ (cm hm hj E E (ble E) E) (bB hn bK)) (jP (hD (oT (hD E (hD (eh hk E (de _)) (hD (eh hl E Tally.fl) ru)))) (hD E ru)))
 obtain ⟨G,am,h⟩:=ad h
 obtain ⟨dA,eT,h⟩:=ad h
 refine cF dn bX (xx<|sN<|av<|kx (dQ bM ah E)<|kx (e8 E ah E E E)<|kx (cW c8 ⟨ble E,blt E⟩ E)<|kx (cr E E)<|kx (Do E X E E (jc am).1 (oI am).2)<|be<|Rn (hA bM (hA c8 (hA dm (hA gd (hV (.loc (J.length + 1) O.length (0 + D.Tally.toNat) 0) E hZ))))) fun kN aU aE aV ho aF=>sN<|sq ?_)
 refine Ev.cut (Q1:=f2 D N O (([]:bs).length) I.length J.length (J.length + 1) dA) (by
     have h:=eT
     refine sq (Rd<|kf (bp ho)<|kf (bp E) ?_)
     rcases aj h with ⟨an,h⟩ | ⟨an,h⟩
     ·refine kf (guT E an (cW aE ⟨ble E,blt E⟩ E)) (kf (guT E an (cr E E))<|kf (guT E an (bp aF))<|kf (guT E an (mL E X (by simp)))<|kf (guT E an (dQ E X (by simp)))<|kf (guT E an (e8 E X (by simp) (rz am) E))<|kf (guT E an (gD E E))<|kf (cC E an E)<|kf (bp E) ?_)
      rcases aj h with ⟨aD,h⟩ | ⟨aD,h⟩
      ·refine kf (gsF E aD) (kf (gsF E aD)<|kf (gsF E aD)<|kf (gsF E aD)<|kf (gsF E aD)<|kf (cC E aD E)<|r3<|kf (gsF E E)<|kf (gsF E E)<|kf (gsF E E)<|kf (gsF E E)<|kf (gsU E)<|kf (gsU E)<|kf (gsU E)<|kf (gsU E)<|kf (gsU E)<|kf (gsU E)<|kf (gsU E)<|kf (gsF E E)<|kf (cC E E E)<|fZ<|Rn (hA aU (hA aE (hA aV (hA aF (hV (.bool true) E hZ))))) fun j1 j2 j3 dB j4 hp=>sN<|cT hp E<|av<|kx (gg cy E (dz E))<|kw (dW dB E ai E E ⟨E,ble E⟩ E E) fun hq bv=>?_)
       have j5:=a9 bv Z ah
       have hr:hq[I.length]? = some (.live ⟨.box,27,3,[[a4 0,.nils,.nils]]⟩):=bc bv ai
       have j6:=a9 bv (Ne.symm aq) aO
       have j7:=a9 bv (Ne.symm ac) X
       refine be (Rn (hA dB (hV (a4 4) E hZ)) fun j8 hs ht=>sN<|xx ?_)
       obtain rfl:=si h
       exact kd (show f2 D N O (([]:bs).length) I.length J.length (J.length + 1) _ _ from ⟨E,hs,ht,hr⟩)
      refine kf (guF E aD (bp aF)) (kf (guF E aD (mL E X (by simp)))<|kf (guF E aD (dQ E X (by simp)))<|kf (guF E aD (e8 E X (by simp) (rz am) E))<|kf (guF E aD (d8 E E))<|kf (cU E aD E)<|kf (bp E) ?_)
      rcases aj h with ⟨az,h⟩ | ⟨az,h⟩
      ·refine kf (gsF E az) (kf (gsF E az)<|kf (gsF E az)<|kf (gsF E az)<|kf (gsU E)<|kf (gsU E)<|kf (gsU E)<|kf (gsU E)<|kf (gsU E)<|kf (gsU E)<|kf (gsU E)<|kf (gsF E az)<|kf (cC E az E)<|fZ<|Rn (hA aU (hA aE (hA aV (hA aF (hV (.bool true) E hZ))))) fun j9 ka kb dC ke hu=>sN<|cT hu E<|av<|kx (gg cy E (dz E))<|kw (dW dC E ai E E ⟨E,ble E⟩ E E) fun hv bw=>?_)
       have kg:=a9 bw Z ah
       have hw:hv[I.length]? = some (.live ⟨.box,27,3,[[a4 0,.nils,.nils]]⟩):=bc bw ai
       have ki:=a9 bw (Ne.symm aq) aO
       have kj:=a9 bw (Ne.symm ac) X
       refine be (Rn (hA dC (hV (a4 4) E hZ)) fun kl hx hy=>sN<|xx ?_)
       obtain rfl:=si h
       exact kd (show f2 D N O (([]:bs).length) I.length J.length (J.length + 1) _ _ from ⟨E,hx,hy,hw⟩)
      refine kf (guF E az (cW aE ⟨ble E,blt E⟩ E)) (kf (guF E az (cr E E))<|kf (guF E az (d8 E E))<|kf (guF E az (bp E)) ?_)
      rcases aj h with ⟨ao,h⟩ | ⟨ao,h⟩
      ·refine kf (guT E ao (cW aE ⟨ble E,blt E⟩ E)) (kf (guT E ao (cr E E))<|kf (guT E ao (bp aF))<|kf (guT E ao (mL E X (by simp)))<|kf (guT E ao (dQ E X (by simp)))<|kf (guT E ao (e8 E X (by simp) (rz am) E))<|kf (guT E ao (fB E E))<|kf (guF E az (cC E ao E))<|kf (cU E az E)<|fZ<|Rn (hA aU (hA aE (hA aV (hA aF (hN E hZ))))) fun km gK gL co gM cq=>sN ?_)
       rcases aj h with ⟨bZ,h⟩ | ⟨bZ,h⟩
       ·refine cT cq bZ (av<|kx (gg cy E (dz E))<|kw (dW co E ai E E ⟨E,ble E⟩ E E) fun gN bx=>?_)
        have ko:=a9 bx Z ah
        have gO:gN[I.length]? = some (.live ⟨.box,27,3,[[a4 0,.nils,.nils]]⟩):=bc bx ai
        have kp:=a9 bx (Ne.symm aq) aO
        have kq:=a9 bx (Ne.symm ac) X
        refine be (Rn (hA co (hV (a4 4) E hZ)) fun kr gP gQ=>sN<|xx ?_)
        obtain rfl:=si h
        exact kd (show f2 D N O (([]:bs).length) I.length J.length (J.length + 1) _ _ from ⟨E,gP,gQ,gO⟩)
       refine cF cq bZ (xx ?_)
       obtain rfl:=si h
       exact kd (show f2 D N O (([]:bs).length) I.length J.length (J.length + 1) _ _ from ⟨E,gK,gL,co,gM,cq,ah,aO,X,ai⟩)
      refine kf (gsT E ao) (kf (gsT E ao)<|kf (gsT E ao)<|kf (gsT E ao)<|kf (gsT E ao)<|kf (gsT E ao)<|kf (gsT E ao)<|kf (guF E az (cU E ao E))<|kf (cU E az E)<|fZ<|Rn (hA aU (hA aE (hA aV (hA aF (hV (.bool false) E hZ))))) fun ks gR gS gT gU dD=>sN<|cF dD E<|xx ?_)
      obtain rfl:=si h
      exact kd (show f2 D N O (([]:bs).length) I.length J.length (J.length + 1) _ _ from ⟨E,gR,gS,gT,gU,dD,ah,aO,X,ai⟩)
     refine kf (gsT E an) (kf (gsT E an)<|kf (gsT E an)<|kf (gsT E an)<|kf (gsT E an)<|kf (gsT E an)<|kf (gsT E an)<|kf (cU E an E)<|r3<|kf (guF E E (bp aF))<|kf (guF E E (mL E X (by simp)))<|kf (guF E E (dQ E X (by simp)))<|kf (guF E E (e8 E X (by simp) (rz am) E))<|kf (guF E E (d8 E E))<|kf (cU E E E)<|kf (bp E) ?_)
     rcases aj h with ⟨aA,h⟩ | ⟨aA,h⟩
     ·refine kf (gsF E aA) (kf (gsF E aA)<|kf (gsF E aA)<|kf (gsF E aA)<|kf (gsU E)<|kf (gsU E)<|kf (gsU E)<|kf (gsU E)<|kf (gsU E)<|kf (gsU E)<|kf (gsU E)<|kf (gsF E aA)<|kf (cC E aA E)<|fZ<|Rn (hA aU (hA aE (hA aV (hA aF (hV (.bool true) E hZ))))) fun kt kv ky dE jZ gV=>sN<|cT gV E<|av<|kx (gg cy E (dz E))<|kw (dW dE E ai E E ⟨E,ble E⟩ E E) fun gW bz=>?_)
      have j0:=a9 bz Z ah
      have gX:gW[I.length]? = some (.live ⟨.box,27,3,[[a4 0,.nils,.nils]]⟩):=bc bz ai
      have lg:=a9 bz (Ne.symm aq) aO
      have lh:=a9 bz (Ne.symm ac) X
      refine be (Rn (hA dE (hV (a4 4) E hZ)) fun li gY gZ=>sN<|xx ?_)
      obtain rfl:=si h
      exact kd (show f2 D N O (([]:bs).length) I.length J.length (J.length + 1) _ _ from ⟨E,gY,gZ,gX⟩)
     refine kf (guF E aA (cW aE ⟨ble E,blt E⟩ E)) (kf (guF E aA (cr E E))<|kf (guF E aA (d8 E E))<|kf (guF E aA (bp E)) ?_)
     rcases aj h with ⟨ap,h⟩ | ⟨ap,h⟩
     ·refine kf (guT E ap (cW aE ⟨ble E,blt E⟩ E)) (kf (guT E ap (cr E E))<|kf (guT E ap (bp aF))<|kf (guT E ap (mL E X (by simp)))<|kf (guT E ap (dQ E X (by simp)))<|kf (guT E ap (e8 E X (by simp) (rz am) E))<|kf (guT E ap (fB E E))<|kf (guF E aA (cC E ap E))<|kf (cU E aA E)<|fZ<|Rn (hA aU (hA aE (hA aV (hA aF (hN E hZ))))) fun lj g0 g1 cw g2 cx=>sN ?_)
      rcases aj h with ⟨b0,h⟩ | ⟨b0,h⟩
      ·refine cT cx b0 (av<|kx (gg cy E (dz E))<|kw (dW cw E ai E E ⟨E,ble E⟩ E E) fun g3 bA=>?_)
       have lk:=a9 bA Z ah
       have g4:g3[I.length]? = some (.live ⟨.box,27,3,[[a4 0,.nils,.nils]]⟩):=bc bA ai
       have ll:=a9 bA (Ne.symm aq) aO
       have lm:=a9 bA (Ne.symm ac) X
       refine be (Rn (hA cw (hV (a4 4) E hZ)) fun ln g5 g6=>sN<|xx ?_)
       obtain rfl:=si h
       exact kd (show f2 D N O (([]:bs).length) I.length J.length (J.length + 1) _ _ from ⟨E,g5,g6,g4⟩)
      refine cF cx b0 (xx ?_)
      obtain rfl:=si h
      exact kd (show f2 D N O (([]:bs).length) I.length J.length (J.length + 1) _ _ from ⟨E,g0,g1,cw,g2,cx,ah,aO,X,ai⟩)
     refine kf (gsT E ap) (kf (gsT E ap)<|kf (gsT E ap)<|kf (gsT E ap)<|kf (gsT E ap)<|kf (gsT E ap)<|kf (gsT E ap)<|kf (guF E aA (cU E ap E))<|kf (cU E aA E)<|fZ<|Rn (hA aU (hA aE (hA aV (hA aF (hV (.bool false) E hZ))))) fun lo g7 g9 ha gC dF=>sN<|cF dF E<|xx ?_)
     obtain rfl:=si h
     exact kd (show f2 D N O (([]:bs).length) I.length J.length (J.length + 1) _ _ from ⟨E,g7,g9,ha,gC,dF,ah,aO,X,ai⟩)) ?_
 rcases dA with _ | om
 ·intro x lp lq eU
  obtain ⟨rfl,gE,gF,gG⟩:=eU
  refine sR ?_
  exact ct h (eC (ag:=true) (sz:=3) ⟨by kernel_rfl,by kernel_rfl,by kernel_rfl⟩ (cm gE gG E E (ble E) E) (bB gF bK)) E
 intro x lr ls eV
 obtain ⟨rfl,gH,dG,gI,gJ,lu,aQ,aG,ae,aW⟩:=eV
 refine sN (sq<|av<|kx (cW dG ⟨ble E,blt E⟩ E)<|kx (cr E E)<|Rn (hV (.loc ([]:bs).length 1 0 0) gH (hV (.pt none [a4 D.Day,.int .i8 D.Kind,a4 D.Tally,a4 D.From,a4 D.To,a4 D.Amount]) dG (hV (.loc I.length 1 0 0) gI (hV (.loc (J.length + 1) O.length (0 + D.Tally.toNat) 0) gJ (hN E hZ))))) fun kP h3 h4 h5 h6 dH=>sN<|bl<|av<|kx (d8 dH E)<|be<|Rn (hA h3 (hA h4 (hA h5 (hA h6 (hA dH (hN E hZ)))))) fun kQ dI cz dJ cA dK dL=>sN ?_)
 rcases aj h with ⟨b1,h⟩ | ⟨b1,h⟩
 ·refine cT dL b1 (av<|kx (bp cA)<|kx (cW cz ⟨ble E,blt E⟩ E)<|kx (cr E E)<|kx (mL E ae (by simp))<|kx (dQ E ae (by simp))<|kw (Fv (u:=G) (u':=(Tally.mk G.Debtor D.To G.Cut G.Amount G.Left)) E E ae E (Fw am) ⟨E,ble E⟩ E E) fun h7 a3=>?_)
  rw [Nat.zero_add] at a3
  have cB:=a9 a3 aS aQ
  have cD:=a9 a3 aT aG
  have aR:h7[(J.length + 1)]? = some (.live ⟨.grow,80,5,(O.set D.Tally.toNat (Tally.mk G.Debtor D.To G.Cut G.Amount G.Left)).map Tally.c⟩):=bc a3 ae
  have cE:=a9 a3 ac aW
  have b4:=nC (u':=(Tally.mk G.Debtor D.To G.Cut G.Amount G.Left)) am
  refine Rn (hA dI (hA cz (hA dJ (hA cA hZ)))) fun kR h8 h9 ia dM=>sN (sq<|Rd<|kf (cW h9 ⟨ble E,blt E⟩ E)<|kf (cr E E)<|kf (bp dM)<|kf (mL E aR (by simp))<|kf (dQ E aR (by simp))<|kf (e8 E aR (by simp) (rz b4) E)<|kf (d8 E E)<|fZ<|Rn (hA h8 (hA ia (hA dM (hN E hZ)))) fun kS dN cG ib ek=>sN ?_)
  rcases aj h with ⟨b5,h⟩ | ⟨b5,h⟩
  ·refine cT ek b5 (Rg<|kx (bp ib)<|kx (mL E aR (by simp))<|kx (dQ E aR (by simp))<|kw (Fv (u:=(Tally.mk G.Debtor D.To G.Cut G.Amount G.Left)) (u':=(Tally.mk ((Tally.mk G.Debtor D.To G.Cut G.Amount G.Left)).Debtor ((Tally.mk G.Debtor D.To G.Cut G.Amount G.Left)).Holder ((Tally.mk G.Debtor D.To G.Cut G.Amount G.Left)).Cut ((Tally.mk G.Debtor D.To G.Cut G.Amount G.Left)).Amount 0)) E E aR (by simp) (Fw b4) ⟨E,ble E⟩ E E) fun ic a5=>?_)
   rw [Nat.zero_add] at a5
   have em:=a9 a5 aS cB
   have en:=a9 a5 aT cD
   have eo:ic[(J.length + 1)]? = some (.live ⟨.grow,80,5,((O.set D.Tally.toNat (Tally.mk G.Debtor D.To G.Cut G.Amount G.Left)).set D.Tally.toNat (Tally.mk ((Tally.mk G.Debtor D.To G.Cut G.Amount G.Left)).Debtor ((Tally.mk G.Debtor D.To G.Cut G.Amount G.Left)).Holder ((Tally.mk G.Debtor D.To G.Cut G.Amount G.Left)).Cut ((Tally.mk G.Debtor D.To G.Cut G.Amount G.Left)).Amount 0)).map Tally.c⟩):=bc a5 aR
   have ep:=a9 a5 ac cE
   have jO:=nC (u':=(Tally.mk ((Tally.mk G.Debtor D.To G.Cut G.Amount G.Left)).Debtor ((Tally.mk G.Debtor D.To G.Cut G.Amount G.Left)).Holder ((Tally.mk G.Debtor D.To G.Cut G.Amount G.Left)).Cut ((Tally.mk G.Debtor D.To G.Cut G.Amount G.Left)).Amount 0)) b4
   refine Rn (hA dN (hA cG hZ)) fun kT ie er=>bN (sN<|av<|kx (cm ie em E E (ble E) E)<|kw (dW er E ep E E ⟨E,ble E⟩ (g8 E (g8 (uz en (by simp)) (g8 (uz eo (by simp)) sG))) E) fun ig bC=>?_)
   have kU:=a9 bC Z em
   have ih:=a9 bC (Ne.symm aq) en
   have hB:=a9 bC (Ne.symm ac) eo
   have hC:ig[I.length]? = some (.live ⟨.box,27,3,[[a4 D.Day,.lsl J.length N.length 0 N.length,.lsl (J.length + 1) O.length 0 O.length]]⟩):=bc bC ep
   refine be (Rn (hA er (hV (a4 0) E hZ)) fun kV hE hF=>sN<|xx ?_)
   exact ct h (eC (ag:=true) (sz:=3) ⟨by kernel_rfl,by kernel_rfl,by kernel_rfl⟩ (cm hE hC E E (ble E) E) (bB hF bK)) (jP (hD (oT (hD E (hD (eh ih E (de _)) (hD (eh hB (by simp) Tally.fl) ru)))) (hD E ru)))
  refine cF ek b5 (xx<|bN<|sN<|av<|kx (cm dN cB E E (ble E) E)<|kw (dW cG E cE E E ⟨E,ble E⟩ (g8 E (g8 (uz cD (by simp)) (g8 (uz aR (by simp)) sG))) E) fun hG bD=>?_)
  have kW:=a9 bD Z cB
  have hH:=a9 bD (Ne.symm aq) cD
  have hI:=a9 bD (Ne.symm ac) aR
  have hJ:hG[I.length]? = some (.live ⟨.box,27,3,[[a4 D.Day,.lsl J.length N.length 0 N.length,.lsl (J.length + 1) O.length 0 O.length]]⟩):=bc bD cE
  refine be (Rn (hA cG (hV (a4 0) E hZ)) fun kX hK hL=>sN<|xx ?_)
  exact ct h (eC (ag:=true) (sz:=3) ⟨by kernel_rfl,by kernel_rfl,by kernel_rfl⟩ (cm hK hJ E E (ble E) E) (bB hL bK)) (jP (hD (oT (hD E (hD (eh hH E (de _)) (hD (eh hI (by simp) Tally.fl) ru)))) (hD E ru)))
 refine cF dL b1 (av<|kx (d8 dK E)<|be<|Rn (hA dI (hA cz (hA dJ (hA cA (hA dK (hN E hZ)))))) fun kY cH et eu cJ hO ev=>sN ?_)
 rcases aj h with ⟨b7,h⟩ | ⟨b7,h⟩
 ·obtain ⟨kZ,b8,h⟩:=ad h
  refine cT ev b7 (sq<|sq<|Rd<|kf (dQ cH aQ E)<|kf (e8 E aQ E E E)<|kf (bp cJ)<|kf (mL E ae (by simp))<|kf (dQ E ae (by simp))<|kf (e8 E ae (by simp) (rz am) E)<|kf (Do E aG E E (jc b8).1 (oI b8).2)<|kf (e8 E aG (by simp) (rz b8) E)<|kf (cW et ⟨ble E,blt E⟩ E)<|kf (cr E E)<|kf (dp E E)<|fZ<|Rn (hA cH (hA et (hA eu (hA cJ (hN E hZ))))) fun k0 ew ex cK ey ez=>sN ?_)
  rcases aj h with ⟨b9,h⟩ | ⟨b9,h⟩
  ·refine cT ez b9 (av<|kx (gg cy E (dz E))<|kw (dW cK E aW E E ⟨E,ble E⟩ E E) fun hP bE=>?_)
   have k1:=a9 bE Z aQ
   have k2:=a9 bE (Ne.symm aq) aG
   have k3:=a9 bE (Ne.symm ac) ae
   have hQ:hP[I.length]? = some (.live ⟨.box,27,3,[[a4 0,.nils,.nils]]⟩):=bc bE aW
   refine be (Rn (hA cK (hV (a4 8) E hZ)) fun k4 hR hS=>sN<|xx<|sR<|bR<|sR ?_)
   exact ct h (eC (ag:=true) (sz:=3) ⟨by kernel_rfl,by kernel_rfl,by kernel_rfl⟩ (cm hR hQ E E (ble E) E) (bB hS bK)) E
  obtain ⟨aX,ca,h⟩:=ad h
  obtain ⟨hT,bF,h⟩:=ad h
  refine cF ez b9 (xx<|sN<|sq<|Rd<|kf (dQ ew aQ E)<|kf (e8 E aQ E E E)<|kf (bp ey)<|kf (mL E ae (by simp))<|kf (dQ E ae (by simp))<|kf (e8 E ae (by simp) (rz am) E)<|kf (Do E aG E E (jc ca).1 (oI ca).2)<|kf (e8 E aG (by simp) (rz ca) E)<|kf (cW ex ⟨ble E,blt E⟩ E)<|kf (cr E E)<|kf (lD E E)<|kf (Do E aG E E (jc bF).1 (oI bF).2)<|fZ<|kw (Fv (u:=hT) (u':=(IntKind.i64.wrap (aX - D.Amount))) E E aG E (Fw bF) ⟨E,ble E⟩ E E) fun hU a6=>?_)
  rw [Nat.zero_add] at a6
  have cL:=a9 a6 a2 aQ
  have bg:hU[J.length]? = some (.live ⟨.grow,2,1,(N.set G.Debtor.toNat (IntKind.i64.wrap (aX - D.Amount))).map (cI .i64)⟩):=bc a6 aG
  have bO:=a9 a6 (Ne.symm aT) ae
  have hW:=a9 a6 aq aW
  have jQ:=nC (u':=(IntKind.i64.wrap (aX - D.Amount))) bF
  obtain ⟨bP,cb,h⟩:=ad h
  obtain ⟨hX,bG,h⟩:=ad h
  refine Rn (hA ew (hA ex (hA cK (hA ey hZ)))) fun k5 eA eB hY eD=>sN (sq<|Rd<|kf (dQ eA cL E)<|kf (e8 E cL E E E)<|kf (bp eD)<|kf (mL E bO (by simp))<|kf (dQ E bO (by simp))<|kf (e8 E bO (by simp) (rz am) E)<|kf (Do (D1 (L':=(N.set G.Debtor.toNat (IntKind.i64.wrap (aX - D.Amount))).length) E (by simp)) bg E E (jc cb).1 (oI cb).2)<|kf (e8 E bg (by simp) (rz cb) E)<|kf (cW eB ⟨ble E,blt E⟩ E)<|kf (cr E E)<|kf (cu E E)<|kf (Do (D1 (L':=(N.set G.Debtor.toNat (IntKind.i64.wrap (aX - D.Amount))).length) E (by simp)) bg E E (jc bG).1 (oI bG).2)<|fZ<|kw (Fv (u:=hX) (u':=(IntKind.i64.wrap (bP + D.Amount))) E E bg E (Fw bG) ⟨E,ble E⟩ E E) fun h0 a7=>?_)
  rw [Nat.zero_add] at a7
  have h1:=a9 a7 a2 cL
  have h2:h0[J.length]? = some (.live ⟨.grow,2,1,((N.set G.Debtor.toNat (IntKind.i64.wrap (aX - D.Amount))).set G.Holder.toNat (IntKind.i64.wrap (bP + D.Amount))).map (cI .i64)⟩):=bc a7 bg
  have aY:=a9 a7 (Ne.symm aT) bO
  have hz:=a9 a7 aq hW
  have jR:=nC (u':=(IntKind.i64.wrap (bP + D.Amount))) bG
  refine Rn (hA eA (hA eB (hA hY (hA eD hZ)))) fun k6 iQ iR iS d5=>sN (sq<|Rd<|kf (bp d5)<|kf (mL E aY (by simp))<|kf (dQ E aY (by simp))<|kf (e8 E aY (by simp) (rz am) E)<|kf (cW iR ⟨ble E,blt E⟩ E)<|kf (cr E E)<|kf (lD E E)<|kf (mL E aY (by simp))<|kf (dQ E aY (by simp))<|fZ<|kw (Fv (u:=G) (u':=(Tally.mk G.Debtor G.Holder G.Cut G.Amount (IntKind.i64.wrap (G.Left - D.Amount)))) E E aY E (Fw am) ⟨E,ble E⟩ E E) fun iT a8=>?_)
  rw [Nat.zero_add] at a8
  have bh:=a9 a8 aS h1
  have bi:=a9 a8 aT h2
  have aZ:iT[(J.length + 1)]? = some (.live ⟨.grow,80,5,(O.set D.Tally.toNat (Tally.mk G.Debtor G.Holder G.Cut G.Amount (IntKind.i64.wrap (G.Left - D.Amount)))).map Tally.c⟩):=bc a8 aY
  have bQ:=a9 a8 ac hz
  have eW:=nC (u':=(Tally.mk G.Debtor G.Holder G.Cut G.Amount (IntKind.i64.wrap (G.Left - D.Amount)))) am
  obtain ⟨k8,cc,h⟩:=ad h
  refine Rn (hA iQ (hA iS (hA d5 hZ))) fun k9 d6 le iU=>sN (sq<|Rd<|kf (dQ d6 bh E)<|kf (e8 E bh E E E)<|kf (bp iU)<|kf (mL E aZ (by simp))<|kf (dQ E aZ (by simp))<|kf (e8 E aZ (by simp) (rz eW) E)<|kf (Do (D1 (L':=((N.set G.Debtor.toNat (IntKind.i64.wrap (aX - D.Amount))).set G.Holder.toNat (IntKind.i64.wrap (bP + D.Amount))).length) E (by simp)) bi E E (jc cc).1 (oI cc).2)<|kf (e8 E bi (by simp) (rz cc) E)<|kf (fB E E)<|fZ<|Rn (hA d6 (hA le (hN E hZ))) fun la iV bW d7=>sN ?_)
  rcases aj h with ⟨cN,h⟩ | ⟨cN,h⟩
  ·refine cT d7 cN (av<|kx (gg cy E (dz E))<|kw (dW bW E bQ E E ⟨E,ble E⟩ E E) fun iW bI=>?_)
   have lb:=a9 bI Z bh
   have lc:=a9 bI (Ne.symm aq) bi
   have ld:=a9 bI (Ne.symm ac) aZ
   have iX:iW[I.length]? = some (.live ⟨.box,27,3,[[a4 0,.nils,.nils]]⟩):=bc bI bQ
   refine be (Rn (hA bW (hV (a4 3) E hZ)) fun lf iY iZ=>sN<|xx<|bR<|sR ?_)
   exact ct h (eC (ag:=true) (sz:=3) ⟨by kernel_rfl,by kernel_rfl,by kernel_rfl⟩ (cm iY iX E E (ble E) E) (bB iZ bK)) E
  refine cF d7 cN (xx<|bN<|sN<|av<|kx (cm iV bh E E (ble E) E)<|kw (dW bW E bQ E E ⟨E,ble E⟩ (g8 E (g8 (uz bi (by simp)) (g8 (uz aZ (by simp)) sG))) E) fun i0 bJ=>?_)
  have kO:=a9 bJ Z bh
  have i1:=a9 bJ (Ne.symm aq) bi
  have i3:=a9 bJ (Ne.symm ac) aZ
  have i4:i0[I.length]? = some (.live ⟨.box,27,3,[[a4 D.Day,.lsl J.length N.length 0 N.length,.lsl (J.length + 1) O.length 0 O.length]]⟩):=bc bJ bQ
  refine be (Rn (hA bW (hV (a4 0) E hZ)) fun lK i5 i6=>sN<|xx ?_)
  exact ct h (eC (ag:=true) (sz:=3) ⟨by kernel_rfl,by kernel_rfl,by kernel_rfl⟩ (cm i5 i4 E E (ble E) E) (bB i6 bK)) (jP (hD (oT (hD E (hD (eh i1 (by simp) (de _)) (hD (eh i3 (by simp) Tally.fl) ru)))) (hD E ru)))
 refine cF ev b7 (av<|kx (d8 hO E)<|be<|Rn (hA cH (hA eu (hA cJ (hN E hZ)))) fun lL d9 cM i7 ea=>sN ?_)
 rcases aj h with ⟨cO,h⟩ | ⟨cO,h⟩
 ·refine cT ea cO (Rg<|kx (bp i7)<|kx (mL E ae (by simp))<|kx (dQ E ae (by simp))<|kw (Fv (u:=G) (u':=(Tally.mk G.Debtor G.Holder G.Cut G.Amount 0)) E E ae E (Fw am) ⟨E,ble E⟩ E E) fun io a0=>?_)
  rw [Nat.zero_add] at a0
  have eb:=a9 a0 aS aQ
  have ec:=a9 a0 aT aG
  have ed:io[(J.length + 1)]? = some (.live ⟨.grow,80,5,(O.set D.Tally.toNat (Tally.mk G.Debtor G.Holder G.Cut G.Amount 0)).map Tally.c⟩):=bc a0 ae
  have ee:=a9 a0 ac aW
  have jS:=nC (u':=(Tally.mk G.Debtor G.Holder G.Cut G.Amount 0)) am
  refine Rn (hA d9 (hA cM hZ)) fun lM ip ef=>bN (sN<|av<|kx (cm ip eb E E (ble E) E)<|kw (dW ef E ee E E ⟨E,ble E⟩ (g8 E (g8 (uz ec (by simp)) (g8 (uz ed (by simp)) sG))) E) fun iq bj=>?_)
  have lN:=a9 bj Z eb
  have ir:=a9 bj (Ne.symm aq) ec
  have it:=a9 bj (Ne.symm ac) ed
  have iu:iq[I.length]? = some (.live ⟨.box,27,3,[[a4 D.Day,.lsl J.length N.length 0 N.length,.lsl (J.length + 1) O.length 0 O.length]]⟩):=bc bj ee
  refine be (Rn (hA ef (hV (a4 0) E hZ)) fun lO iv iw=>sN<|xx ?_)
  exact ct h (eC (ag:=true) (sz:=3) ⟨by kernel_rfl,by kernel_rfl,by kernel_rfl⟩ (cm iv iu E E (ble E) E) (bB iw bK)) (jP (hD (oT (hD E (hD (eh ir E (de _)) (hD (eh it (by simp) Tally.fl) ru)))) (hD E ru)))
 refine cF ea cO (xx<|bN<|sN<|av<|kx (cm d9 aQ E E (ble E) E)<|kw (dW cM E aW E E ⟨E,ble E⟩ (g8 E (g8 (uz aG (by simp)) (g8 (uz ae (by simp)) sG))) E) fun ix bk=>?_)
 have lP:=a9 bk Z aQ
 have iy:=a9 bk (Ne.symm aq) aG
 have iz:=a9 bk (Ne.symm ac) ae
 have iA:ix[I.length]? = some (.live ⟨.box,27,3,[[a4 D.Day,.lsl J.length N.length 0 N.length,.lsl (J.length + 1) O.length 0 O.length]]⟩):=bc bk aW
 refine be (Rn (hA cM (hV (a4 0) E hZ)) fun lQ iC iD=>sN<|xx ?_)
 exact ct h (eC (ag:=true) (sz:=3) ⟨by kernel_rfl,by kernel_rfl,by kernel_rfl⟩ (cm iC iA E E (ble E) E) (bB iD bK)) (jP (hD (oT (hD E (hD (eh iy E (de _)) (hD (eh iz E Tally.fl) ru)))) (hD E ru)))
noncomputable def ie (D:Int):Option Bool:=
 if (decide (D>=0))=true then
  some (decide (D<=100000))
 else
  some false
def vR (r:Bool):AV:=.bool r
theorem nz (G:Int) (r:Bool) (h:ie G=some r):Ev (fun k=>CN k 38 [a4 G] []) (fun p=>cp p.2 p.1=vR r):=by
 unfold ie at h
 refine Ev.enter (F:=fun k=>f38 (CN k) k) (fun k=>bH E Tryz.func38 E E E (by decide +kernel) (Lx _ _)) (av<|be<|Rn (hN E hZ) fun O I=>sN<|av<|kx (bp I)<|kx (q5 E E)<|kx (bp E) ?_)
 rcases aj h with ⟨D,h⟩ | ⟨D,h⟩
 ·refine kx (guT E D (bp I)) (kx (guT E D (yb E E))<|kx (cC E D E)<|be<|Rn (hN E hZ) fun U N=>sN<|xx ?_)
  exact ct h (bB N bK) E
 refine kx (gsT E D) (kx (gsT E D)<|kx (cU E D E)<|be<|Rn (hV (.bool false) E hZ) fun X J=>sN<|xx ?_)
 exact ct h (bB J bK) E
def je (D:Deal) (g:Bool) (q:oZ):Prop:=q.1 = .nrm/\a3 q.2.1 1 = .pt none [a4 D.Day,.int .i8 D.Kind,a4 D.Tally,a4 D.From,a4 D.To,a4 D.Amount]/\a3 q.2.1 21 = .bool g
noncomputable def kQ (D:Deal):Option Bool:=
 (if (decide (D.Kind < 1))=true then
  some true
 else
  if (decide (D.Kind > 4))=true then
   some true
  else
   (ie D.Day).bind fun F=>
   some (!F)).bind fun G=>
 if G=true then
  some false
 else
  (hI D.Kind).bind fun (Y,aa,ab,ac)=>
  (eQ Y D.Tally 0 39).bind fun I=>
  if I=true then
   (eQ aa D.From 0 15).bind fun J=>
   if J=true then
    (eQ ab D.To 0 15).bind fun N=>
    if N=true then
     (eQ ac D.Amount 1 100000000).bind fun O=>
     some O
    else
     some false
   else
    some false
  else
   some false
def vV (r:Bool):AV:=.bool r
theorem wn (D:Deal) (r:Bool) (h:kQ D=some r):Ev (fun k=>CN k 118 [.agg [a4 D.Day,.int .i8 D.Kind,a4 D.Tally,a4 D.From,a4 D.To,a4 D.Amount]] []) (fun p=>cp p.2 p.1=vV r):=by
 unfold kQ at h
 obtain ⟨ab,Z,h⟩:=ad h
 refine Ev.enter (F:=fun k=>f118 (CN k) k) (fun k=>bH E Tryz.func118 E E E (by decide +kernel) (KI _ _)) (av<|kx (ps E E ⟨E,E,by decide⟩)<|be<|Rn (hN E hZ) fun a5 U=>sN<|sq<|sq ?_)
 refine Ev.cut (Q1:=je D ab) (by
     have h:=Z
     refine Rg (kx (cW U ⟨ble E,blt E⟩ E)<|kx (cr E E)<|kx (dp E E)<|kx (bp E) ?_)
     rcases aj h with ⟨O,h⟩ | ⟨O,h⟩
     ·refine kx (gsF E O) (kx (gsF E O)<|kx (gsF E O)<|kx (cC E O E)<|be<|kx (gsF E E)<|kx (gsF E E) (kc (Ev.gsF E E)<|kx (gsF E E)<|kx (cC E E E)<|Rn (hA U (hV (.bool true) E hZ)) fun a6 aQ aR=>?_))
      obtain rfl:=si h
      exact kd (show je D _ _ from ⟨E,aQ,aR⟩)
     refine kx (guF E O (cW U ⟨ble E,blt E⟩ E)) (kx (guF E O (cr E E))<|kx (guF E O (fB E E))<|kx (cU E O E)<|kx (bp E) ?_)
     rcases aj h with ⟨N,h⟩ | ⟨N,h⟩
     ·refine kx (gsF E N) (kx (gsF E N) (kc (Ev.gsF E N)<|kx (gsF E N)<|kx (cC E N E)<|Rn (hA U (hV (.bool true) E hZ)) fun aS ar au=>?_))
      obtain rfl:=si h
      exact kd (show je D _ _ from ⟨E,ar,au⟩)
     obtain ⟨aw,aM,h⟩:=ad h
     refine kx (guF E N (cW U ⟨ble E,blt E⟩ E)) (kx (guF E N (cr E E)) (kc (Ev.guF E N (cl (v:=.bool aw) E E (b3 E E) E (nz D.Day _ aM) nm))<|kx (guF E N (eZ E))<|kx (cU E N E)<|Rn (hA U (hN E hZ)) fun aT ax ay=>?_))
     obtain rfl:=si h
     exact kd (show je D _ _ from ⟨E,ax,ay⟩)) ?_
 revert h Z
 revert ab
 intro aU Z h
 intro x aV aW aN
 obtain ⟨rfl,az,ac⟩:=aN
 refine sN ?_
 rcases aj h with ⟨aa,h⟩ | ⟨aa,h⟩
 ·refine cT ac aa (av<|be<|Rn (hV (.bool false) E hZ) fun aX aB=>sN<|xx<|sR ?_)
  exact ct h (bB aB bK) E
 obtain ⟨⟨ae,af,ah,ai⟩,aA,h⟩:=ad h
 obtain ⟨aC,an,h⟩:=ad h
 refine cF ac aa (xx<|sN<|av<|be<|Rn (hV (.pt none [a4 D.Day,.int .i8 D.Kind,a4 D.Tally,a4 D.From,a4 D.To,a4 D.Amount]) az (hV (.fn 128 []) E hZ)) fun aY ak aD=>sN<|av<|kx (cW ak ⟨ble E,blt E⟩ E)<|kx (cr E E) (kc (cl (v:=.tup [.bool ae,.bool af,.bool ah,.bool ai]) E E (b3 E E) E (wX D.Kind _ aA) nm)<|be<|kx (eO E E)<|kx (eO E E)<|kx (eO E E)<|kx (eO E E)<|be<|be<|be<|be<|Rn (hA ak (hA aD (hN E (hN E (hN E (hN E hZ)))))) fun aZ X Y aE aF aG aH=>sN<|av<|kx (bp Y)<|kx (bp aE)<|kx (cW X ⟨ble E,blt E⟩ E)<|kx (cr E E) (kc (cl (v:=.bool aC) E E (b3 E (b3 E (b3 E (b3 E E)))) E (jg ae D.Tally 0 39 _ an) nm)<|kx (bp E) ?_)))
 rcases aj h with ⟨G,h⟩ | ⟨G,h⟩
 ·obtain ⟨aI,ao,h⟩:=ad h
  refine kx (guT E G (bp Y)) (kx (guT E G (bp aF))<|kx (guT E G (cW X ⟨ble E,blt E⟩ E))<|kx (guT E G (cr E E)) (kc (Ev.guT E G (cl (v:=.bool aI) E E (b3 E (b3 E (b3 E (b3 E E)))) E (jg af D.From 0 15 _ ao) nm))<|kx (cC E G E)<|kx (bp E) ?_))
  rcases aj h with ⟨I,h⟩ | ⟨I,h⟩
  ·obtain ⟨aJ,ap,h⟩:=ad h
   refine kx (guT E I (bp Y)) (kx (guT E I (bp aG))<|kx (guT E I (cW X ⟨ble E,blt E⟩ E))<|kx (guT E I (cr E E)) (kc (Ev.guT E I (cl (v:=.bool aJ) E E (b3 E (b3 E (b3 E (b3 E E)))) E (jg ah D.To 0 15 _ ap) nm))<|kx (cC E I E)<|kx (bp E) ?_))
   rcases aj h with ⟨J,h⟩ | ⟨J,h⟩
   ·obtain ⟨aK,aq,h⟩:=ad h
    refine kx (guT E J (bp Y)) (kx (guT E J (bp aH))<|kx (guT E J (cW X ⟨ble E,blt E⟩ E))<|kx (guT E J (cr E E)) (kc (Ev.guT E J (cl (v:=.bool aK) E E (b3 E (b3 E (b3 E (b3 E E)))) E (jg ai D.Amount 1 100000000 _ aq) nm))<|kx (cC E J E)<|be<|Rn (hN E hZ) fun a0 aL=>sN<|xx ?_))
    exact ct h (bB aL bK) E
   refine kx (gsT E J) (kx (gsT E J)<|kx (gsT E J)<|kx (gsT E J) (kc (Ev.gsT E J)<|kx (cU E J E)<|be<|Rn (hV (.bool false) E hZ) fun a1 am=>sN<|xx ?_))
   exact ct h (bB am bK) E
  refine kx (gsT E I) (kx (gsT E I)<|kx (gsT E I)<|kx (gsT E I) (kc (Ev.gsT E I)<|kx (cU E I E)<|be<|kx (gsT E E)<|kx (gsT E E)<|kx (gsT E E)<|kx (gsT E E) (kc (Ev.gsT E E)<|kx (cU E E E)<|be<|Rn (hV (.bool false) E hZ) fun a2 aO=>sN<|xx ?_)))
  exact ct h (bB aO bK) E
 refine kx (gsT E G) (kx (gsT E G)<|kx (gsT E G)<|kx (gsT E G) (kc (Ev.gsT E G)<|kx (cU E G E)<|be<|kx (gsT E E)<|kx (gsT E E)<|kx (gsT E E)<|kx (gsT E E) (kc (Ev.gsT E E)<|kx (cU E E E)<|be<|kx (gsT E E)<|kx (gsT E E)<|kx (gsT E E)<|kx (gsT E E) (kc (Ev.gsT E E)<|kx (cU E E E)<|be<|Rn (hV (.bool false) E hZ) fun a3 aP=>sN<|xx ?_))))
 exact ct h (bB aP bK) E
noncomputable def d3 (D:Int) (F:Int):Option Bool:=
 (dm F 0 (IntKind.i64.wrap (D - 1))).bind fun G=>
 some G
def vE (r:Bool):AV:=.bool r
theorem gG (D:Int) (G:Int) (r:Bool) (h:d3 D G=some r):Ev (fun k=>CN k 99 [a4 D,a4 G] []) (fun p=>cp p.2 p.1=vE r):=by
 unfold d3 at h
 obtain ⟨U,I,h⟩:=ad h
 refine Ev.enter (F:=fun k=>f99 (CN k) k) (fun k=>bH E Tryz.func99 E E E (by decide +kernel) (MJ _ _)) (av<|be<|Rn (hN E (hN E hZ)) fun X J N=>sN<|av<|kx (bp N)<|kx (bp J)<|kx (lD E E) (kc (cl (v:=.bool U) E E (b3 E (b3 E (b3 E E))) E (dn G 0 (IntKind.i64.wrap (D - 1)) _ I) nm)<|be<|Rn (hN E hZ) fun Y O=>sN<|xx ?_))
 exact ct h (bB O bK) E
def e5 (F:Book) (D:Deal) (r:Unit⊕Bool) (q:oZ):Prop:=
  match r with
  | (.inl g)=>q.1 = .ret/\a3 q.2.1 4 = a4 2
  | (.inr g)=>q.1 = .nrm/\a3 q.2.1 0 = .pt none [a4 F.Day,.sl none (F.Cash.map (cI .i64)),.sl none (F.Tallies.map Tally.c)]/\a3 q.2.1 1 = .pt none [a4 D.Day,.int .i8 D.Kind,a4 D.Tally,a4 D.From,a4 D.To,a4 D.Amount]/\a3 q.2.1 55 = .bool g
def b9 (G:Book) (D:Deal) (F:Tally) (r:Unit⊕Unit) (q:oZ):Prop:=
  match r with
  | (.inl g)=>q.1 = .ret/\a3 q.2.1 4 = a4 4
  | (.inr g)=>q.1 = .nrm/\a3 q.2.1 0 = .pt none [a4 G.Day,.sl none (G.Cash.map (cI .i64)),.sl none (G.Tallies.map Tally.c)]/\a3 q.2.1 1 = .pt none [a4 D.Day,.int .i8 D.Kind,a4 D.Tally,a4 D.From,a4 D.To,a4 D.Amount]/\a3 q.2.1 6 = .pt none [a4 F.Debtor,a4 F.Holder,a4 F.Cut,a4 F.Amount,a4 F.Left]/\a3 q.2.1 136 = .bool (decide (D.Amount > F.Left))
def k2 (G:Book) (D:Deal) (F:Tally) (g:Bool) (q:oZ):Prop:=q.1 = .nrm/\a3 q.2.1 0 = .pt none [a4 G.Day,.sl none (G.Cash.map (cI .i64)),.sl none (G.Tallies.map Tally.c)]/\a3 q.2.1 1 = .pt none [a4 D.Day,.int .i8 D.Kind,a4 D.Tally,a4 D.From,a4 D.To,a4 D.Amount]/\a3 q.2.1 6 = .pt none [a4 F.Debtor,a4 F.Holder,a4 F.Cut,a4 F.Amount,a4 F.Left]/\a3 q.2.1 158 = .bool g
noncomputable def bt (G:Book) (D:Deal):Option Int:=
 if (decide (D.Day < G.Day))=true then
  some 4
 else
  (((d3 (G.Cash.length:Int) D.From).bind fun O=>
  if O=true then
   (d3 (G.Cash.length:Int) D.To).bind fun U=>
   if U=true then
    if (D.Kind != 1)=true then
     if (decide (D.Tally>=(G.Tallies.length:Int)))=true then
      some (.inl ())
     else
      some (.inr (decide (D.Tally>=(G.Tallies.length:Int))))
    else
     some (.inr false)
   else
    some (.inl ())
  else
   some (.inl ()):Option (Unit⊕Bool))).bind fun r=>match r with
  | (.inl _)=>
   some 2
  | (.inr ae)=>
   if (D.Kind==1)=true then
    if (D.From==D.To)=true then
     some 4
    else
     if ((G.Tallies.length:Int)==40)=true then
      some 3
     else
      some 0
   else
    (rd G.Tallies D.Tally).bind fun F=>
    ((if (D.Kind==2)=true then
     if (D.From==D.To)=true then
      some (.inl ())
     else
      if (D.Kind != 3)=true then
       if (D.From != F.Holder)=true then
        some (.inl ())
       else
        if (F.Left==0)=true then
         some (.inl ())
        else
         if (decide (D.Amount > F.Left))=true then
          some (.inl ())
         else
          some (.inr ())
      else
       if (F.Left==0)=true then
        some (.inl ())
       else
        if (decide (D.Amount > F.Left))=true then
         some (.inl ())
        else
         some (.inr ())
    else
     if (D.Kind != 3)=true then
      if (D.From != F.Holder)=true then
       some (.inl ())
      else
       if (F.Left==0)=true then
        some (.inl ())
       else
        if (decide (D.Amount > F.Left))=true then
         some (.inl ())
        else
         some (.inr ())
     else
      if (F.Left==0)=true then
       some (.inl ())
      else
       if (decide (D.Amount > F.Left))=true then
        some (.inl ())
       else
        some (.inr ()):Option (Unit⊕Unit))).bind fun r=>match r with
    | (.inl _)=>
     some 4
    | (.inr _)=>
     (if (D.Kind==3)=true then
      (rd G.Cash F.Debtor).bind fun I=>
      some (decide (I < D.Amount))
     else
      some false).bind fun J=>
     if J=true then
      some 8
     else
      if (D.Kind==3)=true then
       (rd G.Cash F.Holder).bind fun N=>
       if (decide ((IntKind.i64.wrap (N + D.Amount)) > 100000000))=true then
        some 3
       else
        some 0
      else
       some 0
def uY (r:Int):AV:=a4 r
theorem v2 (G:Book) (D:Deal) (r:Int) (h:bt G D=some r):Ev (fun k=>CN k 117 [.pt none [a4 G.Day,.sl none (G.Cash.map (cI .i64)),.sl none (G.Tallies.map Tally.c)],.pt none [a4 D.Day,.int .i8 D.Kind,a4 D.Tally,a4 D.From,a4 D.To,a4 D.Amount]] []) (fun p=>cp p.2 p.1=uY r):=by
 unfold bt at h
 refine Ev.enter (F:=fun k=>f117 (CN k) k) (fun k=>bH E Tryz.func117 E E E (by decide +kernel) (Kr _ _)) (av<|be<|Rn (hN E (hN E hZ)) fun db a3 cA=>sN<|av<|kx (bp a3)<|kx (fd E)<|kx (cW E ⟨ble E,blt E⟩ E)<|kx (cr E E)<|kx (i2 Tryz.underlying24 E)<|be<|Rn (hA a3 (hA cA (hN E hZ))) fun dc a5 a6 cB=>sN<|sq<|sq<|Rd<|kf (bp a6)<|kf (fd E)<|kf (cW E ⟨ble E,blt E⟩ E)<|kf (cr E E)<|kf (bp a5)<|kf (fd E)<|kf (cW E ⟨ble E,blt E⟩ E)<|kf (cr E E)<|kf (dp E E)<|fZ<|Rn (hA a5 (hA a6 (hA cB (hN E hZ)))) fun dv aq ap aQ aR=>sN ?_)
 rcases aj h with ⟨aD,h⟩ | ⟨aD,h⟩
 ·refine cT aR aD (av<|be<|Rn (hV (a4 4) E hZ) fun dw cd=>sN<|xx<|sR ?_)
  exact ct h (bB cd bK) E
 obtain ⟨aX,bo,h⟩:=ad h
 refine cF aR aD (xx<|sN<|sq ?_)
 refine Ev.cut (Q1:=e5 G D aX) (by
     have h:=bo
     obtain ⟨ce,a9,h⟩:=ad h
     refine sq (Rd<|kf (bp aQ)<|kf (bp ap)<|kf (fd E)<|kf (cW E ⟨ble E,blt E⟩ E)<|kf (cr E E)<|fc (cl (v:=.bool ce) E E (b3 E (b3 E E)) E (gG (G.Cash.length:Int) D.From _ a9) nm)<|kf (eZ E)<|kf (bp E) ?_)
     rcases aj h with ⟨ak,h⟩ | ⟨ak,h⟩
     ·obtain ⟨cf,ba,h⟩:=ad h
      refine kf (guF E (nt ak) (bp aQ)) (kf (guF E (nt ak) (bp ap))<|kf (guF E (nt ak) (fd E))<|kf (guF E (nt ak) (cW E ⟨ble E,blt E⟩ E))<|kf (guF E (nt ak) (cr E E))<|fc (Ev.guF E (nt ak) (cl (v:=.bool cf) E E (b3 E (b3 E E)) E (gG (G.Cash.length:Int) D.To _ ba) nm))<|kf (guF E (nt ak) (eZ E))<|kf (cU E (nt ak) E)<|kf (bp E) ?_)
      rcases aj h with ⟨ah,h⟩ | ⟨ah,h⟩
      ·refine kf (guF E (nt ah) (bp ap)) (kf (guF E (nt ah) (fd E))<|kf (guF E (nt ah) (cW E ⟨ble E,blt E⟩ E))<|kf (guF E (nt ah) (cr E E))<|kf (guF E (nt ah) (gD E E))<|kf (guF E (nt ah) (bp E)) ?_)
       rcases aj h with ⟨O,h⟩ | ⟨O,h⟩
       ·refine kf (guT E O (bp ap)) (kf (guT E O (fd E))<|kf (guT E O (cW E ⟨ble E,blt E⟩ E))<|kf (guT E O (cr E E))<|kf (guT E O (bp aq))<|kf (guT E O (fd E))<|kf (guT E O (cW E ⟨ble E,blt E⟩ E))<|kf (guT E O (cr E E))<|kf (guT E O (i2 Tryz.underlying25 E))<|kf (guT E O (q5 E E))<|kf (guF E (nt ah) (cC E O E))<|kf (cU E (nt ah) E)<|fZ<|Rn (hA aq (hA ap (hN E hZ))) fun dx cg ch aO=>sN ?_)
        rcases aj h with ⟨aE,h⟩ | ⟨aE,h⟩
        ·refine cT aO aE (av<|be<|Rn (hV (a4 2) E hZ) fun dy ci=>sN<|xx ?_)
         obtain rfl:=si h
         exact kd (show e5 G D _ _ from ⟨E,ci⟩)
        refine cF aO aE (xx ?_)
        obtain rfl:=si h
        exact kd (show e5 G D _ _ from ⟨E,cg,ch,aO⟩)
       refine kf (gsT E O) (kf (gsT E O)<|kf (gsT E O)<|kf (gsT E O)<|kf (gsT E O)<|kf (gsT E O)<|kf (gsT E O)<|kf (gsT E O)<|kf (gsT E O)<|kf (gsT E O)<|kf (guF E (nt ah) (cU E O E))<|kf (cU E (nt ah) E)<|fZ<|Rn (hA aq (hA ap (hV (.bool false) E hZ))) fun dz cj ck aS=>sN<|cF aS E<|xx ?_)
       obtain rfl:=si h
       exact kd (show e5 G D _ _ from ⟨E,cj,ck,aS⟩)
      refine kf (gsF E (nt ah)) (kf (gsF E (nt ah))<|kf (gsF E (nt ah))<|kf (gsF E (nt ah))<|kf (gsF E (nt ah))<|kf (gsF E (nt ah))<|kf (gsU E)<|kf (gsU E)<|kf (gsU E)<|kf (gsU E)<|kf (gsU E)<|kf (gsU E)<|kf (gsU E)<|kf (gsU E)<|kf (gsU E)<|kf (gsU E)<|kf (gsF E (nt ah))<|kf (cC E (nt ah) E)<|fZ<|Rn (hA aq (hA ap (hV (.bool true) E hZ))) fun dA dB dC cm=>sN<|cT cm E<|av<|be<|Rn (hV (a4 2) E hZ) fun dD cn=>sN<|xx ?_)
      obtain rfl:=si h
      exact kd (show e5 G D _ _ from ⟨E,cn⟩)
     refine kf (gsF E (nt ak)) (kf (gsF E (nt ak))<|kf (gsF E (nt ak))<|kf (gsF E (nt ak))<|kf (gsF E (nt ak))<|fc (Ev.gsF E (nt ak))<|kf (gsF E (nt ak))<|kf (cC E (nt ak) E)<|r3<|kf (gsF E E)<|kf (gsF E E)<|kf (gsF E E)<|kf (gsF E E)<|kf (gsF E E)<|kf (gsF E E)<|kf (gsU E)<|kf (gsU E)<|kf (gsU E)<|kf (gsU E)<|kf (gsU E)<|kf (gsU E)<|kf (gsU E)<|kf (gsU E)<|kf (gsU E)<|kf (gsU E)<|kf (gsF E E)<|kf (cC E E E)<|fZ<|Rn (hA aq (hA ap (hV (.bool true) E hZ))) fun dW dX dY co=>sN<|cT co E<|av<|be<|Rn (hV (a4 2) E hZ) fun dZ cq=>sN<|xx ?_)
     obtain rfl:=si h
     exact kd (show e5 G D _ _ from ⟨E,cq⟩)) ?_
 rcases aX with _ | ff
 ·intro x d0 d1 bb
  obtain ⟨rfl,cv⟩:=bb
  refine sR ?_
  exact ct h (bB cv bK) E
 intro x d2 d3 bq
 obtain ⟨rfl,cw,aT,d4⟩:=bq
 refine sN (sq<|av<|kx (bp aT)<|kx (fd E)<|kx (cW E ⟨ble E,blt E⟩ E)<|kx (cr E E)<|kx (d8 E E)<|Rn (hV (.pt none [a4 G.Day,.sl none (G.Cash.map (cI .i64)),.sl none (G.Tallies.map Tally.c)]) cw (hV (.pt none [a4 D.Day,.int .i8 D.Kind,a4 D.Tally,a4 D.From,a4 D.To,a4 D.Amount]) aT (hN E hZ))) fun d5 aP ar aU=>sN ?_)
 rcases aj h with ⟨aF,h⟩ | ⟨aF,h⟩
 ·refine cT aU aF (sq<|sq<|Rd<|kf (bp ar)<|kf (fd E)<|kf (cW E ⟨ble E,blt E⟩ E)<|kf (cr E E)<|kf (bp ar)<|kf (fd E)<|kf (cW E ⟨ble E,blt E⟩ E)<|kf (cr E E)<|kf (d8 E E)<|fZ<|Rn (hA aP (hN E hZ)) fun d6 cx aV=>sN ?_)
  rcases aj h with ⟨aG,h⟩ | ⟨aG,h⟩
  ·refine cT aV aG (av<|be<|Rn (hV (a4 4) E hZ) fun d7 cy=>sN<|xx<|sR<|sR ?_)
   exact ct h (bB cy bK) E
  refine cF aV aG (xx<|sN<|sq<|av<|kx (bp cx)<|kx (fd E)<|kx (cW E ⟨ble E,blt E⟩ E)<|kx (cr E E)<|kx (i2 Tryz.underlying25 E)<|kx (d8 E E)<|Rn (hN E hZ) fun d9 aW=>sN ?_)
  rcases aj h with ⟨aH,h⟩ | ⟨aH,h⟩
  ·refine cT aW aH (av<|be<|Rn (hV (a4 3) E hZ) fun ea cz=>sN<|xx<|sR<|sR ?_)
   exact ct h (bB cz bK) E
  refine cF aW aH (xx<|sN<|av<|be<|Rn (hV (a4 0) E hZ) fun eb b8=>sN<|xx<|sR ?_)
  exact ct h (bB b8 bK) E
 obtain ⟨N,bc,h⟩:=ad h
 obtain ⟨aY,br,h⟩:=ad h
 refine cF aU aF (xx<|sN<|sq<|Rd<|kf (bp aP)<|kf (fd E)<|kf (cW E ⟨ble E,blt E⟩ E)<|kf (cr E E)<|kf (bp ar)<|kf (fd E)<|kf (cW E ⟨ble E,blt E⟩ E)<|kf (cr E E)<|kf (kJ E E bc Tally.fl)<|r3<|fZ<|Rn (hA aP (hA ar (hN E hZ))) fun dV ao U af=>sN<|sq ?_)
 refine Ev.cut (Q1:=b9 G D N aY) (by
     have h:=br
     refine sq (Rd<|kf (bp U)<|kf (fd E)<|kf (cW E ⟨ble E,blt E⟩ E)<|kf (cr E E)<|kf (d8 E E)<|kf (bp E) ?_)
     rcases aj h with ⟨ae,h⟩ | ⟨ae,h⟩
     ·refine kf (guT E ae (bp U)) (kf (guT E ae (fd E))<|kf (guT E ae (cW E ⟨ble E,blt E⟩ E))<|kf (guT E ae (cr E E))<|kf (guT E ae (bp U))<|kf (guT E ae (fd E))<|kf (guT E ae (cW E ⟨ble E,blt E⟩ E))<|kf (guT E ae (cr E E))<|kf (guT E ae (d8 E E))<|kf (cC E ae E)<|kf (bp E) ?_)
      rcases aj h with ⟨ai,h⟩ | ⟨ai,h⟩
      ·refine kf (gsF E ai) (kf (gsF E ai)<|kf (gsF E ai)<|kf (gsF E ai)<|kf (gsF E ai)<|kf (gsF E ai)<|kf (gsU E)<|kf (gsU E)<|kf (gsU E)<|kf (gsU E)<|kf (gsU E)<|kf (gsU E)<|kf (gsU E)<|kf (gsU E)<|kf (gsU E)<|kf (gsF E ai)<|kf (cC E ai E)<|r3<|kf (gsF E E)<|kf (gsF E E)<|kf (gsF E E)<|kf (gsF E E)<|kf (gsF E E)<|kf (cC E E E)<|r3<|kf (gsF E E)<|kf (gsF E E)<|kf (gsF E E)<|kf (gsF E E)<|kf (gsF E E)<|kf (gsF E E)<|kf (gsF E E)<|kf (gsF E E)<|kf (gsF E E)<|kf (cC E E E)<|fZ<|Rn (hA ao (hA U (hA af (hV (.bool true) E hZ)))) fun cK cL cM cN bd=>sN<|cT bd E<|av<|be<|Rn (hV (a4 4) E hZ) fun cO bf=>sN<|xx ?_)
       obtain rfl:=si h
       exact kd (show b9 G D N _ _ from ⟨E,bf⟩)
      refine kf (guF E ai (bp U)) (kf (guF E ai (fd E))<|kf (guF E ai (cW E ⟨ble E,blt E⟩ E))<|kf (guF E ai (cr E E))<|kf (guF E ai (gD E E))<|kf (guF E ai (bp E)) ?_)
      rcases aj h with ⟨X,h⟩ | ⟨X,h⟩
      ·refine kf (guT E X (bp U)) (kf (guT E X (fd E))<|kf (guT E X (cW E ⟨ble E,blt E⟩ E))<|kf (guT E X (cr E E))<|kf (guT E X (bp af))<|kf (guT E X (fd E))<|kf (guT E X (cW E ⟨ble E,blt E⟩ E))<|kf (guT E X (cr E E))<|kf (guT E X (gD E E))<|kf (guF E ai (cC E X E))<|kf (cU E ai E)<|kf (bp E) ?_)
       rcases aj h with ⟨am,h⟩ | ⟨am,h⟩
       ·refine kf (gsF E am) (kf (gsF E am)<|kf (gsF E am)<|kf (gsF E am)<|kf (gsF E am)<|kf (cC E am E)<|r3<|kf (gsF E E)<|kf (gsF E E)<|kf (gsF E E)<|kf (gsF E E)<|kf (gsF E E)<|kf (gsF E E)<|kf (gsF E E)<|kf (gsF E E)<|kf (gsF E E)<|kf (cC E E E)<|fZ<|Rn (hA ao (hA U (hA af (hV (.bool true) E hZ)))) fun cP cQ cR cS bg=>sN<|cT bg E<|av<|be<|Rn (hV (a4 4) E hZ) fun cV bh=>sN<|xx ?_)
        obtain rfl:=si h
        exact kd (show b9 G D N _ _ from ⟨E,bh⟩)
       refine kf (guF E am (bp af)) (kf (guF E am (fd E))<|kf (guF E am (cW E ⟨ble E,blt E⟩ E))<|kf (guF E am (cr E E))<|kf (guF E am (d8 E E))<|kf (cU E am E)<|kf (bp E) ?_)
       rcases aj h with ⟨Y,h⟩ | ⟨Y,h⟩
       ·refine kf (gsF E Y) (kf (gsF E Y)<|kf (gsF E Y)<|kf (gsF E Y)<|kf (gsF E Y)<|kf (gsF E Y)<|kf (gsF E Y)<|kf (gsF E Y)<|kf (gsF E Y)<|kf (cC E Y E)<|fZ<|Rn (hA ao (hA U (hA af (hV (.bool true) E hZ)))) fun cX cY cZ c0 bi=>sN<|cT bi E<|av<|be<|Rn (hV (a4 4) E hZ) fun c1 bj=>sN<|xx ?_)
        obtain rfl:=si h
        exact kd (show b9 G D N _ _ from ⟨E,bj⟩)
       refine kf (guF E Y (bp U)) (kf (guF E Y (fd E))<|kf (guF E Y (cW E ⟨ble E,blt E⟩ E))<|kf (guF E Y (cr E E))<|kf (guF E Y (bp af))<|kf (guF E Y (fd E))<|kf (guF E Y (cW E ⟨ble E,blt E⟩ E))<|kf (guF E Y (cr E E))<|kf (guF E Y (fB E E))<|kf (cU E Y E)<|fZ<|Rn (hA ao (hA U (hA af (hN E hZ)))) fun c2 bk bl bm aI=>sN ?_)
       rcases aj h with ⟨aw,h⟩ | ⟨aw,h⟩
       ·refine cT aI aw (av<|be<|Rn (hV (a4 4) E hZ) fun c3 bn=>sN<|xx ?_)
        obtain rfl:=si h
        exact kd (show b9 G D N _ _ from ⟨E,bn⟩)
       refine cF aI aw (xx ?_)
       obtain rfl:=si h
       exact kd (show b9 G D N _ _ from ⟨E,bk,bl,bm,aI⟩)
      refine kf (gsT E X) (kf (gsT E X)<|kf (gsT E X)<|kf (gsT E X)<|kf (gsT E X)<|kf (gsT E X)<|kf (gsT E X)<|kf (gsT E X)<|kf (gsT E X)<|kf (guF E ai (cU E X E))<|kf (cU E ai E)<|r3<|kf (guF E E (bp af))<|kf (guF E E (fd E))<|kf (guF E E (cW E ⟨ble E,blt E⟩ E))<|kf (guF E E (cr E E))<|kf (guF E E (d8 E E))<|kf (cU E E E)<|kf (bp E) ?_)
      rcases aj h with ⟨Z,h⟩ | ⟨Z,h⟩
      ·refine kf (gsF E Z) (kf (gsF E Z)<|kf (gsF E Z)<|kf (gsF E Z)<|kf (gsF E Z)<|kf (gsF E Z)<|kf (gsF E Z)<|kf (gsF E Z)<|kf (gsF E Z)<|kf (cC E Z E)<|fZ<|Rn (hA ao (hA U (hA af (hV (.bool true) E hZ)))) fun c4 c5 c6 c7 a7=>sN<|cT a7 E<|av<|be<|Rn (hV (a4 4) E hZ) fun c8 a8=>sN<|xx ?_)
       obtain rfl:=si h
       exact kd (show b9 G D N _ _ from ⟨E,a8⟩)
      refine kf (guF E Z (bp U)) (kf (guF E Z (fd E))<|kf (guF E Z (cW E ⟨ble E,blt E⟩ E))<|kf (guF E Z (cr E E))<|kf (guF E Z (bp af))<|kf (guF E Z (fd E))<|kf (guF E Z (cW E ⟨ble E,blt E⟩ E))<|kf (guF E Z (cr E E))<|kf (guF E Z (fB E E))<|kf (cU E Z E)<|fZ<|Rn (hA ao (hA U (hA af (hN E hZ)))) fun c9 bU bV bW aJ=>sN ?_)
      rcases aj h with ⟨ax,h⟩ | ⟨ax,h⟩
      ·refine cT aJ ax (av<|be<|Rn (hV (a4 4) E hZ) fun da bX=>sN<|xx ?_)
       obtain rfl:=si h
       exact kd (show b9 G D N _ _ from ⟨E,bX⟩)
      refine cF aJ ax (xx ?_)
      obtain rfl:=si h
      exact kd (show b9 G D N _ _ from ⟨E,bU,bV,bW,aJ⟩)
     refine kf (gsT E ae) (kf (gsT E ae)<|kf (gsT E ae)<|kf (gsT E ae)<|kf (gsT E ae)<|kf (gsT E ae)<|kf (gsT E ae)<|kf (gsT E ae)<|kf (gsT E ae)<|kf (cU E ae E)<|r3<|kf (guF E E (bp U))<|kf (guF E E (fd E))<|kf (guF E E (cW E ⟨ble E,blt E⟩ E))<|kf (guF E E (cr E E))<|kf (guF E E (gD E E))<|kf (guF E E (bp E)) ?_)
     rcases aj h with ⟨aa,h⟩ | ⟨aa,h⟩
     ·refine kf (guT E aa (bp U)) (kf (guT E aa (fd E))<|kf (guT E aa (cW E ⟨ble E,blt E⟩ E))<|kf (guT E aa (cr E E))<|kf (guT E aa (bp af))<|kf (guT E aa (fd E))<|kf (guT E aa (cW E ⟨ble E,blt E⟩ E))<|kf (guT E aa (cr E E))<|kf (guT E aa (gD E E))<|kf (guF E E (cC E aa E))<|kf (cU E E E)<|kf (bp E) ?_)
      rcases aj h with ⟨an,h⟩ | ⟨an,h⟩
      ·refine kf (gsF E an) (kf (gsF E an)<|kf (gsF E an)<|kf (gsF E an)<|kf (gsF E an)<|kf (cC E an E)<|r3<|kf (gsF E E)<|kf (gsF E E)<|kf (gsF E E)<|kf (gsF E E)<|kf (gsF E E)<|kf (gsF E E)<|kf (gsF E E)<|kf (gsF E E)<|kf (gsF E E)<|kf (cC E E E)<|fZ<|Rn (hA ao (hA U (hA af (hV (.bool true) E hZ)))) fun cD cE cG cH bY=>sN<|cT bY E<|av<|be<|Rn (hV (a4 4) E hZ) fun cJ bZ=>sN<|xx ?_)
       obtain rfl:=si h
       exact kd (show b9 G D N _ _ from ⟨E,bZ⟩)
      refine kf (guF E an (bp af)) (kf (guF E an (fd E))<|kf (guF E an (cW E ⟨ble E,blt E⟩ E))<|kf (guF E an (cr E E))<|kf (guF E an (d8 E E))<|kf (cU E an E)<|kf (bp E) ?_)
      rcases aj h with ⟨ab,h⟩ | ⟨ab,h⟩
      ·refine kf (gsF E ab) (kf (gsF E ab)<|kf (gsF E ab)<|kf (gsF E ab)<|kf (gsF E ab)<|kf (gsF E ab)<|kf (gsF E ab)<|kf (gsF E ab)<|kf (gsF E ab)<|kf (cC E ab E)<|fZ<|Rn (hA ao (hA U (hA af (hV (.bool true) E hZ)))) fun dE dF dG dH b0=>sN<|cT b0 E<|av<|be<|Rn (hV (a4 4) E hZ) fun dI b1=>sN<|xx ?_)
       obtain rfl:=si h
       exact kd (show b9 G D N _ _ from ⟨E,b1⟩)
      refine kf (guF E ab (bp U)) (kf (guF E ab (fd E))<|kf (guF E ab (cW E ⟨ble E,blt E⟩ E))<|kf (guF E ab (cr E E))<|kf (guF E ab (bp af))<|kf (guF E ab (fd E))<|kf (guF E ab (cW E ⟨ble E,blt E⟩ E))<|kf (guF E ab (cr E E))<|kf (guF E ab (fB E E))<|kf (cU E ab E)<|fZ<|Rn (hA ao (hA U (hA af (hN E hZ)))) fun dJ b2 b4 b5 aK=>sN ?_)
      rcases aj h with ⟨ay,h⟩ | ⟨ay,h⟩
      ·refine cT aK ay (av<|be<|Rn (hV (a4 4) E hZ) fun dK b6=>sN<|xx ?_)
       obtain rfl:=si h
       exact kd (show b9 G D N _ _ from ⟨E,b6⟩)
      refine cF aK ay (xx ?_)
      obtain rfl:=si h
      exact kd (show b9 G D N _ _ from ⟨E,b2,b4,b5,aK⟩)
     refine kf (gsT E aa) (kf (gsT E aa)<|kf (gsT E aa)<|kf (gsT E aa)<|kf (gsT E aa)<|kf (gsT E aa)<|kf (gsT E aa)<|kf (gsT E aa)<|kf (gsT E aa)<|kf (guF E E (cU E aa E))<|kf (cU E E E)<|r3<|kf (guF E E (bp af))<|kf (guF E E (fd E))<|kf (guF E E (cW E ⟨ble E,blt E⟩ E))<|kf (guF E E (cr E E))<|kf (guF E E (d8 E E))<|kf (cU E E E)<|kf (bp E) ?_)
     rcases aj h with ⟨ac,h⟩ | ⟨ac,h⟩
     ·refine kf (gsF E ac) (kf (gsF E ac)<|kf (gsF E ac)<|kf (gsF E ac)<|kf (gsF E ac)<|kf (gsF E ac)<|kf (gsF E ac)<|kf (gsF E ac)<|kf (gsF E ac)<|kf (cC E ac E)<|fZ<|Rn (hA ao (hA U (hA af (hV (.bool true) E hZ)))) fun dL dM dN dO b7=>sN<|cT b7 E<|av<|be<|Rn (hV (a4 4) E hZ) fun dP bz=>sN<|xx ?_)
      obtain rfl:=si h
      exact kd (show b9 G D N _ _ from ⟨E,bz⟩)
     refine kf (guF E ac (bp U)) (kf (guF E ac (fd E))<|kf (guF E ac (cW E ⟨ble E,blt E⟩ E))<|kf (guF E ac (cr E E))<|kf (guF E ac (bp af))<|kf (guF E ac (fd E))<|kf (guF E ac (cW E ⟨ble E,blt E⟩ E))<|kf (guF E ac (cr E E))<|kf (guF E ac (fB E E))<|kf (cU E ac E)<|fZ<|Rn (hA ao (hA U (hA af (hN E hZ)))) fun dQ bA bC bD aL=>sN ?_)
     rcases aj h with ⟨az,h⟩ | ⟨az,h⟩
     ·refine cT aL az (av<|be<|Rn (hV (a4 4) E hZ) fun dR bE=>sN<|xx ?_)
      obtain rfl:=si h
      exact kd (show b9 G D N _ _ from ⟨E,bE⟩)
     refine cF aL az (xx ?_)
     obtain rfl:=si h
     exact kd (show b9 G D N _ _ from ⟨E,bA,bC,bD,aL⟩)) ?_
 rcases aY with _ | _
 ·intro x dS dT bs
  obtain ⟨rfl,bF⟩:=bs
  refine sR ?_
  exact ct h (bB bF bK) E
 intro x dU dd bu
 obtain ⟨rfl,aM,au,aN,df⟩:=bu
 obtain ⟨aZ,aA,h⟩:=ad h
 refine sN (sq<|sq ?_)
 refine Ev.cut (Q1:=k2 G D N aZ) (by
     have h:=aA
     refine Rd (kf (bp au)<|kf (fd E)<|kf (cW E ⟨ble E,blt E⟩ E)<|kf (cr E E)<|kf (d8 E E)<|kf (bp E) ?_)
     rcases aj h with ⟨J,h⟩ | ⟨J,h⟩
     ·obtain ⟨dg,bv,h⟩:=ad h
      refine kf (guT E J (bp aM)) (kf (guT E J (fd E))<|kf (guT E J (cW E ⟨ble E,blt E⟩ E))<|kf (guT E J (cr E E))<|kf (guT E J (bp aN))<|kf (guT E J (fd E))<|kf (guT E J (cW E ⟨ble E,blt E⟩ E))<|kf (guT E J (cr E E))<|kf (guT E J (kJ E E bv (de _)))<|kf (guT E J (cr E E))<|kf (guT E J (bp au))<|kf (guT E J (fd E))<|kf (guT E J (cW E ⟨ble E,blt E⟩ E))<|kf (guT E J (cr E E))<|kf (guT E J (dp E E))<|kf (cC E J E)<|fZ<|Rn (hV (.pt none [a4 G.Day,.sl none (G.Cash.map (cI .i64)),.sl none (G.Tallies.map Tally.c)]) aM (hV (.pt none [a4 D.Day,.int .i8 D.Kind,a4 D.Tally,a4 D.From,a4 D.To,a4 D.Amount]) au (hV (.pt none [a4 N.Debtor,a4 N.Holder,a4 N.Cut,a4 N.Amount,a4 N.Left]) aN (hN E hZ)))) fun dh bG bI bJ bL=>?_)
      obtain rfl:=si h
      exact kd (show k2 G D N _ _ from ⟨E,bG,bI,bJ,bL⟩)
     refine kf (gsT E J) (kf (gsT E J)<|kf (gsT E J)<|kf (gsT E J)<|kf (gsT E J)<|kf (gsT E J)<|kf (gsT E J)<|kf (gsT E J)<|kf (gsT E J)<|kf (gsT E J)<|kf (gsT E J)<|kf (gsT E J)<|kf (gsT E J)<|kf (gsT E J)<|kf (gsT E J)<|kf (cU E J E)<|fZ<|Rn (hV (.pt none [a4 G.Day,.sl none (G.Cash.map (cI .i64)),.sl none (G.Tallies.map Tally.c)]) aM (hV (.pt none [a4 D.Day,.int .i8 D.Kind,a4 D.Tally,a4 D.From,a4 D.To,a4 D.Amount]) au (hV (.pt none [a4 N.Debtor,a4 N.Holder,a4 N.Cut,a4 N.Amount,a4 N.Left]) aN (hV (.bool false) E hZ)))) fun di bM bN bO bP=>?_)
     obtain rfl:=si h
     exact kd (show k2 G D N _ _ from ⟨E,bM,bN,bO,bP⟩)) ?_
 revert h aA
 revert aZ
 intro dj aA h
 intro x dk dl bw
 obtain ⟨rfl,bQ,a0,bR,a1⟩:=bw
 refine sN ?_
 rcases aj h with ⟨aB,h⟩ | ⟨aB,h⟩
 ·refine cT a1 aB (av<|be<|Rn (hV (a4 8) E hZ) fun dm bS=>sN<|xx<|sR ?_)
  exact ct h (bB bS bK) E
 refine cF a1 aB (xx<|sN<|sq<|sq<|Rd<|kf (bp a0)<|kf (fd E)<|kf (cW E ⟨ble E,blt E⟩ E)<|kf (cr E E)<|kf (d8 E E)<|kf (bp E) ?_)
 rcases aj h with ⟨I,h⟩ | ⟨I,h⟩
 ·obtain ⟨dn,bx,h⟩:=ad h
  refine kf (guT E I (bp bQ)) (kf (guT E I (fd E))<|kf (guT E I (cW E ⟨ble E,blt E⟩ E))<|kf (guT E I (cr E E))<|kf (guT E I (bp bR))<|kf (guT E I (fd E))<|kf (guT E I (cW E ⟨ble E,blt E⟩ E))<|kf (guT E I (cr E E))<|kf (guT E I (kJ E E bx (de _)))<|kf (guT E I (cr E E))<|kf (guT E I (bp a0))<|kf (guT E I (fd E))<|kf (guT E I (cW E ⟨ble E,blt E⟩ E))<|kf (guT E I (cr E E))<|kf (guT E I (cu E E))<|kf (guT E I (fB E E))<|kf (cC E I E)<|fZ<|Rn (hN E hZ) fun dq a2=>sN ?_)
  rcases aj h with ⟨aC,h⟩ | ⟨aC,h⟩
  ·refine cT a2 aC (av<|be<|Rn (hV (a4 3) E hZ) fun dr bT=>sN<|xx<|sR ?_)
   exact ct h (bB bT bK) E
  refine cF a2 aC (xx<|sN<|av<|be<|Rn (hV (a4 0) E hZ) fun ds ca=>sN<|xx ?_)
  exact ct h (bB ca bK) E
 refine kf (gsT E I) (kf (gsT E I)<|kf (gsT E I)<|kf (gsT E I)<|kf (gsT E I)<|kf (gsT E I)<|kf (gsT E I)<|kf (gsT E I)<|kf (gsT E I)<|kf (gsT E I)<|kf (gsT E I)<|kf (gsT E I)<|kf (gsT E I)<|kf (gsT E I)<|kf (gsT E I)<|kf (gsT E I)<|kf (cU E I E)<|fZ<|Rn (hV (.bool false) E hZ) fun dt cb=>sN<|cF cb E<|xx<|sN<|av<|be<|Rn (hV (a4 0) E hZ) fun du cc=>sN<|xx ?_)
 exact ct h (bB cc bK) E
noncomputable def jH (D:Int) (F:Int):Option Int:=
 if (decide (D > F))=true then
  some D
 else
  some F
def yT (r:Int):AV:=a4 r
theorem zr (G:Int) (I:Int) (r:Int) (h:jH G I=some r):Ev (fun k=>CN k 116 [a4 G,a4 I] []) (fun p=>cp p.2 p.1=yT r):=by
 unfold jH at h
 refine Ev.enter (F:=fun k=>f116 (CN k) k) (fun k=>bH E Tryz.func116 E E E (by decide +kernel) (KH _ _)) (av<|be<|Rn (hN E (hN E hZ)) fun ac J N=>sN<|sq<|av<|kx (bp J)<|kx (bp N)<|kx (fB E E)<|Rn (hA J (hA N (hN E hZ))) fun ad Y Z O=>sN ?_)
 rcases aj h with ⟨D,h⟩ | ⟨D,h⟩
 ·refine cT O D (av<|kx (bp Y)<|be<|Rn (hN E hZ) fun aa U=>sN<|xx<|sR ?_)
  exact ct h (bB U bK) E
 refine cF O D (xx<|sN<|av<|kx (bp Z)<|be<|Rn (hN E hZ) fun ab X=>sN<|xx ?_)
 exact ct h (bB X bK) E
noncomputable def lb (D:Int):Option Bool:=
 (dm D 0 100000000).bind fun F=>
 some F
def v6 (r:Bool):AV:=.bool r
theorem wU (D:Int) (r:Bool) (h:lb D=some r):Ev (fun k=>CN k 113 [a4 D] []) (fun p=>cp p.2 p.1=v6 r):=by
 unfold lb at h
 obtain ⟨N,G,h⟩:=ad h
 refine Ev.enter (F:=fun k=>f113 (CN k) k) (fun k=>bH E Tryz.func113 E E E (by decide +kernel) (K3 _ _)) (av<|be<|Rn (hN E hZ) fun O I=>sN<|av<|kx (bp I) (kc (cl (v:=.bool N) E E (b3 E (b3 E (b3 E E))) E (dn D 0 100000000 _ G) nm)<|be<|Rn (hN E hZ) fun U J=>sN<|xx ?_))
 exact ct h (bB J bK) E
noncomputable def jw:Option ((List Int)):=
 some [1,12,240,4800,24000,240000]
def vp (r:(List Int)):AV:=.sl (some 2) (r.map (cI .i64))
theorem qz (r:(List Int)) (h:jw=some r):Ev (fun k=>CN k 112 [] []) (fun p=>cp p.2 p.1=vp r):=by
 unfold jw at h
 refine Ev.enter (F:=fun k=>f112 (CN k) k) (fun k=>bH E Tryz.func112 E E E (by decide +kernel) (JX _ _)) (av<|be<|Rn hZ fun G=>sN<|av<|kx (kh (b3 E (b3 E (b3 E (b3 E (b3 E (b3 E E)))))) E ⟨E,by decide⟩)<|be<|Rn (hN E hZ) fun I D=>sN<|xx ?_)
 exact ct h (bB D bK) E
def iN (I:List Notch) (G:Int) (F:Notch) (D:Nat) (g:Bool) (q:oZ):Prop:=q.1 = .nrm/\a3 q.2.1 0 = .sl none (I.map Notch.c)/\a3 q.2.1 3 = a4 G/\a3 q.2.1 4 = .loc D 1 0 0/\a3 q.2.1 32 = .bool g/\q.2.2[D]? = some (.live ⟨.box,109,2,[[.int .i8 F.Kind,.int .i16 F.At]]⟩)
abbrev gx:=Int
abbrev k3:=Unit⊕Unit
def nS (D:List Notch) (s:gx) (e:b4) (M:bs):Prop:=a3 e 0 = .sl none (D.map Notch.c)/\a3 e 3 = a4 s
def tc (D:List Notch) (r:k3) (x:Ex) (e:b4) (M:bs):Prop:=
  match r with
  | (.inl g)=>x = .ret/\a3 e 2 = .bool false
  | (.inr g)=>x = .ext 0/\True
noncomputable def cg (G:List Notch):gx->Option (gx⊕k3):=fun D=>
 if (decide (D < (G.length:Int)))=true then
  (rd G D).bind fun F=>
  ((m9 (IntKind.i64.wrap F.Kind)).bind fun I=>
  if I=true then
   if (decide (F.At < 0))=true then
    some true
   else
    (lj F).bind fun J=>
    some (decide (J > 200))
  else
   some true).bind fun N=>
  if N=true then
   some (.inr (.inl ()))
  else
   if (decide (D > 0))=true then
    (rd G (IntKind.i64.wrap (D - 1))).bind fun O=>
    if (decide (F.Kind > O.Kind))=true then
     some (.inr (.inl ()))
    else
     (rd G (IntKind.i64.wrap (D - 1))).bind fun U=>
     (lj U).bind fun X=>
     if (decide ((IntKind.i64.wrap F.At)<=X))=true then
      some (.inr (.inl ()))
     else
      some (.inl (IntKind.i64.wrap (D + 1)))
   else
    some (.inl (IntKind.i64.wrap (D + 1)))
 else
  some (.inr (.inr ()))
theorem n5 (G:List Notch) (s:gx) (r:gx⊕k3) (h:cg G s=some r) (e:b4) (M:bs) (ak:nS G s e M):Ev (fun k=>(ES (CN k) k (prune [0,3] e) M).bind fun q=>some q) (bQ (nS G) (tc G) r):=by
 revert h ak
 revert s
 intro N h ak
 unfold cg at h
 obtain ⟨a7,a8⟩:=ak
 generalize ay:prune [0,3] e=bX
 have an:=bZ ay.symm E a7
 have ao:=bZ ay.symm E a8
 refine sq (av<|kx (bp ao)<|kx (bp an)<|kx (i2 Tryz.underlying46 E)<|kx (dp E E)<|Rn (hV (.sl none (G.map Notch.c)) an (hV (a4 N) ao (hN E hZ))) fun bt ap aq ar=>sN ?_)
 rcases aj h with ⟨af,h⟩ | ⟨af,h⟩
 ·obtain ⟨O,aC,h⟩:=ad h
  refine cT ar af (xx<|sN<|sq<|bl<|av<|kx (bp ap)<|kx (bp aq)<|kx (kJ E E aC Notch.fl)<|kx (eE E E E) (ku (lG y6) fun a9 aD=>?_))
  have au:a9[M.length]? = some (.live ⟨.box,109,2,[[.int .i8 0,.int .i16 0]]⟩):=b2 aD
  refine kw (dW E E au E E ⟨E,ble E⟩ E E) fun ba aE=>?_
  have U:ba[M.length]? = some (.live ⟨.box,109,2,[[.int .i8 O.Kind,.int .i16 O.At]]⟩):=bc aE au
  obtain ⟨az,ac,h⟩:=ad h
  refine Rn (hA ap (hA aq (hV (.loc M.length 1 0 0) E hZ))) fun bu ai ab X=>sN (sq<|sq ?_)
  refine Ev.cut (Q1:=iN G N O M.length az) (by
      have h:=ac
      obtain ⟨bb,aF,h⟩:=ad h
      refine Rg (kx (dQ X U E)<|kx (e8 E U E E E)<|kx (A0 E) (kc (cl (v:=.bool bb) E E (b3 E E) E (yx (IntKind.i64.wrap O.Kind) _ aF) nm)<|kx (eZ E)<|kx (bp E) ?_))
      rcases aj h with ⟨I,h⟩ | ⟨I,h⟩
      ·refine kx (guF E (nt I) (dQ X U E)) (kx (guF E (nt I) (e8 E U E E E))<|kx (guF E (nt I) (dp E E))<|kx (cU E (nt I) E)<|kx (bp E) ?_)
       rcases aj h with ⟨J,h⟩ | ⟨J,h⟩
       ·refine kx (gsF E J) (kc (Ev.gsF E J)<|kx (gsF E J)<|kx (cC E J E)<|Rn (hA ai (hA ab (hA X (hV (.bool true) E hZ)))) fun bj bd bf bg bh=>?_)
        obtain rfl:=si h
        exact kd (show iN G N O M.length _ _ from ⟨E,bd,bf,bg,bh,U⟩)
       obtain ⟨bi,aG,h⟩:=ad h
       refine kx (guF E J (cm X U E E (ble E) E)) (kc (Ev.guF E J (cl (v:=a4 bi) E E (b3 E E) E (s4 O _ aG) nm))<|kx (guF E J (fB E E))<|kx (cU E J E)<|Rn (hA ai (hA ab (hA X (hN E hZ)))) fun bk aN aO aP aQ=>?_)
       obtain rfl:=si h
       exact kd (show iN G N O M.length _ _ from ⟨E,aN,aO,aP,aQ,U⟩)
      refine kx (gsF E (nt I)) (kx (gsF E (nt I))<|kx (gsF E (nt I))<|kx (cC E (nt I) E)<|be<|kx (gsF E E) (kc (Ev.gsF E E)<|kx (gsF E E)<|kx (cC E E E)<|Rn (hA ai (hA ab (hA X (hV (.bool true) E hZ)))) fun bv aR aS aT aU=>?_))
      obtain rfl:=si h
      exact kd (show iN G N O M.length _ _ from ⟨E,aR,aS,aT,aU,U⟩)) ?_
  revert h ac
  revert az
  intro bw ac h
  intro x bx bz aB
  obtain ⟨rfl,Z,Y,aw,ax,aa⟩:=aB
  refine sN ?_
  rcases aj h with ⟨ah,h⟩ | ⟨ah,h⟩
  ·refine cT ax ah (av<|be<|Rn (hV (.bool false) E hZ) fun bA aV=>sN<|xx<|sR<|bR<|sR ?_)
   exact lr h ⟨E,aV⟩
  refine cF ax ah (xx<|sN<|sq<|Rd<|kf (bp Y)<|kf (fB E E)<|kf (bp E) ?_)
  rcases aj h with ⟨D,h⟩ | ⟨D,h⟩
  ·obtain ⟨bB,aH,h⟩:=ad h
   refine kf (guT E D (dQ aw aa E)) (kf (guT E D (e8 E aa E E E))<|kf (guT E D (bp Z))<|kf (guT E D (bp Y))<|kf (guT E D (lD E E))<|kf (guT E D (kJ E E aH Notch.fl))<|kf (guT E D (cW E ⟨ble E,blt E⟩ E))<|kf (guT E D (cr E E))<|kf (guT E D (fB E E))<|kf (guT E D (bp E)) ?_)
   rcases aj h with ⟨F,h⟩ | ⟨F,h⟩
   ·refine kf (gsF E F) (kf (gsF E F)<|kf (gsF E F)<|kf (gsF E F)<|kf (gsF E F)<|kf (gsF E F)<|kf (gsF E F)<|kf (gsF E F)<|fc (Ev.gsF E F)<|kf (gsF E F)<|kf (guT E D (cC E F E))<|kf (cC E D E)<|fZ<|Rn (hV (.sl none (G.map Notch.c)) Z (hV (a4 N) Y (hV (.bool true) E hZ))) fun bC bD bE aW=>sN<|cT aW E<|av<|be<|Rn (hV (.bool false) E hZ) fun bF aX=>sN<|xx<|bR<|sR ?_)
    exact lr h ⟨E,aX⟩
   obtain ⟨aY,aI,h⟩:=ad h
   obtain ⟨aZ,aJ,h⟩:=ad h
   refine kf (guF E F (dQ aw aa E)) (kf (guF E F (e8 E aa E E E))<|kf (guF E F (A0 E))<|kf (guF E F (bp Z))<|kf (guF E F (bp Y))<|kf (guF E F (lD E E))<|kf (guF E F (kJ E E aI Notch.fl))<|kf (guF E F (eE E E E))<|fc (Ev.guF E F (cl (v:=a4 aZ) E E (b3 E E) E (s4 aY _ aJ) nm))<|kf (guF E F (yb E E))<|kf (guT E D (cU E F E))<|kf (cC E D E)<|fZ<|Rn (hV (.sl none (G.map Notch.c)) Z (hV (a4 N) Y (hN E hZ))) fun bm aK aL am=>sN ?_)
   rcases aj h with ⟨ae,h⟩ | ⟨ae,h⟩
   ·refine cT am ae (av<|be<|Rn (hV (.bool false) E hZ) fun bn aM=>sN<|xx<|bR<|sR ?_)
    exact lr h ⟨E,aM⟩
   refine cF am ae (xx<|bN<|sN<|Rg<|kx (bp aL)<|kx (cu E E)<|be<|Rn (hA aK (hN E hZ)) fun bo aA a0=>?_)
   exact jd h ⟨aA,a0⟩
  refine kf (gsT E D) (kf (gsT E D)<|kf (gsT E D)<|kf (gsT E D)<|kf (gsT E D)<|kf (gsT E D)<|kf (gsT E D)<|kf (gsT E D)<|kf (gsT E D)<|kf (gsT E D)<|kf (gsU E)<|kf (gsU E)<|kf (gsU E)<|kf (gsU E)<|kf (gsU E)<|kf (gsU E)<|kf (gsU E)<|kf (gsU E)<|fc (Ev.gsU E)<|kf (gsU E)<|kf (gsT E D)<|kf (cU E D E)<|fZ<|Rn (hV (.sl none (G.map Notch.c)) Z (hV (a4 N) Y (hV (.bool false) E hZ))) fun bq a1 a2 a3=>sN<|cF a3 E<|xx<|bN<|sN<|Rg<|kx (bp a2)<|kx (cu E E)<|be<|Rn (hA a1 (hN E hZ)) fun br a5 a6=>?_)
  exact jd h ⟨a5,a6⟩
 refine cF ar af (xx<|sE ?_)
 exact md h ⟨E,trivial⟩
noncomputable def jZ (D:List Notch):Option Bool:=
 if (decide ((D.length:Int) > 60))=true then
  some false
 else
  (Lw (cg D) 0).bind fun r=>match r with
  | (.inl _)=>
   some false
  | (.inr _)=>
   some true
def uR (r:Bool):AV:=.bool r
theorem v7 (D:List Notch) (r:Bool) (h:jZ D=some r):Ev (fun k=>CN k 111 [.sl none (D.map Notch.c)] []) (fun p=>cp p.2 p.1=uR r):=by
 unfold jZ at h
 refine Ev.enter (F:=fun k=>f111 (CN k) k) (fun k=>bH E Tryz.func111 E E E (by decide +kernel) (KC _ _)) (av<|be<|Rn (hN E hZ) fun an U=>sN<|sq<|av<|kx (bp U)<|kx (i2 Tryz.underlying46 E)<|kx (fB E E)<|Rn (hA U (hN E hZ)) fun ao ac X=>sN ?_)
 rcases aj h with ⟨I,h⟩ | ⟨I,h⟩
 ·refine cT X I (av<|be<|Rn (hV (.bool false) E hZ) fun ap ab=>sN<|xx<|sR ?_)
  exact ct h (bB ab bK) E
 obtain ⟨Y,J,h⟩:=ad h
 refine cF X I (xx<|sN<|sq<|av<|be<|Rn (hA ac (hV (a4 0) E hZ)) fun am N O=>sN<|bl ?_)
 rcases Y with _ | _
 ·refine Ev.loop (n5 D) J ⟨N,O⟩ fun x ae af G=>?_
  obtain ⟨rfl,Z⟩:=G
  refine bR (sR ?_)
  exact ct h (bB Z bK) E
 refine Ev.loop (n5 D) J ⟨N,O⟩ fun x ah ai G=>?_
 obtain ⟨rfl,_⟩:=G
 refine bE (sN<|av<|be<|Rn (hV (.bool true) E hZ) fun ak aa=>sN<|xx ?_)
 exact ct h (bB aa bK) E
abbrev g0:=Int
abbrev lB:=Unit⊕Unit
def oE (D:Ar 16 Int) (F:Ar 16 Int) (G:Int) (s:g0) (e:b4) (M:bs):Prop:=a3 e 2 = a4 G/\a3 e 3 = .pt none (bY (cI .i8) 0 D)/\a3 e 4 = .pt none (bY (cI .i8) 0 F)/\a3 e 9 = a4 s
def t1 (D:Ar 16 Int) (F:Ar 16 Int) (G:Int) (r:lB) (x:Ex) (e:b4) (M:bs):Prop:=
  match r with
  | (.inl g)=>x = .ret/\a3 e 6 = .bool false
  | (.inr g)=>x = .ext 0/\a3 e 2 = a4 G/\a3 e 3 = .pt none (bY (cI .i8) 0 D)/\a3 e 4 = .pt none (bY (cI .i8) 0 F)
noncomputable def fy (I:Ar 16 Int) (J:Ar 16 Int):g0->Option (g0⊕lB):=fun D=>
 if (decide (D < 16))=true then
  (jF I D).bind fun F=>
  (jF J D).bind fun G=>
  if (decide ((IntKind.i8.wrap (F + G)) < (-1)))=true then
   some (.inr (.inl ()))
  else
   if (decide ((IntKind.i8.wrap (F + G)) > 1))=true then
    some (.inr (.inl ()))
   else
    some (.inl (IntKind.i64.wrap (D + 1)))
 else
  some (.inr (.inr ()))
theorem ou (F:Ar 16 Int) (G:Ar 16 Int) (J:Int) (s:g0) (r:g0⊕lB) (h:fy F G s=some r) (e:b4) (M:bs) (U:oE F G J s e M):Ev (fun k=>(EU (CN k) k (prune [2,3,4,9] e) M).bind fun q=>some q) (bQ (oE F G J) (t1 F G J) r):=by
 revert h U
 revert s
 intro ar h U
 unfold fy at h
 obtain ⟨ax,ay,az,aA⟩:=U
 generalize I:prune [2,3,4,9] e=bb
 have aB:=bZ I.symm E ax
 have aC:=bZ I.symm E ay
 have aD:=bZ I.symm E az
 have Y:=bZ I.symm E aA
 refine av (kx (dp Y E)<|Rn (hV (a4 J) aB (hV (.pt none (bY (cI .i8) 0 F)) aC (hV (.pt none (bY (cI .i8) 0 G)) aD (hV (a4 ar) Y (hN E hZ))))) fun aQ Z aa ab ac ae=>sN<|sq ?_)
 rcases aj h with ⟨N,h⟩ | ⟨N,h⟩
 ·obtain ⟨aR,au,h⟩:=ad h
  obtain ⟨aS,aw,h⟩:=ad h
  refine cT ae N (xx<|sN<|sq<|bl<|av<|kx (bp ac)<|be<|Rn (hA Z (hA aa (hA ab (hN E (hA ac hZ))))) fun aT aE af ah ai aF=>sN<|sq<|Rd<|kf (bp ai)<|kf (qX (c:=(cI .i8)) (z:=0) (g:=F) af E au (fun _=>E))<|kf (cr E E)<|kf (bp ai)<|kf (qX (c:=(cI .i8)) (z:=0) (g:=G) ah E aw (fun _=>E))<|kf (cr E E)<|kf (cu E E)<|r3<|fZ<|Rn (hA aE (hA af (hA ah (hN E (hA aF hZ))))) fun aU ak am an ao ap=>sN<|av<|kx (bp ao)<|kx (dp E E)<|kx (bp E) ?_)
  rcases aj h with ⟨D,h⟩ | ⟨D,h⟩
  ·refine kx (gsF E D) (kx (gsF E D)<|kx (cC E D E)<|Rn (hA ak (hA am (hA an (hA ap (hV (.bool true) E hZ))))) fun aV aW aX aY aZ aG=>sN<|cT aG E<|av<|be<|Rn (hV (.bool false) E hZ) fun a0 aH=>sN<|xx<|bR<|sR ?_)
   exact lr h ⟨E,aH⟩
  refine kx (guF E D (bp ao)) (kx (guF E D (fB E E))<|kx (cU E D E)<|Rn (hA ak (hA am (hA an (hA ap (hN E hZ))))) fun a1 aI aJ aK aL X=>sN ?_)
  rcases aj h with ⟨O,h⟩ | ⟨O,h⟩
  ·refine cT X O (av<|be<|Rn (hV (.bool false) E hZ) fun a2 aM=>sN<|xx<|bR<|sR ?_)
   exact lr h ⟨E,aM⟩
  refine cF X O (xx<|bN<|sN<|Rg<|kx (cu aL E)<|be<|Rn (hA aI (hA aJ (hA aK (hN E hZ)))) fun a3 aN aO aq aP=>?_)
  exact jd h ⟨aN,aO,aq,aP⟩
 refine cF ae N (xx<|sE ?_)
 exact md h ⟨E,Z,aa,ab⟩
noncomputable def kT (D:Ar 16 Int) (F:Ar 16 Int) (I:Int):Option Bool:=
 (Lw (fy D F) 0).bind fun r=>match r with
 | (.inl _)=>
  some false
 | (.inr _)=>
  (rt D F).bind fun G=>
  some (decide ((G.length:Int)<=I))
def vY (r:Bool):AV:=.bool r
theorem wN (D:Ar 16 Int) (G:Ar 16 Int) (I:Int) (r:Bool) (h:kT D G I=some r):Ev (fun k=>CN k 110 [.agg (bY (cI .i8) 0 D),.agg (bY (cI .i8) 0 G),a4 I] []) (fun p=>cp p.2 p.1=vY r):=by
 unfold kT at h
 obtain ⟨ab,N,h⟩:=ad h
 refine Ev.enter (F:=fun k=>f110 (CN k) k) (fun k=>bH E Tryz.func110 E E E (by decide +kernel) (Kk _ _)) (av<|kx (ps E E ⟨E,E,by decide⟩)<|kx (ps E E ⟨E,E,by decide⟩)<|be<|Rn (hN E (hN E (hN E hZ))) fun au aj ak am=>sN<|sq<|av<|be<|Rn (hA aj (hA ak (hA am (hV (a4 0) E hZ)))) fun aw X Y O U=>sN<|bl ?_)
 rcases ab with _ | _
 ·refine Ev.loop (ou D G I) N ⟨X,Y,O,U⟩ fun x an ao J=>?_
  obtain ⟨rfl,ac⟩:=J
  refine bR (sR ?_)
  exact ct h (bB ac bK) E
 refine Ev.loop (ou D G I) N ⟨X,Y,O,U⟩ fun x ap aq J=>?_
 obtain ⟨rfl,ae,af,ah⟩:=J
 obtain ⟨ai,Z,h⟩:=ad h
 refine bE (sN<|av<|kx (eE af E E)<|kx (eE ah E E) (kc (cl (v:=.sl (some 2) (ai.map (cI .i64))) E E (b3 E (b3 E E)) E (Bw D G _ Z) nm)<|kx (i2 Tryz.underlying24 E)<|kx (bp ae)<|kx (yb E E)<|be<|Rn (hN E hZ) fun ar aa=>sN<|xx ?_))
 exact ct h (bB aa bK) E
abbrev eT:=Int
abbrev jD:=Unit⊕Unit
def lH (D:List Notch) (F:List Notch) (s:eT) (e:b4) (M:bs):Prop:=a3 e 0 = .sl none (D.map Notch.c)/\a3 e 1 = .sl none (F.map Notch.c)/\a3 e 12 = a4 (D.length:Int)/\a3 e 13 = a4 s
def rj (D:List Notch) (F:List Notch) (r:jD) (x:Ex) (e:b4) (M:bs):Prop:=
  match r with
  | (.inl g)=>x = .ret/\a3 e 4 = .bool false
  | (.inr g)=>x = .ext 0/\True
noncomputable def fI (I:List Notch) (J:List Notch):eT->Option (eT⊕jD):=fun D=>
 if (decide (D < (I.length:Int)))=true then
  (rd I D).bind fun F=>
  (rd J D).bind fun G=>
  if ((F.Kind==G.Kind) && ((F.At==G.At) && true))=true then
   some (.inl (IntKind.i64.wrap (D + 1)))
  else
   some (.inr (.inl ()))
 else
  some (.inr (.inr ()))
theorem lW (D:List Notch) (F:List Notch) (s:eT) (r:eT⊕jD) (h:fI D F s=some r) (e:b4) (M:bs) (N:lH D F s e M):Ev (fun k=>(Ek (CN k) k (prune [0,1,12,13] e) M).bind fun q=>some q) (bQ (lH D F) (rj D F) r):=by
 revert h N
 revert s
 intro aA h N
 unfold fI at h
 obtain ⟨aD,aE,aF,aG⟩:=N
 generalize G:prune [0,1,12,13] e=aR
 have ae:=bZ G.symm E aD
 have af:=bZ G.symm E aE
 have O:=bZ G.symm E aF
 have U:=bZ G.symm E aG
 refine av (kx (dp U O)<|Rn (hV (.sl none (D.map Notch.c)) ae (hV (.sl none (F.map Notch.c)) af (hV (a4 (D.length:Int)) O (hV (a4 aA) U (hN E hZ))))) fun aI ah ai ak X Y=>sN<|sq ?_)
 rcases aj h with ⟨I,h⟩ | ⟨I,h⟩
 ·obtain ⟨aJ,aB,h⟩:=ad h
  obtain ⟨aK,aC,h⟩:=ad h
  refine cT Y I (xx<|sN<|sq<|bl<|av<|kx (bp X)<|be<|Rn (hA ah (hA ai (hN E (hA ak (hA X hZ))))) fun aL Z aa ab am an=>sN<|sq<|Rd<|kf (bp Z)<|kf (bp ab)<|kf (kJ E E aB Notch.fl)<|kf (eE E E E)<|kf (bp aa)<|kf (bp ab)<|kf (kJ E E aC Notch.fl)<|kf (eE E E E)<|kf (J5 E E (by kernel_rfl) E)<|fZ<|Rn (hA Z (hA aa (hA am (hA an (hN E hZ))))) fun aM ao ap aq ar ac=>sN ?_)
  rcases aj h with ⟨J,h⟩ | ⟨J,h⟩
  ·refine cF ac (nt J) (xx<|bN<|sN<|Rg<|kx (cu ar E)<|be<|Rn (hA ao (hA ap (hA aq (hN E hZ)))) fun aH au aw ax ay=>?_)
   exact jd h ⟨au,aw,ax,ay⟩
  refine cT ac (nt J) (av<|be<|Rn (hV (.bool false) E hZ) fun aN az=>sN<|xx<|bR<|sR ?_)
  exact lr h ⟨E,az⟩
 refine cF Y I (xx<|sE ?_)
 exact md h ⟨E,trivial⟩
noncomputable def fM (D:List Notch) (F:List Notch):Option Bool:=
 if ((D.length:Int) != (F.length:Int))=true then
  some false
 else
  (Lw (fI D F) 0).bind fun r=>match r with
  | (.inl _)=>
   some false
  | (.inr _)=>
   some true
def sg (r:Bool):AV:=.bool r
theorem tj (D:List Notch) (G:List Notch) (r:Bool) (h:fM D G=some r):Ev (fun k=>CN k 109 [.sl none (D.map Notch.c),.sl none (G.map Notch.c)] []) (fun p=>cp p.2 p.1=sg r):=by
 unfold fM at h
 refine Ev.enter (F:=fun k=>f109 (CN k) k) (fun k=>bH E Tryz.func109 E E E (by decide +kernel) (JW _ _)) (av<|be<|Rn (hN E (hN E hZ)) fun aw Z aa=>sN<|sq<|av<|kx (bp Z)<|kx (i2 Tryz.underlying46 E)<|kx (bp aa)<|kx (i2 Tryz.underlying46 E)<|kx (gD E E)<|Rn (hA Z (hA aa (hN E hZ))) fun ax ab ak ac=>sN ?_)
 rcases aj h with ⟨I,h⟩ | ⟨I,h⟩
 ·refine cT ac I (av<|be<|Rn (hV (.bool false) E hZ) fun am ae=>sN<|xx<|sR ?_)
  exact ct h (bB ae bK) E
 obtain ⟨af,N,h⟩:=ad h
 refine cF ac I (xx<|sN<|sq<|av<|kx (bp ab)<|kx (i2 Tryz.underlying46 E)<|be<|Rn (hA ab (hA ak (hN E (hV (a4 0) E hZ)))) fun an O U X Y=>sN<|bl ?_)
 rcases af with _ | _
 ·refine Ev.loop (lW D G) N ⟨O,U,X,Y⟩ fun x ao ap J=>?_
  obtain ⟨rfl,ah⟩:=J
  refine bR (sR ?_)
  exact ct h (bB ah bK) E
 refine Ev.loop (lW D G) N ⟨O,U,X,Y⟩ fun x aq ar J=>?_
 obtain ⟨rfl,_⟩:=J
 refine bE (sN<|av<|be<|Rn (hV (.bool true) E hZ) fun au ai=>sN<|xx ?_)
 exact ct h (bB ai bK) E
noncomputable def mw (D:Int):Option Int:=
 (rd [1,2,4,6,9,12] D).bind fun F=>
 some F
def zJ (r:Int):AV:=a4 r
theorem vc (D:Int) (r:Int) (h:mw D=some r):Ev (fun k=>CN k 106 [a4 D] []) (fun p=>cp p.2 p.1=zJ r):=by
 unfold mw at h
 obtain ⟨U,G,h⟩:=ad h
 refine Ev.enter (F:=fun k=>f106 (CN k) k) (fun k=>bH E Tryz.func106 E E E (by decide +kernel) (Lb _ _)) (av<|be<|Rn (hN E hZ) fun N I=>sN<|av<|kx (kh (b3 E (b3 E (b3 E (b3 E (b3 E (b3 E E)))))) E ⟨E,by decide⟩)<|kx (bp I)<|kx (Oe E E G (de _))<|kx (cr E E)<|be<|Rn (hN E hZ) fun O J=>sN<|xx ?_)
 exact ct h (bB J bK) E
noncomputable def jj (D:Notch):Option Int:=
 (mw (IntKind.i64.wrap D.Kind)).bind fun F=>
 some (IntKind.i64.wrap ((IntKind.i64.wrap D.At) + F))
def vD (r:Int):AV:=a4 r
theorem qL (D:Notch) (r:Int) (h:jj D=some r):Ev (fun k=>CN k 108 [.agg [.int .i8 D.Kind,.int .i16 D.At]] []) (fun p=>cp p.2 p.1=vD r):=by
 unfold jj at h
 obtain ⟨N,I,h⟩:=ad h
 refine Ev.enter (F:=fun k=>f108 (CN k) k) (fun k=>bH E Tryz.func108 E E E (by decide +kernel) (KE _ _)) (av<|kx (ps E E ⟨E,E,by decide⟩)<|be<|Rn (hN E hZ) fun O G=>sN<|sq<|Rd<|kf (cW G ⟨ble E,blt E⟩ E)<|kf (cr E E)<|kf (A0 E)<|kf (cW G ⟨ble E,blt E⟩ E)<|kf (cr E E)<|kf (A0 E)<|fc (cl (v:=a4 N) E E (b3 E E) E (vc (IntKind.i64.wrap D.Kind) _ I) nm)<|kf (cu E E)<|r3<|fZ<|Rn (hN E hZ) fun U J=>sN<|xx ?_)
 exact ct h (bB J bK) E
noncomputable def oM (D:Int):Option Bool:=
 if (decide (D>=0))=true then
  some (decide (D<=5))
 else
  some false
def yP (r:Bool):AV:=.bool r
theorem zf (G:Int) (r:Bool) (h:oM G=some r):Ev (fun k=>CN k 107 [a4 G] []) (fun p=>cp p.2 p.1=yP r):=by
 unfold oM at h
 refine Ev.enter (F:=fun k=>f107 (CN k) k) (fun k=>bH E Tryz.func107 E E E (by decide +kernel) (Lh _ _)) (av<|be<|Rn (hN E hZ) fun O I=>sN<|av<|kx (bp I)<|kx (q5 E E)<|kx (bp E) ?_)
 rcases aj h with ⟨D,h⟩ | ⟨D,h⟩
 ·refine kx (guT E D (bp I)) (kx (guT E D (yb E E))<|kx (cC E D E)<|be<|Rn (hN E hZ) fun U N=>sN<|xx ?_)
  exact ct h (bB N bK) E
 refine kx (gsT E D) (kx (gsT E D)<|kx (cU E D E)<|be<|Rn (hV (.bool false) E hZ) fun X J=>sN<|xx ?_)
 exact ct h (bB J bK) E
abbrev fH:=Int×Int×Int
abbrev ko:=Int×Int
def m1 (D:Book) (F:Int) (s:fH) (e:b4) (M:bs):Prop:=a3 e 1 = a4 F/\a3 e 6 = a4 s.1/\a3 e 7 = a4 s.2.1/\a3 e 11 = .sl none (D.Tallies.map Tally.c)/\a3 e 12 = a4 (D.Tallies.length:Int)/\a3 e 13 = a4 s.2.2
def sO (D:Book) (F:Int) (g:ko) (x:Ex) (e:b4) (M:bs):Prop:=x = .ext 0/\a3 e 6 = a4 g.1/\a3 e 7 = a4 g.2
noncomputable def fD (G:Book) (F:Int):fH->Option (fH⊕ko):=fun (O,Y,J)=>
 if (decide (J < (G.Tallies.length:Int)))=true then
  (rd G.Tallies J).bind fun D=>
  if (D.Holder==F)=true then
   if (D.Debtor==F)=true then
    some (.inl ((IntKind.i64.wrap (O + D.Left)),(IntKind.i64.wrap (Y + D.Left)),(IntKind.i64.wrap (J + 1))))
   else
    some (.inl ((IntKind.i64.wrap (O + D.Left)),Y,(IntKind.i64.wrap (J + 1))))
  else
   if (D.Debtor==F)=true then
    some (.inl (O,(IntKind.i64.wrap (Y + D.Left)),(IntKind.i64.wrap (J + 1))))
   else
    some (.inl (O,Y,(IntKind.i64.wrap (J + 1))))
 else
  some (.inr (O,Y))
theorem sA (G:Book) (I:Int) (s:fH) (r:fH⊕ko) (h:fD G I s=some r) (e:b4) (M:bs) (b5:m1 G I s e M):Ev (fun k=>(Fd (CN k) k (prune [1,6,7,11,12,13] e) M).bind fun q=>some q) (bQ (m1 G I) (sO G I) r):=by
 obtain ⟨bb,bd,bf⟩:=s
 unfold fD at h
 obtain ⟨bU,bV,bW,bX,bY,b0⟩:=b5
 generalize F:prune [1,6,7,11,12,13] e=dg
 have b1:=bZ F.symm E bU
 have b3:=bZ F.symm E bV
 have bw:=bZ F.symm E bW
 have bx:=bZ F.symm E bX
 have ae:=bZ F.symm E bY
 have af:=bZ F.symm E b0
 refine av (kx (dp af ae)<|Rn (hV (a4 I) b1 (hV (a4 bb) b3 (hV (a4 bd) bw (hV (.sl none (G.Tallies.map Tally.c)) bx (hV (a4 (G.Tallies.length:Int)) ae (hV (a4 bf) af (hN E hZ))))))) fun cd bz ah ai ak bA am an=>sN<|sq ?_)
 rcases aj h with ⟨X,h⟩ | ⟨X,h⟩
 ·obtain ⟨J,bg,h⟩:=ad h
  refine cT an X (xx<|sN<|sq<|bl<|av<|kx (kJ ak am bg Tally.fl)<|kx (eE E E E) (ku (lG z1) fun bB bh=>?_))
  have ao:bB[M.length]? = some (.live ⟨.box,80,5,[[a4 0,a4 0,a4 0,a4 0,a4 0]]⟩):=b2 bh
  refine kw (dW E E ao E E ⟨E,ble E⟩ E E) fun bC bi=>?_
  have D:bC[M.length]? = some (.live ⟨.box,80,5,[[a4 J.Debtor,a4 J.Holder,a4 J.Cut,a4 J.Amount,a4 J.Left]]⟩):=bc bi ao
  refine Rn (hA bz (hA ah (hA ai (hV (.loc M.length 1 0 0) E (hA ak (hA bA (hA am hZ))))))) fun ce ap bD bE aq bF bG bH=>sN (sq<|av<|kx (dQ aq D E)<|kx (e8 E D E E E)<|kx (bp ap)<|kx (d8 E E)<|Rn (hA ap (hA bD (hA bE (hA aq (hA bF (hA bG (hA bH (hN E hZ)))))))) fun cf Z ar au N aw ax ay az=>sN ?_)
  rcases aj h with ⟨Y,h⟩ | ⟨Y,h⟩
  ·refine cT az Y (Rg<|kx (bp ar)<|kx (dQ N D E)<|kx (e8 E D E E E)<|kx (cu E E)<|be<|Rn (hA Z (hN E (hA au (hA N (hA aw (hA ax (hA ay hZ))))))) fun cg aA bI bJ aB bK bL bM=>sN<|av<|kx (dQ aB D E)<|kx (e8 E D E E E)<|kx (bp aA)<|kx (d8 E E)<|Rn (hA aA (hA bI (hA bJ (hA aB (hA bK (hA bL (hA bM (hN E hZ)))))))) fun ch aC aD aa bj aE aF aG aH=>sN ?_)
   rcases aj h with ⟨O,h⟩ | ⟨O,h⟩
   ·refine cT aH O (Rg<|kx (bp aa)<|kx (dQ bj D E)<|kx (e8 E D E E E)<|kx (cu E E)<|be<|Rn (hA aC (hA aD (hN E (hA aE (hA aF (hA aG hZ)))))) fun b6 bk bm bn bo bq br=>bN<|sN<|Rg<|kx (cu br E)<|be<|Rn (hA bk (hA bm (hA bn (hA bo (hA bq (hN E hZ)))))) fun b7 bt bu bv aP aQ aR=>?_)
    exact jd h ⟨bt,bu,bv,aP,aQ,aR⟩
   refine cF aH O (xx<|bN<|sN<|Rg<|kx (cu aG E)<|be<|Rn (hA aC (hA aD (hA aa (hA aE (hA aF (hN E hZ)))))) fun b8 aS aT aU aV aW aX=>?_)
   exact jd h ⟨aS,aT,aU,aV,aW,aX⟩
  refine cF az Y (xx<|sN<|av<|kx (dQ N D E)<|kx (e8 E D E E E)<|kx (bp Z)<|kx (d8 E E)<|Rn (hA Z (hA ar (hA au (hA N (hA aw (hA ax (hA ay (hN E hZ)))))))) fun b9 aI aJ aK aY aL aM ab ac=>sN ?_)
  rcases aj h with ⟨U,h⟩ | ⟨U,h⟩
  ·refine cT ac U (Rg<|kx (bp aK)<|kx (dQ aY D E)<|kx (e8 E D E E E)<|kx (cu E E)<|be<|Rn (hA aI (hA aJ (hN E (hA aL (hA aM (hA ab hZ)))))) fun ca aZ a0 a1 a2 a3 a5=>bN<|sN<|Rg<|kx (cu a5 E)<|be<|Rn (hA aZ (hA a0 (hA a1 (hA a2 (hA a3 (hN E hZ)))))) fun cb a6 a7 a8 a9 ba aN=>?_)
   exact jd h ⟨a6,a7,a8,a9,ba,aN⟩
  refine cF ac U (xx<|bN<|sN<|Rg<|kx (cu ab E)<|be<|Rn (hA aI (hA aJ (hA aK (hA aL (hA aM (hN E hZ)))))) fun cc aO bO bP bR bS bT=>?_)
  exact jd h ⟨aO,bO,bP,bR,bS,bT⟩
 refine cF an X (xx<|sE ?_)
 exact md h ⟨E,ah,ai⟩
noncomputable def jm (D:Book) (F:Int):Option (Int×Int):=
 (Lw (fD D F) (0,0,0)).bind fun (J,O)=>
 some (J,O)
def t8 (r:Int×Int):AV:=.tup [a4 r.1,a4 r.2]
theorem uK (D:Book) (G:Int) (r:Int×Int) (h:jm D G=some r):Ev (fun k=>CN k 104 [.agg [a4 D.Day,.sl none (D.Cash.map (cI .i64)),.sl none (D.Tallies.map Tally.c)],a4 G] []) (fun p=>cp p.2 p.1=t8 r):=by
 unfold jm at h
 obtain ⟨⟨ao,ap⟩,J,h⟩:=ad h
 refine Ev.enter (F:=fun k=>f104 (CN k) k) (fun k=>bH E Tryz.func104 E E E (by decide +kernel) (Kb _ _)) (av<|kx (ps E E ⟨E,E,by decide⟩)<|be<|be<|Rn (hN E (hN E hZ)) fun aw ah ai=>sN<|av<|be<|be<|Rn (hA ah (hA ai (hV (a4 0) E (hV (a4 0) E hZ)))) fun ax aj ak am Y=>sN<|sq<|av<|kx (cW ak ⟨ble E,blt E⟩ E)<|kx (cr E E)<|kx (i2 Tryz.underlying25 E)<|be<|Rn (hA aj (hA am (hA Y (hN E (hN E (hV (a4 0) E hZ)))))) fun an Z aa ab ac ae af=>sN<|bl (Ev.loop (sA D G) J ⟨Z,aa,ab,ac,ae,af⟩ fun x aq ar I=>?_))
 obtain ⟨rfl,N,O⟩:=I
 refine bE (sN<|av<|kx (bp N)<|kx (bp O)<|be<|be<|Rn (hN E (hN E hZ)) fun au U X=>sN<|xx ?_)
 exact ct h (bB U (bB X bK)) E
noncomputable def kI (D:Int) (F:Int):Option Int:=
 if (decide (D < F))=true then
  some D
 else
  some F
def yO (r:Int):AV:=a4 r
theorem tU (G:Int) (I:Int) (r:Int) (h:kI G I=some r):Ev (fun k=>CN k 103 [a4 G,a4 I] []) (fun p=>cp p.2 p.1=yO r):=by
 unfold kI at h
 refine Ev.enter (F:=fun k=>f103 (CN k) k) (fun k=>bH E Tryz.func103 E E E (by decide +kernel) (Le _ _)) (av<|be<|Rn (hN E (hN E hZ)) fun ac J N=>sN<|sq<|av<|kx (bp J)<|kx (bp N)<|kx (dp E E)<|Rn (hA J (hA N (hN E hZ))) fun ad Y Z O=>sN ?_)
 rcases aj h with ⟨D,h⟩ | ⟨D,h⟩
 ·refine cT O D (av<|kx (bp Y)<|be<|Rn (hN E hZ) fun aa U=>sN<|xx<|sR ?_)
  exact ct h (bB U bK) E
 refine cF O D (xx<|sN<|av<|kx (bp Z)<|be<|Rn (hN E hZ) fun ab X=>sN<|xx ?_)
 exact ct h (bB X bK) E
abbrev iQ:=Int
abbrev nr:=Unit⊕Unit
def qf (D:List Int) (s:iQ) (e:b4) (M:bs):Prop:=a3 e 0 = .sl none (D.map (cI .i64))/\a3 e 3 = a4 s
def vO (D:List Int) (r:nr) (x:Ex) (e:b4) (M:bs):Prop:=
  match r with
  | (.inl g)=>x = .ret/\a3 e 2 = .bool false
  | (.inr g)=>x = .ext 0/\a3 e 0 = .sl none (D.map (cI .i64))
noncomputable def iC (F:List Int):iQ->Option (iQ⊕nr):=fun D=>
 if (decide (D < (F.length:Int)))=true then
  (rd F D).bind fun G=>
  (lb G).bind fun I=>
  if I=true then
   some (.inl (IntKind.i64.wrap (D + 1)))
  else
   some (.inr (.inl ()))
 else
  some (.inr (.inr ()))
theorem p7 (D:List Int) (s:iQ) (r:iQ⊕nr) (h:iC D s=some r) (e:b4) (M:bs) (J:qf D s e M):Ev (fun k=>(IM (CN k) k (prune [0,3] e) M).bind fun q=>some q) (bQ (qf D) (vO D) r):=by
 revert h J
 revert s
 intro ae h J
 unfold iC at h
 obtain ⟨ai,ak⟩:=J
 generalize N:prune [0,3] e=aD
 have O:=bZ N.symm E ai
 have U:=bZ N.symm E ak
 refine sq (av<|kx (bp U)<|kx (bp O)<|kx (i2 Tryz.underlying24 E)<|kx (dp E E)<|Rn (hV (.sl none (D.map (cI .i64))) O (hV (a4 ae) U (hN E hZ))) fun aq I X Y=>sN ?_)
 rcases aj h with ⟨F,h⟩ | ⟨F,h⟩
 ·obtain ⟨am,af,h⟩:=ad h
  obtain ⟨an,ah,h⟩:=ad h
  refine cT Y F (xx<|sN<|sq<|bl<|av<|kx (bp I)<|kx (bp X)<|kx (kJ E E af (de _))<|kx (cr E E) (kc (cl (v:=.bool an) E E (b3 E E) E (wU am _ ah) nm)<|kx (eZ E)<|Rn (hA I (hA X (hN E hZ))) fun ar ao ap Z=>sN ?_))
  rcases aj h with ⟨G,h⟩ | ⟨G,h⟩
  ·refine cF Z (nt G) (xx<|bN<|sN<|Rg<|kx (bp ap)<|kx (cu E E)<|be<|Rn (hA ao (hN E hZ)) fun au aa ab=>?_)
   exact jd h ⟨aa,ab⟩
  refine cT Z (nt G) (av<|be<|Rn (hV (.bool false) E hZ) fun aw ac=>sN<|xx<|bR<|sR ?_)
  exact lr h ⟨E,ac⟩
 refine cF Y F (xx<|sE ?_)
 exact md h ⟨E,I⟩
noncomputable def nj (D:List Int):Option Bool:=
 (Lw (iC D) 0).bind fun r=>match r with
 | (.inl _)=>
  some false
 | (.inr _)=>
  (dm (D.length:Int) 1 16).bind fun F=>
  some F
def yd (r:Bool):AV:=.bool r
theorem yy (D:List Int) (r:Bool) (h:nj D=some r):Ev (fun k=>CN k 98 [.sl none (D.map (cI .i64))] []) (fun p=>cp p.2 p.1=yd r):=by
 unfold nj at h
 obtain ⟨U,I,h⟩:=ad h
 refine Ev.enter (F:=fun k=>f98 (CN k) k) (fun k=>bH E Tryz.func98 E E E (by decide +kernel) (Mh _ _)) (av<|be<|Rn (hN E hZ) fun aj ab=>sN<|sq<|av<|be<|Rn (hA ab (hV (a4 0) E hZ)) fun ak J N=>sN<|bl ?_)
 rcases U with _ | _
 ·refine Ev.loop (p7 D) I ⟨J,N⟩ fun x ac ae G=>?_
  obtain ⟨rfl,X⟩:=G
  refine bR (sR ?_)
  exact ct h (bB X bK) E
 refine Ev.loop (p7 D) I ⟨J,N⟩ fun x af ah G=>?_
 obtain ⟨rfl,Y⟩:=G
 obtain ⟨Z,O,h⟩:=ad h
 refine bE (sN<|av<|kx (bp Y)<|kx (i2 Tryz.underlying24 E) (kc (cl (v:=.bool Z) E E (b3 E (b3 E (b3 E E))) E (dn (D.length:Int) 1 16 _ O) nm)<|be<|Rn (hN E hZ) fun ai aa=>sN<|xx ?_))
 exact ct h (bB aa bK) E
abbrev gZ:=Int
abbrev lx:=Unit⊕Unit
def oO (F:Int) (D:List Int) (s:gZ) (e:b4) (M:bs):Prop:=a3 e 0 = a4 F/\a3 e 7 = .sl none (D.map (cI .i64))/\a3 e 8 = a4 (D.length:Int)/\a3 e 9 = a4 s
def tR (D:Int) (F:List Int) (r:lx) (x:Ex) (e:b4) (M:bs):Prop:=
  match r with
  | (.inl g)=>x = .ret/\a3 e 4 = .bool false
  | (.inr g)=>x = .ext 0/\True
noncomputable def gJ (I:Int) (G:List Int):gZ->Option (gZ⊕lx):=fun D=>
 if (decide (D < (G.length:Int)))=true then
  (rd G D).bind fun F=>
  if (decide (F < 0))=true then
   some (.inr (.inl ()))
  else
   if (decide (F>=I))=true then
    some (.inr (.inl ()))
   else
    some (.inl (IntKind.i64.wrap (D + 1)))
 else
  some (.inr (.inr ()))
theorem ox (G:Int) (F:List Int) (s:gZ) (r:gZ⊕lx) (h:gJ G F s=some r) (e:b4) (M:bs) (U:oO G F s e M):Ev (fun k=>(Ic (CN k) k (prune [0,7,8,9] e) M).bind fun q=>some q) (bQ (oO G F) (tR G F) r):=by
 revert h U
 revert s
 intro aG h U
 unfold gJ at h
 obtain ⟨aI,ak,am,an⟩:=U
 generalize I:prune [0,7,8,9] e=aT
 have ao:=bZ I.symm E aI
 have ap:=bZ I.symm E ak
 have X:=bZ I.symm E am
 have Y:=bZ I.symm E an
 refine av (kx (dp Y X)<|Rn (hV (a4 G) ao (hV (.sl none (F.map (cI .i64))) ap (hV (a4 (F.length:Int)) X (hV (a4 aG) Y (hN E hZ))))) fun aK aq Z ar aa ab=>sN<|sq ?_)
 rcases aj h with ⟨J,h⟩ | ⟨J,h⟩
 ·obtain ⟨aL,aH,h⟩:=ad h
  refine cT ab J (xx<|sN<|sq<|bl<|av<|kx (kJ Z aa aH (de _))<|kx (cr E E)<|be<|Rn (hA aq (hN E (hA Z (hA ar (hA aa hZ))))) fun aM O ac ae af ah=>sN<|av<|kx (bp ac)<|kx (dp E E)<|kx (bp E) ?_)
  rcases aj h with ⟨D,h⟩ | ⟨D,h⟩
  ·refine kx (gsF E D) (kx (gsF E D)<|kx (gsF E D)<|kx (cC E D E)<|Rn (hA O (hA ae (hA af (hA ah (hV (.bool true) E hZ))))) fun aJ aN aO aP aQ au=>sN<|cT au E<|av<|be<|Rn (hV (.bool false) E hZ) fun aR aw=>sN<|xx<|bR<|sR ?_)
   exact lr h ⟨E,aw⟩
  refine kx (guF E D (bp ac)) (kx (guF E D (bp O))<|kx (guF E D (q5 E E))<|kx (cU E D E)<|Rn (hA O (hA ae (hA af (hA ah (hN E hZ))))) fun aS ax ay az aA ai=>sN ?_)
  rcases aj h with ⟨N,h⟩ | ⟨N,h⟩
  ·refine cT ai N (av<|be<|Rn (hV (.bool false) E hZ) fun aU aB=>sN<|xx<|bR<|sR ?_)
   exact lr h ⟨E,aB⟩
  refine cF ai N (xx<|bN<|sN<|Rg<|kx (cu aA E)<|be<|Rn (hA ax (hA ay (hA az (hN E hZ)))) fun aV aC aD aE aF=>?_)
  exact jd h ⟨aC,aD,aE,aF⟩
 refine cF ab J (xx<|sE ?_)
 exact md h ⟨E,trivial⟩
noncomputable def jq (D:Int) (F:List Int):Option Bool:=
 (Lw (gJ D F) 0).bind fun r=>match r with
 | (.inl _)=>
  some false
 | (.inr _)=>
  some true
def vM (r:Bool):AV:=.bool r
theorem qK (D:Int) (G:List Int) (r:Bool) (h:jq D G=some r):Ev (fun k=>CN k 96 [a4 D,.sl none (G.map (cI .i64))] []) (fun p=>cp p.2 p.1=vM r):=by
 unfold jq at h
 obtain ⟨Y,J,h⟩:=ad h
 refine Ev.enter (F:=fun k=>f96 (CN k) k) (fun k=>bH E Tryz.func96 E E E (by decide +kernel) (My _ _)) (av<|be<|Rn (hN E (hN E hZ)) fun ak ab ac=>sN<|sq<|av<|kx (bp ac)<|kx (i2 Tryz.underlying24 E)<|be<|Rn (hA ab (hN E (hN E (hV (a4 0) E hZ)))) fun am O U X N=>sN<|bl ?_)
 rcases Y with _ | _
 ·refine Ev.loop (ox D G) J ⟨O,U,X,N⟩ fun x ae af I=>?_
  obtain ⟨rfl,Z⟩:=I
  refine bR (sR ?_)
  exact ct h (bB Z bK) E
 refine Ev.loop (ox D G) J ⟨O,U,X,N⟩ fun x ah ai I=>?_
 obtain ⟨rfl,_⟩:=I
 refine bE (sN<|av<|be<|Rn (hV (.bool true) E hZ) fun aj aa=>sN<|xx ?_)
 exact ct h (bB aa bK) E
abbrev i1:=Int
abbrev nu:=Unit⊕Unit
def pz (D:List Int) (F:List Int) (s:i1) (e:b4) (M:bs):Prop:=a3 e 0 = .sl none (D.map (cI .i64))/\a3 e 1 = .sl none (F.map (cI .i64))/\a3 e 5 = a4 s
def vg (D:List Int) (F:List Int) (r:nu) (x:Ex) (e:b4) (M:bs):Prop:=
  match r with
  | (.inl g)=>x = .ret/\a3 e 4 = .bool false
  | (.inr g)=>x = .ext 0/\True
noncomputable def iz (F:List Int) (J:List Int):i1->Option (i1⊕nu):=fun D=>
 if (decide (D < (F.length:Int)))=true then
  (rd F D).bind fun G=>
  (rd J D).bind fun I=>
  if (G != I)=true then
   some (.inr (.inl ()))
  else
   some (.inl (IntKind.i64.wrap (D + 1)))
 else
  some (.inr (.inr ()))
theorem pX (D:List Int) (F:List Int) (s:i1) (r:i1⊕nu) (h:iz D F s=some r) (e:b4) (M:bs) (O:pz D F s e M):Ev (fun k=>(I0 (CN k) k (prune [0,1,5] e) M).bind fun q=>some q) (bQ (pz D F) (vg D F) r):=by
 revert h O
 revert s
 intro am h O
 unfold iz at h
 obtain ⟨ap,aq,ar⟩:=O
 generalize G:prune [0,1,5] e=aG
 have U:=bZ G.symm E ap
 have au:=bZ G.symm E aq
 have X:=bZ G.symm E ar
 refine sq (av<|kx (bp X)<|kx (bp U)<|kx (i2 Tryz.underlying24 E)<|kx (dp E E)<|Rn (hV (.sl none (D.map (cI .i64))) U (hV (.sl none (F.map (cI .i64))) au (hV (a4 am) X (hN E hZ)))) fun ax Y Z N aa=>sN ?_)
 rcases aj h with ⟨I,h⟩ | ⟨I,h⟩
 ·obtain ⟨ay,an,h⟩:=ad h
  obtain ⟨az,ao,h⟩:=ad h
  refine cT aa I (xx<|sN<|sq<|bl<|sq<|Rd<|kf (bp Y)<|kf (bp N)<|kf (kJ E E an (de _))<|kf (cr E E)<|kf (bp Z)<|kf (bp N)<|kf (kJ E E ao (de _))<|kf (cr E E)<|kf (gD E E)<|fZ<|Rn (hA Y (hA Z (hA N (hN E hZ)))) fun aA aw ac ae ab=>sN ?_)
  rcases aj h with ⟨J,h⟩ | ⟨J,h⟩
  ·refine cT ab J (av<|be<|Rn (hV (.bool false) E hZ) fun aB af=>sN<|xx<|bR<|sR ?_)
   exact lr h ⟨E,af⟩
  refine cF ab J (xx<|bN<|sN<|Rg<|kx (bp ae)<|kx (cu E E)<|be<|Rn (hA aw (hA ac (hN E hZ))) fun aC ah ai ak=>?_)
  exact jd h ⟨ah,ai,ak⟩
 refine cF aa I (xx<|sE ?_)
 exact md h ⟨E,trivial⟩
noncomputable def nw (D:List Int) (F:List Int):Option Bool:=
 if ((D.length:Int) != (F.length:Int))=true then
  some false
 else
  (Lw (iz D F) 0).bind fun r=>match r with
  | (.inl _)=>
   some false
  | (.inr _)=>
   some true
def xO (r:Bool):AV:=.bool r
theorem yI (D:List Int) (G:List Int) (r:Bool) (h:nw D G=some r):Ev (fun k=>CN k 95 [.sl none (D.map (cI .i64)),.sl none (G.map (cI .i64))] []) (fun p=>cp p.2 p.1=xO r):=by
 unfold nw at h
 refine Ev.enter (F:=fun k=>f95 (CN k) k) (fun k=>bH E Tryz.func95 E E E (by decide +kernel) (M3 _ _)) (av<|be<|Rn (hN E (hN E hZ)) fun au Y Z=>sN<|sq<|av<|kx (bp Y)<|kx (i2 Tryz.underlying24 E)<|kx (bp Z)<|kx (i2 Tryz.underlying24 E)<|kx (gD E E)<|Rn (hA Y (hA Z (hN E hZ))) fun aw ah ai aa=>sN ?_)
 rcases aj h with ⟨I,h⟩ | ⟨I,h⟩
 ·refine cT aa I (av<|be<|Rn (hV (.bool false) E hZ) fun ak ab=>sN<|xx<|sR ?_)
  exact ct h (bB ab bK) E
 obtain ⟨ac,N,h⟩:=ad h
 refine cF aa I (xx<|sN<|sq<|av<|be<|Rn (hA ah (hA ai (hV (a4 0) E hZ))) fun am O U X=>sN<|bl ?_)
 rcases ac with _ | _
 ·refine Ev.loop (pX D G) N ⟨O,U,X⟩ fun x an ao J=>?_
  obtain ⟨rfl,ae⟩:=J
  refine bR (sR ?_)
  exact ct h (bB ae bK) E
 refine Ev.loop (pX D G) N ⟨O,U,X⟩ fun x ap aq J=>?_
 obtain ⟨rfl,_⟩:=J
 refine bE (sN<|av<|be<|Rn (hV (.bool true) E hZ) fun ar af=>sN<|xx ?_)
 exact ct h (bB af bK) E
abbrev h8:=Int
abbrev mo:=Unit⊕Unit
def pk (D:List Deal) (s:h8) (e:b4) (M:bs):Prop:=a3 e 0 = .sl none (D.map Deal.c)/\a3 e 3 = a4 s
def u1 (D:List Deal) (r:mo) (x:Ex) (e:b4) (M:bs):Prop:=
  match r with
  | (.inl g)=>x = .ret/\a3 e 2 = .bool false
  | (.inr g)=>x = .ext 0/\True
noncomputable def hJ (F:List Deal):h8->Option (h8⊕mo):=fun D=>
 if (decide (D < (F.length:Int)))=true then
  (rd F D).bind fun G=>
  (mN G).bind fun I=>
  if I=true then
   some (.inl (IntKind.i64.wrap (D + 1)))
  else
   some (.inr (.inl ()))
 else
  some (.inr (.inr ()))
theorem pe (D:List Deal) (s:h8) (r:h8⊕mo) (h:hJ D s=some r) (e:b4) (M:bs) (I:pk D s e M):Ev (fun k=>(II (CN k) k (prune [0,3] e) M).bind fun q=>some q) (bQ (pk D) (u1 D) r):=by
 revert h I
 revert s
 intro ae h I
 unfold hJ at h
 obtain ⟨ai,ak⟩:=I
 generalize J:prune [0,3] e=aD
 have N:=bZ J.symm E ai
 have O:=bZ J.symm E ak
 refine sq (av<|kx (bp O)<|kx (bp N)<|kx (i2 Tryz.underlying28 E)<|kx (dp E E)<|Rn (hV (.sl none (D.map Deal.c)) N (hV (a4 ae) O (hN E hZ))) fun aq U X Y=>sN ?_)
 rcases aj h with ⟨F,h⟩ | ⟨F,h⟩
 ·obtain ⟨am,af,h⟩:=ad h
  obtain ⟨an,ah,h⟩:=ad h
  refine cT Y F (xx<|sN<|sq<|bl<|av<|kx (bp U)<|kx (bp X)<|kx (kJ E E af Deal.fl) (kc (cl (v:=.bool an) E E (b3 E E) E (yt am _ ah) nm)<|kx (eZ E)<|Rn (hA U (hA X (hN E hZ))) fun ar ao ap Z=>sN ?_))
  rcases aj h with ⟨G,h⟩ | ⟨G,h⟩
  ·refine cF Z (nt G) (xx<|bN<|sN<|Rg<|kx (bp ap)<|kx (cu E E)<|be<|Rn (hA ao (hN E hZ)) fun au aa ab=>?_)
   exact jd h ⟨aa,ab⟩
  refine cT Z (nt G) (av<|be<|Rn (hV (.bool false) E hZ) fun aw ac=>sN<|xx<|bR<|sR ?_)
  exact lr h ⟨E,ac⟩
 refine cF Y F (xx<|sE ?_)
 exact md h ⟨E,trivial⟩
noncomputable def lM (D:List Deal):Option Bool:=
 (Lw (hJ D) 0).bind fun r=>match r with
 | (.inl _)=>
  some false
 | (.inr _)=>
  some true
def xc (r:Bool):AV:=.bool r
theorem x8 (D:List Deal) (r:Bool) (h:lM D=some r):Ev (fun k=>CN k 92 [.sl none (D.map Deal.c)] []) (fun p=>cp p.2 p.1=xc r):=by
 unfold lM at h
 obtain ⟨O,I,h⟩:=ad h
 refine Ev.enter (F:=fun k=>f92 (CN k) k) (fun k=>bH E Tryz.func92 E E E (by decide +kernel) (Ng _ _)) (av<|be<|Rn (hN E hZ) fun af Y=>sN<|sq<|av<|be<|Rn (hA Y (hV (a4 0) E hZ)) fun ah J N=>sN<|bl ?_)
 rcases O with _ | _
 ·refine Ev.loop (pe D) I ⟨J,N⟩ fun x Z aa G=>?_
  obtain ⟨rfl,U⟩:=G
  refine bR (sR ?_)
  exact ct h (bB U bK) E
 refine Ev.loop (pe D) I ⟨J,N⟩ fun x ab ac G=>?_
 obtain ⟨rfl,_⟩:=G
 refine bE (sN<|av<|be<|Rn (hV (.bool true) E hZ) fun ae X=>sN<|xx ?_)
 exact ct h (bB X bK) E
abbrev j6:=Int×Int×(List Int)×(List Tally)×(List Book)
abbrev oV:=(Int×(List Book))⊕(Int×(List Int)×(List Tally)×(List Book))
def rA (G:List Deal) (D:Nat) (F:Nat) (s:j6) (e:b4) (M:bs):Prop:=a3 e 2 = .loc D 1 0 0/\a3 e 6 = .lsl F s.2.2.2.2.length 0 s.2.2.2.2.length/\a3 e 12 = .sl none (G.map Deal.c)/\a3 e 13 = a4 (G.length:Int)/\a3 e 14 = a4 s.1/\M[D]? = some (.live ⟨.box,27,3,[[a4 s.2.1,.sl none (s.2.2.1.map (cI .i64)),.sl none (s.2.2.2.1.map Tally.c)]]⟩)/\M[F]? = some (.live ⟨.grow,27,3,s.2.2.2.2.map Book.c⟩)
def xy (G:List Deal) (F:Nat) (D:Nat) (r:oV) (x:Ex) (e:b4) (M:bs):Prop:=
  match r with
  | (.inl g)=>x = .ret/\a3 e 4 = .lsl D g.2.length 0 g.2.length/\a3 e 5 = a4 g.1/\M[D]? = some (.live ⟨.grow,27,3,g.2.map Book.c⟩)
  | (.inr g)=>x = .ext 0/\a3 e 6 = .lsl D g.2.2.2.length 0 g.2.2.2.length/\M[F]? = some (.live ⟨.box,27,3,[[a4 g.1,.sl none (g.2.1.map (cI .i64)),.sl none (g.2.2.1.map Tally.c)]]⟩)/\M[D]? = some (.live ⟨.grow,27,3,g.2.2.2.map Book.c⟩)
noncomputable def hF (D:List Deal):j6->Option (j6⊕oV):=fun (J,Y,aa,ab,O)=>
 if (decide (J < (D.length:Int)))=true then
  (rd D J).bind fun G=>
  (dx (Book.mk Y aa ab) G).bind fun r=>match r with
  | (.inl ah)=>
   if (ah != 0)=true then
    some (.inr (.inl (ah,O)))
   else
    none
  | (.inr (ac,ae,af))=>
   (qB 56 O [(Book.mk ac ae af)]).bind fun F=>
   some (.inl ((IntKind.i64.wrap (J + 1)),ac,ae,af,F))
 else
  some (.inr (.inr (Y,aa,ab,O)))
theorem r2 (J:List Deal) (G:Nat) (D:Nat) (ai:G≠D) (s:j6) (r:j6⊕oV) (h:hF J s=some r) (e:b4) (M:bs) (cO:rA J G D s e M):Ev (fun k=>(Hh (CN k) k (prune [2,6,12,13,14] e) M).bind fun q=>some q) (bQ (rA J G D) (xy J G D) r):=by
 obtain ⟨ba,aB,aC,aD,ab⟩:=s
 unfold hF at h
 obtain ⟨cG,cH,cJ,cK,cL,ap,aq⟩:=cO
 generalize N:prune [2,6,12,13,14] e=eb
 have cM:=bZ N.symm E cG
 have cN:=bZ N.symm E cH
 have cb:=bZ N.symm E cJ
 have a1:=bZ N.symm E cK
 have a2:=bZ N.symm E cL
 refine av (kx (dp a2 a1)<|Rn (hV (.loc G 1 0 0) cM (hV (.lsl D ab.length 0 ab.length) cN (hV (.sl none (J.map Deal.c)) cb (hV (a4 (J.length:Int)) a1 (hV (a4 ba) a2 (hN E hZ)))))) fun c8 cc a3 a5 cd a6 aM=>sN<|sq ?_)
 rcases aj h with ⟨ak,h⟩ | ⟨ak,h⟩
 ·obtain ⟨F,bb,h⟩:=ad h
  refine cT aM ak (xx<|sN<|sq<|bl<|av<|kx (kJ a5 a6 bb Deal.fl)<|kx (eE E E E) (ku (lG sb) fun ce am=>?_))
  have cf:=bS am ap
  have bd:=b6 ap
  have cg:=bS am aq
  have bf:=b6 aq
  have aN:ce[M.length]? = some (.live ⟨.box,132,6,[[a4 0,.int .i8 0,a4 0,a4 0,a4 0,a4 0]]⟩):=b2 am
  refine kw (dW E E aN E E ⟨E,ble E⟩ E E) fun I an=>?_
  have O:=a9 an bd cf
  have X:=a9 an bf cg
  have U:I[M.length]? = some (.live ⟨.box,132,6,[[a4 F.Day,.int .i8 F.Kind,a4 F.Tally,a4 F.From,a4 F.To,a4 F.Amount]]⟩):=bc an aN
  obtain ⟨bg,aE,h⟩:=ad h
  refine Rn (hA cc (hA a3 (hV (.loc M.length 1 0 0) E (hA a5 (hA cd (hA a6 hZ)))))) fun c9 ar aO ch aP aQ aR=>sN (av<|kx (cm ar O E E (ble E) E)<|kx (cm ch U E E (ble E) E) ?_)
  rcases bg with dI | ⟨ac,ae,af⟩
  ·refine kc (cl (v:=.tup [.agg [a4 0,.nils,.nils],a4 dI]) E E (b3 E (b3 E E)) E (zZ (Book.mk aB aC aD) F _ aE) nm) (be<|kx (eO E E)<|kx (eO E E) (ku (lG cy) fun ci ah=>?_))
   have cj:=bS ah O
   have aF:=b6 O
   have ck:=bS ah X
   have bh:=b6 X
   have cn:=bS ah U
   have bi:=b6 U
   have aS:ci[I.length]? = some (.live ⟨.box,27,3,[[a4 0,.nils,.nils]]⟩):=b2 ah
   refine kw (dW E E aS E E ⟨E,ble E⟩ E E) fun co Y=>?_
   have aG:=a9 Y aF cj
   have aH:=a9 Y bh ck
   have cV:=a9 Y bi cn
   have aI:co[I.length]? = some (.live ⟨.box,27,3,[[a4 0,.nils,.nils]]⟩):=bc Y aS
   refine be (Rn (hA ar (hA aO (hV (.loc I.length 1 0 0) E (hN E (hA aP (hA aQ (hA aR hZ))))))) fun cW bj bk bm aJ bn bo bq=>sN<|sq<|av<|kx (bp aJ)<|kx (gD E E)<|Rn (hA bj (hA bk (hA bm (hA aJ (hA bn (hA bo (hA bq (hN E hZ)))))))) fun cX aK aL br a7 a8 bT bU ay=>sN ?_)
   rcases aj h with ⟨au,h⟩ | ⟨au,h⟩
   ·refine cT ay au (av<|kx (bp aL)<|kx (bp a7)<|be<|be<|Rn (hV (.lsl D ab.length 0 ab.length) E (hN E hZ)) fun cY bV bW=>sN<|xx<|sR<|bR<|sR ?_)
    exact lr h ⟨E,bV,bW,aH⟩
   refine cF ay au (xx<|sN<|av<|kx (cm br aI E E (ble E) E)<|kw (dW aK E aG E E ⟨E,ble E⟩ E E) fun bX aw=>?_)
   have bY:bX[G]? = some (.live ⟨.box,27,3,[[a4 0,.nils,.nils]]⟩):=bc aw aG
   have cZ:=a9 aw (Ne.symm ai) aH
   have c0:=a9 aw (Ne.symm aF) aI
   refine Rn (hA aK (hA aL (hA a8 (hA bT (hA bU hZ))))) fun c1 b0 b1 c2 c3 c4=>sN (Rg<|kx (bp b1)<|kx (cm b0 bY E E (ble E) E) ?_)
   cases h
  refine kc (cl (v:=.tup [.agg [a4 ac,.sl (some 2) (ae.map (cI .i64)),.sl (some 80) (af.map Tally.c)],a4 0]) E E (b3 E (b3 E E)) E (zZ (Book.mk aB aC aD) F _ aE) nm) (be<|kx (eO E E)<|kx (eO E E) (ku (lG cy) fun b5 Z=>?_))
  have b7:=bS Z O
  have az:=b6 O
  have b8:=bS Z X
  have bt:=b6 X
  have b9:=bS Z U
  have bu:=b6 U
  have aT:b5[I.length]? = some (.live ⟨.box,27,3,[[a4 0,.nils,.nils]]⟩):=b2 Z
  refine kw (dW E E aT E E ⟨E,ble E⟩ E E) fun ca aa=>?_
  have aU:=a9 aa az b7
  have bw:=a9 aa bt b8
  have c5:=a9 aa bu b9
  have aV:ca[I.length]? = some (.live ⟨.box,27,3,[[a4 ac,.sl none (ae.map (cI .i64)),.sl none (af.map Tally.c)]]⟩):=bc aa aT
  refine be (Rn (hA ar (hA aO (hV (.loc I.length 1 0 0) E (hV (a4 0) E (hA aP (hA aQ (hA aR hZ))))))) fun c6 bx bz bA aW bB bC bD=>sN<|sq<|av<|kx (bp aW)<|kx (gD E E)<|Rn (hA bx (hA bz (hA bA (hA aW (hA bB (hA bC (hA bD (hV (.bool false) E hZ)))))))) fun cP aX bE bF cQ bG bH bI bJ=>sN<|cF bJ E<|xx<|sN<|av<|kx (cm bF aV E E (ble E) E)<|kw (dW aX E aU E E ⟨E,ble E⟩ E E) fun bK ax=>?_)
  have aY:bK[G]? = some (.live ⟨.box,27,3,[[a4 ac,.sl none (ae.map (cI .i64)),.sl none (af.map Tally.c)]]⟩):=bc ax aU
  have aZ:=a9 ax (Ne.symm ai) bw
  have cR:=a9 ax (Ne.symm az) aV
  obtain ⟨ao,bv,h⟩:=ad h
  refine Rn (hA aX (hA bE (hA bG (hA bH (hA bI hZ))))) fun cS a0 bL bM bO bP=>sN (Rg<|kx (bp bL)<|kx (cm a0 aY E E (ble E) E)<|kx (kh (b3 E E) E ⟨E,by decide⟩)<|kw (Dp E aZ E (DO (c:=Book.c) (xs:=[(Book.mk ac ae af)]) E) bv Book.fl (by decide)) fun cp aA=>?_)
  have cq:=a9 aA ai aY
  have cr:cp[D]? = some (.live ⟨.grow,27,3,ao.map Book.c⟩):=bc aA aZ
  refine be (Rn (hA a0 (hV (.lsl D ao.length 0 ao.length) E (hA bM (hA bO (hA bP hZ))))) fun cU ct cv cw cx cz=>bN<|sN<|Rg<|kx (cu cz E)<|be<|Rn (hA ct (hA cv (hA cw (hA cx (hN E hZ))))) fun c7 cA cB cC cD cE=>?_)
  exact jd h ⟨cA,cB,cC,cD,cE,cq,cr⟩
 refine cF aM ak (xx<|sE ?_)
 exact md h ⟨E,a3,ap,aq⟩
noncomputable def kN (D:Book) (F:List Deal):Option ((List Book)×Int):=
 (Lw (hF F) (0,D.Day,D.Cash,D.Tallies,([]:List Book))).bind fun r=>match r with
 | (.inl (J,O))=>
  some (O,J)
 | (.inr (aa,ab,ac,Y))=>
  some (Y,0)
def z2 (r:(List Book)×Int):AV:=.tup [.sl (some 27) (r.1.map Book.c),a4 r.2]
theorem Af (D:Book) (I:List Deal) (r:(List Book)×Int) (h:kN D I=some r):Ev (fun k=>CN k 90 [.agg [a4 D.Day,.sl none (D.Cash.map (cI .i64)),.sl none (D.Tallies.map Tally.c)],.sl none (I.map Deal.c)] []) (fun p=>cp p.2 p.1=z2 r):=by
 unfold kN at h
 refine Ev.enter (F:=fun k=>f90 (CN k) k) (fun k=>bH E Tryz.func90 E E E (by decide +kernel) (LD _ _)) (av (ku (NL E E ⟨E,E,by decide⟩) fun G ak=>?_))
 have ah:G[([]:bs).length]? = some (.live ⟨.box,27,3,[[a4 D.Day,.sl none (D.Cash.map (cI .i64)),.sl none (D.Tallies.map Tally.c)]]⟩):=b2 ak
 refine be (be<|Rn (hN E (hV (.loc ([]:bs).length 1 0 0) E hZ)) fun aO az aA=>sN<|av (ku (Ai (xs:=([]:List Book)) (c:=Book.c) E E (by decide)) fun am O=>?_))
 have Y:=bS O ah
 have U:=b6 ah
 have Z:am[G.length]? = some (.live ⟨.grow,27,3,([]:List Book).map Book.c⟩):=b2 O
 obtain ⟨aq,N,h⟩:=ad h
 refine be (Rn (hA az (hA aA (hV (.lsl G.length ([]:List Book).length 0 ([]:List Book).length) E hZ))) fun aM an ao ap=>sN<|sq<|av<|kx (bp an)<|kx (i2 Tryz.underlying28 E)<|be<|Rn (hA ao (hA ap (hN E (hN E (hV (a4 0) E hZ))))) fun aN aa ab ac ae af=>sN<|bl ?_)
 rcases aq with ⟨aB,aC⟩ | ⟨aD,aE,aF,X⟩
 ·refine Ev.loop (r2 I (([]:bs).length) G.length U) N ⟨aa,ab,ac,ae,af,Y,Z⟩ fun x aG aH J=>?_
  obtain ⟨rfl,ar,au,aw⟩:=J
  refine bR (sR ?_)
  exact ct h (bB ar (bB au bK)) (jP (hD (eh aw E Book.fl) (hD E ru)))
 refine Ev.loop (r2 I (([]:bs).length) G.length U) N ⟨aa,ab,ac,ae,af,Y,Z⟩ fun x aI aJ J=>?_
 obtain ⟨rfl,ax,aK,ay⟩:=J
 refine bE (sN<|av<|kx (bp ax)<|be<|be<|Rn (hV (.lsl G.length X.length 0 X.length) E (hV (a4 0) E hZ)) fun aL ai aj=>sN<|xx ?_)
 exact ct h (bB ai (bB aj bK)) (jP (hD (eh ay E Book.fl) (hD E ru)))
abbrev hR:=Int
abbrev mp:=Unit⊕Unit
def o6 (D:List Deal) (s:hR) (e:b4) (M:bs):Prop:=a3 e 5 = .sl none (D.map Deal.c)/\a3 e 6 = a4 (D.length:Int)/\a3 e 7 = a4 s
def uL (D:List Deal) (r:mp) (x:Ex) (e:b4) (M:bs):Prop:=
  match r with
  | (.inl g)=>x = .ret/\a3 e 2 = .bool false
  | (.inr g)=>x = .ext 0/\True
noncomputable def hH (F:List Deal):hR->Option (hR⊕mp):=fun D=>
 if (decide (D < (F.length:Int)))=true then
  (rd F D).bind fun G=>
  (kQ G).bind fun I=>
  if I=true then
   some (.inl (IntKind.i64.wrap (D + 1)))
  else
   some (.inr (.inl ()))
 else
  some (.inr (.inr ()))
theorem pf (F:List Deal) (s:hR) (r:hR⊕mp) (h:hH F s=some r) (e:b4) (M:bs) (N:o6 F s e M):Ev (fun k=>(HL (CN k) k (prune [5,6,7] e) M).bind fun q=>some q) (bQ (o6 F) (uL F) r):=by
 revert h N
 revert s
 intro aB h N
 unfold hH at h
 obtain ⟨aG,aH,ac⟩:=N
 generalize G:prune [5,6,7] e=aT
 have ae:=bZ G.symm E aG
 have O:=bZ G.symm E aH
 have U:=bZ G.symm E ac
 refine av (kx (dp U O)<|Rn (hV (.sl none (F.map Deal.c)) ae (hV (a4 (F.length:Int)) O (hV (a4 aB) U (hN E hZ)))) fun aJ X af Y Z=>sN<|sq ?_)
 rcases aj h with ⟨I,h⟩ | ⟨I,h⟩
 ·obtain ⟨D,aC,h⟩:=ad h
  refine cT Z I (xx<|sN<|sq<|bl<|av<|kx (kJ X Y aC Deal.fl)<|kx (eE E E E) (ku (lG sb) fun ah aD=>?_))
  have aa:ah[M.length]? = some (.live ⟨.box,132,6,[[a4 0,.int .i8 0,a4 0,a4 0,a4 0,a4 0]]⟩):=b2 aD
  refine kw (dW E E aa E E ⟨E,ble E⟩ E E) fun ai aE=>?_
  have ak:ai[M.length]? = some (.live ⟨.box,132,6,[[a4 D.Day,.int .i8 D.Kind,a4 D.Tally,a4 D.From,a4 D.To,a4 D.Amount]]⟩):=bc aE aa
  obtain ⟨am,aF,h⟩:=ad h
  refine Rn (hV (.loc M.length 1 0 0) E (hA X (hA af (hA Y hZ)))) fun aK an ao ap aq=>sN (av<|kx (cm an ak E E (ble E) E) (kc (cl (v:=.bool am) E E (b3 E E) E (wn D _ aF) nm)<|kx (eZ E)<|Rn (hA ao (hA ap (hA aq (hN E hZ)))) fun aL ar au aw ab=>sN ?_))
  rcases aj h with ⟨J,h⟩ | ⟨J,h⟩
  ·refine cF ab (nt J) (xx<|bN<|sN<|Rg<|kx (cu aw E)<|be<|Rn (hA ar (hA au (hN E hZ))) fun aI ax ay az=>?_)
   exact jd h ⟨ax,ay,az⟩
  refine cT ab (nt J) (av<|be<|Rn (hV (.bool false) E hZ) fun aM aA=>sN<|xx<|bR<|sR ?_)
  exact lr h ⟨E,aA⟩
 refine cF Z I (xx<|sE ?_)
 exact md h ⟨E,trivial⟩
noncomputable def l7 (D:List Deal):Option Bool:=
 (Lw (hH D) 0).bind fun r=>match r with
 | (.inl _)=>
  some false
 | (.inr _)=>
  some true
def wB (r:Bool):AV:=.bool r
theorem xD (D:List Deal) (r:Bool) (h:l7 D=some r):Ev (fun k=>CN k 89 [.sl none (D.map Deal.c)] []) (fun p=>cp p.2 p.1=wB r):=by
 unfold l7 at h
 obtain ⟨U,I,h⟩:=ad h
 refine Ev.enter (F:=fun k=>f89 (CN k) k) (fun k=>bH E Tryz.func89 E E E (by decide +kernel) (MY _ _)) (av<|be<|Rn (hN E hZ) fun ah Z=>sN<|sq<|av<|kx (bp Z)<|kx (i2 Tryz.underlying28 E)<|be<|Rn (hN E (hN E (hV (a4 0) E hZ))) fun ai J N O=>sN<|bl ?_)
 rcases U with _ | _
 ·refine Ev.loop (pf D) I ⟨J,N,O⟩ fun x aa ab G=>?_
  obtain ⟨rfl,X⟩:=G
  refine bR (sR ?_)
  exact ct h (bB X bK) E
 refine Ev.loop (pf D) I ⟨J,N,O⟩ fun x ac ae G=>?_
 obtain ⟨rfl,_⟩:=G
 refine bE (sN<|av<|be<|Rn (hV (.bool true) E hZ) fun af Y=>sN<|xx ?_)
 exact ct h (bB Y bK) E
noncomputable def hC (D:Book):Option (Int×(List Int)×(List Tally)):=
 (qB 8 ([]:List Int) D.Cash).bind fun G=>
 (qB 40 ([]:List Tally) D.Tallies).bind fun F=>
 some (D.Day,G,F)
def xX (r:Int×(List Int)×(List Tally)):AV:=.agg [a4 r.1,.sl (some 2) (r.2.1.map (cI .i64)),.sl (some 80) (r.2.2.map Tally.c)]
theorem j9 (D:Book) (r:Int×(List Int)×(List Tally)) (h:hC D=some r):Ev (fun k=>CN k 37 [.pt none [a4 D.Day,.sl none (D.Cash.map (cI .i64)),.sl none (D.Tallies.map Tally.c)]] []) (fun p=>cp p.2 p.1=xX r):=by
 unfold hC at h
 refine Ev.enter (F:=fun k=>f37 (CN k) k) (fun k=>bH E Tryz.func37 E E E (by decide +kernel) (LR _ _)) (av (ku (lG cy) fun O Y=>?_))
 have J:O[([]:bs).length]? = some (.live ⟨.box,27,3,[[a4 0,.nils,.nils]]⟩):=b2 Y
 obtain ⟨ae,N,h⟩:=ad h
 obtain ⟨Z,U,h⟩:=ad h
 refine Rn (hN E (hV (.loc ([]:bs).length 1 0 0) E hZ)) fun ah G I=>sN (sq<|Rd<|kf (bp G)<|kf (fd E)<|kf (cW E ⟨ble E,blt E⟩ E)<|kf (cr E E)<|kf (kh E E ⟨E,by decide⟩)<|kf (bp G)<|kf (fd E)<|kf (cW E ⟨ble E,blt E⟩ E)<|kf (cr E E)<|kf (NS (c:=(cI .i64)) (xs:=([]:List Int)) E (NC E) N (de _) (by decide))<|kf (kh E E ⟨E,by decide⟩)<|kf (bp G)<|kf (fd E)<|kf (cW E ⟨ble E,blt E⟩ E)<|kf (cr E E)<|kf (NS (c:=Tally.c) (xs:=([]:List Tally)) E (NC E) U Tally.fl (by decide))<|kf (gg cy (b3 (t6 E) (b3 (t6 E) (b3 (t6 E) E))) (gz ⟨E,ble E⟩ E E (gz ⟨E,ble E⟩ E E (gz ⟨E,ble E⟩ E E (dz E)))))<|fZ<|kw (yc I E J E E ⟨E,ble E⟩ E E) fun aa X=>?_)
 have ab:aa[([]:bs).length]? = some (.live ⟨.box,27,3,[[a4 D.Day,.sl (some 2) (ae.map (cI .i64)),.sl (some 80) (Z.map Tally.c)]]⟩):=bc X J
 refine Rn (hA I hZ) fun af ac=>sN (xx ?_)
 exact ct h (eC (ag:=true) (sz:=3) ⟨by kernel_rfl,by kernel_rfl,by kernel_rfl⟩ (cm ac ab E E (ble E) E) bK) E
end Go.Proofs.YtkdinadmheomfaaGreat
