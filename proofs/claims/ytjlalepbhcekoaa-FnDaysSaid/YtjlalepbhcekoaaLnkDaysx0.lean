/- Printed by a program of ours (ext.py). -/
import Derived.Test.YtjlalepbhcekoaaFnsDays
set_option linter.unusedVariables false
set_option linter.unusedSimpArgs false
set_option maxRecDepth 100000
set_option maxHeartbeats 20000000
namespace Go.Proofs.Ytjlalepbhcekoaa
open Go Go.Ab
structure Tally where
  Debtor:Int
  Holder:Int
  Cut:Int
  Amount:Int
  Left:Int
  deriving DecidableEq
def Tally.c (x:Tally):List AV:=[.int .i64 x.Debtor,.int .i64 x.Holder,.int .i64 x.Cut,.int .i64 x.Amount,.int .i64 x.Left]
theorem Tally.fl:Fl Tally.c 5:=fun _=>⟨rfl,rfl⟩
theorem Tally.flF:FlF Tally.c:=fun _=>rfl
structure Book where
  Day:Int
  Cash:List Int
  Tallies:List Tally
  deriving DecidableEq
def Book.c (x:Book):List AV:=[.int .i64 x.Day,.sl none (x.Cash.map (cI .i64)),.sl none (x.Tallies.map Tally.c)]
theorem Book.fl:Fl Book.c 3:=fun _=>⟨rfl,rfl⟩
structure Deal where
  Day:Int
  Kind:Int
  Tally:Int
  From:Int
  To:Int
  Amount:Int
  deriving DecidableEq
def Deal.c (x:Deal):List AV:=[.int .i64 x.Day,.int .i8 x.Kind,.int .i64 x.Tally,.int .i64 x.From,.int .i64 x.To,.int .i64 x.Amount]
theorem Deal.fl:Fl Deal.c 6:=fun _=>⟨rfl,rfl⟩
theorem Deal.flF:FlF Deal.c:=fun _=>rfl
structure L00Src where
  Code:List Int
  At:Int
  Seed:Int
  deriving DecidableEq
def L00Src.c (x:L00Src):List AV:=[.sl none (x.Code.map (cI .u8)),.int .i64 x.At,.int .u64 x.Seed]
theorem L00Src.fl:Fl L00Src.c 3:=fun _=>⟨rfl,rfl⟩
theorem co2:cx.P.cellsOf 2=1:=by kernel_rfl
theorem co49:cx.P.cellsOf 49=5:=by kernel_rfl
theorem nty27:nilTys cx.P 6 27=[0,3,50]:=by kernel_rfl
theorem zero101:zeroOf cx.P 101=[.nils]:=by kernel_rfl
theorem zero142:zeroOf cx.P 142=[.nils,.int .i64 0,.int .u64 0]:=by kernel_rfl
theorem zero2:zeroOf cx.P 2=[.int .i64 0]:=by kernel_rfl
theorem zero24:zeroOf cx.P 24=[.nils]:=by kernel_rfl
theorem zero27:zeroOf cx.P 27=[.int .i64 0,.nils,.nils]:=by kernel_rfl
theorem zero36:zeroOf cx.P 36=[.int .i64 0,.int .i8 0,.int .i64 0,.int .i64 0,.int .i64 0,.int .i64 0]:=by kernel_rfl
theorem zero4:zeroOf cx.P 4=[.bool false]:=by kernel_rfl
theorem zero49:zeroOf cx.P 49=[.int .i64 0,.int .i64 0,.int .i64 0,.int .i64 0,.int .i64 0]:=by kernel_rfl
noncomputable def slices_Clone_Tally (a1:List Tally):Option ((List Tally)):=
 (app 40 ([]:List Tally) a1).bind fun x8=>
 some x8
def slices_Clone_Tally_enc (r:(List Tally)):AV:=.sl (some 49) (r.map Tally.c)
theorem slices_Clone_Tally_ok (a1:List Tally) (r:(List Tally)) (h:slices_Clone_Tally a1=some r):Ev (fun k=>CN k 145 [.sl none (a1.map Tally.c)] []) (fun p=>rRes p.2 p.1=slices_Clone_Tally_enc r):=by
  refine Ev.prim E ?_
  by_cases hn:a1=[]
  · subst hn
    have e:r=[]:=by simpa [slices_Clone_Tally,app] using h.symm
    subst e
    exact Ev.nilBoth (by kernel_rfl) (by kernel_rfl)
  · have hp:0 < a1.length:=List.length_pos_iff.2 hn
    refine Ev.nilNot (by simpa using hn) ?_
    unfold slices_Clone_Tally at h
    obtain ⟨x8,J,h⟩:=bind_some h
    refine Ev.enter0 (F:=fun _=>f145 (CN0 2) 2) (fun k=>callN_eq E Try.func145 E E E (by decide +kernel) (f145_eq _ _)) (sq (Rg (kx (mvO E) (Rn (hN E hZ) fun e1 h3=>sN (sq (sq (Rg (kx (mvO h3) (kx (bNilF Try.underlying25 hp E E) (Rn (hA h3 (hV (.bool false) E hZ)) fun e4 h6 h7=>sN (cF h7 E (xx (sN (sq (Rg (kx (litI E E ⟨E,by decide⟩) (kx (mvO h6) (kx (aiT (c:=Tally.c) (xs:=([]:List Tally)) E (elS E) J Tally.fl (by decide)) (kx (mvO E) (Rn (hN E hZ) fun Y O=>sN (xx ?_)))))))))))))))))))))
    obtain rfl:=si h
    exact eR (resT O res0) E
noncomputable def slices_Clone_int64 (a1:List Int):Option ((List Int)):=
 (app 8 ([]:List Int) a1).bind fun x8=>
 some x8
def slices_Clone_int64_enc (r:(List Int)):AV:=.sl (some 2) (r.map (cI .i64))
theorem slices_Clone_int64_ok (a1:List Int) (r:(List Int)) (h:slices_Clone_int64 a1=some r):Ev (fun k=>CN k 144 [.sl none (a1.map (cI .i64))] []) (fun p=>rRes p.2 p.1=slices_Clone_int64_enc r):=by
  refine Ev.prim E ?_
  by_cases hn:a1=[]
  · subst hn
    have e:r=[]:=by simpa [slices_Clone_int64,app] using h.symm
    subst e
    exact Ev.nilBoth (by kernel_rfl) (by kernel_rfl)
  · have hp:0 < a1.length:=List.length_pos_iff.2 hn
    refine Ev.nilNot (by simpa using hn) ?_
    unfold slices_Clone_int64 at h
    obtain ⟨x8,J,h⟩:=bind_some h
    refine Ev.enter0 (F:=fun _=>f144 (CN0 2) 2) (fun k=>callN_eq E Try.func144 E E E (by decide +kernel) (f144_eq _ _)) (sq (Rg (kx (mvO E) (Rn (hN E hZ) fun e1 h3=>sN (sq (sq (Rg (kx (mvO h3) (kx (bNilF Try.underlying24 hp E E) (Rn (hA h3 (hV (.bool false) E hZ)) fun e4 h6 h7=>sN (cF h7 E (xx (sN (sq (Rg (kx (litI E E ⟨E,by decide⟩) (kx (mvO h6) (kx (aiT (c:=(cI .i64)) (xs:=([]:List Int)) E (elS E) J (cI_fl _) (by decide)) (kx (mvO E) (Rn (hN E hZ) fun Y O=>sN (xx ?_)))))))))))))))))))))
    obtain rfl:=si h
    exact eR (resT O res0) E
noncomputable def spec_l00Min (a1:Int) (a2:Int):Option Int:=
 if (decide (a1 < a2))=true then
  some a1
 else
  some a2
def spec_l00Min_enc (r:Int):AV:=.int .i64 r
theorem spec_l00Min_ok (a1:Int) (a2:Int) (r:Int) (h:spec_l00Min a1 a2=some r):Ev (fun k=>CN k 143 [.int .i64 a1,.int .i64 a2] []) (fun p=>rRes p.2 p.1=spec_l00Min_enc r):=by
 unfold spec_l00Min at h
 refine Ev.enter (F:=fun k=>f143 (CN k) k) (fun k=>callN_eq E Try.func143 E E E (by decide +kernel) (f143_eq _ _)) (sq (Rg (kx (mvO E) (Rn (hN E (hN E hZ)) fun e1 h3 h4=>sN (sq (sq (Rg (kx (mvO h3) (kx (mvO h4) (kx (bLss E E) (Rn (hA h3 (hA h4 (hN E hZ))) fun e5 h7 h8 h9=>sN ?_)))))))))))
 rcases ite_some h with ⟨J,h⟩ | ⟨J,h⟩
 ·refine cT h9 J (sq (Rg (kx (mvO h7) (kx (mvO E) (Rn (hN E hZ) fun aa O=>sN (xx (sR ?_)))))))
  obtain rfl:=si h
  exact eR (resT O res0) E
 refine cF h9 J (xx (sN (sq (Rg (kx (mvO h8) (kx (mvO E) (Rn (hN E hZ) fun ab Y=>sN (xx ?_))))))))
 obtain rfl:=si h
 exact eR (resT Y res0) E
noncomputable def spec_l00Max (a1:Int) (a2:Int):Option Int:=
 if (decide (a1 > a2))=true then
  some a1
 else
  some a2
def spec_l00Max_enc (r:Int):AV:=.int .i64 r
theorem spec_l00Max_ok (a1:Int) (a2:Int) (r:Int) (h:spec_l00Max a1 a2=some r):Ev (fun k=>CN k 142 [.int .i64 a1,.int .i64 a2] []) (fun p=>rRes p.2 p.1=spec_l00Max_enc r):=by
 unfold spec_l00Max at h
 refine Ev.enter (F:=fun k=>f142 (CN k) k) (fun k=>callN_eq E Try.func142 E E E (by decide +kernel) (f142_eq _ _)) (sq (Rg (kx (mvO E) (Rn (hN E (hN E hZ)) fun e1 h3 h4=>sN (sq (sq (Rg (kx (mvO h3) (kx (mvO h4) (kx (bGtr E E) (Rn (hA h3 (hA h4 (hN E hZ))) fun e5 h7 h8 h9=>sN ?_)))))))))))
 rcases ite_some h with ⟨J,h⟩ | ⟨J,h⟩
 ·refine cT h9 J (sq (Rg (kx (mvO h7) (kx (mvO E) (Rn (hN E hZ) fun aa O=>sN (xx (sR ?_)))))))
  obtain rfl:=si h
  exact eR (resT O res0) E
 refine cF h9 J (xx (sN (sq (Rg (kx (mvO h8) (kx (mvO E) (Rn (hN E hZ) fun ab Y=>sN (xx ?_))))))))
 obtain rfl:=si h
 exact eR (resT Y res0) E
noncomputable def spec_l00In (a1:Int) (a2:Int) (a3:Int):Option Bool:=
 if (decide (a1≥a2))=true then
  some (decide (a1≤a3))
 else
  some false
def spec_l00In_enc (r:Bool):AV:=.bool r
theorem spec_l00In_ok (a1:Int) (a2:Int) (a3:Int) (r:Bool) (h:spec_l00In a1 a2 a3=some r):Ev (fun k=>CN k 90 [.int .i64 a1,.int .i64 a2,.int .i64 a3] []) (fun p=>rRes p.2 p.1=spec_l00In_enc r):=by
 unfold spec_l00In at h
 refine Ev.enter (F:=fun k=>f90 (CN k) k) (fun k=>callN_eq E Try.func90 E E E (by decide +kernel) (f90_eq _ _)) (sq (Rg (kx (mvO E) (Rn (hN E (hN E (hN E hZ))) fun e1 h3 h4 h5=>sN (sq (Rg (kx (mvO h3) (kx (mvO h4) (kx (bGeq E E) (kx (mvO E) ?_))))))))))
 rcases ite_some h with ⟨J,h⟩ | ⟨J,h⟩
 ·refine kx (guT E J (mvO h3)) (kx (guT E J (mvO h5)) (kx (guT E J (bLeq E E)) (kx (pkT E J E) (kx (mvO E) (Rn (hN E hZ) fun e7 h9=>sN (xx ?_))))))
  obtain rfl:=si h
  exact eR (resT h9 res0) E
 refine kx (gsT E J) (kx (gsT E J) (kx (gsT E J) (kx (pkF E J E) (kx (mvO E) (Rn (hV (.bool false) E hZ) fun Y O=>sN (xx ?_))))))
 obtain rfl:=si h
 exact eR (resT O res0) E
noncomputable def spec_l02Person (a1:Int) (a2:Int):Option Bool:=
 (spec_l00In a2 0 (IntKind.i64.wrap (a1 - 1))).bind fun r6=>
 some r6
def spec_l02Person_enc (r:Bool):AV:=.bool r
theorem spec_l02Person_ok (a1:Int) (a2:Int) (r:Bool) (h:spec_l02Person a1 a2=some r):Ev (fun k=>CN k 112 [.int .i64 a1,.int .i64 a2] []) (fun p=>rRes p.2 p.1=spec_l02Person_enc r):=by
 unfold spec_l02Person at h
 obtain ⟨r6,J,h⟩:=bind_some h
 refine Ev.enter (F:=fun k=>f112 (CN k) k) (fun k=>callN_eq E Try.func112 E E E (by decide +kernel) (f112_eq _ _)) (sq (Rg (kx (mvO E) (Rn (hN E (hN E hZ)) fun e1 h3 h4=>sN (sq (Rg (kx (mvO h4) (kx (mvO h3) (kx (bSub E E) (kc (cl (v:=.bool r6) E E (cns E (cns E (cns E E))) E (spec_l00In_ok a2 0 (IntKind.i64.wrap (a1 - 1)) _ J) nm) (kx (mvO E) (Rn (hN E hZ) fun e7 h9=>sN (xx ?_)))))))))))))
 obtain rfl:=si h
 exact eR (resT h9 res0) E
def spec_l07Refused_c1_Q (a1:Book) (a2:Deal) (r:Unit⊕Bool) (q:Out):Prop:=
  match r with
  | (.inl g)=>q.1 = .ret∧eget q.2.1 4 = .int .i64 2
  | (.inr g)=>q.1 = .nrm∧eget q.2.1 0 = .pt none [.int .i64 a1.Day,.sl none (a1.Cash.map (cI .i64)),.sl none (a1.Tallies.map Tally.c)]∧eget q.2.1 1 = .pt none [.int .i64 a2.Day,.int .i8 a2.Kind,.int .i64 a2.Tally,.int .i64 a2.From,.int .i64 a2.To,.int .i64 a2.Amount]∧eget q.2.1 55 = .bool g
def spec_l07Refused_c2_Q (a1:Book) (a2:Deal) (J:Tally) (r:Unit⊕Unit) (q:Out):Prop:=
  match r with
  | (.inl g)=>q.1 = .ret∧eget q.2.1 4 = .int .i64 4
  | (.inr g)=>q.1 = .nrm∧eget q.2.1 0 = .pt none [.int .i64 a1.Day,.sl none (a1.Cash.map (cI .i64)),.sl none (a1.Tallies.map Tally.c)]∧eget q.2.1 1 = .pt none [.int .i64 a2.Day,.int .i8 a2.Kind,.int .i64 a2.Tally,.int .i64 a2.From,.int .i64 a2.To,.int .i64 a2.Amount]∧eget q.2.1 6 = .pt none [.int .i64 J.Debtor,.int .i64 J.Holder,.int .i64 J.Cut,.int .i64 J.Amount,.int .i64 J.Left]∧eget q.2.1 136 = .bool (decide (a2.Amount > J.Left))
def spec_l07Refused_c3_Q (a1:Book) (a2:Deal) (J:Tally) (g:Bool) (q:Out):Prop:=q.1 = .nrm∧eget q.2.1 0 = .pt none [.int .i64 a1.Day,.sl none (a1.Cash.map (cI .i64)),.sl none (a1.Tallies.map Tally.c)]∧eget q.2.1 1 = .pt none [.int .i64 a2.Day,.int .i8 a2.Kind,.int .i64 a2.Tally,.int .i64 a2.From,.int .i64 a2.To,.int .i64 a2.Amount]∧eget q.2.1 6 = .pt none [.int .i64 J.Debtor,.int .i64 J.Holder,.int .i64 J.Cut,.int .i64 J.Amount,.int .i64 J.Left]∧eget q.2.1 158 = .bool g
noncomputable def spec_l07Refused (a1:Book) (a2:Deal):Option Int:=
 if (decide (a2.Day < a1.Day))=true then
  some 4
 else
  (((spec_l02Person (a1.Cash.length:Int) a2.From).bind fun ab=>
  if ab=true then
   (spec_l02Person (a1.Cash.length:Int) a2.To).bind fun ac=>
   if ac=true then
    if (a2.Kind != 1)=true then
     if (decide (a2.Tally≥(a1.Tallies.length:Int)))=true then
      some (.inl ())
     else
      some (.inr (decide (a2.Tally≥(a1.Tallies.length:Int))))
    else
     some (.inr false)
   else
    some (.inl ())
  else
   some (.inl ()):Option (Unit⊕Bool))).bind fun r=>match r with
  | (.inl _)=>
   some 2
  | (.inr ae)=>
   if (a2.Kind==1)=true then
    if (a2.From==a2.To)=true then
     some 4
    else
     if ((a1.Tallies.length:Int)==40)=true then
      some 3
     else
      some 0
   else
    (rd a1.Tallies a2.Tally).bind fun J=>
    ((if (a2.Kind==2)=true then
     if (a2.From==a2.To)=true then
      some (.inl ())
     else
      if (a2.Kind != 3)=true then
       if (a2.From != J.Holder)=true then
        some (.inl ())
       else
        if (J.Left==0)=true then
         some (.inl ())
        else
         if (decide (a2.Amount > J.Left))=true then
          some (.inl ())
         else
          some (.inr ())
      else
       if (J.Left==0)=true then
        some (.inl ())
       else
        if (decide (a2.Amount > J.Left))=true then
         some (.inl ())
        else
         some (.inr ())
    else
     if (a2.Kind != 3)=true then
      if (a2.From != J.Holder)=true then
       some (.inl ())
      else
       if (J.Left==0)=true then
        some (.inl ())
       else
        if (decide (a2.Amount > J.Left))=true then
         some (.inl ())
        else
         some (.inr ())
     else
      if (J.Left==0)=true then
       some (.inl ())
      else
       if (decide (a2.Amount > J.Left))=true then
        some (.inl ())
       else
        some (.inr ()):Option (Unit⊕Unit))).bind fun r=>match r with
    | (.inl _)=>
     some 4
    | (.inr _)=>
     (if (a2.Kind==3)=true then
      (rd a1.Cash J.Debtor).bind fun O=>
      some (decide (O < a2.Amount))
     else
      some false).bind fun Y=>
     if Y=true then
      some 8
     else
      if (a2.Kind==3)=true then
       (rd a1.Cash J.Holder).bind fun aa=>
       if (decide ((IntKind.i64.wrap (aa + a2.Amount)) > 100000000))=true then
        some 3
       else
        some 0
      else
       some 0
def spec_l07Refused_enc (r:Int):AV:=.int .i64 r
theorem spec_l07Refused_ok (a1:Book) (a2:Deal) (r:Int) (h:spec_l07Refused a1 a2=some r):Ev (fun k=>CN k 113 [.pt none [.int .i64 a1.Day,.sl none (a1.Cash.map (cI .i64)),.sl none (a1.Tallies.map Tally.c)],.pt none [.int .i64 a2.Day,.int .i8 a2.Kind,.int .i64 a2.Tally,.int .i64 a2.From,.int .i64 a2.To,.int .i64 a2.Amount]] []) (fun p=>rRes p.2 p.1=spec_l07Refused_enc r):=by
 unfold spec_l07Refused at h
 refine Ev.enter (F:=fun k=>f113 (CN k) k) (fun k=>callN_eq E Try.func113 E E E (by decide +kernel) (f113_eq _ _)) (sq (Rg (kx (mvO E) (Rn (hN E (hN E hZ)) fun e1 h3 h4=>sN (sq (Rg (kx (mvO h3) (kx (ncP E) (kx (faP E ⟨ble E,blt E⟩ E) (kx (ldP E E) (kx (lnS Try.underlying24 E) (kx (mvO E) (Rn (hA h3 (hA h4 (hN E hZ))) fun e5 h7 h8 h9=>sN (sq (sq (Rd (kf (mvO h8) (kf (ncP E) (kf (faP E ⟨ble E,blt E⟩ E) (kf (ldP E E) (kf (mvO h7) (kf (ncP E) (kf (faP E ⟨ble E,blt E⟩ E) (kf (ldP E E) (kf (bLss E E) (fZ (Rn (hA h7 (hA h8 (hA h9 (hN E hZ)))) fun fj aL aC bG bH=>sN ?_)))))))))))))))))))))))))))
 rcases ite_some h with ⟨aM,h⟩ | ⟨aM,h⟩
 ·refine cT bH aM (sq (Rg (kx (mvO E) (Rn (hV (.int .i64 4) E hZ) fun fk dl=>sN (xx (sR ?_))))))
  obtain rfl:=si h
  exact eR (resT dl res0) E
 obtain ⟨bb,bv,h⟩:=bind_some h
 refine cF bH aM (xx (sN (sq ?_)))
 refine Ev.cut (Q1:=spec_l07Refused_c1_Q a1 a2 bb) (by
     have h:=bv
     obtain ⟨dm,bP,h⟩:=bind_some h
     refine sq (Rd (kf (mvO bG) (kf (mvO aC) (kf (ncP E) (kf (faP E ⟨ble E,blt E⟩ E) (kf (ldP E E) (fc (cl (v:=.bool dm) E E (cns E (cns E E)) E (spec_l02Person_ok (a1.Cash.length:Int) a2.From _ bP) nm) (kf (uNot E) (kf (mvO E) ?_)))))))))
     rcases ite_some h with ⟨aw,h⟩ | ⟨aw,h⟩
     ·obtain ⟨dn,bS,h⟩:=bind_some h
      refine kf (guF E (congrArg Bool.not aw) (mvO bG)) (kf (guF E (congrArg Bool.not aw) (mvO aC)) (kf (guF E (congrArg Bool.not aw) (ncP E)) (kf (guF E (congrArg Bool.not aw) (faP E ⟨ble E,blt E⟩ E)) (kf (guF E (congrArg Bool.not aw) (ldP E E)) (fc (Ev.guF E (congrArg Bool.not aw) (cl (v:=.bool dn) E E (cns E (cns E E)) E (spec_l02Person_ok (a1.Cash.length:Int) a2.To _ bS) nm)) (kf (guF E (congrArg Bool.not aw) (uNot E)) (kf (pkF E (congrArg Bool.not aw) E) (kf (mvO E) ?_))))))))
      rcases ite_some h with ⟨aq,h⟩ | ⟨aq,h⟩
      ·refine kf (guF E (congrArg Bool.not aq) (mvO aC)) (kf (guF E (congrArg Bool.not aq) (ncP E)) (kf (guF E (congrArg Bool.not aq) (faP E ⟨ble E,blt E⟩ E)) (kf (guF E (congrArg Bool.not aq) (ldP E E)) (kf (guF E (congrArg Bool.not aq) (bNeq E E)) (kf (guF E (congrArg Bool.not aq) (mvO E)) ?_)))))
       rcases ite_some h with ⟨ah,h⟩ | ⟨ah,h⟩
       ·refine kf (guT E ah (mvO aC)) (kf (guT E ah (ncP E)) (kf (guT E ah (faP E ⟨ble E,blt E⟩ E)) (kf (guT E ah (ldP E E)) (kf (guT E ah (mvO aL)) (kf (guT E ah (ncP E)) (kf (guT E ah (faP E ⟨ble E,blt E⟩ E)) (kf (guT E ah (ldP E E)) (kf (guT E ah (lnS Try.underlying25 E)) (kf (guT E ah (bGeq E E)) (kf (guF E (congrArg Bool.not aq) (pkT E ah E)) (kf (pkF E (congrArg Bool.not aq) E) (fZ (Rn (hA aL (hA aC (hN E hZ))) fun fm dp dq bf=>sN ?_)))))))))))))
        rcases ite_some h with ⟨aN,h⟩ | ⟨aN,h⟩
        ·refine cT bf aN (sq (Rg (kx (mvO E) (Rn (hV (.int .i64 2) E hZ) fun fo dt=>sN (xx ?_)))))
         obtain rfl:=si h
         exact kd (show spec_l07Refused_c1_Q a1 a2 _ _ from ⟨E,dt⟩)
        refine cF bf aN (xx ?_)
        obtain rfl:=si h
        exact kd (show spec_l07Refused_c1_Q a1 a2 _ _ from ⟨E,dp,dq,bf⟩)
       refine kf (gsT E ah) (kf (gsT E ah) (kf (gsT E ah) (kf (gsT E ah) (kf (gsT E ah) (kf (gsT E ah) (kf (gsT E ah) (kf (gsT E ah) (kf (gsT E ah) (kf (gsT E ah) (kf (guF E (congrArg Bool.not aq) (pkF E ah E)) (kf (pkF E (congrArg Bool.not aq) E) (fZ (Rn (hA aL (hA aC (hV (.bool false) E hZ))) fun fq du dw bI=>sN (cF bI E (xx ?_)))))))))))))))
       obtain rfl:=si h
       exact kd (show spec_l07Refused_c1_Q a1 a2 _ _ from ⟨E,du,dw,bI⟩)
      refine kf (gsF E (congrArg Bool.not aq)) (kf (gsF E (congrArg Bool.not aq)) (kf (gsF E (congrArg Bool.not aq)) (kf (gsF E (congrArg Bool.not aq)) (kf (gsF E (congrArg Bool.not aq)) (kf (gsF E (congrArg Bool.not aq)) (kf (gsU E) (kf (gsU E) (kf (gsU E) (kf (gsU E) (kf (gsU E) (kf (gsU E) (kf (gsU E) (kf (gsU E) (kf (gsU E) (kf (gsU E) (kf (gsF E (congrArg Bool.not aq)) (kf (pkT E (congrArg Bool.not aq) E) (fZ (Rn (hA aL (hA aC (hV (.bool true) E hZ))) fun ft fu fw dx=>sN (cT dx E (sq (Rg (kx (mvO E) (Rn (hV (.int .i64 2) E hZ) fun fA dz=>sN (xx ?_)))))))))))))))))))))))))
      obtain rfl:=si h
      exact kd (show spec_l07Refused_c1_Q a1 a2 _ _ from ⟨E,dz⟩)
     refine kf (gsF E (congrArg Bool.not aw)) (kf (gsF E (congrArg Bool.not aw)) (kf (gsF E (congrArg Bool.not aw)) (kf (gsF E (congrArg Bool.not aw)) (kf (gsF E (congrArg Bool.not aw)) (fc (Ev.gsF E (congrArg Bool.not aw)) (kf (gsF E (congrArg Bool.not aw)) (kf (pkT E (congrArg Bool.not aw) E) (kf (mvO E) (kf (gsF E E) (kf (gsF E E) (kf (gsF E E) (kf (gsF E E) (kf (gsF E E) (kf (gsF E E) (kf (gsU E) (kf (gsU E) (kf (gsU E) (kf (gsU E) (kf (gsU E) (kf (gsU E) (kf (gsU E) (kf (gsU E) (kf (gsU E) (kf (gsU E) (kf (gsF E E) (kf (pkT E E E) (fZ (Rn (hA aL (hA aC (hV (.bool true) E hZ))) fun fB fC fD dA=>sN (cT dA E (sq (Rg (kx (mvO E) (Rn (hV (.int .i64 2) E hZ) fun fE dC=>sN (xx ?_))))))))))))))))))))))))))))))))))
     obtain rfl:=si h
     exact kd (show spec_l07Refused_c1_Q a1 a2 _ _ from ⟨E,dC⟩)) ?_
 rcases bb with _ | fF
 ·intro x fG fH bT
  obtain ⟨rfl,dD⟩:=bT
  refine sR ?_
  obtain rfl:=si h
  exact eR (resT dD res0) E
 intro x fI fJ bw
 obtain ⟨rfl,dE,bJ,fK⟩:=bw
 refine sN (sq (sq (Rg (kx (mvO bJ) (kx (ncP E) (kx (faP E ⟨ble E,blt E⟩ E) (kx (ldP E E) (kx (bEql E E) (Rn (hV (.pt none [.int .i64 a1.Day,.sl none (a1.Cash.map (cI .i64)),.sl none (a1.Tallies.map Tally.c)]) dE (hV (.pt none [.int .i64 a2.Day,.int .i8 a2.Kind,.int .i64 a2.Tally,.int .i64 a2.From,.int .i64 a2.To,.int .i64 a2.Amount]) bJ (hN E hZ))) fun fL bi ba bK=>sN ?_)))))))))
 rcases ite_some h with ⟨aO,h⟩ | ⟨aO,h⟩
 ·refine cT bK aO (sq (sq (Rd (kf (mvO ba) (kf (ncP E) (kf (faP E ⟨ble E,blt E⟩ E) (kf (ldP E E) (kf (mvO ba) (kf (ncP E) (kf (faP E ⟨ble E,blt E⟩ E) (kf (ldP E E) (kf (bEql E E) (fZ (Rn (hA bi (hN E hZ)) fun fM dF bL=>sN ?_))))))))))))))
  rcases ite_some h with ⟨aP,h⟩ | ⟨aP,h⟩
  ·refine cT bL aP (sq (Rg (kx (mvO E) (Rn (hV (.int .i64 4) E hZ) fun fN dG=>sN (xx (sR (sR ?_)))))))
   obtain rfl:=si h
   exact eR (resT dG res0) E
  refine cF bL aP (xx (sN (sq (sq (Rg (kx (mvO dF) (kx (ncP E) (kx (faP E ⟨ble E,blt E⟩ E) (kx (ldP E E) (kx (lnS Try.underlying25 E) (kx (bEql E E) (Rn (hN E hZ) fun fO bM=>sN ?_))))))))))))
  rcases ite_some h with ⟨aR,h⟩ | ⟨aR,h⟩
  ·refine cT bM aR (sq (Rg (kx (mvO E) (Rn (hV (.int .i64 3) E hZ) fun fP dH=>sN (xx (sR (sR ?_)))))))
   obtain rfl:=si h
   exact eR (resT dH res0) E
  refine cF bM aR (xx (sN (sq (Rg (kx (mvO E) (Rn (hV (.int .i64 0) E hZ) fun fQ dI=>sN (xx (sR ?_))))))))
  obtain rfl:=si h
  exact eR (resT dI res0) E
 obtain ⟨ai,bU,h⟩:=bind_some h
 obtain ⟨bj,bz,h⟩:=bind_some h
 refine cF bK aO (xx (sN (sq (Rd (kf (mvO bi) (kf (ncP E) (kf (faP E ⟨ble E,blt E⟩ E) (kf (ldP E E) (kf (mvO ba) (kf (ncP E) (kf (faP E ⟨ble E,blt E⟩ E) (kf (ldP E E) (kf (ixS E E bU Tally.fl) (kf (mvO E) (fZ (Rn (hA bi (hA ba (hN E hZ))) fun fR aB az aA=>sN (sq ?_)))))))))))))))))
 refine Ev.cut (Q1:=spec_l07Refused_c2_Q a1 a2 ai bj) (by
     have h:=bz
     refine sq (Rd (kf (mvO az) (kf (ncP E) (kf (faP E ⟨ble E,blt E⟩ E) (kf (ldP E E) (kf (bEql E E) (kf (mvO E) ?_)))))))
     rcases ite_some h with ⟨ao,h⟩ | ⟨ao,h⟩
     ·refine kf (guT E ao (mvO az)) (kf (guT E ao (ncP E)) (kf (guT E ao (faP E ⟨ble E,blt E⟩ E)) (kf (guT E ao (ldP E E)) (kf (guT E ao (mvO az)) (kf (guT E ao (ncP E)) (kf (guT E ao (faP E ⟨ble E,blt E⟩ E)) (kf (guT E ao (ldP E E)) (kf (guT E ao (bEql E E)) (kf (pkT E ao E) (kf (mvO E) ?_))))))))))
      rcases ite_some h with ⟨au,h⟩ | ⟨au,h⟩
      ·refine kf (gsF E au) (kf (gsF E au) (kf (gsF E au) (kf (gsF E au) (kf (gsF E au) (kf (gsF E au) (kf (gsU E) (kf (gsU E) (kf (gsU E) (kf (gsU E) (kf (gsU E) (kf (gsU E) (kf (gsU E) (kf (gsU E) (kf (gsU E) (kf (gsF E au) (kf (pkT E au E) (kf (mvO E) (kf (gsF E E) (kf (gsF E E) (kf (gsF E E) (kf (gsF E E) (kf (gsF E E) (kf (pkT E E E) (kf (mvO E) (kf (gsF E E) (kf (gsF E E) (kf (gsF E E) (kf (gsF E E) (kf (gsF E E) (kf (gsF E E) (kf (gsF E E) (kf (gsF E E) (kf (gsF E E) (kf (pkT E E E) (fZ (Rn (hA aB (hA az (hA aA (hV (.bool true) E hZ)))) fun dJ dK dL dM bV=>sN (cT bV E (sq (Rg (kx (mvO E) (Rn (hV (.int .i64 4) E hZ) fun dN bW=>sN (xx ?_))))))))))))))))))))))))))))))))))))))))))
       obtain rfl:=si h
       exact kd (show spec_l07Refused_c2_Q a1 a2 ai _ _ from ⟨E,bW⟩)
      refine kf (guF E au (mvO az)) (kf (guF E au (ncP E)) (kf (guF E au (faP E ⟨ble E,blt E⟩ E)) (kf (guF E au (ldP E E)) (kf (guF E au (bNeq E E)) (kf (guF E au (mvO E)) ?_)))))
      rcases ite_some h with ⟨Y,h⟩ | ⟨Y,h⟩
      ·refine kf (guT E Y (mvO az)) (kf (guT E Y (ncP E)) (kf (guT E Y (faP E ⟨ble E,blt E⟩ E)) (kf (guT E Y (ldP E E)) (kf (guT E Y (mvO aA)) (kf (guT E Y (ncP E)) (kf (guT E Y (faP E ⟨ble E,blt E⟩ E)) (kf (guT E Y (ldP E E)) (kf (guT E Y (bNeq E E)) (kf (guF E au (pkT E Y E)) (kf (pkF E au E) (kf (mvO E) ?_)))))))))))
       rcases ite_some h with ⟨ax,h⟩ | ⟨ax,h⟩
       ·refine kf (gsF E ax) (kf (gsF E ax) (kf (gsF E ax) (kf (gsF E ax) (kf (gsF E ax) (kf (pkT E ax E) (kf (mvO E) (kf (gsF E E) (kf (gsF E E) (kf (gsF E E) (kf (gsF E E) (kf (gsF E E) (kf (gsF E E) (kf (gsF E E) (kf (gsF E E) (kf (gsF E E) (kf (pkT E E E) (fZ (Rn (hA aB (hA az (hA aA (hV (.bool true) E hZ)))) fun dO dP dQ dR bX=>sN (cT bX E (sq (Rg (kx (mvO E) (Rn (hV (.int .i64 4) E hZ) fun dS bY=>sN (xx ?_))))))))))))))))))))))))
        obtain rfl:=si h
        exact kd (show spec_l07Refused_c2_Q a1 a2 ai _ _ from ⟨E,bY⟩)
       refine kf (guF E ax (mvO aA)) (kf (guF E ax (ncP E)) (kf (guF E ax (faP E ⟨ble E,blt E⟩ E)) (kf (guF E ax (ldP E E)) (kf (guF E ax (bEql E E)) (kf (pkF E ax E) (kf (mvO E) ?_))))))
       rcases ite_some h with ⟨aa,h⟩ | ⟨aa,h⟩
       ·refine kf (gsF E aa) (kf (gsF E aa) (kf (gsF E aa) (kf (gsF E aa) (kf (gsF E aa) (kf (gsF E aa) (kf (gsF E aa) (kf (gsF E aa) (kf (gsF E aa) (kf (pkT E aa E) (fZ (Rn (hA aB (hA az (hA aA (hV (.bool true) E hZ)))) fun dT dU dV dW bZ=>sN (cT bZ E (sq (Rg (kx (mvO E) (Rn (hV (.int .i64 4) E hZ) fun dX b7=>sN (xx ?_)))))))))))))))))
        obtain rfl:=si h
        exact kd (show spec_l07Refused_c2_Q a1 a2 ai _ _ from ⟨E,b7⟩)
       refine kf (guF E aa (mvO az)) (kf (guF E aa (ncP E)) (kf (guF E aa (faP E ⟨ble E,blt E⟩ E)) (kf (guF E aa (ldP E E)) (kf (guF E aa (mvO aA)) (kf (guF E aa (ncP E)) (kf (guF E aa (faP E ⟨ble E,blt E⟩ E)) (kf (guF E aa (ldP E E)) (kf (guF E aa (bGtr E E)) (kf (pkF E aa E) (fZ (Rn (hA aB (hA az (hA aA (hN E hZ)))) fun dY b8 b9 cb aS=>sN ?_)))))))))))
       rcases ite_some h with ⟨aD,h⟩ | ⟨aD,h⟩
       ·refine cT aS aD (sq (Rg (kx (mvO E) (Rn (hV (.int .i64 4) E hZ) fun dZ cd=>sN (xx ?_)))))
        obtain rfl:=si h
        exact kd (show spec_l07Refused_c2_Q a1 a2 ai _ _ from ⟨E,cd⟩)
       refine cF aS aD (xx ?_)
       obtain rfl:=si h
       exact kd (show spec_l07Refused_c2_Q a1 a2 ai _ _ from ⟨E,b8,b9,cb,aS⟩)
      refine kf (gsT E Y) (kf (gsT E Y) (kf (gsT E Y) (kf (gsT E Y) (kf (gsT E Y) (kf (gsT E Y) (kf (gsT E Y) (kf (gsT E Y) (kf (gsT E Y) (kf (guF E au (pkF E Y E)) (kf (pkF E au E) (kf (mvO E) (kf (guF E E (mvO aA)) (kf (guF E E (ncP E)) (kf (guF E E (faP E ⟨ble E,blt E⟩ E)) (kf (guF E E (ldP E E)) (kf (guF E E (bEql E E)) (kf (pkF E E E) (kf (mvO E) ?_))))))))))))))))))
      rcases ite_some h with ⟨ab,h⟩ | ⟨ab,h⟩
      ·refine kf (gsF E ab) (kf (gsF E ab) (kf (gsF E ab) (kf (gsF E ab) (kf (gsF E ab) (kf (gsF E ab) (kf (gsF E ab) (kf (gsF E ab) (kf (gsF E ab) (kf (pkT E ab E) (fZ (Rn (hA aB (hA az (hA aA (hV (.bool true) E hZ)))) fun d5 d6 d7 d8 cf=>sN (cT cf E (sq (Rg (kx (mvO E) (Rn (hV (.int .i64 4) E hZ) fun d9 cg=>sN (xx ?_)))))))))))))))))
       obtain rfl:=si h
       exact kd (show spec_l07Refused_c2_Q a1 a2 ai _ _ from ⟨E,cg⟩)
      refine kf (guF E ab (mvO az)) (kf (guF E ab (ncP E)) (kf (guF E ab (faP E ⟨ble E,blt E⟩ E)) (kf (guF E ab (ldP E E)) (kf (guF E ab (mvO aA)) (kf (guF E ab (ncP E)) (kf (guF E ab (faP E ⟨ble E,blt E⟩ E)) (kf (guF E ab (ldP E E)) (kf (guF E ab (bGtr E E)) (kf (pkF E ab E) (fZ (Rn (hA aB (hA az (hA aA (hN E hZ)))) fun ea ci cj cm aT=>sN ?_)))))))))))
      rcases ite_some h with ⟨aE,h⟩ | ⟨aE,h⟩
      ·refine cT aT aE (sq (Rg (kx (mvO E) (Rn (hV (.int .i64 4) E hZ) fun ed cq=>sN (xx ?_)))))
       obtain rfl:=si h
       exact kd (show spec_l07Refused_c2_Q a1 a2 ai _ _ from ⟨E,cq⟩)
      refine cF aT aE (xx ?_)
      obtain rfl:=si h
      exact kd (show spec_l07Refused_c2_Q a1 a2 ai _ _ from ⟨E,ci,cj,cm,aT⟩)
     refine kf (gsT E ao) (kf (gsT E ao) (kf (gsT E ao) (kf (gsT E ao) (kf (gsT E ao) (kf (gsT E ao) (kf (gsT E ao) (kf (gsT E ao) (kf (gsT E ao) (kf (pkF E ao E) (kf (mvO E) (kf (guF E E (mvO az)) (kf (guF E E (ncP E)) (kf (guF E E (faP E ⟨ble E,blt E⟩ E)) (kf (guF E E (ldP E E)) (kf (guF E E (bNeq E E)) (kf (guF E E (mvO E)) ?_))))))))))))))))
     rcases ite_some h with ⟨ac,h⟩ | ⟨ac,h⟩
     ·refine kf (guT E ac (mvO az)) (kf (guT E ac (ncP E)) (kf (guT E ac (faP E ⟨ble E,blt E⟩ E)) (kf (guT E ac (ldP E E)) (kf (guT E ac (mvO aA)) (kf (guT E ac (ncP E)) (kf (guT E ac (faP E ⟨ble E,blt E⟩ E)) (kf (guT E ac (ldP E E)) (kf (guT E ac (bNeq E E)) (kf (guF E E (pkT E ac E)) (kf (pkF E E E) (kf (mvO E) ?_)))))))))))
      rcases ite_some h with ⟨ay,h⟩ | ⟨ay,h⟩
      ·refine kf (gsF E ay) (kf (gsF E ay) (kf (gsF E ay) (kf (gsF E ay) (kf (gsF E ay) (kf (pkT E ay E) (kf (mvO E) (kf (gsF E E) (kf (gsF E E) (kf (gsF E E) (kf (gsF E E) (kf (gsF E E) (kf (gsF E E) (kf (gsF E E) (kf (gsF E E) (kf (gsF E E) (kf (pkT E E E) (fZ (Rn (hA aB (hA az (hA aA (hV (.bool true) E hZ)))) fun ee eo ep eu cr=>sN (cT cr E (sq (Rg (kx (mvO E) (Rn (hV (.int .i64 4) E hZ) fun ew ct=>sN (xx ?_))))))))))))))))))))))))
       obtain rfl:=si h
       exact kd (show spec_l07Refused_c2_Q a1 a2 ai _ _ from ⟨E,ct⟩)
      refine kf (guF E ay (mvO aA)) (kf (guF E ay (ncP E)) (kf (guF E ay (faP E ⟨ble E,blt E⟩ E)) (kf (guF E ay (ldP E E)) (kf (guF E ay (bEql E E)) (kf (pkF E ay E) (kf (mvO E) ?_))))))
      rcases ite_some h with ⟨ae,h⟩ | ⟨ae,h⟩
      ·refine kf (gsF E ae) (kf (gsF E ae) (kf (gsF E ae) (kf (gsF E ae) (kf (gsF E ae) (kf (gsF E ae) (kf (gsF E ae) (kf (gsF E ae) (kf (gsF E ae) (kf (pkT E ae E) (fZ (Rn (hA aB (hA az (hA aA (hV (.bool true) E hZ)))) fun ex ey ez eA cw=>sN (cT cw E (sq (Rg (kx (mvO E) (Rn (hV (.int .i64 4) E hZ) fun eB cC=>sN (xx ?_)))))))))))))))))
       obtain rfl:=si h
       exact kd (show spec_l07Refused_c2_Q a1 a2 ai _ _ from ⟨E,cC⟩)
      refine kf (guF E ae (mvO az)) (kf (guF E ae (ncP E)) (kf (guF E ae (faP E ⟨ble E,blt E⟩ E)) (kf (guF E ae (ldP E E)) (kf (guF E ae (mvO aA)) (kf (guF E ae (ncP E)) (kf (guF E ae (faP E ⟨ble E,blt E⟩ E)) (kf (guF E ae (ldP E E)) (kf (guF E ae (bGtr E E)) (kf (pkF E ae E) (fZ (Rn (hA aB (hA az (hA aA (hN E hZ)))) fun eC cD cE cG aU=>sN ?_)))))))))))
      rcases ite_some h with ⟨aF,h⟩ | ⟨aF,h⟩
      ·refine cT aU aF (sq (Rg (kx (mvO E) (Rn (hV (.int .i64 4) E hZ) fun eD cH=>sN (xx ?_)))))
       obtain rfl:=si h
       exact kd (show spec_l07Refused_c2_Q a1 a2 ai _ _ from ⟨E,cH⟩)
      refine cF aU aF (xx ?_)
      obtain rfl:=si h
      exact kd (show spec_l07Refused_c2_Q a1 a2 ai _ _ from ⟨E,cD,cE,cG,aU⟩)
     refine kf (gsT E ac) (kf (gsT E ac) (kf (gsT E ac) (kf (gsT E ac) (kf (gsT E ac) (kf (gsT E ac) (kf (gsT E ac) (kf (gsT E ac) (kf (gsT E ac) (kf (guF E E (pkF E ac E)) (kf (pkF E E E) (kf (mvO E) (kf (guF E E (mvO aA)) (kf (guF E E (ncP E)) (kf (guF E E (faP E ⟨ble E,blt E⟩ E)) (kf (guF E E (ldP E E)) (kf (guF E E (bEql E E)) (kf (pkF E E E) (kf (mvO E) ?_))))))))))))))))))
     rcases ite_some h with ⟨af,h⟩ | ⟨af,h⟩
     ·refine kf (gsF E af) (kf (gsF E af) (kf (gsF E af) (kf (gsF E af) (kf (gsF E af) (kf (gsF E af) (kf (gsF E af) (kf (gsF E af) (kf (gsF E af) (kf (pkT E af E) (fZ (Rn (hA aB (hA az (hA aA (hV (.bool true) E hZ)))) fun eE eF eG eH cJ=>sN (cT cJ E (sq (Rg (kx (mvO E) (Rn (hV (.int .i64 4) E hZ) fun eJ cK=>sN (xx ?_)))))))))))))))))
      obtain rfl:=si h
      exact kd (show spec_l07Refused_c2_Q a1 a2 ai _ _ from ⟨E,cK⟩)
     refine kf (guF E af (mvO az)) (kf (guF E af (ncP E)) (kf (guF E af (faP E ⟨ble E,blt E⟩ E)) (kf (guF E af (ldP E E)) (kf (guF E af (mvO aA)) (kf (guF E af (ncP E)) (kf (guF E af (faP E ⟨ble E,blt E⟩ E)) (kf (guF E af (ldP E E)) (kf (guF E af (bGtr E E)) (kf (pkF E af E) (fZ (Rn (hA aB (hA az (hA aA (hN E hZ)))) fun eK cM cN cO aV=>sN ?_)))))))))))
     rcases ite_some h with ⟨aG,h⟩ | ⟨aG,h⟩
     ·refine cT aV aG (sq (Rg (kx (mvO E) (Rn (hV (.int .i64 4) E hZ) fun eL cQ=>sN (xx ?_)))))
      obtain rfl:=si h
      exact kd (show spec_l07Refused_c2_Q a1 a2 ai _ _ from ⟨E,cQ⟩)
     refine cF aV aG (xx ?_)
     obtain rfl:=si h
     exact kd (show spec_l07Refused_c2_Q a1 a2 ai _ _ from ⟨E,cM,cN,cO,aV⟩)) ?_
 rcases bj with _ | _
 ·intro x eM eO bA
  obtain ⟨rfl,cR⟩:=bA
  refine sR ?_
  obtain rfl:=si h
  exact eR (resT cR res0) E
 intro x eP eQ bB
 obtain ⟨rfl,aZ,aH,a8,eS⟩:=bB
 obtain ⟨bm,aI,h⟩:=bind_some h
 refine sN (sq (sq ?_))
 refine Ev.cut (Q1:=spec_l07Refused_c3_Q a1 a2 ai bm) (by
     have h:=aI
     refine Rd (kf (mvO aH) (kf (ncP E) (kf (faP E ⟨ble E,blt E⟩ E) (kf (ldP E E) (kf (bEql E E) (kf (mvO E) ?_))))))
     rcases ite_some h with ⟨O,h⟩ | ⟨O,h⟩
     ·obtain ⟨eT,bC,h⟩:=bind_some h
      refine kf (guT E O (mvO aZ)) (kf (guT E O (ncP E)) (kf (guT E O (faP E ⟨ble E,blt E⟩ E)) (kf (guT E O (ldP E E)) (kf (guT E O (mvO a8)) (kf (guT E O (ncP E)) (kf (guT E O (faP E ⟨ble E,blt E⟩ E)) (kf (guT E O (ldP E E)) (kf (guT E O (ixS E E bC (cI_fl _))) (kf (guT E O (ldP E E)) (kf (guT E O (mvO aH)) (kf (guT E O (ncP E)) (kf (guT E O (faP E ⟨ble E,blt E⟩ E)) (kf (guT E O (ldP E E)) (kf (guT E O (bLss E E)) (kf (pkT E O E) (fZ (Rn (hV (.pt none [.int .i64 a1.Day,.sl none (a1.Cash.map (cI .i64)),.sl none (a1.Tallies.map Tally.c)]) aZ (hV (.pt none [.int .i64 a2.Day,.int .i8 a2.Kind,.int .i64 a2.Tally,.int .i64 a2.From,.int .i64 a2.To,.int .i64 a2.Amount]) aH (hV (.pt none [.int .i64 ai.Debtor,.int .i64 ai.Holder,.int .i64 ai.Cut,.int .i64 ai.Amount,.int .i64 ai.Left]) a8 (hN E hZ)))) fun eU cU cV cW cX=>?_)))))))))))))))))
      obtain rfl:=si h
      exact kd (show spec_l07Refused_c3_Q a1 a2 ai _ _ from ⟨E,cU,cV,cW,cX⟩)
     refine kf (gsT E O) (kf (gsT E O) (kf (gsT E O) (kf (gsT E O) (kf (gsT E O) (kf (gsT E O) (kf (gsT E O) (kf (gsT E O) (kf (gsT E O) (kf (gsT E O) (kf (gsT E O) (kf (gsT E O) (kf (gsT E O) (kf (gsT E O) (kf (gsT E O) (kf (pkF E O E) (fZ (Rn (hV (.pt none [.int .i64 a1.Day,.sl none (a1.Cash.map (cI .i64)),.sl none (a1.Tallies.map Tally.c)]) aZ (hV (.pt none [.int .i64 a2.Day,.int .i8 a2.Kind,.int .i64 a2.Tally,.int .i64 a2.From,.int .i64 a2.To,.int .i64 a2.Amount]) aH (hV (.pt none [.int .i64 ai.Debtor,.int .i64 ai.Holder,.int .i64 ai.Cut,.int .i64 ai.Amount,.int .i64 ai.Left]) a8 (hV (.bool false) E hZ)))) fun eV cY cZ da db=>?_)))))))))))))))))
     obtain rfl:=si h
     exact kd (show spec_l07Refused_c3_Q a1 a2 ai _ _ from ⟨E,cY,cZ,da,db⟩)) ?_
 revert h aI
 revert bm
 intro eW aI h
 intro x eX eY bD
 obtain ⟨rfl,dc,bo,de,bq⟩:=bD
 refine sN ?_
 rcases ite_some h with ⟨aJ,h⟩ | ⟨aJ,h⟩
 ·refine cT bq aJ (sq (Rg (kx (mvO E) (Rn (hV (.int .i64 8) E hZ) fun eZ df=>sN (xx (sR ?_))))))
  obtain rfl:=si h
  exact eR (resT df res0) E
 refine cF bq aJ (xx (sN (sq (sq (Rd (kf (mvO bo) (kf (ncP E) (kf (faP E ⟨ble E,blt E⟩ E) (kf (ldP E E) (kf (bEql E E) (kf (mvO E) ?_)))))))))))
 rcases ite_some h with ⟨J,h⟩ | ⟨J,h⟩
 ·obtain ⟨fa,bF,h⟩:=bind_some h
  refine kf (guT E J (mvO dc)) (kf (guT E J (ncP E)) (kf (guT E J (faP E ⟨ble E,blt E⟩ E)) (kf (guT E J (ldP E E)) (kf (guT E J (mvO de)) (kf (guT E J (ncP E)) (kf (guT E J (faP E ⟨ble E,blt E⟩ E)) (kf (guT E J (ldP E E)) (kf (guT E J (ixS E E bF (cI_fl _))) (kf (guT E J (ldP E E)) (kf (guT E J (mvO bo)) (kf (guT E J (ncP E)) (kf (guT E J (faP E ⟨ble E,blt E⟩ E)) (kf (guT E J (ldP E E)) (kf (guT E J (bAdd E E)) (kf (guT E J (bGtr E E)) (kf (pkT E J E) (fZ (Rn (hN E hZ) fun fd bu=>sN ?_))))))))))))))))))
  rcases ite_some h with ⟨aK,h⟩ | ⟨aK,h⟩
  ·refine cT bu aK (sq (Rg (kx (mvO E) (Rn (hV (.int .i64 3) E hZ) fun ff dg=>sN (xx (sR ?_))))))
   obtain rfl:=si h
   exact eR (resT dg res0) E
  refine cF bu aK (xx (sN (sq (Rg (kx (mvO E) (Rn (hV (.int .i64 0) E hZ) fun fg di=>sN (xx ?_)))))))
  obtain rfl:=si h
  exact eR (resT di res0) E
 refine kf (gsT E J) (kf (gsT E J) (kf (gsT E J) (kf (gsT E J) (kf (gsT E J) (kf (gsT E J) (kf (gsT E J) (kf (gsT E J) (kf (gsT E J) (kf (gsT E J) (kf (gsT E J) (kf (gsT E J) (kf (gsT E J) (kf (gsT E J) (kf (gsT E J) (kf (gsT E J) (kf (pkF E J E) (fZ (Rn (hV (.bool false) E hZ) fun fh dj=>sN (cF dj E (xx (sN (sq (Rg (kx (mvO E) (Rn (hV (.int .i64 0) E hZ) fun fi dk=>sN (xx ?_))))))))))))))))))))))))))
 obtain rfl:=si h
 exact eR (resT dk res0) E
noncomputable def spec_l01Amount (a1:Int):Option Bool:=
 (spec_l00In a1 0 100000000).bind fun r5=>
 some r5
def spec_l01Amount_enc (r:Bool):AV:=.bool r
theorem spec_l01Amount_ok (a1:Int) (r:Bool) (h:spec_l01Amount a1=some r):Ev (fun k=>CN k 89 [.int .i64 a1] []) (fun p=>rRes p.2 p.1=spec_l01Amount_enc r):=by
 unfold spec_l01Amount at h
 obtain ⟨r5,J,h⟩:=bind_some h
 refine Ev.enter (F:=fun k=>f89 (CN k) k) (fun k=>callN_eq E Try.func89 E E E (by decide +kernel) (f89_eq _ _)) (sq (Rg (kx (mvO E) (Rn (hN E hZ) fun e1 h3=>sN (sq (Rg (kx (mvO h3) (kc (cl (v:=.bool r5) E E (cns E (cns E (cns E E))) E (spec_l00In_ok a1 0 100000000 _ J) nm) (kx (mvO E) (Rn (hN E hZ) fun e6 h8=>sN (xx ?_)))))))))))
 obtain rfl:=si h
 exact eR (resT h8 res0) E
abbrev spec_l07Cash_b1_S:=Int
abbrev spec_l07Cash_b1_R:=Unit⊕Unit
def spec_l07Cash_b1_RS (a1:List Int) (s:spec_l07Cash_b1_S) (e:Env) (M:Mem):Prop:=eget e 0 = .sl none (a1.map (cI .i64))∧eget e 3 = .int .i64 s
def spec_l07Cash_b1_RR (a1:List Int) (r:spec_l07Cash_b1_R) (x:Ex) (e:Env) (M:Mem):Prop:=
  match r with
  | (.inl g)=>x = .ret∧eget e 2 = .bool false
  | (.inr g)=>x = .ext 0∧eget e 0 = .sl none (a1.map (cI .i64))
noncomputable def spec_l07Cash_b1 (a1:List Int):spec_l07Cash_b1_S→Option (spec_l07Cash_b1_S⊕spec_l07Cash_b1_R):=fun J=>
 if (decide (J < (a1.length:Int)))=true then
  (rd a1 J).bind fun O=>
  (spec_l01Amount O).bind fun Y=>
  if Y=true then
   some (.inl (IntKind.i64.wrap (J + 1)))
  else
   some (.inr (.inl ()))
 else
  some (.inr (.inr ()))
theorem spec_l07Cash_b1_ok (a1:List Int) (s:spec_l07Cash_b1_S) (r:spec_l07Cash_b1_S⊕spec_l07Cash_b1_R) (h:spec_l07Cash_b1 a1 s=some r) (e:Env) (M:Mem) (hs:spec_l07Cash_b1_RS a1 s e M):Ev (fun k=>(f111_l2 (CN k) k (prune [0,3] e) M).bind fun q=>some q) (bQ (spec_l07Cash_b1_RS a1) (spec_l07Cash_b1_RR a1) r):=by
 revert h hs
 revert s
 intro ai h hs
 unfold spec_l07Cash_b1 at h
 obtain ⟨au,aw⟩:=hs
 generalize Y:prune [0,3] e=aE
 have ab:=envp Y.symm E au
 have ac:=envp Y.symm E aw
 refine sq (sq (Rg (kx (mvO ac) (kx (mvO ab) (kx (lnS Try.underlying24 E) (kx (bLss E E) (Rn (hV (.sl none (a1.map (cI .i64))) ab (hV (.int .i64 ai) ac (hN E hZ))) fun aF aa ae af=>sN ?_)))))))
 rcases ite_some h with ⟨J,h⟩ | ⟨J,h⟩
 ·obtain ⟨ax,ao,h⟩:=bind_some h
  obtain ⟨ay,aq,h⟩:=bind_some h
  refine cT af J (xx (sN (sq (bl (sq (Rg (kx (mvO aa) (kx (mvO ae) (kx (ixS E E ao (cI_fl _)) (kx (ldP E E) (kc (cl (v:=.bool ay) E E (cns E E) E (spec_l01Amount_ok ax _ aq) nm) (kx (uNot E) (Rn (hA aa (hA ae (hN E hZ))) fun aG az aA ah=>sN ?_)))))))))))))
  rcases ite_some h with ⟨O,h⟩ | ⟨O,h⟩
  ·refine cF ah (congrArg Bool.not O) (xx (bN (sN (Rg (kx (mvO aA) (kx (bAdd E E) (kx (mvO E) (Rn (hA az (hN E hZ)) fun aH aB aC=>?_))))))))
   obtain rfl:=si h
   exact qN ⟨aB,aC⟩
  refine cT ah (congrArg Bool.not O) (sq (Rg (kx (mvO E) (Rn (hV (.bool false) E hZ) fun aI aD=>sN (xx (bR (sR ?_)))))))
  obtain rfl:=si h
  exact qR ⟨E,aD⟩
 refine cF af J (xx (sE ?_))
 obtain rfl:=si h
 exact qE ⟨E,aa⟩
noncomputable def spec_l07Cash (a1:List Int):Option Bool:=
 (Lw (spec_l07Cash_b1 a1) 0).bind fun r=>match r with
 | (.inl _)=>
  some false
 | (.inr _)=>
  (spec_l00In (a1.length:Int) 1 16).bind fun J=>
  some J
def spec_l07Cash_enc (r:Bool):AV:=.bool r
theorem spec_l07Cash_ok (a1:List Int) (r:Bool) (h:spec_l07Cash a1=some r):Ev (fun k=>CN k 111 [.sl none (a1.map (cI .i64))] []) (fun p=>rRes p.2 p.1=spec_l07Cash_enc r):=by
 unfold spec_l07Cash at h
 obtain ⟨aa,O,h⟩:=bind_some h
 refine Ev.enter (F:=fun k=>f111 (CN k) k) (fun k=>callN_eq E Try.func111 E E E (by decide +kernel) (f111_eq _ _)) (sq (Rg (kx (mvO E) (Rn (hN E hZ) fun e1 h3=>sN (sq (sq (Rg (kx (mvO E) (Rn (hA h3 (hV (.int .i64 0) E hZ)) fun e4 h6 h7=>sN (bl ?_))))))))))
 rcases aa with _ | _
 ·refine Ev.loop (RS:=spec_l07Cash_b1_RS a1) (RR:=spec_l07Cash_b1_RR a1) (fun s r h e M hs=>spec_l07Cash_b1_ok a1 s r h e M hs) O ⟨h6,h7⟩ fun x ah ai J=>?_
  obtain ⟨rfl,ab⟩:=J
  refine bR (sR ?_)
  obtain rfl:=si h
  exact eR (resT ab res0) E
 refine Ev.loop (RS:=spec_l07Cash_b1_RS a1) (RR:=spec_l07Cash_b1_RR a1) (fun s r h e M hs=>spec_l07Cash_b1_ok a1 s r h e M hs) O ⟨h6,h7⟩ fun x ao aq J=>?_
 obtain ⟨rfl,ac⟩:=J
 obtain ⟨ae,Y,h⟩:=bind_some h
 refine bE (sN (sq (Rg (kx (mvO ac) (kx (lnS Try.underlying24 E) (kc (cl (v:=.bool ae) E E (cns E (cns E (cns E E))) E (spec_l00In_ok (a1.length:Int) 1 16 _ Y) nm) (kx (mvO E) (Rn (hN E hZ) fun au af=>sN (xx ?_)))))))))
 obtain rfl:=si h
 exact eR (resT af res0) E
noncomputable def impl_ownBook (a1:Book):Option (Int×(List Int)×(List Tally)):=
 (slices_Clone_int64 a1.Cash).bind fun J=>
 (slices_Clone_Tally a1.Tallies).bind fun O=>
 some (a1.Day,J,O)
def impl_ownBook_enc (r:Int×(List Int)×(List Tally)):AV:=.agg [.int .i64 r.1,.sl (some 2) (r.2.1.map (cI .i64)),.sl (some 49) (r.2.2.map Tally.c)]
theorem impl_ownBook_ok (a1:Book) (r:Int×(List Int)×(List Tally)) (h:impl_ownBook a1=some r):Ev (fun k=>CN k 110 [.agg [.int .i64 a1.Day,.sl none (a1.Cash.map (cI .i64)),.sl none (a1.Tallies.map Tally.c)]] []) (fun p=>rRes p.2 p.1=impl_ownBook_enc r):=by
 unfold impl_ownBook at h
 refine Ev.enter (F:=fun k=>f110 (CN k) k) (fun k=>callN_eq E Try.func110 E E E (by decide +kernel) (f110_eq _ _)) (sq (Rg (ku (bxO E E ⟨E,E,by decide⟩) fun M2 ay=>?_)))
 have o4:M2[([]:Mem).length]? = some (.live ⟨.box,27,3,[[.int .i64 a1.Day,.sl none (a1.Cash.map (cI .i64)),.sl none (a1.Tallies.map Tally.c)]]⟩):=push_new ay
 refine ku (alO zero27) fun M6 ai=>?_
 have o8:=push_old ai o4
 have Y:=ne_new o4
 have az:M6[M2.length]? = some (.live ⟨.box,27,3,[[.int .i64 0,.nils,.nils]]⟩):=push_new ai
 obtain ⟨O,aw,h⟩:=bind_some h
 refine Rn (hV (.loc ([]:Mem).length 1 0 0) E (hV (.loc M2.length 1 0 0) E hZ)) fun aJ aa aA=>sN (sq (Rg (kx (faO aa o8 E) (kx (ldO E o8 E E E) (kc (cl (v:=.sl (some 2) (O.map (cI .i64))) E E (cns E E) E (slices_Clone_int64_ok a1.Cash _ aw) nm) (kx (faO aa o8 E) (kw (stOK E E o8 E E ⟨E,ble E⟩ E E) fun aB ab=>?_)))))))
 have J:aB[([]:Mem).length]? = some (.live ⟨.box,27,3,[[.int .i64 a1.Day,.sl (some 2) (O.map (cI .i64)),.sl none (a1.Tallies.map Tally.c)]]⟩):=set_same ab o8
 have aC:=set_ne ab (Ne.symm Y) az
 obtain ⟨ac,ax,h⟩:=bind_some h
 refine Rn (hA aa (hA aA hZ)) fun aK ae aD=>sN (sq (Rg (kx (faO ae J E) (kx (ldO E J E E E) (kc (cl (v:=.sl (some 49) (ac.map Tally.c)) E E (cns E E) E (slices_Clone_Tally_ok a1.Tallies _ ax) nm) (kx (faO ae J E) (kw (stOK E E J E E ⟨E,ble E⟩ E E) fun aE af=>?_)))))))
 have ao:aE[([]:Mem).length]? = some (.live ⟨.box,27,3,[[.int .i64 a1.Day,.sl (some 2) (O.map (cI .i64)),.sl (some 49) (ac.map Tally.c)]]⟩):=set_same af J
 have aq:=set_ne af (Ne.symm Y) aC
 refine Rn (hA ae (hA aD hZ)) fun aL aF au=>sN (sq (Rg (kx (ldOA aF ao E E (ble E) E) (kw (stOK au E aq E E ⟨E,ble E⟩ E E) fun aG ah=>?_))))
 have aM:=set_ne ah Y ao
 have aH:aG[M2.length]? = some (.live ⟨.box,27,3,[[.int .i64 a1.Day,.sl (some 2) (O.map (cI .i64)),.sl (some 49) (ac.map Tally.c)]]⟩):=set_same ah aq
 refine Rn (hA au hZ) fun aN aI=>sN (xx ?_)
 obtain rfl:=si h
 exact eR (resC (ag:=true) (sz:=3) ⟨by kernel_rfl,by kernel_rfl,by kernel_rfl⟩ (ldOA aI aH E E (ble E) E) res0) E
noncomputable def spec_l07Day (a1:Int):Option Bool:=
 (spec_l00In a1 0 100000).bind fun r5=>
 some r5
def spec_l07Day_enc (r:Bool):AV:=.bool r
theorem spec_l07Day_ok (a1:Int) (r:Bool) (h:spec_l07Day a1=some r):Ev (fun k=>CN k 56 [.int .i64 a1] []) (fun p=>rRes p.2 p.1=spec_l07Day_enc r):=by
 unfold spec_l07Day at h
 obtain ⟨r5,J,h⟩:=bind_some h
 refine Ev.enter (F:=fun k=>f56 (CN k) k) (fun k=>callN_eq E Try.func56 E E E (by decide +kernel) (f56_eq _ _)) (sq (Rg (kx (mvO E) (Rn (hN E hZ) fun e1 h3=>sN (sq (Rg (kx (mvO h3) (kc (cl (v:=.bool r5) E E (cns E (cns E (cns E E))) E (spec_l00In_ok a1 0 100000 _ J) nm) (kx (mvO E) (Rn (hN E hZ) fun e6 h8=>sN (xx ?_)))))))))))
 obtain rfl:=si h
 exact eR (resT h8 res0) E
noncomputable def spec_l07Deal (a1:Deal):Option Bool:=
 (spec_l00In a1.Tally 0 39).bind fun r5=>
 (spec_l00In a1.From 0 15).bind fun J=>
 (spec_l00In a1.To 0 15).bind fun O=>
 (spec_l00In a1.Amount 1 100000000).bind fun Y=>
 (spec_l07Day a1.Day).bind fun aa=>
 if aa=true then
  if (a1.Kind==1)=true then
   if (a1.Tally==0)=true then
    if J=true then
     if O=true then
      some Y
     else
      some false
    else
     some false
   else
    some false
  else
   if (a1.Kind==2)=true then
    if r5=true then
     if J=true then
      if O=true then
       some (a1.Amount==0)
      else
       some false
     else
      some false
    else
     some false
   else
    if (a1.Kind==3)=true then
     if r5=true then
      if (a1.From==0)=true then
       if (a1.To==0)=true then
        some Y
       else
        some false
      else
       some false
     else
      some false
    else
     if (a1.Kind==4)=true then
      if r5=true then
       if J=true then
        if (a1.To==0)=true then
         some (a1.Amount==0)
        else
         some false
       else
        some false
      else
       some false
     else
      some false
 else
  some false
def spec_l07Deal_enc (r:Bool):AV:=.bool r
theorem spec_l07Deal_ok (a1:Deal) (r:Bool) (h:spec_l07Deal a1=some r):Ev (fun k=>CN k 77 [.pt none [.int .i64 a1.Day,.int .i8 a1.Kind,.int .i64 a1.Tally,.int .i64 a1.From,.int .i64 a1.To,.int .i64 a1.Amount]] []) (fun p=>rRes p.2 p.1=spec_l07Deal_enc r):=by
 unfold spec_l07Deal at h
 obtain ⟨r5,bI,h⟩:=bind_some h
 obtain ⟨bJ,a8,h⟩:=bind_some h
 obtain ⟨bK,ba,h⟩:=bind_some h
 obtain ⟨bL,bb,h⟩:=bind_some h
 obtain ⟨bM,bf,h⟩:=bind_some h
 refine Ev.enter (F:=fun k=>f77 (CN k) k) (fun k=>callN_eq E Try.func77 E E E (by decide +kernel) (f77_eq _ _)) (sq (Rg (kx (mvO E) (Rn (hN E hZ) fun e1 h3=>sN (sq (Rg (kx (mvO h3) (kx (ncP E) (kx (faP E ⟨ble E,blt E⟩ E) (kx (ldP E E) (kc (cl (v:=.bool r5) E E (cns E (cns E (cns E E))) E (spec_l00In_ok a1.Tally 0 39 _ bI) nm) (kx (mvO E) (Rn (hA h3 (hN E hZ)) fun e6 h8 h9=>sN (sq (Rg (kx (mvO h8) (kx (ncP E) (kx (faP E ⟨ble E,blt E⟩ E) (kx (ldP E E) (kc (cl (v:=.bool bJ) E E (cns E (cns E (cns E E))) E (spec_l00In_ok a1.From 0 15 _ a8) nm) (kx (mvO E) (Rn (hA h8 (hA h9 (hN E hZ))) fun da aF bP bS=>sN (sq (Rg (kx (mvO aF) (kx (ncP E) (kx (faP E ⟨ble E,blt E⟩ E) (kx (ldP E E) (kc (cl (v:=.bool bK) E E (cns E (cns E (cns E E))) E (spec_l00In_ok a1.To 0 15 _ ba) nm) (kx (mvO E) (Rn (hA aF (hA bP (hA bS (hN E hZ)))) fun db aG bT bU bV=>sN (sq (Rg (kx (mvO aG) (kx (ncP E) (kx (faP E ⟨ble E,blt E⟩ E) (kx (ldP E E) (kc (cl (v:=.bool bL) E E (cns E (cns E (cns E E))) E (spec_l00In_ok a1.Amount 1 100000000 _ bb) nm) (kx (mvO E) (Rn (hA aG (hA bT (hA bU (hA bV (hN E hZ))))) fun dc aH bW bX bY bZ=>sN (sq (sq (Rg (kx (mvO aH) (kx (ncP E) (kx (faP E ⟨ble E,blt E⟩ E) (kx (ldP E E) (kc (cl (v:=.bool bM) E E (cns E E) E (spec_l07Day_ok a1.Day _ bf) nm) (kx (uNot E) (Rn (hA aH (hA bW (hA bX (hA bY (hA bZ (hN E hZ)))))) fun de aI b7 b8 b9 cb aJ=>sN ?_))))))))))))))))))))))))))))))))))))))))))))))))))
 rcases ite_some h with ⟨ax,h⟩ | ⟨ax,h⟩
 ·refine cF aJ (congrArg Bool.not ax) (xx (sN (sq (sq (Rg (kx (mvO aI) (kx (ncP E) (kx (faP E ⟨ble E,blt E⟩ E) (kx (ldP E E) (Rn (hA aI (hA b7 (hA b8 (hA b9 (hA cb (hN E hZ)))))) fun df cd cf cg ci cj aK=>sN (bl (sq (Rg (kx (bEql aK E) (kx (mvO E) (Rn (hA cd (hA cf (hA cg (hA ci (hA cj (hA aK (hN E hZ))))))) fun dg aL cm aM aN aO aP aR=>sN ?_))))))))))))))))
  rcases ite_some h with ⟨ay,h⟩ | ⟨ay,h⟩
  ·refine cT aR ay (sq (Rg (kx (mvO aL) (kx (ncP E) (kx (faP E ⟨ble E,blt E⟩ E) (kx (ldP E E) (kx (bEql E E) (kx (mvO E) ?_))))))))
   rcases ite_some h with ⟨af,h⟩ | ⟨af,h⟩
   ·refine kx (guT E af (mvO aM)) (kx (pkT E af E) (kx (mvO E) ?_))
    rcases ite_some h with ⟨ah,h⟩ | ⟨ah,h⟩
    ·refine kx (guT E ah (mvO aN)) (kx (pkT E ah E) (kx (mvO E) ?_))
     rcases ite_some h with ⟨ai,h⟩ | ⟨ai,h⟩
     ·refine kx (guT E ai (mvO aO)) (kx (pkT E ai E) (kx (mvO E) (Rn (hN E hZ) fun di cq=>sN (xx (bR (sR ?_))))))
      obtain rfl:=si h
      exact eR (resT cq res0) E
     refine kx (gsT E ai) (kx (pkF E ai E) (kx (mvO E) (Rn (hV (.bool false) E hZ) fun dj cr=>sN (xx (bR (sR ?_))))))
     obtain rfl:=si h
     exact eR (resT cr res0) E
    refine kx (gsT E ah) (kx (pkF E ah E) (kx (mvO E) (kx (gsT E E) (kx (pkF E E E) (kx (mvO E) (Rn (hV (.bool false) E hZ) fun dk ct=>sN (xx (bR (sR ?_)))))))))
    obtain rfl:=si h
    exact eR (resT ct res0) E
   refine kx (gsT E af) (kx (pkF E af E) (kx (mvO E) (kx (gsT E E) (kx (pkF E E E) (kx (mvO E) (kx (gsT E E) (kx (pkF E E E) (kx (mvO E) (Rn (hV (.bool false) E hZ) fun dl cw=>sN (xx (bR (sR ?_))))))))))))
   obtain rfl:=si h
   exact eR (resT cw res0) E
  refine cF aR ay (sq (Rg (kx (bEql aP E) (kx (mvO E) (Rn (hA aL (hA cm (hA aM (hA aN (hA aO (hA aP (hN E hZ))))))) fun dm aS aT aU cC cD aV aZ=>sN ?_)))))
  rcases ite_some h with ⟨az,h⟩ | ⟨az,h⟩
  ·refine cT aZ az (sq (Rg (kx (mvO aT) (kx (mvO E) ?_))))
   rcases ite_some h with ⟨ao,h⟩ | ⟨ao,h⟩
   ·refine kx (guT E ao (mvO aU)) (kx (pkT E ao E) (kx (mvO E) ?_))
    rcases ite_some h with ⟨aq,h⟩ | ⟨aq,h⟩
    ·refine kx (guT E aq (mvO cC)) (kx (pkT E aq E) (kx (mvO E) ?_))
     rcases ite_some h with ⟨ab,h⟩ | ⟨ab,h⟩
     ·refine kx (guT E ab (mvO aS)) (kx (guT E ab (ncP E)) (kx (guT E ab (faP E ⟨ble E,blt E⟩ E)) (kx (guT E ab (ldP E E)) (kx (guT E ab (bEql E E)) (kx (pkT E ab E) (kx (mvO E) (Rn (hN E hZ) fun dn cE=>sN (xx (bR (sR ?_))))))))))
      obtain rfl:=si h
      exact eR (resT cE res0) E
     refine kx (gsT E ab) (kx (gsT E ab) (kx (gsT E ab) (kx (gsT E ab) (kx (gsT E ab) (kx (pkF E ab E) (kx (mvO E) (Rn (hV (.bool false) E hZ) fun dp cG=>sN (xx (bR (sR ?_))))))))))
     obtain rfl:=si h
     exact eR (resT cG res0) E
    refine kx (gsT E aq) (kx (pkF E aq E) (kx (mvO E) (kx (gsT E E) (kx (gsT E E) (kx (gsT E E) (kx (gsT E E) (kx (gsT E E) (kx (pkF E E E) (kx (mvO E) (Rn (hV (.bool false) E hZ) fun dq cH=>sN (xx (bR (sR ?_)))))))))))))
    obtain rfl:=si h
    exact eR (resT cH res0) E
   refine kx (gsT E ao) (kx (pkF E ao E) (kx (mvO E) (kx (gsT E E) (kx (pkF E E E) (kx (mvO E) (kx (gsT E E) (kx (gsT E E) (kx (gsT E E) (kx (gsT E E) (kx (gsT E E) (kx (pkF E E E) (kx (mvO E) (Rn (hV (.bool false) E hZ) fun cJ bi=>sN (xx (bR (sR ?_))))))))))))))))
   obtain rfl:=si h
   exact eR (resT bi res0) E
  refine cF aZ az (sq (Rg (kx (bEql aV E) (kx (mvO E) (Rn (hA aS (hA aT (hA aU (hA cD (hA aV (hN E hZ)))))) fun cK aA aB bj bm bo aC=>sN ?_)))))
  rcases ite_some h with ⟨au,h⟩ | ⟨au,h⟩
  ·refine cT aC au (sq (Rg (kx (mvO aB) (kx (mvO E) ?_))))
   rcases ite_some h with ⟨J,h⟩ | ⟨J,h⟩
   ·refine kx (guT E J (mvO aA)) (kx (guT E J (ncP E)) (kx (guT E J (faP E ⟨ble E,blt E⟩ E)) (kx (guT E J (ldP E E)) (kx (guT E J (bEql E E)) (kx (pkT E J E) (kx (mvO E) ?_))))))
    rcases ite_some h with ⟨O,h⟩ | ⟨O,h⟩
    ·refine kx (guT E O (mvO aA)) (kx (guT E O (ncP E)) (kx (guT E O (faP E ⟨ble E,blt E⟩ E)) (kx (guT E O (ldP E E)) (kx (guT E O (bEql E E)) (kx (pkT E O E) (kx (mvO E) ?_))))))
     rcases ite_some h with ⟨ac,h⟩ | ⟨ac,h⟩
     ·refine kx (guT E ac (mvO bm)) (kx (pkT E ac E) (kx (mvO E) (Rn (hN E hZ) fun cM bq=>sN (xx (bR (sR ?_))))))
      obtain rfl:=si h
      exact eR (resT bq res0) E
     refine kx (gsT E ac) (kx (pkF E ac E) (kx (mvO E) (Rn (hV (.bool false) E hZ) fun cN bu=>sN (xx (bR (sR ?_))))))
     obtain rfl:=si h
     exact eR (resT bu res0) E
    refine kx (gsT E O) (kx (gsT E O) (kx (gsT E O) (kx (gsT E O) (kx (gsT E O) (kx (pkF E O E) (kx (mvO E) (kx (gsT E E) (kx (pkF E E E) (kx (mvO E) (Rn (hV (.bool false) E hZ) fun cO bv=>sN (xx (bR (sR ?_)))))))))))))
    obtain rfl:=si h
    exact eR (resT bv res0) E
   refine kx (gsT E J) (kx (gsT E J) (kx (gsT E J) (kx (gsT E J) (kx (gsT E J) (kx (pkF E J E) (kx (mvO E) (kx (gsT E E) (kx (gsT E E) (kx (gsT E E) (kx (gsT E E) (kx (gsT E E) (kx (pkF E E E) (kx (mvO E) (kx (gsT E E) (kx (pkF E E E) (kx (mvO E) (Rn (hV (.bool false) E hZ) fun cQ bw=>sN (xx (bR (sR ?_))))))))))))))))))))
   obtain rfl:=si h
   exact eR (resT bw res0) E
  refine cF aC au (sq (Rg (kx (bEql bo E) (kx (mvO E) (Rn (hA aA (hA aB (hA bj (hN E hZ)))) fun cR aD bz bA aE=>sN ?_)))))
  rcases ite_some h with ⟨aw,h⟩ | ⟨aw,h⟩
  ·refine cT aE aw (sq (Rg (kx (mvO bz) (kx (mvO E) ?_))))
   rcases ite_some h with ⟨ae,h⟩ | ⟨ae,h⟩
   ·refine kx (guT E ae (mvO bA)) (kx (pkT E ae E) (kx (mvO E) ?_))
    rcases ite_some h with ⟨Y,h⟩ | ⟨Y,h⟩
    ·refine kx (guT E Y (mvO aD)) (kx (guT E Y (ncP E)) (kx (guT E Y (faP E ⟨ble E,blt E⟩ E)) (kx (guT E Y (ldP E E)) (kx (guT E Y (bEql E E)) (kx (pkT E Y E) (kx (mvO E) ?_))))))
     rcases ite_some h with ⟨aa,h⟩ | ⟨aa,h⟩
     ·refine kx (guT E aa (mvO aD)) (kx (guT E aa (ncP E)) (kx (guT E aa (faP E ⟨ble E,blt E⟩ E)) (kx (guT E aa (ldP E E)) (kx (guT E aa (bEql E E)) (kx (pkT E aa E) (kx (mvO E) (Rn (hN E hZ) fun cU bB=>sN (xx (bR (sR ?_))))))))))
      obtain rfl:=si h
      exact eR (resT bB res0) E
     refine kx (gsT E aa) (kx (gsT E aa) (kx (gsT E aa) (kx (gsT E aa) (kx (gsT E aa) (kx (pkF E aa E) (kx (mvO E) (Rn (hV (.bool false) E hZ) fun cV bC=>sN (xx (bR (sR ?_))))))))))
     obtain rfl:=si h
     exact eR (resT bC res0) E
    refine kx (gsT E Y) (kx (gsT E Y) (kx (gsT E Y) (kx (gsT E Y) (kx (gsT E Y) (kx (pkF E Y E) (kx (mvO E) (kx (gsT E E) (kx (gsT E E) (kx (gsT E E) (kx (gsT E E) (kx (gsT E E) (kx (pkF E E E) (kx (mvO E) (Rn (hV (.bool false) E hZ) fun cW bD=>sN (xx (bR (sR ?_)))))))))))))))))
    obtain rfl:=si h
    exact eR (resT bD res0) E
   refine kx (gsT E ae) (kx (pkF E ae E) (kx (mvO E) (kx (gsT E E) (kx (gsT E E) (kx (gsT E E) (kx (gsT E E) (kx (gsT E E) (kx (pkF E E E) (kx (mvO E) (kx (gsT E E) (kx (gsT E E) (kx (gsT E E) (kx (gsT E E) (kx (gsT E E) (kx (pkF E E E) (kx (mvO E) (Rn (hV (.bool false) E hZ) fun cX bF=>sN (xx (bR (sR ?_))))))))))))))))))))
   obtain rfl:=si h
   exact eR (resT bF res0) E
  refine cF aE aw (xx (bN (sN (sq (Rg (kx (mvO E) (Rn (hV (.bool false) E hZ) fun cY bG=>sN (xx ?_))))))))
  obtain rfl:=si h
  exact eR (resT bG res0) E
 refine cT aJ (congrArg Bool.not ax) (sq (Rg (kx (mvO E) (Rn (hV (.bool false) E hZ) fun cZ bH=>sN (xx (sR ?_))))))
 obtain rfl:=si h
 exact eR (resT bH res0) E
abbrev spec_l07Deals_b1_S:=Int
abbrev spec_l07Deals_b1_R:=Unit⊕Unit
def spec_l07Deals_b1_RS (a1:List Deal) (s:spec_l07Deals_b1_S) (e:Env) (M:Mem):Prop:=eget e 0 = .sl none (a1.map Deal.c)∧eget e 3 = .int .i64 s
def spec_l07Deals_b1_RR (a1:List Deal) (r:spec_l07Deals_b1_R) (x:Ex) (e:Env) (M:Mem):Prop:=
  match r with
  | (.inl g)=>x = .ret∧eget e 2 = .bool false
  | (.inr g)=>x = .ext 0∧True
noncomputable def spec_l07Deals_b1 (a1:List Deal):spec_l07Deals_b1_S→Option (spec_l07Deals_b1_S⊕spec_l07Deals_b1_R):=fun J=>
 if (decide (J < (a1.length:Int)))=true then
  (rd a1 J).bind fun O=>
  (spec_l07Deal O).bind fun Y=>
  if Y=true then
   some (.inl (IntKind.i64.wrap (J + 1)))
  else
   some (.inr (.inl ()))
 else
  some (.inr (.inr ()))
theorem spec_l07Deals_b1_ok (a1:List Deal) (s:spec_l07Deals_b1_S) (r:spec_l07Deals_b1_S⊕spec_l07Deals_b1_R) (h:spec_l07Deals_b1 a1 s=some r) (e:Env) (M:Mem) (hs:spec_l07Deals_b1_RS a1 s e M):Ev (fun k=>(f109_l2 (CN k) k (prune [0,3] e) M).bind fun q=>some q) (bQ (spec_l07Deals_b1_RS a1) (spec_l07Deals_b1_RR a1) r):=by
 revert h hs
 revert s
 intro ai h hs
 unfold spec_l07Deals_b1 at h
 obtain ⟨au,aw⟩:=hs
 generalize Y:prune [0,3] e=aE
 have aa:=envp Y.symm E au
 have ab:=envp Y.symm E aw
 refine sq (sq (Rg (kx (mvO ab) (kx (mvO aa) (kx (lnS Try.underlying28 E) (kx (bLss E E) (Rn (hV (.sl none (a1.map Deal.c)) aa (hV (.int .i64 ai) ab (hN E hZ))) fun aF ac ae af=>sN ?_)))))))
 rcases ite_some h with ⟨J,h⟩ | ⟨J,h⟩
 ·obtain ⟨ax,ao,h⟩:=bind_some h
  obtain ⟨ay,aq,h⟩:=bind_some h
  refine cT af J (xx (sN (sq (bl (sq (Rg (kx (mvO ac) (kx (mvO ae) (kx (ixS E E ao Deal.fl) (kc (cl (v:=.bool ay) E E (cns E E) E (spec_l07Deal_ok ax _ aq) nm) (kx (uNot E) (Rn (hA ac (hA ae (hN E hZ))) fun aG az aA ah=>sN ?_))))))))))))
  rcases ite_some h with ⟨O,h⟩ | ⟨O,h⟩
  ·refine cF ah (congrArg Bool.not O) (xx (bN (sN (Rg (kx (mvO aA) (kx (bAdd E E) (kx (mvO E) (Rn (hA az (hN E hZ)) fun aH aB aC=>?_))))))))
   obtain rfl:=si h
   exact qN ⟨aB,aC⟩
  refine cT ah (congrArg Bool.not O) (sq (Rg (kx (mvO E) (Rn (hV (.bool false) E hZ) fun aI aD=>sN (xx (bR (sR ?_)))))))
  obtain rfl:=si h
  exact qR ⟨E,aD⟩
 refine cF af J (xx (sE ?_))
 obtain rfl:=si h
 exact qE ⟨E,trivial⟩
noncomputable def spec_l07Deals (a1:List Deal):Option Bool:=
 (Lw (spec_l07Deals_b1 a1) 0).bind fun r=>match r with
 | (.inl _)=>
  some false
 | (.inr _)=>
  some true
def spec_l07Deals_enc (r:Bool):AV:=.bool r
theorem spec_l07Deals_ok (a1:List Deal) (r:Bool) (h:spec_l07Deals a1=some r):Ev (fun k=>CN k 109 [.sl none (a1.map Deal.c)] []) (fun p=>rRes p.2 p.1=spec_l07Deals_enc r):=by
 unfold spec_l07Deals at h
 obtain ⟨Y,O,h⟩:=bind_some h
 refine Ev.enter (F:=fun k=>f109 (CN k) k) (fun k=>callN_eq E Try.func109 E E E (by decide +kernel) (f109_eq _ _)) (sq (Rg (kx (mvO E) (Rn (hN E hZ) fun e1 h3=>sN (sq (sq (Rg (kx (mvO E) (Rn (hA h3 (hV (.int .i64 0) E hZ)) fun e4 h6 h7=>sN (bl ?_))))))))))
 rcases Y with _ | _
 ·refine Ev.loop (RS:=spec_l07Deals_b1_RS a1) (RR:=spec_l07Deals_b1_RR a1) (fun s r h e M hs=>spec_l07Deals_b1_ok a1 s r h e M hs) O ⟨h6,h7⟩ fun x ac ae J=>?_
  obtain ⟨rfl,aa⟩:=J
  refine bR (sR ?_)
  obtain rfl:=si h
  exact eR (resT aa res0) E
 refine Ev.loop (RS:=spec_l07Deals_b1_RS a1) (RR:=spec_l07Deals_b1_RR a1) (fun s r h e M hs=>spec_l07Deals_b1_ok a1 s r h e M hs) O ⟨h6,h7⟩ fun x af ah J=>?_
 obtain ⟨rfl,_⟩:=J
 refine bE (sN (sq (Rg (kx (mvO E) (Rn (hV (.bool true) E hZ) fun ai ab=>sN (xx ?_))))))
 obtain rfl:=si h
 exact eR (resT ab res0) E
noncomputable def impl_isBookDay (a1:Int):Option Bool:=
 if (decide (a1≥0))=true then
  some (decide (a1≤100000))
 else
  some false
def impl_isBookDay_enc (r:Bool):AV:=.bool r
theorem impl_isBookDay_ok (a1:Int) (r:Bool) (h:impl_isBookDay a1=some r):Ev (fun k=>CN k 53 [.int .i64 a1] []) (fun p=>rRes p.2 p.1=impl_isBookDay_enc r):=by
 unfold impl_isBookDay at h
 refine Ev.enter (F:=fun k=>f53 (CN k) k) (fun k=>callN_eq E Try.func53 E E E (by decide +kernel) (f53_eq _ _)) (sq (Rg (kx (mvO E) (Rn (hN E hZ) fun e1 h3=>sN (sq (Rg (kx (mvO h3) (kx (bGeq E E) (kx (mvO E) ?_)))))))))
 rcases ite_some h with ⟨J,h⟩ | ⟨J,h⟩
 ·refine kx (guT E J (mvO h3)) (kx (guT E J (bLeq E E)) (kx (pkT E J E) (kx (mvO E) (Rn (hN E hZ) fun e5 h7=>sN (xx ?_)))))
  obtain rfl:=si h
  exact eR (resT h7 res0) E
 refine kx (gsT E J) (kx (gsT E J) (kx (pkF E J E) (kx (mvO E) (Rn (hV (.bool false) E hZ) fun e8 O=>sN (xx ?_)))))
 obtain rfl:=si h
 exact eR (resT O res0) E
noncomputable def impl_uses (a1:Int):Option (Bool×Bool×Bool×Bool):=
 if (a1==1)=true then
  some (false,true,true,true)
 else
  if (a1==2)=true then
   some (true,true,true,false)
  else
   if (a1==3)=true then
    some (true,false,false,true)
   else
    some (true,true,false,false)
def impl_uses_enc (r:Bool×Bool×Bool×Bool):AV:=.tup [.bool r.1,.bool r.2.1,.bool r.2.2.1,.bool r.2.2.2]
theorem impl_uses_ok (a1:Int) (r:Bool×Bool×Bool×Bool) (h:impl_uses a1=some r):Ev (fun k=>CN k 80 [.int .i8 a1] []) (fun p=>rRes p.2 p.1=impl_uses_enc r):=by
 unfold impl_uses at h
 refine Ev.enter (F:=fun k=>f80 (CN k) k) (fun k=>callN_eq E Try.func80 E E E (by decide +kernel) (f80_eq _ _)) (sq (Rg (kx (mvO E) (kx (mvO E) (kx (mvO E) (kx (mvO E) (Rn (hN E hZ) fun e1 h3=>sN (sq (sq (Rg (kx (mvO h3) (Rn (hN E hZ) fun e4 h6=>sN (bl (sq (Rg (kx (bEql h6 E) (kx (mvO E) (Rn (hA h6 (hN E hZ)) fun e7 h9 aa=>sN ?_))))))))))))))))))
 rcases ite_some h with ⟨J,h⟩ | ⟨J,h⟩
 ·refine cT aa J (sq (Rg (kx (mvO E) (kx (mvO E) (kx (mvO E) (kx (mvO E) (Rn (hV (.bool false) E (hV (.bool true) E (hV (.bool true) E (hV (.bool true) E hZ)))) fun aG ae af ah ai=>sN (xx (bR (sR ?_))))))))))
  obtain rfl:=si h
  exact eR (resT ae (resT af (resT ah (resT ai res0)))) E
 refine cF aa J (sq (Rg (kx (bEql h9 E) (kx (mvO E) (Rn (hA h9 (hN E hZ)) fun aH ao ab=>sN ?_)))))
 rcases ite_some h with ⟨O,h⟩ | ⟨O,h⟩
 ·refine cT ab O (sq (Rg (kx (mvO E) (kx (mvO E) (kx (mvO E) (kx (mvO E) (Rn (hV (.bool true) E (hV (.bool true) E (hV (.bool true) E (hV (.bool false) E hZ)))) fun aI aq au aw ax=>sN (xx (bR (sR ?_))))))))))
  obtain rfl:=si h
  exact eR (resT aq (resT au (resT aw (resT ax res0)))) E
 refine cF ab O (sq (Rg (kx (bEql ao E) (kx (mvO E) (Rn (hN E hZ) fun aJ ac=>sN ?_)))))
 rcases ite_some h with ⟨Y,h⟩ | ⟨Y,h⟩
 ·refine cT ac Y (sq (Rg (kx (mvO E) (kx (mvO E) (kx (mvO E) (kx (mvO E) (Rn (hV (.bool true) E (hV (.bool false) E (hV (.bool false) E (hV (.bool true) E hZ)))) fun aK ay az aA aB=>sN (xx (bR (sR ?_))))))))))
  obtain rfl:=si h
  exact eR (resT ay (resT az (resT aA (resT aB res0)))) E
 refine cF ac Y (xx (bN (sN (sq (Rg (kx (mvO E) (kx (mvO E) (kx (mvO E) (kx (mvO E) (Rn (hV (.bool true) E (hV (.bool true) E (hV (.bool false) E (hV (.bool false) E hZ)))) fun aL aC aD aE aF=>sN (xx ?_)))))))))))
 obtain rfl:=si h
 exact eR (resT aC (resT aD (resT aE (resT aF res0)))) E
noncomputable def impl_ValidDeal_1 (a1:Bool) (a2:Int) (a3:Int) (a4:Int):Option Bool:=
 if a1=true then
  if (decide (a2≥a3))=true then
   if (decide (a2≤a4))=true then
    some true
   else
    some false
  else
   some false
 else
  some (a2==0)
def impl_ValidDeal_1_enc (r:Bool):AV:=.bool r
theorem impl_ValidDeal_1_ok (a1:Bool) (a2:Int) (a3:Int) (a4:Int) (r:Bool) (h:impl_ValidDeal_1 a1 a2 a3 a4=some r):Ev (fun k=>CN k 79 [.bool a1,.int .i64 a2,.int .i64 a3,.int .i64 a4] []) (fun p=>rRes p.2 p.1=impl_ValidDeal_1_enc r):=by
 unfold impl_ValidDeal_1 at h
 refine Ev.enter (F:=fun k=>f79 (CN k) k) (fun k=>callN_eq E Try.func79 E E E (by decide +kernel) (f79_eq _ _)) (sq (Rg (kx (mvO E) (Rn (hN E (hN E (hN E (hN E hZ)))) fun e1 h3 h4 h5 h6=>sN (sq (Rg (kx (mvO h3) (kx (mvO E) ?_))))))))
 rcases ite_some h with ⟨J,h⟩ | ⟨J,h⟩
 ·refine kx (guT E J (mvO h4)) (kx (guT E J (mvO h5)) (kx (guT E J (bGeq E E)) (kx (pkT E J E) (kx (mvO E) ?_))))
  rcases ite_some h with ⟨Y,h⟩ | ⟨Y,h⟩
  ·refine kx (guT E Y (mvO h4)) (kx (guT E Y (mvO h6)) (kx (guT E Y (bLeq E E)) (kx (pkT E Y E) (kx (mvO E) ?_))))
   rcases ite_some h with ⟨O,h⟩ | ⟨O,h⟩
   ·refine kx (gsF E O) (kx (gsF E O) (kx (gsF E O) (kx (gsU E) (kx (gsU E) (kx (gsF E O) (kx (pkT E O E) (kx (mvO E) (Rn (hV (.bool true) E hZ) fun af aa=>sN (xx ?_)))))))))
    obtain rfl:=si h
    exact eR (resT aa res0) E
   refine kx (guF E O (mvO h3)) (kx (guF E O (uNot E)) (kx (guF E O (mvO E)) (kx (gsT E (congrArg Bool.not J)) (kx (gsT E (congrArg Bool.not J)) (kx (guF E O (pkF E (congrArg Bool.not J) E)) (kx (pkF E O E) (kx (mvO E) (Rn (hV (.bool false) E hZ) fun ah ab=>sN (xx ?_)))))))))
   obtain rfl:=si h
   exact eR (resT ab res0) E
  refine kx (gsT E Y) (kx (gsT E Y) (kx (gsT E Y) (kx (pkF E Y E) (kx (mvO E) (kx (guF E E (mvO h3)) (kx (guF E E (uNot E)) (kx (guF E E (mvO E)) (kx (gsT E (congrArg Bool.not J)) (kx (gsT E (congrArg Bool.not J)) (kx (guF E E (pkF E (congrArg Bool.not J) E)) (kx (pkF E E E) (kx (mvO E) (Rn (hV (.bool false) E hZ) fun ai ac=>sN (xx ?_))))))))))))))
  obtain rfl:=si h
  exact eR (resT ac res0) E
 refine kx (gsT E J) (kx (gsT E J) (kx (gsT E J) (kx (pkF E J E) (kx (mvO E) (kx (gsT E E) (kx (gsT E E) (kx (gsT E E) (kx (pkF E E E) (kx (mvO E) (kx (guF E E (mvO h3)) (kx (guF E E (uNot E)) (kx (guF E E (mvO E)) (kx (guT E (congrArg Bool.not J) (mvO h4)) (kx (guT E (congrArg Bool.not J) (bEql E E)) (kx (guF E E (pkT E (congrArg Bool.not J) E)) (kx (pkF E E E) (kx (mvO E) (Rn (hN E hZ) fun ao ae=>sN (xx ?_)))))))))))))))))))
 obtain rfl:=si h
 exact eR (resT ae res0) E
def impl_ValidDeal_c1_Q (a1:Deal) (g:Bool) (q:Out):Prop:=q.1 = .nrm∧eget q.2.1 1 = .pt none [.int .i64 a1.Day,.int .i8 a1.Kind,.int .i64 a1.Tally,.int .i64 a1.From,.int .i64 a1.To,.int .i64 a1.Amount]∧eget q.2.1 21 = .bool g
noncomputable def impl_ValidDeal (a1:Deal):Option Bool:=
 (if (decide (a1.Kind < 1))=true then
  some true
 else
  if (decide (a1.Kind > 4))=true then
   some true
  else
   (impl_isBookDay a1.Day).bind fun J=>
   some (!J)).bind fun O=>
 if O=true then
  some false
 else
  (impl_uses a1.Kind).bind fun (Y,aa,ab,ac)=>
  (impl_ValidDeal_1 Y a1.Tally 0 39).bind fun ae=>
  if ae=true then
   (impl_ValidDeal_1 aa a1.From 0 15).bind fun af=>
   if af=true then
    (impl_ValidDeal_1 ab a1.To 0 15).bind fun ah=>
    if ah=true then
     (impl_ValidDeal_1 ac a1.Amount 1 100000000).bind fun ai=>
     some ai
    else
     some false
   else
    some false
  else
   some false
def impl_ValidDeal_enc (r:Bool):AV:=.bool r
theorem impl_ValidDeal_ok (a1:Deal) (r:Bool) (h:impl_ValidDeal a1=some r):Ev (fun k=>CN k 30 [.agg [.int .i64 a1.Day,.int .i8 a1.Kind,.int .i64 a1.Tally,.int .i64 a1.From,.int .i64 a1.To,.int .i64 a1.Amount]] []) (fun p=>rRes p.2 p.1=impl_ValidDeal_enc r):=by
 unfold impl_ValidDeal at h
 obtain ⟨ai,ac,h⟩:=bind_some h
 refine Ev.enter (F:=fun k=>f30 (CN k) k) (fun k=>callN_eq E Try.func30 E E E (by decide +kernel) (f30_eq _ _)) (sq (Rg (kx (bxI E E ⟨E,E,by decide⟩) (kx (mvO E) (Rn (hN E hZ) fun e1 h3=>sN (sq (sq ?_)))))))
 refine Ev.cut (Q1:=impl_ValidDeal_c1_Q a1 ai) (by
     have h:=ac
     refine Rg (kx (faP h3 ⟨ble E,blt E⟩ E) (kx (ldP E E) (kx (bLss E E) (kx (mvO E) ?_))))
     rcases ite_some h with ⟨ab,h⟩ | ⟨ab,h⟩
     ·refine kx (gsF E ab) (kx (gsF E ab) (kx (gsF E ab) (kx (pkT E ab E) (kx (mvO E) (kx (gsF E E) (kx (gsF E E) (kc (Ev.gsF E E) (kx (gsF E E) (kx (pkT E E E) (Rn (hA h3 (hV (.bool true) E hZ)) fun e5 h7 h8=>?_))))))))))
      obtain rfl:=si h
      exact kd (show impl_ValidDeal_c1_Q a1 _ _ from ⟨E,h7,h8⟩)
     refine kx (guF E ab (faP h3 ⟨ble E,blt E⟩ E)) (kx (guF E ab (ldP E E)) (kx (guF E ab (bGtr E E)) (kx (pkF E ab E) (kx (mvO E) ?_))))
     rcases ite_some h with ⟨aa,h⟩ | ⟨aa,h⟩
     ·refine kx (gsF E aa) (kx (gsF E aa) (kc (Ev.gsF E aa) (kx (gsF E aa) (kx (pkT E aa E) (Rn (hA h3 (hV (.bool true) E hZ)) fun bi aG aH=>?_)))))
      obtain rfl:=si h
      exact kd (show impl_ValidDeal_c1_Q a1 _ _ from ⟨E,aG,aH⟩)
     obtain ⟨aI,az,h⟩:=bind_some h
     refine kx (guF E aa (faP h3 ⟨ble E,blt E⟩ E)) (kx (guF E aa (ldP E E)) (kc (Ev.guF E aa (cl (v:=.bool aI) E E (cns E E) E (impl_isBookDay_ok a1.Day _ az) nm)) (kx (guF E aa (uNot E)) (kx (pkF E aa E) (Rn (hA h3 (hN E hZ)) fun bj aJ aK=>?_)))))
     obtain rfl:=si h
     exact kd (show impl_ValidDeal_c1_Q a1 _ _ from ⟨E,aJ,aK⟩)) ?_
 revert h ac
 revert ai
 intro bm ac h
 intro x bo bq aA
 obtain ⟨rfl,aL,ao⟩:=aA
 refine sN ?_
 rcases ite_some h with ⟨ae,h⟩ | ⟨ae,h⟩
 ·refine cT ao ae (sq (Rg (kx (mvO E) (Rn (hV (.bool false) E hZ) fun bu aM=>sN (xx (sR ?_))))))
  obtain rfl:=si h
  exact eR (resT aM res0) E
 obtain ⟨⟨aq,au,aw,ax⟩,aB,h⟩:=bind_some h
 obtain ⟨aN,aC,h⟩:=bind_some h
 refine cF ao ae (xx (sN (sq (Rg (kx (mvO E) (Rn (hV (.pt none [.int .i64 a1.Day,.int .i8 a1.Kind,.int .i64 a1.Tally,.int .i64 a1.From,.int .i64 a1.To,.int .i64 a1.Amount]) aL (hV (.fn 79 []) E hZ)) fun bv ay aO=>sN (sq (Rg (kx (faP ay ⟨ble E,blt E⟩ E) (kx (ldP E E) (kc (cl (v:=.tup [.bool aq,.bool au,.bool aw,.bool ax]) E E (cns E E) E (impl_uses_ok a1.Kind _ aB) nm) (kx (mvO E) (kx (exT E E) (kx (exT E E) (kx (exT E E) (kx (exT E E) (kx (mvO E) (kx (mvO E) (kx (mvO E) (kx (mvO E) (Rn (hA ay (hA aO (hN E (hN E (hN E (hN E hZ)))))) fun bw af ah aP aR aS aT=>sN (sq (Rg (kx (mvO ah) (kx (mvO aP) (kx (faP af ⟨ble E,blt E⟩ E) (kx (ldP E E) (kc (cl (v:=.bool aN) E E (cns E (cns E (cns E (cns E E)))) E (impl_ValidDeal_1_ok aq a1.Tally 0 39 _ aC) nm) (kx (mvO E) ?_)))))))))))))))))))))))))))))
 rcases ite_some h with ⟨J,h⟩ | ⟨J,h⟩
 ·obtain ⟨aU,aD,h⟩:=bind_some h
  refine kx (guT E J (mvO ah)) (kx (guT E J (mvO aR)) (kx (guT E J (faP af ⟨ble E,blt E⟩ E)) (kx (guT E J (ldP E E)) (kc (Ev.guT E J (cl (v:=.bool aU) E E (cns E (cns E (cns E (cns E E)))) E (impl_ValidDeal_1_ok au a1.From 0 15 _ aD) nm)) (kx (pkT E J E) (kx (mvO E) ?_))))))
  rcases ite_some h with ⟨O,h⟩ | ⟨O,h⟩
  ·obtain ⟨aV,aE,h⟩:=bind_some h
   refine kx (guT E O (mvO ah)) (kx (guT E O (mvO aS)) (kx (guT E O (faP af ⟨ble E,blt E⟩ E)) (kx (guT E O (ldP E E)) (kc (Ev.guT E O (cl (v:=.bool aV) E E (cns E (cns E (cns E (cns E E)))) E (impl_ValidDeal_1_ok aw a1.To 0 15 _ aE) nm)) (kx (pkT E O E) (kx (mvO E) ?_))))))
   rcases ite_some h with ⟨Y,h⟩ | ⟨Y,h⟩
   ·obtain ⟨aZ,aF,h⟩:=bind_some h
    refine kx (guT E Y (mvO ah)) (kx (guT E Y (mvO aT)) (kx (guT E Y (faP af ⟨ble E,blt E⟩ E)) (kx (guT E Y (ldP E E)) (kc (Ev.guT E Y (cl (v:=.bool aZ) E E (cns E (cns E (cns E (cns E E)))) E (impl_ValidDeal_1_ok ax a1.Amount 1 100000000 _ aF) nm)) (kx (pkT E Y E) (kx (mvO E) (Rn (hN E hZ) fun bz a8=>sN (xx ?_))))))))
    obtain rfl:=si h
    exact eR (resT a8 res0) E
   refine kx (gsT E Y) (kx (gsT E Y) (kx (gsT E Y) (kx (gsT E Y) (kc (Ev.gsT E Y) (kx (pkF E Y E) (kx (mvO E) (Rn (hV (.bool false) E hZ) fun bA ba=>sN (xx ?_))))))))
   obtain rfl:=si h
   exact eR (resT ba res0) E
  refine kx (gsT E O) (kx (gsT E O) (kx (gsT E O) (kx (gsT E O) (kc (Ev.gsT E O) (kx (pkF E O E) (kx (mvO E) (kx (gsT E E) (kx (gsT E E) (kx (gsT E E) (kx (gsT E E) (kc (Ev.gsT E E) (kx (pkF E E E) (kx (mvO E) (Rn (hV (.bool false) E hZ) fun bB bb=>sN (xx ?_)))))))))))))))
  obtain rfl:=si h
  exact eR (resT bb res0) E
 refine kx (gsT E J) (kx (gsT E J) (kx (gsT E J) (kx (gsT E J) (kc (Ev.gsT E J) (kx (pkF E J E) (kx (mvO E) (kx (gsT E E) (kx (gsT E E) (kx (gsT E E) (kx (gsT E E) (kc (Ev.gsT E E) (kx (pkF E E E) (kx (mvO E) (kx (gsT E E) (kx (gsT E E) (kx (gsT E E) (kx (gsT E E) (kc (Ev.gsT E E) (kx (pkF E E E) (kx (mvO E) (Rn (hV (.bool false) E hZ) fun bC bf=>sN (xx ?_))))))))))))))))))))))
 obtain rfl:=si h
 exact eR (resT bf res0) E
abbrev impl_areDeals_b1_S:=Int
abbrev impl_areDeals_b1_R:=Unit⊕Unit
def impl_areDeals_b1_RS (a1:List Deal) (s:impl_areDeals_b1_S) (e:Env) (M:Mem):Prop:=eget e 5 = .sl none (a1.map Deal.c)∧eget e 6 = .int .i64 (a1.length:Int)∧eget e 7 = .int .i64 s
def impl_areDeals_b1_RR (a1:List Deal) (r:impl_areDeals_b1_R) (x:Ex) (e:Env) (M:Mem):Prop:=
  match r with
  | (.inl g)=>x = .ret∧eget e 2 = .bool false
  | (.inr g)=>x = .ext 0∧True
noncomputable def impl_areDeals_b1 (a1:List Deal):impl_areDeals_b1_S→Option (impl_areDeals_b1_S⊕impl_areDeals_b1_R):=fun J=>
 if (decide (J < (a1.length:Int)))=true then
  (rd a1 J).bind fun O=>
  (impl_ValidDeal O).bind fun Y=>
  if Y=true then
   some (.inl (IntKind.i64.wrap (J + 1)))
  else
   some (.inr (.inl ()))
 else
  some (.inr (.inr ()))
theorem impl_areDeals_b1_ok (a1:List Deal) (s:impl_areDeals_b1_S) (r:impl_areDeals_b1_S⊕impl_areDeals_b1_R) (h:impl_areDeals_b1 a1 s=some r) (e:Env) (M:Mem) (hs:impl_areDeals_b1_RS a1 s e M):Ev (fun k=>(f106_l2 (CN k) k (prune [5,6,7] e) M).bind fun q=>some q) (bQ (impl_areDeals_b1_RS a1) (impl_areDeals_b1_RR a1) r):=by
 revert h hs
 revert s
 intro aq h hs
 unfold impl_areDeals_b1 at h
 obtain ⟨az,aA,aB⟩:=hs
 generalize O:prune [5,6,7] e=aU
 have aC:=envp O.symm E az
 have ab:=envp O.symm E aA
 have ac:=envp O.symm E aB
 refine sq (Rg (kx (bLss ac ab) (Rn (hV (.sl none (a1.map Deal.c)) aC (hV (.int .i64 (a1.length:Int)) ab (hV (.int .i64 aq) ac (hN E hZ)))) fun aV ae aD af ah=>sN (sq ?_))))
 rcases ite_some h with ⟨Y,h⟩ | ⟨Y,h⟩
 ·obtain ⟨J,au,h⟩:=bind_some h
  refine cT ah Y (xx (sN (sq (bl (sq (Rg (kx (ixS ae af au Deal.fl) (kx (ldPA E E E) (ku (alO zero36) fun aE aw=>?_)))))))))
  have ai:aE[M.length]? = some (.live ⟨.box,36,6,[[.int .i64 0,.int .i8 0,.int .i64 0,.int .i64 0,.int .i64 0,.int .i64 0]]⟩):=push_new aw
  refine kw (stO E E ai E E ⟨E,ble E⟩ E E) fun aF ax=>?_
  have aG:aF[M.length]? = some (.live ⟨.box,36,6,[[.int .i64 J.Day,.int .i8 J.Kind,.int .i64 J.Tally,.int .i64 J.From,.int .i64 J.To,.int .i64 J.Amount]]⟩):=set_same ax ai
  obtain ⟨aH,ay,h⟩:=bind_some h
  refine Rn (hV (.loc M.length 1 0 0) E (hA ae (hA aD (hA af hZ)))) fun aZ aI aJ aK aL=>sN (sq (Rg (kx (ldOA aI aG E E (ble E) E) (kc (cl (v:=.bool aH) E E (cns E E) E (impl_ValidDeal_ok J _ ay) nm) (kx (uNot E) (Rn (hA aJ (hA aK (hA aL (hN E hZ)))) fun a8 aM aN aO ao=>sN ?_))))))
  rcases ite_some h with ⟨aa,h⟩ | ⟨aa,h⟩
  ·refine cF ao (congrArg Bool.not aa) (xx (bN (sN (Rg (kx (bAdd aO E) (kx (mvO E) (Rn (hA aM (hA aN (hN E hZ))) fun ba aP aR aS=>?_)))))))
   obtain rfl:=si h
   exact qN ⟨aP,aR,aS⟩
  refine cT ao (congrArg Bool.not aa) (sq (Rg (kx (mvO E) (Rn (hV (.bool false) E hZ) fun bb aT=>sN (xx (bR (sR ?_)))))))
  obtain rfl:=si h
  exact qR ⟨E,aT⟩
 refine cF ah Y (xx (sE ?_))
 obtain rfl:=si h
 exact qE ⟨E,trivial⟩
noncomputable def impl_areDeals (a1:List Deal):Option Bool:=
 (Lw (impl_areDeals_b1 a1) 0).bind fun r=>match r with
 | (.inl _)=>
  some false
 | (.inr _)=>
  some true
def impl_areDeals_enc (r:Bool):AV:=.bool r
theorem impl_areDeals_ok (a1:List Deal) (r:Bool) (h:impl_areDeals a1=some r):Ev (fun k=>CN k 106 [.sl none (a1.map Deal.c)] []) (fun p=>rRes p.2 p.1=impl_areDeals_enc r):=by
 unfold impl_areDeals at h
 obtain ⟨Y,O,h⟩:=bind_some h
 refine Ev.enter (F:=fun k=>f106 (CN k) k) (fun k=>callN_eq E Try.func106 E E E (by decide +kernel) (f106_eq _ _)) (sq (Rg (kx (mvO E) (Rn (hN E hZ) fun e1 h3=>sN (sq (sq (Rg (kx (mvO h3) (kx (lnS Try.underlying28 E) (kx (mvO E) (Rn (hN E (hN E (hV (.int .i64 0) E hZ))) fun e4 h6 h7 h8=>sN (bl ?_))))))))))))
 rcases Y with _ | _
 ·refine Ev.loop (RS:=impl_areDeals_b1_RS a1) (RR:=impl_areDeals_b1_RR a1) (fun s r h e M hs=>impl_areDeals_b1_ok a1 s r h e M hs) O ⟨h6,h7,h8⟩ fun x ac ae J=>?_
  obtain ⟨rfl,aa⟩:=J
  refine bR (sR ?_)
  obtain rfl:=si h
  exact eR (resT aa res0) E
 refine Ev.loop (RS:=impl_areDeals_b1_RS a1) (RR:=impl_areDeals_b1_RR a1) (fun s r h e M hs=>impl_areDeals_b1_ok a1 s r h e M hs) O ⟨h6,h7,h8⟩ fun x af ah J=>?_
 obtain ⟨rfl,_⟩:=J
 refine bE (sN (sq (Rg (kx (mvO E) (Rn (hV (.bool true) E hZ) fun ai ab=>sN (xx ?_))))))
 obtain rfl:=si h
 exact eR (resT ab res0) E
abbrev impl_getsAndOwes_b1_S:=Int×Int×Int
abbrev impl_getsAndOwes_b1_R:=Int×Int
def impl_getsAndOwes_b1_RS (a1:Book) (a2:Int) (s:impl_getsAndOwes_b1_S) (e:Env) (M:Mem):Prop:=eget e 1 = .int .i64 a2∧eget e 6 = .int .i64 s.1∧eget e 7 = .int .i64 s.2.1∧eget e 11 = .sl none (a1.Tallies.map Tally.c)∧eget e 12 = .int .i64 (a1.Tallies.length:Int)∧eget e 13 = .int .i64 s.2.2
def impl_getsAndOwes_b1_RR (a1:Book) (a2:Int) (g:impl_getsAndOwes_b1_R) (x:Ex) (e:Env) (M:Mem):Prop:=x = .ext 0∧eget e 6 = .int .i64 g.1∧eget e 7 = .int .i64 g.2
noncomputable def impl_getsAndOwes_b1 (a1:Book) (a2:Int):impl_getsAndOwes_b1_S→Option (impl_getsAndOwes_b1_S⊕impl_getsAndOwes_b1_R):=fun (O,Y,J)=>
 if (decide (J < (a1.Tallies.length:Int)))=true then
  (rd a1.Tallies J).bind fun aa=>
  if (aa.Holder==a2)=true then
   if (aa.Debtor==a2)=true then
    some (.inl ((IntKind.i64.wrap (O + aa.Left)),(IntKind.i64.wrap (Y + aa.Left)),(IntKind.i64.wrap (J + 1))))
   else
    some (.inl ((IntKind.i64.wrap (O + aa.Left)),Y,(IntKind.i64.wrap (J + 1))))
  else
   if (aa.Debtor==a2)=true then
    some (.inl (O,(IntKind.i64.wrap (Y + aa.Left)),(IntKind.i64.wrap (J + 1))))
   else
    some (.inl (O,Y,(IntKind.i64.wrap (J + 1))))
 else
  some (.inr (O,Y))
theorem impl_getsAndOwes_b1_ok (a1:Book) (a2:Int) (s:impl_getsAndOwes_b1_S) (r:impl_getsAndOwes_b1_S⊕impl_getsAndOwes_b1_R) (h:impl_getsAndOwes_b1 a1 a2 s=some r) (e:Env) (M:Mem) (hs:impl_getsAndOwes_b1_RS a1 a2 s e M):Ev (fun k=>(f87_l3 (CN k) k (prune [1,6,7,11,12,13] e) M).bind fun q=>some q) (bQ (impl_getsAndOwes_b1_RS a1 a2) (impl_getsAndOwes_b1_RR a1 a2) r):=by
 obtain ⟨bb,bf,bi⟩:=s
 unfold impl_getsAndOwes_b1 at h
 obtain ⟨ct,cw,cC,cD,cE,cG⟩:=hs
 generalize O:prune [1,6,7,11,12,13] e=dn
 have cH:=envp O.symm E ct
 have cJ:=envp O.symm E cw
 have cK:=envp O.symm E cC
 have cM:=envp O.symm E cD
 have aD:=envp O.symm E cE
 have aE:=envp O.symm E cG
 refine sq (Rg (kx (bLss aE aD) (Rn (hV (.int .i64 a2) cH (hV (.int .i64 bb) cJ (hV (.int .i64 bf) cK (hV (.sl none (a1.Tallies.map Tally.c)) cM (hV (.int .i64 (a1.Tallies.length:Int)) aD (hV (.int .i64 bi) aE (hN E hZ))))))) fun dp cN aF aG aH cO aI aJ=>sN (sq ?_))))
 rcases ite_some h with ⟨ac,h⟩ | ⟨ac,h⟩
 ·obtain ⟨ab,bj,h⟩:=bind_some h
  refine cT aJ ac (xx (sN (sq (bl (sq (Rg (kx (ixS aH aI bj Tally.fl) (kx (ldPA E E E) (ku (alO zero49) fun cQ bm=>?_)))))))))
  have aK:cQ[M.length]? = some (.live ⟨.box,49,5,[[.int .i64 0,.int .i64 0,.int .i64 0,.int .i64 0,.int .i64 0]]⟩):=push_new bm
  refine kw (stO E E aK E E ⟨E,ble E⟩ E E) fun cR bo=>?_
  have J:cR[M.length]? = some (.live ⟨.box,49,5,[[.int .i64 ab.Debtor,.int .i64 ab.Holder,.int .i64 ab.Cut,.int .i64 ab.Amount,.int .i64 ab.Left]]⟩):=set_same bo aK
  refine Rn (hA cN (hA aF (hA aG (hV (.loc M.length 1 0 0) E (hA aH (hA cO (hA aI hZ))))))) fun dq aL cU cV aM cW cX cY=>sN (sq (sq (Rg (kx (faO aM J E) (kx (ldO E J E E E) (kx (mvO aL) (kx (bEql E E) (Rn (hA aL (hA cU (hA cV (hA aM (hA cW (hA cX (hA cY (hN E hZ)))))))) fun dt ah aN aO af aP aR aS aT=>sN ?_))))))))
  rcases ite_some h with ⟨ae,h⟩ | ⟨ae,h⟩
  ·refine cT aT ae (Rg (kx (mvO aN) (kx (faO af J E) (kx (ldO E J E E E) (kx (bAdd E E) (kx (mvO E) (Rn (hA ah (hN E (hA aO (hA af (hA aP (hA aR (hA aS hZ))))))) fun du aU cZ da aV db dc de=>sN (sq (Rg (kx (faO aV J E) (kx (ldO E J E E E) (kx (mvO aU) (kx (bEql E E) (Rn (hA aU (hA cZ (hA da (hA aV (hA db (hA dc (hA de (hN E hZ)))))))) fun dw aZ a8 ba bq ai ao aq au=>sN ?_))))))))))))))
   rcases ite_some h with ⟨Y,h⟩ | ⟨Y,h⟩
   ·refine cT au Y (Rg (kx (mvO ba) (kx (faO bq J E) (kx (ldO E J E E E) (kx (bAdd E E) (kx (mvO E) (Rn (hA aZ (hA a8 (hN E (hA ai (hA ao (hA aq hZ)))))) fun df bu bv bw bz bA bB=>bN (sN (Rg (kx (bAdd bB E) (kx (mvO E) (Rn (hA bu (hA bv (hA bw (hA bz (hA bA (hN E hZ)))))) fun dg bC bD bF bG bH bI=>?_))))))))))))
    obtain rfl:=si h
    exact qN ⟨bC,bD,bF,bG,bH,bI⟩
   refine cF au Y (xx (bN (sN (Rg (kx (bAdd aq E) (kx (mvO E) (Rn (hA aZ (hA a8 (hA ba (hA ai (hA ao (hN E hZ)))))) fun di bJ bK bL bM bP bS=>?_)))))))
   obtain rfl:=si h
   exact qN ⟨bJ,bK,bL,bM,bP,bS⟩
  refine cF aT ae (xx (sN (sq (Rg (kx (faO af J E) (kx (ldO E J E E E) (kx (mvO ah) (kx (bEql E E) (Rn (hA ah (hA aN (hA aO (hA af (hA aP (hA aR (hA aS (hN E hZ)))))))) fun dj aw ax ay bT az aA aB aC=>sN ?_)))))))))
  rcases ite_some h with ⟨aa,h⟩ | ⟨aa,h⟩
  ·refine cT aC aa (Rg (kx (mvO ay) (kx (faO bT J E) (kx (ldO E J E E E) (kx (bAdd E E) (kx (mvO E) (Rn (hA aw (hA ax (hN E (hA az (hA aA (hA aB hZ)))))) fun dk bU bV bW bX bY bZ=>bN (sN (Rg (kx (bAdd bZ E) (kx (mvO E) (Rn (hA bU (hA bV (hA bW (hA bX (hA bY (hN E hZ)))))) fun dl b7 b8 b9 cb cd cf=>?_))))))))))))
   obtain rfl:=si h
   exact qN ⟨b7,b8,b9,cb,cd,cf⟩
  refine cF aC aa (xx (bN (sN (Rg (kx (bAdd aB E) (kx (mvO E) (Rn (hA aw (hA ax (hA ay (hA az (hA aA (hN E hZ)))))) fun dm cg ci cj cm cq cr=>?_)))))))
  obtain rfl:=si h
  exact qN ⟨cg,ci,cj,cm,cq,cr⟩
 refine cF aJ ac (xx (sE ?_))
 obtain rfl:=si h
 exact qE ⟨E,aF,aG⟩
noncomputable def impl_getsAndOwes (a1:Book) (a2:Int):Option (Int×Int):=
 (Lw (impl_getsAndOwes_b1 a1 a2) (0,0,0)).bind fun (J,O)=>
 some (J,O)
def impl_getsAndOwes_enc (r:Int×Int):AV:=.tup [.int .i64 r.1,.int .i64 r.2]
theorem impl_getsAndOwes_ok (a1:Book) (a2:Int) (r:Int×Int) (h:impl_getsAndOwes a1 a2=some r):Ev (fun k=>CN k 87 [.agg [.int .i64 a1.Day,.sl none (a1.Cash.map (cI .i64)),.sl none (a1.Tallies.map Tally.c)],.int .i64 a2] []) (fun p=>rRes p.2 p.1=impl_getsAndOwes_enc r):=by
 unfold impl_getsAndOwes at h
 obtain ⟨⟨aw,ax⟩,J,h⟩:=bind_some h
 refine Ev.enter (F:=fun k=>f87 (CN k) k) (fun k=>callN_eq E Try.func87 E E E (by decide +kernel) (f87_eq _ _)) (sq (Rg (kx (bxI E E ⟨E,E,by decide⟩) (kx (mvO E) (kx (mvO E) (Rn (hN E (hN E hZ)) fun e1 h3 h4=>sN (sq (Rg (kx (mvO E) (kx (mvO E) (Rn (hA h3 (hA h4 (hV (.int .i64 0) E (hV (.int .i64 0) E hZ)))) fun e5 h7 h8 h9 ae=>sN (sq (sq (Rg (kx (faP h8 ⟨ble E,blt E⟩ E) (kx (ldP E E) (kx (lnS Try.underlying25 E) (kx (mvO E) (Rn (hA h7 (hA h9 (hA ae (hN E (hN E (hV (.int .i64 0) E hZ)))))) fun aB af ah ai ao aq au=>sN (bl (Ev.loop (RS:=impl_getsAndOwes_b1_RS a1 a2) (RR:=impl_getsAndOwes_b1_RR a1 a2) (fun s r h e M hs=>impl_getsAndOwes_b1_ok a1 a2 s r h e M hs) J ⟨af,ah,ai,ao,aq,au⟩ fun x ay az O=>?_)))))))))))))))))))))
 obtain ⟨rfl,Y,aa⟩:=O
 refine bE (sN (sq (Rg (kx (mvO Y) (kx (mvO aa) (kx (mvO E) (kx (mvO E) (Rn (hN E (hN E hZ)) fun aA ab ac=>sN (xx ?_)))))))))
 obtain rfl:=si h
 exact eR (resT ab (resT ac res0)) E
noncomputable def spec_l07Copy (a1:Book):Option (Int×(List Int)×(List Tally)):=
 (app 8 ([]:List Int) a1.Cash).bind fun x9=>
 (app 40 ([]:List Tally) a1.Tallies).bind fun J=>
 some (a1.Day,x9,J)
def spec_l07Copy_enc (r:Int×(List Int)×(List Tally)):AV:=.agg [.int .i64 r.1,.sl (some 2) (r.2.1.map (cI .i64)),.sl (some 49) (r.2.2.map Tally.c)]
theorem spec_l07Copy_ok (a1:Book) (r:Int×(List Int)×(List Tally)) (h:spec_l07Copy a1=some r):Ev (fun k=>CN k 65 [.pt none [.int .i64 a1.Day,.sl none (a1.Cash.map (cI .i64)),.sl none (a1.Tallies.map Tally.c)]] []) (fun p=>rRes p.2 p.1=spec_l07Copy_enc r):=by
 unfold spec_l07Copy at h
 refine Ev.enter (F:=fun k=>f65 (CN k) k) (fun k=>callN_eq E Try.func65 E E E (by decide +kernel) (f65_eq _ _)) (sq (Rg (ku (alO zero27) fun M2 aa=>?_)))
 have o4:M2[([]:Mem).length]? = some (.live ⟨.box,27,3,[[.int .i64 0,.nils,.nils]]⟩):=push_new aa
 obtain ⟨x9,J,h⟩:=bind_some h
 obtain ⟨ab,O,h⟩:=bind_some h
 refine Rn (hN E (hV (.loc ([]:Mem).length 1 0 0) E hZ)) fun e5 h7 h8=>sN (sq (Rd (kf (mvO h7) (kf (ncP E) (kf (faP E ⟨ble E,blt E⟩ E) (kf (ldP E E) (kf (litI E E ⟨E,by decide⟩) (kf (mvO h7) (kf (ncP E) (kf (faP E ⟨ble E,blt E⟩ E) (kf (ldP E E) (kf (aiT (c:=(cI .i64)) (xs:=([]:List Int)) E (elS E) J (cI_fl _) (by decide)) (kf (litI E E ⟨E,by decide⟩) (kf (mvO h7) (kf (ncP E) (kf (faP E ⟨ble E,blt E⟩ E) (kf (ldP E E) (kf (aiT (c:=Tally.c) (xs:=([]:List Tally)) E (elS E) O Tally.fl (by decide)) (kf (bldT zero27 (cns (pr3 E) (cns (pr3 E) (cns (pr3 E) E))) (fill1 ⟨E,ble E⟩ E E (fill1 ⟨E,ble E⟩ E E (fill1 ⟨E,ble E⟩ E E (fill0 E))))) (fZ (kw (stOK h8 E o4 E E ⟨E,ble E⟩ E E) fun ac Y=>?_)))))))))))))))))))))
 have ae:ac[([]:Mem).length]? = some (.live ⟨.box,27,3,[[.int .i64 a1.Day,.sl (some 2) (x9.map (cI .i64)),.sl (some 49) (ab.map Tally.c)]]⟩):=set_same Y o4
 refine Rn (hA h8 hZ) fun ah af=>sN (xx ?_)
 obtain rfl:=si h
 exact eR (resC (ag:=true) (sz:=3) ⟨by kernel_rfl,by kernel_rfl,by kernel_rfl⟩ (ldOA af ae E E (ble E) E) res0) E
noncomputable def spec_l07Do (a1:Book) (a2:Deal):Option (Int⊕(Int×(List Int)×(List Tally))):=
 (spec_l07Refused a1 a2).bind fun ab=>
 if (ab != 0)=true then
  some (.inl ab)
 else
  (spec_l07Copy a1).bind fun (ai,O,Y)=>
  if (a2.Kind==1)=true then
   (app 40 Y [(Tally.mk a2.From a2.To a2.Day a2.Amount a2.Amount)]).bind fun ae=>
   some (.inr (a2.Day,O,ae))
  else
   (rd Y a2.Tally).bind fun J=>
   if (a2.Kind==2)=true then
    if (((Tally.mk J.Debtor a2.To J.Cut J.Amount J.Left)).Holder==((Tally.mk J.Debtor a2.To J.Cut J.Amount J.Left)).Debtor)=true then
     some (.inr (a2.Day,O,((Y.set a2.Tally.toNat (Tally.mk J.Debtor a2.To J.Cut J.Amount J.Left)).set a2.Tally.toNat (Tally.mk ((Tally.mk J.Debtor a2.To J.Cut J.Amount J.Left)).Debtor ((Tally.mk J.Debtor a2.To J.Cut J.Amount J.Left)).Holder ((Tally.mk J.Debtor a2.To J.Cut J.Amount J.Left)).Cut ((Tally.mk J.Debtor a2.To J.Cut J.Amount J.Left)).Amount 0))))
    else
     some (.inr (a2.Day,O,(Y.set a2.Tally.toNat (Tally.mk J.Debtor a2.To J.Cut J.Amount J.Left))))
   else
    if (a2.Kind==3)=true then
     (rd O J.Debtor).bind fun aa=>
     (rd O J.Debtor).bind fun af=>
     (rd (O.set J.Debtor.toNat (IntKind.i64.wrap (aa - a2.Amount))) J.Holder).bind fun ac=>
     (rd (O.set J.Debtor.toNat (IntKind.i64.wrap (aa - a2.Amount))) J.Holder).bind fun ah=>
     some (.inr (a2.Day,((O.set J.Debtor.toNat (IntKind.i64.wrap (aa - a2.Amount))).set J.Holder.toNat (IntKind.i64.wrap (ac + a2.Amount))),(Y.set a2.Tally.toNat (Tally.mk J.Debtor J.Holder J.Cut J.Amount (IntKind.i64.wrap (J.Left - a2.Amount))))))
    else
     if (a2.Kind==4)=true then
      some (.inr (a2.Day,O,(Y.set a2.Tally.toNat (Tally.mk J.Debtor J.Holder J.Cut J.Amount 0))))
     else
      some (.inr (a2.Day,O,Y))
def spec_l07Do_enc (r:Int⊕(Int×(List Int)×(List Tally))):AV:=
  match r with
  | (.inl g)=>.tup [.agg [.int .i64 0,.nils,.nils],.int .i64 g]
  | (.inr g)=>.tup [.agg [.int .i64 g.1,.sl (some 2) (g.2.1.map (cI .i64)),.sl (some 49) (g.2.2.map Tally.c)],.int .i64 0]
theorem spec_l07Do_ok (a1:Book) (a2:Deal) (r:Int⊕(Int×(List Int)×(List Tally))) (h:spec_l07Do a1 a2=some r):Ev (fun k=>CN k 78 [.pt none [.int .i64 a1.Day,.sl none (a1.Cash.map (cI .i64)),.sl none (a1.Tallies.map Tally.c)],.pt none [.int .i64 a2.Day,.int .i8 a2.Kind,.int .i64 a2.Tally,.int .i64 a2.From,.int .i64 a2.To,.int .i64 a2.Amount]] []) (fun p=>rRes p.2 p.1=spec_l07Do_enc r):=by
 unfold spec_l07Do at h
 refine Ev.enter (F:=fun k=>f78 (CN k) k) (fun k=>callN_eq E Try.func78 E E E (by decide +kernel) (f78_eq _ _)) (sq (Rg (ku (alO zero27) fun M2 fh=>?_)))
 have o4:M2[([]:Mem).length]? = some (.live ⟨.box,27,3,[[.int .i64 0,.nils,.nils]]⟩):=push_new fh
 obtain ⟨fi,dq,h⟩:=bind_some h
 refine kx (mvO E) (Rn (hN E (hN E (hV (.loc ([]:Mem).length 1 0 0) E hZ))) fun e5 h7 h8 h9=>sN (sq (sq (Rg (kx (mvO h7) (kx (mvO h8) (kc (cl (v:=.int .i64 fi) E E (cns E (cns E E)) E (spec_l07Refused_ok a1 a2 _ dq) nm) (kx (mvO E) (Rn (hA h7 (hA h8 (hA h9 (hN E hZ)))) fun gG fj fk fm cV=>sN (sq (Rg (kx (mvO cV) (kx (bNeq E E) (Rn (hA fj (hA fk (hA fm (hA cV (hN E hZ))))) fun gH fo fq bM ft cW=>sN ?_))))))))))))))
 rcases ite_some h with ⟨bv,h⟩ | ⟨bv,h⟩
 ·refine cT cW bv (sq (Rg (kx (bldT zero27 E (fill0 E)) (kx (mvO ft) (kw (stOK bM E o4 E E ⟨E,ble E⟩ E E) fun fu dt=>?_)))))
  have fw:fu[([]:Mem).length]? = some (.live ⟨.box,27,3,[[.int .i64 0,.nils,.nils]]⟩):=set_same dt o4
  refine kx (mvO E) (Rn (hA bM (hN E hZ)) fun gI fA fB=>sN (xx (sR ?_)))
  obtain rfl:=si h
  exact eR (resC (ag:=true) (sz:=3) ⟨by kernel_rfl,by kernel_rfl,by kernel_rfl⟩ (ldOA fA fw E E (ble E) E) (resT fB res0)) E
 obtain ⟨⟨bP,O,Y⟩,du,h⟩:=bind_some h
 refine cF cW bv (xx (sN (sq (Rg (kx (mvO fo) (Ev.nxcp (Ev.callT (v:=.agg [.int .i64 bP,.sl (some 2) (O.map (cI .i64)),.sl (some 49) (Y.map Tally.c)]) E (cns E E) E (spec_l07Copy_ok a1 _ du) (th_gen (v':=.agg [.int .i64 bP,.lsl M2.length O.length 0 O.length,.lsl (M2.length + 1) Y.length 0 Y.length]) (l:=[⟨.grow,2,1,O.map (cI .i64)⟩,⟨.grow,49,5,Y.map Tally.c⟩]) (own_agg (oa1 E (oa1 (own1_row' (c:=(cI .i64)) (fun _=>E)) (oa1 (own1_row' (c:=Tally.c) Tally.flF) oa0)))) (by simp [thaw,thaw2,thaw1,thawL,co2,co49]) E E)) fun aN bw=>?_))))))
 have cX:=push_old bw o4
 have ai:([]:Mem).length≠M2.length:=by have:=lt_of_get (M:=M2) o4; omega
 have cY:aN[M2.length]? = some (.live ⟨.grow,2,1,O.map (cI .i64)⟩):=push_at bw 0 E
 have ae:([]:Mem).length≠(M2.length + 1):=by have:=lt_of_get (M:=M2) o4; omega
 have au:M2.length≠(M2.length + 1):=by omega
 have cZ:aN[(M2.length + 1)]? = some (.live ⟨.grow,49,5,Y.map Tally.c⟩):=push_at bw 1 E
 refine ku (alO zero27) fun fC aT=>?_
 have fD:=push_old aT cX
 have af:=ne_new cX
 have da:=push_old aT cY
 have aO:=ne_new cY
 have db:=push_old aT cZ
 have ao:=ne_new cZ
 have dc:fC[aN.length]? = some (.live ⟨.box,27,3,[[.int .i64 0,.nils,.nils]]⟩):=push_new aT
 refine kw (stOK E E dc E E ⟨E,ble E⟩ (all1 E (all1 (okL da (by simp)) (all1 (okL db (by simp)) all0))) E) fun fE aU=>?_
 have fF:=set_ne aU af fD
 have fG:=set_ne aU aO da
 have fH:=set_ne aU ao db
 have bS:fE[aN.length]? = some (.live ⟨.box,27,3,[[.int .i64 bP,.lsl M2.length O.length 0 O.length,.lsl (M2.length + 1) Y.length 0 Y.length]]⟩):=set_same aU dc
 refine Rn (hA fq (hA bM (hV (.loc aN.length 1 0 0) E hZ))) fun gJ de fI df=>sN (sq (Rg (kx (mvO de) (kx (ncP E) (kx (faP E ⟨ble E,blt E⟩ E) (kx (ldP E E) (kx (faO df bS E) (kw (stO E E bS E E ⟨E,ble E⟩ E E) fun fJ aV=>?_))))))))
 have aS:=set_ne aV af fF
 have aq:=set_ne aV aO fG
 have ab:=set_ne aV ao fH
 have ah:fJ[aN.length]? = some (.live ⟨.box,27,3,[[.int .i64 a2.Day,.lsl M2.length O.length 0 O.length,.lsl (M2.length + 1) Y.length 0 Y.length]]⟩):=set_same aV bS
 refine Rn (hA de (hA fI (hA df hZ))) fun gK dg fK fL=>sN (sq (sq (Rg (kx (mvO dg) (kx (ncP E) (kx (faP E ⟨ble E,blt E⟩ E) (kx (ldP E E) (kx (bEql E E) (Rn (hA dg (hA fK (hA fL (hN E hZ)))) fun gL aP di bq dj=>sN ?_)))))))))
 rcases ite_some h with ⟨bz,h⟩ | ⟨bz,h⟩
 ·obtain ⟨bu,dw,h⟩:=bind_some h
  refine cT dj bz (sq (Rd (kf (faO bq ah E) (kf (ldO E ah E E E) (kf (mvO aP) (kf (ncP E) (kf (faP E ⟨ble E,blt E⟩ E) (kf (ldP E E) (kf (mvO aP) (kf (ncP E) (kf (faP E ⟨ble E,blt E⟩ E) (kf (ldP E E) (kf (mvO aP) (kf (ncP E) (kf (faP E ⟨ble E,blt E⟩ E) (kf (ldP E E) (kf (mvO aP) (kf (ncP E) (kf (faP E ⟨ble E,blt E⟩ E) (kf (ldP E E) (kf (mvO aP) (kf (ncP E) (kf (faP E ⟨ble E,blt E⟩ E) (kf (ldP E E) (kf (bldT zero49 (cns (pr3 E) (cns (pr3 E) (cns (pr3 E) (cns (pr3 E) (cns (pr3 E) E))))) (fill1 ⟨E,ble E⟩ E E (fill1 ⟨E,ble E⟩ E E (fill1 ⟨E,ble E⟩ E E (fill1 ⟨E,ble E⟩ E E (fill1 ⟨E,ble E⟩ E E (fill0 E))))))) (kf (litI (cns E E) E ⟨E,by decide⟩) (fZ (kw (apO E ab E (elT (c:=Tally.c) (xs:=[(Tally.mk a2.From a2.To a2.Day a2.Amount a2.Amount)]) E) dw Tally.fl (by decide)) fun fM aZ=>?_))))))))))))))))))))))))))))
  have fN:=set_ne aZ ae aS
  have fO:=set_ne aZ au aq
  have dk:fM[(M2.length + 1)]? = some (.live ⟨.grow,49,5,bu.map Tally.c⟩):=set_same aZ ab
  have bT:=set_ne aZ (Ne.symm ao) ah
  refine kx (faO bq bT E) (kw (stOK E E bT E E ⟨E,ble E⟩ (all1 (okL dk (by simp)) all0) E) fun fP a8=>?_)
  have dl:=set_ne a8 af fN
  have dm:=set_ne a8 aO fO
  have dn:=set_ne a8 ao dk
  have dp:fP[aN.length]? = some (.live ⟨.box,27,3,[[.int .i64 a2.Day,.lsl M2.length O.length 0 O.length,.lsl (M2.length + 1) bu.length 0 bu.length]]⟩):=set_same a8 bT
  refine Rn (hA di (hA bq hZ)) fun fV bU dx=>sN (sq (Rg (kx (ldOA dx dp E E (ble E) E) (kw (stOK bU E dl E E ⟨E,ble E⟩ (all1 E (all1 (okL dm (by simp)) (all1 (okL dn (by simp)) all0))) E) fun dz aE=>?_))))
  have dA:dz[([]:Mem).length]? = some (.live ⟨.box,27,3,[[.int .i64 a2.Day,.lsl M2.length O.length 0 O.length,.lsl (M2.length + 1) bu.length 0 bu.length]]⟩):=set_same aE dl
  have dC:=set_ne aE (Ne.symm ai) dm
  have dD:=set_ne aE (Ne.symm ae) dn
  have fW:=set_ne aE (Ne.symm af) dp
  refine kx (mvO E) (Rn (hA bU (hV (.int .i64 0) E hZ)) fun fX dE dF=>sN (xx (sR ?_)))
  obtain rfl:=si h
  exact eR (resC (ag:=true) (sz:=3) ⟨by kernel_rfl,by kernel_rfl,by kernel_rfl⟩ (ldOA dE dA E E (ble E) E) (resT dF res0)) (rr_tup (mp1 (rr_agg (mp1 E (mp1 (rr_row dC E (cI_fl _)) (mp1 (rr_row dD E Tally.fl) mp0)))) (mp1 E mp0)))
 obtain ⟨J,aa,h⟩:=bind_some h
 refine cF dj bz (xx (sN (sq (Rd (kf (faO bq ah E) (kf (ldO E ah E E E) (kf (mvO aP) (kf (ncP E) (kf (faP E ⟨ble E,blt E⟩ E) (kf (ldP E E) (kf (ixO E ab E E (rd_get aa).1 (rd_lt aa).2) (kf (mvO E) (fZ (Rn (hA aP (hA di (hA bq (hV (.loc (M2.length + 1) Y.length (0 + a2.Tally.toNat) 0) E hZ)))) fun fY bV dG dH dI=>sN (sq (sq (Rg (kx (mvO bV) (kx (ncP E) (kx (faP E ⟨ble E,blt E⟩ E) (kx (ldP E E) (Rn (hA bV (hA dG (hA dH (hA dI (hN E hZ))))) fun ga dJ dK dL dM bW=>sN (bl (sq (Rg (kx (bEql bW E) (kx (mvO E) (Rn (hA dJ (hA dK (hA dL (hA dM (hA bW (hN E hZ)))))) fun gc bX bY bZ bA b7 b8=>sN ?_))))))))))))))))))))))))))))
 rcases ite_some h with ⟨ba,h⟩ | ⟨ba,h⟩
 ·refine cT b8 ba (sq (Rg (kx (mvO bA) (kx (mvO bX) (kx (ncP E) (kx (faP E ⟨ble E,blt E⟩ E) (kx (ldP E E) (kx (ncO E ab (by simp)) (kx (faO E ab (by simp)) (kw (stR (u:=J) (u':=(Tally.mk J.Debtor a2.To J.Cut J.Amount J.Left)) E E ab E (rz2 aa) ⟨E,ble E⟩ E E) fun dN ax=>?_))))))))))
  rw [Nat.zero_add] at ax
  have bB:=set_ne ax ae aS
  have bC:=set_ne ax au aq
  have ac:dN[(M2.length + 1)]? = some (.live ⟨.grow,49,5,(Y.set a2.Tally.toNat (Tally.mk J.Debtor a2.To J.Cut J.Amount J.Left)).map Tally.c⟩):=set_same ax ab
  have bD:=set_ne ax (Ne.symm ao) ah
  have aF:=rd_set (u':=(Tally.mk J.Debtor a2.To J.Cut J.Amount J.Left)) aa
  refine Rn (hA bY (hA bZ (hA bA hZ))) fun gf dO dP bF=>sN (sq (Rd (kf (mvO bF) (kf (ncO E ac (by simp)) (kf (faO E ac (by simp)) (kf (ldO E ac (by simp) (rz aF) E) (kf (mvO bF) (kf (ncO E ac (by simp)) (kf (faO E ac (by simp)) (kf (ldO E ac (by simp) (rz aF) E) (kf (bEql E E) (fZ (Rn (hA dO (hA dP (hA bF (hN E hZ)))) fun gg bG b9 dQ cb=>sN ?_)))))))))))))
  rcases ite_some h with ⟨bb,h⟩ | ⟨bb,h⟩
  ·refine cT cb bb (Rg (kx (mvO dQ) (kx (ncO E ac (by simp)) (kx (faO E ac (by simp)) (kw (stR (u:=(Tally.mk J.Debtor a2.To J.Cut J.Amount J.Left)) (u':=(Tally.mk ((Tally.mk J.Debtor a2.To J.Cut J.Amount J.Left)).Debtor ((Tally.mk J.Debtor a2.To J.Cut J.Amount J.Left)).Holder ((Tally.mk J.Debtor a2.To J.Cut J.Amount J.Left)).Cut ((Tally.mk J.Debtor a2.To J.Cut J.Amount J.Left)).Amount 0)) E E ac (by simp) (rz2 aF) ⟨E,ble E⟩ E E) fun dR ay=>?_)))))
   rw [Nat.zero_add] at ay
   have cd:=set_ne ay ae bB
   have cf:=set_ne ay au bC
   have cg:dR[(M2.length + 1)]? = some (.live ⟨.grow,49,5,((Y.set a2.Tally.toNat (Tally.mk J.Debtor a2.To J.Cut J.Amount J.Left)).set a2.Tally.toNat (Tally.mk ((Tally.mk J.Debtor a2.To J.Cut J.Amount J.Left)).Debtor ((Tally.mk J.Debtor a2.To J.Cut J.Amount J.Left)).Holder ((Tally.mk J.Debtor a2.To J.Cut J.Amount J.Left)).Cut ((Tally.mk J.Debtor a2.To J.Cut J.Amount J.Left)).Amount 0)).map Tally.c⟩):=set_same ay ac
   have ci:=set_ne ay (Ne.symm ao) bD
   have fQ:=rd_set (u':=(Tally.mk ((Tally.mk J.Debtor a2.To J.Cut J.Amount J.Left)).Debtor ((Tally.mk J.Debtor a2.To J.Cut J.Amount J.Left)).Holder ((Tally.mk J.Debtor a2.To J.Cut J.Amount J.Left)).Cut ((Tally.mk J.Debtor a2.To J.Cut J.Amount J.Left)).Amount 0)) aF
   refine Rn (hA bG (hA b9 hZ)) fun gh cj dS=>bN (sN (sq (Rg (kx (ldOA dS ci E E (ble E) E) (kw (stOK cj E cd E E ⟨E,ble E⟩ (all1 E (all1 (okL cf (by simp)) (all1 (okL cg (by simp)) all0))) E) fun dT aG=>?_)))))
   have dU:dT[([]:Mem).length]? = some (.live ⟨.box,27,3,[[.int .i64 a2.Day,.lsl M2.length O.length 0 O.length,.lsl (M2.length + 1) Y.length 0 Y.length]]⟩):=set_same aG cd
   have dV:=set_ne aG (Ne.symm ai) cf
   have dW:=set_ne aG (Ne.symm ae) cg
   have gi:=set_ne aG (Ne.symm af) ci
   refine kx (mvO E) (Rn (hA cj (hV (.int .i64 0) E hZ)) fun gj dX dY=>sN (xx ?_))
   obtain rfl:=si h
   exact eR (resC (ag:=true) (sz:=3) ⟨by kernel_rfl,by kernel_rfl,by kernel_rfl⟩ (ldOA dX dU E E (ble E) E) (resT dY res0)) (rr_tup (mp1 (rr_agg (mp1 E (mp1 (rr_row dV E (cI_fl _)) (mp1 (rr_row dW (by simp) Tally.fl) mp0)))) (mp1 E mp0)))
  refine cF cb bb (xx (bN (sN (sq (Rg (kx (ldOA b9 bD E E (ble E) E) (kw (stOK bG E bB E E ⟨E,ble E⟩ (all1 E (all1 (okL bC (by simp)) (all1 (okL ac (by simp)) all0))) E) fun dZ aH=>?_)))))))
  have d5:dZ[([]:Mem).length]? = some (.live ⟨.box,27,3,[[.int .i64 a2.Day,.lsl M2.length O.length 0 O.length,.lsl (M2.length + 1) Y.length 0 Y.length]]⟩):=set_same aH bB
  have d6:=set_ne aH (Ne.symm ai) bC
  have d7:=set_ne aH (Ne.symm ae) ac
  have gk:=set_ne aH (Ne.symm af) bD
  refine kx (mvO E) (Rn (hA bG (hV (.int .i64 0) E hZ)) fun gm d8 d9=>sN (xx ?_))
  obtain rfl:=si h
  exact eR (resC (ag:=true) (sz:=3) ⟨by kernel_rfl,by kernel_rfl,by kernel_rfl⟩ (ldOA d8 d5 E E (ble E) E) (resT d9 res0)) (rr_tup (mp1 (rr_agg (mp1 E (mp1 (rr_row d6 E (cI_fl _)) (mp1 (rr_row d7 (by simp) Tally.fl) mp0)))) (mp1 E mp0)))
 refine cF b8 ba (sq (Rg (kx (bEql b7 E) (kx (mvO E) (Rn (hA bX (hA bY (hA bZ (hA bA (hA b7 (hN E hZ)))))) fun gn cm cq bH bI ea cr=>sN ?_)))))
 rcases ite_some h with ⟨bf,h⟩ | ⟨bf,h⟩
 ·obtain ⟨aD,bi,h⟩:=bind_some h
  obtain ⟨ed,aI,h⟩:=bind_some h
  refine cT cr bf (sq (Rd (kf (faO bH ah E) (kf (ldO E ah E E E) (kf (mvO bI) (kf (ncO E ab (by simp)) (kf (faO E ab (by simp)) (kf (ldO E ab (by simp) (rz aa) E) (kf (ixO E aq E E (rd_get bi).1 (rd_lt bi).2) (kf (ldO E aq (by simp) (rz bi) E) (kf (mvO cm) (kf (ncP E) (kf (faP E ⟨ble E,blt E⟩ E) (kf (ldP E E) (kf (bSub E E) (kf (ixO E aq E E (rd_get aI).1 (rd_lt aI).2) (fZ (kw (stR (u:=ed) (u':=(IntKind.i64.wrap (aD - a2.Amount))) E E aq E (rz2 aI) ⟨E,ble E⟩ E E) fun ee az=>?_))))))))))))))))))
  rw [Nat.zero_add] at az
  have eo:=set_ne az ai aS
  have aR:ee[M2.length]? = some (.live ⟨.grow,2,1,(O.set J.Debtor.toNat (IntKind.i64.wrap (aD - a2.Amount))).map (cI .i64)⟩):=set_same az aq
  have bj:=set_ne az (Ne.symm au) ab
  have bJ:=set_ne az (Ne.symm aO) ah
  have fR:=rd_set (u':=(IntKind.i64.wrap (aD - a2.Amount))) aI
  obtain ⟨bK,bm,h⟩:=bind_some h
  obtain ⟨ep,aJ,h⟩:=bind_some h
  refine Rn (hA cm (hA cq (hA bH (hA bI hZ)))) fun gp ct eu cw cC=>sN (sq (Rd (kf (faO cw bJ E) (kf (ldO E bJ E E E) (kf (mvO cC) (kf (ncO E bj (by simp)) (kf (faO E bj (by simp)) (kf (ldO E bj (by simp) (rz aa) E) (kf (ixO (lslL (L':=(O.set J.Debtor.toNat (IntKind.i64.wrap (aD - a2.Amount))).length) E (by simp)) aR E E (rd_get bm).1 (rd_lt bm).2) (kf (ldO E aR (by simp) (rz bm) E) (kf (mvO ct) (kf (ncP E) (kf (faP E ⟨ble E,blt E⟩ E) (kf (ldP E E) (kf (bAdd E E) (kf (ixO (lslL (L':=(O.set J.Debtor.toNat (IntKind.i64.wrap (aD - a2.Amount))).length) E (by simp)) aR E E (rd_get aJ).1 (rd_lt aJ).2) (fZ (kw (stR (u:=ep) (u':=(IntKind.i64.wrap (bK + a2.Amount))) E E aR E (rz2 aJ) ⟨E,ble E⟩ E E) fun ew aA=>?_))))))))))))))))))
  rw [Nat.zero_add] at aA
  have ex:=set_ne aA ai eo
  have ey:ew[M2.length]? = some (.live ⟨.grow,2,1,((O.set J.Debtor.toNat (IntKind.i64.wrap (aD - a2.Amount))).set J.Holder.toNat (IntKind.i64.wrap (bK + a2.Amount))).map (cI .i64)⟩):=set_same aA aR
  have aw:=set_ne aA (Ne.symm au) bj
  have ez:=set_ne aA (Ne.symm aO) bJ
  have fS:=rd_set (u':=(IntKind.i64.wrap (bK + a2.Amount))) aJ
  refine Rn (hA ct (hA eu (hA cw (hA cC hZ)))) fun gq eA eB eC eD=>sN (Rd (kf (mvO eD) (kf (ncO E aw (by simp)) (kf (faO E aw (by simp)) (kf (ldO E aw (by simp) (rz aa) E) (kf (mvO eA) (kf (ncP E) (kf (faP E ⟨ble E,blt E⟩ E) (kf (ldP E E) (kf (bSub E E) (kf (ncO E aw (by simp)) (kf (faO E aw (by simp)) (fZ (kw (stR (u:=J) (u':=(Tally.mk J.Debtor J.Holder J.Cut J.Amount (IntKind.i64.wrap (J.Left - a2.Amount)))) E E aw E (rz2 aa) ⟨E,ble E⟩ E E) fun eE aB=>?_))))))))))))))
  rw [Nat.zero_add] at aB
  have cD:=set_ne aB ae ex
  have cE:=set_ne aB au ey
  have cG:eE[(M2.length + 1)]? = some (.live ⟨.grow,49,5,(Y.set a2.Tally.toNat (Tally.mk J.Debtor J.Holder J.Cut J.Amount (IntKind.i64.wrap (J.Left - a2.Amount)))).map Tally.c⟩):=set_same aB aw
  have cH:=set_ne aB (Ne.symm ao) ez
  have fT:=rd_set (u':=(Tally.mk J.Debtor J.Holder J.Cut J.Amount (IntKind.i64.wrap (J.Left - a2.Amount)))) aa
  refine Rn (hA eB (hA eC hZ)) fun gt cJ eF=>bN (sN (sq (Rg (kx (ldOA eF cH E E (ble E) E) (kw (stOK cJ E cD E E ⟨E,ble E⟩ (all1 E (all1 (okL cE (by simp)) (all1 (okL cG (by simp)) all0))) E) fun eG aK=>?_)))))
  have eH:eG[([]:Mem).length]? = some (.live ⟨.box,27,3,[[.int .i64 a2.Day,.lsl M2.length O.length 0 O.length,.lsl (M2.length + 1) Y.length 0 Y.length]]⟩):=set_same aK cD
  have eJ:=set_ne aK (Ne.symm ai) cE
  have eK:=set_ne aK (Ne.symm ae) cG
  have gw:=set_ne aK (Ne.symm af) cH
  refine kx (mvO E) (Rn (hA cJ (hV (.int .i64 0) E hZ)) fun gz eL eM=>sN (xx ?_))
  obtain rfl:=si h
  exact eR (resC (ag:=true) (sz:=3) ⟨by kernel_rfl,by kernel_rfl,by kernel_rfl⟩ (ldOA eL eH E E (ble E) E) (resT eM res0)) (rr_tup (mp1 (rr_agg (mp1 E (mp1 (rr_row eJ (by simp) (cI_fl _)) (mp1 (rr_row eK (by simp) Tally.fl) mp0)))) (mp1 E mp0)))
 refine cF cr bf (sq (Rg (kx (bEql ea E) (kx (mvO E) (Rn (hA cq (hA bH (hA bI (hN E hZ)))) fun gA bL cK eO cM=>sN ?_)))))
 rcases ite_some h with ⟨bo,h⟩ | ⟨bo,h⟩
 ·refine cT cM bo (Rg (kx (mvO eO) (kx (ncO E ab (by simp)) (kx (faO E ab (by simp)) (kw (stR (u:=J) (u':=(Tally.mk J.Debtor J.Holder J.Cut J.Amount 0)) E E ab E (rz2 aa) ⟨E,ble E⟩ E E) fun eP aC=>?_)))))
  rw [Nat.zero_add] at aC
  have cN:=set_ne aC ae aS
  have cO:=set_ne aC au aq
  have cQ:eP[(M2.length + 1)]? = some (.live ⟨.grow,49,5,(Y.set a2.Tally.toNat (Tally.mk J.Debtor J.Holder J.Cut J.Amount 0)).map Tally.c⟩):=set_same aC ab
  have cR:=set_ne aC (Ne.symm ao) ah
  have fU:=rd_set (u':=(Tally.mk J.Debtor J.Holder J.Cut J.Amount 0)) aa
  refine Rn (hA bL (hA cK hZ)) fun gB cU eQ=>bN (sN (sq (Rg (kx (ldOA eQ cR E E (ble E) E) (kw (stOK cU E cN E E ⟨E,ble E⟩ (all1 E (all1 (okL cO (by simp)) (all1 (okL cQ (by simp)) all0))) E) fun eS aL=>?_)))))
  have eT:eS[([]:Mem).length]? = some (.live ⟨.box,27,3,[[.int .i64 a2.Day,.lsl M2.length O.length 0 O.length,.lsl (M2.length + 1) Y.length 0 Y.length]]⟩):=set_same aL cN
  have eU:=set_ne aL (Ne.symm ai) cO
  have eV:=set_ne aL (Ne.symm ae) cQ
  have gC:=set_ne aL (Ne.symm af) cR
  refine kx (mvO E) (Rn (hA cU (hV (.int .i64 0) E hZ)) fun gD eW eX=>sN (xx ?_))
  obtain rfl:=si h
  exact eR (resC (ag:=true) (sz:=3) ⟨by kernel_rfl,by kernel_rfl,by kernel_rfl⟩ (ldOA eW eT E E (ble E) E) (resT eX res0)) (rr_tup (mp1 (rr_agg (mp1 E (mp1 (rr_row eU E (cI_fl _)) (mp1 (rr_row eV (by simp) Tally.fl) mp0)))) (mp1 E mp0)))
 refine cF cM bo (xx (bN (sN (sq (Rg (kx (ldOA cK ah E E (ble E) E) (kw (stOK bL E aS E E ⟨E,ble E⟩ (all1 E (all1 (okL aq (by simp)) (all1 (okL ab (by simp)) all0))) E) fun eY aM=>?_)))))))
 have eZ:eY[([]:Mem).length]? = some (.live ⟨.box,27,3,[[.int .i64 a2.Day,.lsl M2.length O.length 0 O.length,.lsl (M2.length + 1) Y.length 0 Y.length]]⟩):=set_same aM aS
 have fa:=set_ne aM (Ne.symm ai) aq
 have fd:=set_ne aM (Ne.symm ae) ab
 have gE:=set_ne aM (Ne.symm af) ah
 refine kx (mvO E) (Rn (hA bL (hV (.int .i64 0) E hZ)) fun gF ff fg=>sN (xx ?_))
 obtain rfl:=si h
 exact eR (resC (ag:=true) (sz:=3) ⟨by kernel_rfl,by kernel_rfl,by kernel_rfl⟩ (ldOA ff eZ E E (ble E) E) (resT fg res0)) (rr_tup (mp1 (rr_agg (mp1 E (mp1 (rr_row fa E (cI_fl _)) (mp1 (rr_row fd E Tally.fl) mp0)))) (mp1 E mp0)))
def spec_l07Ok_c1_Q (a1:Book) (g:Bool) (q:Out):Prop:=q.1 = .nrm∧eget q.2.1 0 = .pt none [.int .i64 a1.Day,.sl none (a1.Cash.map (cI .i64)),.sl none (a1.Tallies.map Tally.c)]∧eget q.2.1 27 = .bool g
def spec_l07Ok_c3_Q (a1:Book) (O:Int) (J:Tally) (g:Bool) (q:Out):Prop:=q.1 = .nrm∧eget q.2.1 0 = .pt none [.int .i64 a1.Day,.sl none (a1.Cash.map (cI .i64)),.sl none (a1.Tallies.map Tally.c)]∧eget q.2.1 3 = .int .i64 (a1.Cash.length:Int)∧eget q.2.1 4 = .int .i64 O∧eget q.2.1 5 = .pt none [.int .i64 J.Debtor,.int .i64 J.Holder,.int .i64 J.Cut,.int .i64 J.Amount,.int .i64 J.Left]∧eget q.2.1 95 = .bool g
abbrev spec_l07Ok_b1_S:=Int
abbrev spec_l07Ok_b1_R:=Unit⊕Unit
def spec_l07Ok_b1_RS (a1:Book) (s:spec_l07Ok_b1_S) (e:Env) (M:Mem):Prop:=eget e 0 = .pt none [.int .i64 a1.Day,.sl none (a1.Cash.map (cI .i64)),.sl none (a1.Tallies.map Tally.c)]∧eget e 3 = .int .i64 (a1.Cash.length:Int)∧eget e 4 = .int .i64 s
def spec_l07Ok_b1_RR (a1:Book) (r:spec_l07Ok_b1_R) (x:Ex) (e:Env) (M:Mem):Prop:=
  match r with
  | (.inl g)=>x = .ret∧eget e 2 = .bool false
  | (.inr g)=>x = .ext 0∧True
noncomputable def spec_l07Ok_b1 (a1:Book):spec_l07Ok_b1_S→Option (spec_l07Ok_b1_S⊕spec_l07Ok_b1_R):=fun J=>
 if (decide (J < (a1.Tallies.length:Int)))=true then
  (rd a1.Tallies J).bind fun O=>
  ((spec_l02Person (a1.Cash.length:Int) O.Debtor).bind fun ac=>
  if ac=true then
   (spec_l02Person (a1.Cash.length:Int) O.Holder).bind fun ae=>
   if ae=true then
    (spec_l00In O.Cut 0 a1.Day).bind fun af=>
    if af=true then
     (spec_l00In O.Amount 1 100000000).bind fun ah=>
     if ah=true then
      (spec_l00In O.Left 0 O.Amount).bind fun ai=>
      some (!ai)
     else
      some true
    else
     some true
   else
    some true
  else
   some true).bind fun Y=>
  if Y=true then
   some (.inr (.inl ()))
  else
   if (O.Debtor==O.Holder)=true then
    if (O.Left != 0)=true then
     some (.inr (.inl ()))
    else
     if (decide (J > 0))=true then
      (rd a1.Tallies (IntKind.i64.wrap (J - 1))).bind fun aa=>
      if (decide (O.Cut < aa.Cut))=true then
       some (.inr (.inl ()))
      else
       some (.inl (IntKind.i64.wrap (J + 1)))
     else
      some (.inl (IntKind.i64.wrap (J + 1)))
   else
    if (decide (J > 0))=true then
     (rd a1.Tallies (IntKind.i64.wrap (J - 1))).bind fun ab=>
     if (decide (O.Cut < ab.Cut))=true then
      some (.inr (.inl ()))
     else
      some (.inl (IntKind.i64.wrap (J + 1)))
    else
     some (.inl (IntKind.i64.wrap (J + 1)))
 else
  some (.inr (.inr ()))
theorem spec_l07Ok_b1_ok (a1:Book) (s:spec_l07Ok_b1_S) (r:spec_l07Ok_b1_S⊕spec_l07Ok_b1_R) (h:spec_l07Ok_b1 a1 s=some r) (e:Env) (M:Mem) (hs:spec_l07Ok_b1_RS a1 s e M):Ev (fun k=>(f76_l5 (CN k) k (prune [0,3,4] e) M).bind fun q=>some q) (bQ (spec_l07Ok_b1_RS a1) (spec_l07Ok_b1_RR a1) r):=by
 revert h hs
 revert s
 intro ah h hs
 unfold spec_l07Ok_b1 at h
 obtain ⟨cD,cE,cG⟩:=hs
 generalize aF:prune [0,3,4] e=dI
 have aO:=envp aF.symm E cD
 have cH:=envp aF.symm E cE
 have aP:=envp aF.symm E cG
 refine sq (sq (Rg (kx (mvO aP) (kx (mvO aO) (kx (ncP E) (kx (faP E ⟨ble E,blt E⟩ E) (kx (ldP E E) (kx (lnS Try.underlying25 E) (kx (bLss E E) (Rn (hV (.pt none [.int .i64 a1.Day,.sl none (a1.Cash.map (cI .i64)),.sl none (a1.Tallies.map Tally.c)]) aO (hV (.int .i64 (a1.Cash.length:Int)) cH (hV (.int .i64 ah) aP (hN E hZ)))) fun dJ aR cJ aS aT=>sN ?_))))))))))
 rcases ite_some h with ⟨aG,h⟩ | ⟨aG,h⟩
 ·obtain ⟨ao,aU,h⟩:=bind_some h
  obtain ⟨aH,aA,h⟩:=bind_some h
  refine cT aT aG (xx (sN (sq (bl (sq (Rg (kx (mvO aR) (kx (ncP E) (kx (faP E ⟨ble E,blt E⟩ E) (kx (ldP E E) (kx (mvO aS) (kx (ixS E E aU Tally.fl) (kx (mvO E) (Rn (hA aR (hA cJ (hA aS (hN E hZ)))) fun dK az aw aE aq=>sN (sq (sq ?_))))))))))))))))
  refine Ev.cut (Q1:=spec_l07Ok_c3_Q a1 ah ao aH) (by
      have h:=aA
      obtain ⟨cK,aV,h⟩:=bind_some h
      refine Rd (kf (mvO aw) (kf (mvO aq) (kf (ncP E) (kf (faP E ⟨ble E,blt E⟩ E) (kf (ldP E E) (fc (cl (v:=.bool cK) E E (cns E (cns E E)) E (spec_l02Person_ok (a1.Cash.length:Int) ao.Debtor _ aV) nm) (kf (uNot E) (kf (mvO E) ?_))))))))
      rcases ite_some h with ⟨ab,h⟩ | ⟨ab,h⟩
      ·obtain ⟨cM,aZ,h⟩:=bind_some h
       refine kf (guF E (congrArg Bool.not ab) (mvO aw)) (kf (guF E (congrArg Bool.not ab) (mvO aq)) (kf (guF E (congrArg Bool.not ab) (ncP E)) (kf (guF E (congrArg Bool.not ab) (faP E ⟨ble E,blt E⟩ E)) (kf (guF E (congrArg Bool.not ab) (ldP E E)) (fc (Ev.guF E (congrArg Bool.not ab) (cl (v:=.bool cM) E E (cns E (cns E E)) E (spec_l02Person_ok (a1.Cash.length:Int) ao.Holder _ aZ) nm)) (kf (guF E (congrArg Bool.not ab) (uNot E)) (kf (pkF E (congrArg Bool.not ab) E) (kf (mvO E) ?_))))))))
       rcases ite_some h with ⟨Y,h⟩ | ⟨Y,h⟩
       ·obtain ⟨cN,a8,h⟩:=bind_some h
        refine kf (guF E (congrArg Bool.not Y) (mvO aq)) (kf (guF E (congrArg Bool.not Y) (ncP E)) (kf (guF E (congrArg Bool.not Y) (faP E ⟨ble E,blt E⟩ E)) (kf (guF E (congrArg Bool.not Y) (ldP E E)) (kf (guF E (congrArg Bool.not Y) (mvO az)) (kf (guF E (congrArg Bool.not Y) (ncP E)) (kf (guF E (congrArg Bool.not Y) (faP E ⟨ble E,blt E⟩ E)) (kf (guF E (congrArg Bool.not Y) (ldP E E)) (fc (Ev.guF E (congrArg Bool.not Y) (cl (v:=.bool cN) E E (cns E (cns E (cns E E))) E (spec_l00In_ok ao.Cut 0 a1.Day _ a8) nm)) (kf (guF E (congrArg Bool.not Y) (uNot E)) (kf (pkF E (congrArg Bool.not Y) E) (kf (mvO E) ?_)))))))))))
        rcases ite_some h with ⟨af,h⟩ | ⟨af,h⟩
        ·obtain ⟨cO,ba,h⟩:=bind_some h
         refine kf (guF E (congrArg Bool.not af) (mvO aq)) (kf (guF E (congrArg Bool.not af) (ncP E)) (kf (guF E (congrArg Bool.not af) (faP E ⟨ble E,blt E⟩ E)) (kf (guF E (congrArg Bool.not af) (ldP E E)) (fc (Ev.guF E (congrArg Bool.not af) (cl (v:=.bool cO) E E (cns E (cns E (cns E E))) E (spec_l00In_ok ao.Amount 1 100000000 _ ba) nm)) (kf (guF E (congrArg Bool.not af) (uNot E)) (kf (pkF E (congrArg Bool.not af) E) (kf (mvO E) ?_)))))))
         rcases ite_some h with ⟨aa,h⟩ | ⟨aa,h⟩
         ·obtain ⟨cQ,bb,h⟩:=bind_some h
          refine kf (guF E (congrArg Bool.not aa) (mvO aq)) (kf (guF E (congrArg Bool.not aa) (ncP E)) (kf (guF E (congrArg Bool.not aa) (faP E ⟨ble E,blt E⟩ E)) (kf (guF E (congrArg Bool.not aa) (ldP E E)) (kf (guF E (congrArg Bool.not aa) (mvO aq)) (kf (guF E (congrArg Bool.not aa) (ncP E)) (kf (guF E (congrArg Bool.not aa) (faP E ⟨ble E,blt E⟩ E)) (kf (guF E (congrArg Bool.not aa) (ldP E E)) (fc (Ev.guF E (congrArg Bool.not aa) (cl (v:=.bool cQ) E E (cns E (cns E (cns E E))) E (spec_l00In_ok ao.Left 0 ao.Amount _ bb) nm)) (kf (guF E (congrArg Bool.not aa) (uNot E)) (kf (pkF E (congrArg Bool.not aa) E) (fZ (Rn (hA az (hA aw (hA aE (hA aq (hN E hZ))))) fun dL cR cU cV cW cX=>?_))))))))))))
          obtain rfl:=si h
          exact kd (show spec_l07Ok_c3_Q a1 ah ao _ _ from ⟨E,cR,cU,cV,cW,cX⟩)
         refine kf (gsF E (congrArg Bool.not aa)) (kf (gsF E (congrArg Bool.not aa)) (kf (gsF E (congrArg Bool.not aa)) (kf (gsF E (congrArg Bool.not aa)) (kf (gsF E (congrArg Bool.not aa)) (kf (gsF E (congrArg Bool.not aa)) (kf (gsF E (congrArg Bool.not aa)) (kf (gsF E (congrArg Bool.not aa)) (fc (Ev.gsF E (congrArg Bool.not aa)) (kf (gsF E (congrArg Bool.not aa)) (kf (pkT E (congrArg Bool.not aa) E) (fZ (Rn (hA az (hA aw (hA aE (hA aq (hV (.bool true) E hZ))))) fun dM cY cZ da db dc=>?_))))))))))))
         obtain rfl:=si h
         exact kd (show spec_l07Ok_c3_Q a1 ah ao _ _ from ⟨E,cY,cZ,da,db,dc⟩)
        refine kf (gsF E (congrArg Bool.not af)) (kf (gsF E (congrArg Bool.not af)) (kf (gsF E (congrArg Bool.not af)) (kf (gsF E (congrArg Bool.not af)) (fc (Ev.gsF E (congrArg Bool.not af)) (kf (gsF E (congrArg Bool.not af)) (kf (pkT E (congrArg Bool.not af) E) (kf (mvO E) (kf (gsF E E) (kf (gsF E E) (kf (gsF E E) (kf (gsF E E) (kf (gsF E E) (kf (gsF E E) (kf (gsF E E) (kf (gsF E E) (fc (Ev.gsF E E) (kf (gsF E E) (kf (pkT E E E) (fZ (Rn (hA az (hA aw (hA aE (hA aq (hV (.bool true) E hZ))))) fun dN bf bi bj bm bo=>?_))))))))))))))))))))
        obtain rfl:=si h
        exact kd (show spec_l07Ok_c3_Q a1 ah ao _ _ from ⟨E,bf,bi,bj,bm,bo⟩)
       refine kf (gsF E (congrArg Bool.not Y)) (kf (gsF E (congrArg Bool.not Y)) (kf (gsF E (congrArg Bool.not Y)) (kf (gsF E (congrArg Bool.not Y)) (kf (gsF E (congrArg Bool.not Y)) (kf (gsF E (congrArg Bool.not Y)) (kf (gsF E (congrArg Bool.not Y)) (kf (gsF E (congrArg Bool.not Y)) (fc (Ev.gsF E (congrArg Bool.not Y)) (kf (gsF E (congrArg Bool.not Y)) (kf (pkT E (congrArg Bool.not Y) E) (kf (mvO E) (kf (gsF E E) (kf (gsF E E) (kf (gsF E E) (kf (gsF E E) (fc (Ev.gsF E E) (kf (gsF E E) (kf (pkT E E E) (kf (mvO E) (kf (gsF E E) (kf (gsF E E) (kf (gsF E E) (kf (gsF E E) (kf (gsF E E) (kf (gsF E E) (kf (gsF E E) (kf (gsF E E) (fc (Ev.gsF E E) (kf (gsF E E) (kf (pkT E E E) (fZ (Rn (hA az (hA aw (hA aE (hA aq (hV (.bool true) E hZ))))) fun de bq bu bv bw bz=>?_))))))))))))))))))))))))))))))))
       obtain rfl:=si h
       exact kd (show spec_l07Ok_c3_Q a1 ah ao _ _ from ⟨E,bq,bu,bv,bw,bz⟩)
      refine kf (gsF E (congrArg Bool.not ab)) (kf (gsF E (congrArg Bool.not ab)) (kf (gsF E (congrArg Bool.not ab)) (kf (gsF E (congrArg Bool.not ab)) (kf (gsF E (congrArg Bool.not ab)) (fc (Ev.gsF E (congrArg Bool.not ab)) (kf (gsF E (congrArg Bool.not ab)) (kf (pkT E (congrArg Bool.not ab) E) (kf (mvO E) (kf (gsF E E) (kf (gsF E E) (kf (gsF E E) (kf (gsF E E) (kf (gsF E E) (kf (gsF E E) (kf (gsF E E) (kf (gsF E E) (fc (Ev.gsF E E) (kf (gsF E E) (kf (pkT E E E) (kf (mvO E) (kf (gsF E E) (kf (gsF E E) (kf (gsF E E) (kf (gsF E E) (fc (Ev.gsF E E) (kf (gsF E E) (kf (pkT E E E) (kf (mvO E) (kf (gsF E E) (kf (gsF E E) (kf (gsF E E) (kf (gsF E E) (kf (gsF E E) (kf (gsF E E) (kf (gsF E E) (kf (gsF E E) (fc (Ev.gsF E E) (kf (gsF E E) (kf (pkT E E E) (fZ (Rn (hA az (hA aw (hA aE (hA aq (hV (.bool true) E hZ))))) fun df bA bB bC bD bF=>?_)))))))))))))))))))))))))))))))))))))))))
      obtain rfl:=si h
      exact kd (show spec_l07Ok_c3_Q a1 ah ao _ _ from ⟨E,bA,bB,bC,bD,bF⟩)) ?_
  revert h aA
  revert aH
  intro dg aA h
  intro x di dj aL
  obtain ⟨rfl,au,ax,ai,ay,aI⟩:=aL
  refine sN ?_
  rcases ite_some h with ⟨aB,h⟩ | ⟨aB,h⟩
  ·refine cT aI aB (sq (Rg (kx (mvO E) (Rn (hV (.bool false) E hZ) fun dk bG=>sN (xx (sR (bR (sR ?_))))))))
   obtain rfl:=si h
   exact qR ⟨E,bG⟩
  refine cF aI aB (xx (sN (sq (Rd (kf (mvO ay) (kf (ncP E) (kf (faP E ⟨ble E,blt E⟩ E) (kf (ldP E E) (kf (mvO ay) (kf (ncP E) (kf (faP E ⟨ble E,blt E⟩ E) (kf (ldP E E) (kf (bEql E E) (kf (mvO E) ?_))))))))))))))
  rcases ite_some h with ⟨ac,h⟩ | ⟨ac,h⟩
  ·refine kf (guT E ac (mvO ay)) (kf (guT E ac (ncP E)) (kf (guT E ac (faP E ⟨ble E,blt E⟩ E)) (kf (guT E ac (ldP E E)) (kf (guT E ac (bNeq E E)) (kf (pkT E ac E) (kf (mvO E) ?_))))))
   rcases ite_some h with ⟨ae,h⟩ | ⟨ae,h⟩
   ·refine kf (gsF E ae) (kf (gsF E ae) (kf (gsF E ae) (kf (gsU E) (kf (gsU E) (kf (gsU E) (kf (gsU E) (kf (gsU E) (kf (gsU E) (kf (gsU E) (kf (gsU E) (kf (gsU E) (kf (gsU E) (kf (gsU E) (kf (gsU E) (kf (gsU E) (kf (gsU E) (kf (gsF E ae) (kf (pkT E ae E) (fZ (Rn (hV (.pt none [.int .i64 a1.Day,.sl none (a1.Cash.map (cI .i64)),.sl none (a1.Tallies.map Tally.c)]) au (hV (.int .i64 (a1.Cash.length:Int)) ax (hV (.int .i64 ah) ai (hV (.bool true) E hZ)))) fun dl dm dn dp bH=>sN (cT bH E (sq (Rg (kx (mvO E) (Rn (hV (.bool false) E hZ) fun dq bI=>sN (xx (bR (sR ?_))))))))))))))))))))))))))))
    obtain rfl:=si h
    exact qR ⟨E,bI⟩
   refine kf (guF E ae (mvO ai)) (kf (guF E ae (bGtr E E)) (kf (guF E ae (mvO E)) ?_))
   rcases ite_some h with ⟨J,h⟩ | ⟨J,h⟩
   ·obtain ⟨dt,aM,h⟩:=bind_some h
    refine kf (guT E J (mvO ay)) (kf (guT E J (ncP E)) (kf (guT E J (faP E ⟨ble E,blt E⟩ E)) (kf (guT E J (ldP E E)) (kf (guT E J (mvO au)) (kf (guT E J (ncP E)) (kf (guT E J (faP E ⟨ble E,blt E⟩ E)) (kf (guT E J (ldP E E)) (kf (guT E J (mvO ai)) (kf (guT E J (bSub E E)) (kf (guT E J (ixS E E aM Tally.fl)) (kf (guT E J (faP E ⟨ble E,blt E⟩ E)) (kf (guT E J (ldP E E)) (kf (guT E J (bLss E E)) (kf (guF E ae (pkT E J E)) (kf (pkF E ae E) (fZ (Rn (hV (.pt none [.int .i64 a1.Day,.sl none (a1.Cash.map (cI .i64)),.sl none (a1.Tallies.map Tally.c)]) au (hV (.int .i64 (a1.Cash.length:Int)) ax (hV (.int .i64 ah) ai (hN E hZ)))) fun du bJ bK bL aJ=>sN ?_)))))))))))))))))
    rcases ite_some h with ⟨aC,h⟩ | ⟨aC,h⟩
    ·refine cT aJ aC (sq (Rg (kx (mvO E) (Rn (hV (.bool false) E hZ) fun dw bM=>sN (xx (bR (sR ?_)))))))
     obtain rfl:=si h
     exact qR ⟨E,bM⟩
    refine cF aJ aC (xx (bN (sN (Rg (kx (mvO bL) (kx (bAdd E E) (kx (mvO E) (Rn (hA bJ (hA bK (hN E hZ))) fun dx bP bS bT=>?_))))))))
    obtain rfl:=si h
    exact qN ⟨bP,bS,bT⟩
   refine kf (gsT E J) (kf (gsT E J) (kf (gsT E J) (kf (gsT E J) (kf (gsT E J) (kf (gsT E J) (kf (gsT E J) (kf (gsT E J) (kf (gsT E J) (kf (gsT E J) (kf (gsT E J) (kf (gsT E J) (kf (gsT E J) (kf (gsT E J) (kf (guF E ae (pkF E J E)) (kf (pkF E ae E) (fZ (Rn (hV (.pt none [.int .i64 a1.Day,.sl none (a1.Cash.map (cI .i64)),.sl none (a1.Tallies.map Tally.c)]) au (hV (.int .i64 (a1.Cash.length:Int)) ax (hV (.int .i64 ah) ai (hV (.bool false) E hZ)))) fun dz bU bV bW bX=>sN (cF bX E (xx (bN (sN (Rg (kx (mvO bW) (kx (bAdd E E) (kx (mvO E) (Rn (hA bU (hA bV (hN E hZ))) fun dA bY bZ b7=>?_))))))))))))))))))))))))))
   obtain rfl:=si h
   exact qN ⟨bY,bZ,b7⟩
  refine kf (gsT E ac) (kf (gsT E ac) (kf (gsT E ac) (kf (gsT E ac) (kf (gsT E ac) (kf (pkF E ac E) (kf (mvO E) (kf (guF E E (mvO ai)) (kf (guF E E (bGtr E E)) (kf (guF E E (mvO E)) ?_)))))))))
  rcases ite_some h with ⟨O,h⟩ | ⟨O,h⟩
  ·obtain ⟨dC,aN,h⟩:=bind_some h
   refine kf (guT E O (mvO ay)) (kf (guT E O (ncP E)) (kf (guT E O (faP E ⟨ble E,blt E⟩ E)) (kf (guT E O (ldP E E)) (kf (guT E O (mvO au)) (kf (guT E O (ncP E)) (kf (guT E O (faP E ⟨ble E,blt E⟩ E)) (kf (guT E O (ldP E E)) (kf (guT E O (mvO ai)) (kf (guT E O (bSub E E)) (kf (guT E O (ixS E E aN Tally.fl)) (kf (guT E O (faP E ⟨ble E,blt E⟩ E)) (kf (guT E O (ldP E E)) (kf (guT E O (bLss E E)) (kf (guF E E (pkT E O E)) (kf (pkF E E E) (fZ (Rn (hV (.pt none [.int .i64 a1.Day,.sl none (a1.Cash.map (cI .i64)),.sl none (a1.Tallies.map Tally.c)]) au (hV (.int .i64 (a1.Cash.length:Int)) ax (hV (.int .i64 ah) ai (hN E hZ)))) fun dD b8 b9 cb aK=>sN ?_)))))))))))))))))
   rcases ite_some h with ⟨aD,h⟩ | ⟨aD,h⟩
   ·refine cT aK aD (sq (Rg (kx (mvO E) (Rn (hV (.bool false) E hZ) fun dE cd=>sN (xx (bR (sR ?_)))))))
    obtain rfl:=si h
    exact qR ⟨E,cd⟩
   refine cF aK aD (xx (bN (sN (Rg (kx (mvO cb) (kx (bAdd E E) (kx (mvO E) (Rn (hA b8 (hA b9 (hN E hZ))) fun dF cf cg ci=>?_))))))))
   obtain rfl:=si h
   exact qN ⟨cf,cg,ci⟩
  refine kf (gsT E O) (kf (gsT E O) (kf (gsT E O) (kf (gsT E O) (kf (gsT E O) (kf (gsT E O) (kf (gsT E O) (kf (gsT E O) (kf (gsT E O) (kf (gsT E O) (kf (gsT E O) (kf (gsT E O) (kf (gsT E O) (kf (gsT E O) (kf (guF E E (pkF E O E)) (kf (pkF E E E) (fZ (Rn (hV (.pt none [.int .i64 a1.Day,.sl none (a1.Cash.map (cI .i64)),.sl none (a1.Tallies.map Tally.c)]) au (hV (.int .i64 (a1.Cash.length:Int)) ax (hV (.int .i64 ah) ai (hV (.bool false) E hZ)))) fun dG cj cm cq cr=>sN (cF cr E (xx (bN (sN (Rg (kx (mvO cq) (kx (bAdd E E) (kx (mvO E) (Rn (hA cj (hA cm (hN E hZ))) fun dH ct cw cC=>?_))))))))))))))))))))))))))
  obtain rfl:=si h
  exact qN ⟨ct,cw,cC⟩
 refine cF aT aG (xx (sE ?_))
 obtain rfl:=si h
 exact qE ⟨E,trivial⟩
noncomputable def spec_l07Ok (a1:Book):Option Bool:=
 ((spec_l07Day a1.Day).bind fun r5=>
 if r5=true then
  (spec_l07Cash a1.Cash).bind fun r8=>
  if r8=true then
   some (decide ((a1.Tallies.length:Int) > 40))
  else
   some true
 else
  some true).bind fun J=>
 if J=true then
  some false
 else
  (Lw (spec_l07Ok_b1 a1) 0).bind fun r=>match r with
  | (.inl _)=>
   some false
  | (.inr _)=>
   some true
def spec_l07Ok_enc (r:Bool):AV:=.bool r
theorem spec_l07Ok_ok (a1:Book) (r:Bool) (h:spec_l07Ok a1=some r):Ev (fun k=>CN k 76 [.pt none [.int .i64 a1.Day,.sl none (a1.Cash.map (cI .i64)),.sl none (a1.Tallies.map Tally.c)]] []) (fun p=>rRes p.2 p.1=spec_l07Ok_enc r):=by
 unfold spec_l07Ok at h
 obtain ⟨ae,Y,h⟩:=bind_some h
 refine Ev.enter (F:=fun k=>f76 (CN k) k) (fun k=>callN_eq E Try.func76 E E E (by decide +kernel) (f76_eq _ _)) (sq (Rg (kx (mvO E) (Rn (hN E hZ) fun e1 h3=>sN (sq (sq ?_))))))
 refine Ev.cut (Q1:=spec_l07Ok_c1_Q a1 ae) (by
     have h:=Y
     obtain ⟨r5,az,h⟩:=bind_some h
     refine Rg (kx (mvO h3) (kx (ncP E) (kx (faP E ⟨ble E,blt E⟩ E) (kx (ldP E E) (kc (cl (v:=.bool r5) E E (cns E E) E (spec_l07Day_ok a1.Day _ az) nm) (kx (uNot E) (kx (mvO E) ?_)))))))
     rcases ite_some h with ⟨J,h⟩ | ⟨J,h⟩
     ·obtain ⟨r8,aA,h⟩:=bind_some h
      refine kx (guF E (congrArg Bool.not J) (mvO h3)) (kx (guF E (congrArg Bool.not J) (ncP E)) (kx (guF E (congrArg Bool.not J) (faP E ⟨ble E,blt E⟩ E)) (kx (guF E (congrArg Bool.not J) (ldP E E)) (kc (Ev.guF E (congrArg Bool.not J) (cl (v:=.bool r8) E E (cns E E) E (spec_l07Cash_ok a1.Cash _ aA) nm)) (kx (guF E (congrArg Bool.not J) (uNot E)) (kx (pkF E (congrArg Bool.not J) E) (kx (mvO E) ?_)))))))
      rcases ite_some h with ⟨O,h⟩ | ⟨O,h⟩
      ·refine kx (guF E (congrArg Bool.not O) (mvO h3)) (kx (guF E (congrArg Bool.not O) (ncP E)) (kx (guF E (congrArg Bool.not O) (faP E ⟨ble E,blt E⟩ E)) (kx (guF E (congrArg Bool.not O) (ldP E E)) (kx (guF E (congrArg Bool.not O) (lnS Try.underlying25 E)) (kx (guF E (congrArg Bool.not O) (bGtr E E)) (kx (pkF E (congrArg Bool.not O) E) (Rn (hA h3 (hN E hZ)) fun aP aB aC=>?_)))))))
       obtain rfl:=si h
       exact kd (show spec_l07Ok_c1_Q a1 _ _ from ⟨E,aB,aC⟩)
      refine kx (gsF E (congrArg Bool.not O)) (kx (gsF E (congrArg Bool.not O)) (kx (gsF E (congrArg Bool.not O)) (kx (gsF E (congrArg Bool.not O)) (kx (gsF E (congrArg Bool.not O)) (kx (gsF E (congrArg Bool.not O)) (kx (pkT E (congrArg Bool.not O) E) (Rn (hA h3 (hV (.bool true) E hZ)) fun aR aD aE=>?_)))))))
      obtain rfl:=si h
      exact kd (show spec_l07Ok_c1_Q a1 _ _ from ⟨E,aD,aE⟩)
     refine kx (gsF E (congrArg Bool.not J)) (kx (gsF E (congrArg Bool.not J)) (kx (gsF E (congrArg Bool.not J)) (kx (gsF E (congrArg Bool.not J)) (kc (Ev.gsF E (congrArg Bool.not J)) (kx (gsF E (congrArg Bool.not J)) (kx (pkT E (congrArg Bool.not J) E) (kx (mvO E) (kx (gsF E E) (kx (gsF E E) (kx (gsF E E) (kx (gsF E E) (kx (gsF E E) (kx (gsF E E) (kx (pkT E E E) (Rn (hA h3 (hV (.bool true) E hZ)) fun aS aF aG=>?_)))))))))))))))
     obtain rfl:=si h
     exact kd (show spec_l07Ok_c1_Q a1 _ _ from ⟨E,aF,aG⟩)) ?_
 revert h Y
 revert ae
 intro aT Y h
 intro x aU aV af
 obtain ⟨rfl,ah,ai⟩:=af
 refine sN ?_
 rcases ite_some h with ⟨ab,h⟩ | ⟨ab,h⟩
 ·refine cT ai ab (sq (Rg (kx (mvO E) (Rn (hV (.bool false) E hZ) fun aZ aH=>sN (xx (sR ?_))))))
  obtain rfl:=si h
  exact eR (resT aH res0) E
 obtain ⟨aw,ac,h⟩:=bind_some h
 refine cF ai ab (xx (sN (sq (Rg (kx (mvO ah) (kx (ncP E) (kx (faP E ⟨ble E,blt E⟩ E) (kx (ldP E E) (kx (lnS Try.underlying24 E) (kx (mvO E) (Rn (hV (.pt none [.int .i64 a1.Day,.sl none (a1.Cash.map (cI .i64)),.sl none (a1.Tallies.map Tally.c)]) ah (hN E hZ)) fun a8 aI aJ=>sN (sq (sq (Rg (kx (mvO E) (Rn (hA aI (hA aJ (hV (.int .i64 0) E hZ))) fun ba ao aq au=>sN (bl ?_)))))))))))))))))
 rcases aw with _ | _
 ·refine Ev.loop (RS:=spec_l07Ok_b1_RS a1) (RR:=spec_l07Ok_b1_RR a1) (fun s r h e M hs=>spec_l07Ok_b1_ok a1 s r h e M hs) ac ⟨ao,aq,au⟩ fun x aK aL aa=>?_
  obtain ⟨rfl,ax⟩:=aa
  refine bR (sR ?_)
  obtain rfl:=si h
  exact eR (resT ax res0) E
 refine Ev.loop (RS:=spec_l07Ok_b1_RS a1) (RR:=spec_l07Ok_b1_RR a1) (fun s r h e M hs=>spec_l07Ok_b1_ok a1 s r h e M hs) ac ⟨ao,aq,au⟩ fun x aM aN aa=>?_
 obtain ⟨rfl,_⟩:=aa
 refine bE (sN (sq (Rg (kx (mvO E) (Rn (hV (.bool true) E hZ) fun aO ay=>sN (xx ?_))))))
 obtain rfl:=si h
 exact eR (resT ay res0) E
def impl_do_c1_Q (a1:Book) (a2:Deal) (Y:Bool) (aa:Bool) (O:Nat) (J:Nat) (r:Unit⊕Bool) (q:Out):Prop:=
  match r with
  | (.inl g)=>q.1 = .ret∧eget q.2.1 4 = .loc J 1 0 0∧eget q.2.1 5 = .int .i64 2∧q.2.2[J]? = some (.live ⟨.box,27,3,[[.int .i64 0,.nils,.nils]]⟩)
  | (.inr g)=>q.1 = .nrm∧eget q.2.1 2 = .loc O 1 0 0∧eget q.2.1 3 = .pt none [.int .i64 a2.Day,.int .i8 a2.Kind,.int .i64 a2.Tally,.int .i64 a2.From,.int .i64 a2.To,.int .i64 a2.Amount]∧eget q.2.1 4 = .loc J 1 0 0∧eget q.2.1 7 = .bool Y∧eget q.2.1 8 = .bool aa∧eget q.2.1 55 = .bool g∧q.2.2[O]? = some (.live ⟨.box,27,3,[[.int .i64 a1.Day,.sl none (a1.Cash.map (cI .i64)),.sl none (a1.Tallies.map Tally.c)]]⟩)∧q.2.2[J]? = some (.live ⟨.box,27,3,[[.int .i64 0,.nils,.nils]]⟩)
def impl_do_c2_Q (a1:Book) (a2:Deal) (Y:Bool) (O:Nat) (J:Nat) (r:Unit⊕Bool) (q:Out):Prop:=
  match r with
  | (.inl g)=>q.1 = .ret∧eget q.2.1 4 = .loc J 1 0 0∧eget q.2.1 5 = .int .i64 4∧q.2.2[J]? = some (.live ⟨.box,27,3,[[.int .i64 0,.nils,.nils]]⟩)
  | (.inr g)=>q.1 = .nrm∧eget q.2.1 2 = .loc O 1 0 0∧eget q.2.1 3 = .pt none [.int .i64 a2.Day,.int .i8 a2.Kind,.int .i64 a2.Tally,.int .i64 a2.From,.int .i64 a2.To,.int .i64 a2.Amount]∧eget q.2.1 4 = .loc J 1 0 0∧eget q.2.1 7 = .bool Y∧eget q.2.1 67 = .bool g∧q.2.2[O]? = some (.live ⟨.box,27,3,[[.int .i64 a1.Day,.sl none (a1.Cash.map (cI .i64)),.sl none (a1.Tallies.map Tally.c)]]⟩)∧q.2.2[J]? = some (.live ⟨.box,27,3,[[.int .i64 0,.nils,.nils]]⟩)
def impl_do_c3_Q (a2:Deal) (ab:List Int) (Y:List Tally) (aa:Nat) (O:Nat) (J:Nat) (ac:Nat) (r:Unit⊕Bool) (q:Out):Prop:=
  match r with
  | (.inl g)=>q.1 = .ret∧eget q.2.1 4 = .loc O 1 0 0∧eget q.2.1 5 = .int .i64 4∧q.2.2[O]? = some (.live ⟨.box,27,3,[[.int .i64 0,.nils,.nils]]⟩)
  | (.inr g)=>q.1 = .nrm∧eget q.2.1 2 = .loc aa 1 0 0∧eget q.2.1 3 = .pt none [.int .i64 a2.Day,.int .i8 a2.Kind,.int .i64 a2.Tally,.int .i64 a2.From,.int .i64 a2.To,.int .i64 a2.Amount]∧eget q.2.1 4 = .loc O 1 0 0∧eget q.2.1 11 = .loc (J + 1) Y.length (0 + a2.Tally.toNat) 0∧eget q.2.1 134 = .bool g∧q.2.2[aa]? = some (.live ⟨.box,27,3,[[.int .i64 a2.Day,.lsl J ab.length 0 ab.length,.lsl (J + 1) Y.length 0 Y.length]]⟩)∧q.2.2[J]? = some (.live ⟨.grow,2,1,ab.map (cI .i64)⟩)∧q.2.2[(J + 1)]? = some (.live ⟨.grow,49,5,Y.map Tally.c⟩)∧q.2.2[O]? = some (.live ⟨.box,27,3,[[.int .i64 0,.nils,.nils]]⟩)
noncomputable def impl_do (a1:Book) (a2:Deal):Option (Int⊕(Int×(List Int)×(List Tally))):=
 if (decide (a2.Day < a1.Day))=true then
  some (.inl 4)
 else
  (impl_uses a2.Kind).bind fun (ab,ac,ae,aA)=>
  ((if ac=true then
   if (decide (a2.From≥(a1.Cash.length:Int)))=true then
    some (.inl ())
   else
    if ae=true then
     if (decide (a2.To≥(a1.Cash.length:Int)))=true then
      some (.inl ())
     else
      if ab=true then
       if (decide (a2.Tally≥(a1.Tallies.length:Int)))=true then
        some (.inl ())
       else
        some (.inr (decide (a2.Tally≥(a1.Tallies.length:Int))))
      else
       some (.inr false)
    else
     if ab=true then
      if (decide (a2.Tally≥(a1.Tallies.length:Int)))=true then
       some (.inl ())
      else
       some (.inr (decide (a2.Tally≥(a1.Tallies.length:Int))))
     else
      some (.inr false)
  else
   if ae=true then
    if (decide (a2.To≥(a1.Cash.length:Int)))=true then
     some (.inl ())
    else
     if ab=true then
      if (decide (a2.Tally≥(a1.Tallies.length:Int)))=true then
       some (.inl ())
      else
       some (.inr (decide (a2.Tally≥(a1.Tallies.length:Int))))
     else
      some (.inr false)
   else
    if ab=true then
     if (decide (a2.Tally≥(a1.Tallies.length:Int)))=true then
      some (.inl ())
     else
      some (.inr (decide (a2.Tally≥(a1.Tallies.length:Int))))
    else
     some (.inr false):Option (Unit⊕Bool))).bind fun r=>match r with
  | (.inl _)=>
   some (.inl 2)
  | (.inr aq)=>
   ((if ac=true then
    if ae=true then
     if (a2.From==a2.To)=true then
      some (.inl ())
     else
      some (.inr (a2.From==a2.To))
    else
     some (.inr false)
   else
    some (.inr false):Option (Unit⊕Bool))).bind fun r=>match r with
   | (.inl _)=>
    some (.inl 4)
   | (.inr au)=>
    (impl_ownBook a1).bind fun (aw,O,Y)=>
    if (a2.Kind==1)=true then
     if ((Y.length:Int)==40)=true then
      some (.inl 3)
     else
      (app 40 Y [(Tally.mk a2.From a2.To a2.Day a2.Amount a2.Amount)]).bind fun ah=>
      some (.inr (a2.Day,O,ah))
    else
     (rd Y a2.Tally).bind fun J=>
     ((if ac=true then
      if (a2.From != J.Holder)=true then
       some (.inl ())
      else
       if (J.Left==0)=true then
        some (.inl ())
       else
        if (a2.Kind==3)=true then
         if (decide (a2.Amount > J.Left))=true then
          some (.inl ())
         else
          some (.inr (decide (a2.Amount > J.Left)))
        else
         some (.inr false)
     else
      if (J.Left==0)=true then
       some (.inl ())
      else
       if (a2.Kind==3)=true then
        if (decide (a2.Amount > J.Left))=true then
         some (.inl ())
        else
         some (.inr (decide (a2.Amount > J.Left)))
       else
        some (.inr false):Option (Unit⊕Bool))).bind fun r=>match r with
     | (.inl _)=>
      some (.inl 4)
     | (.inr ax)=>
      if (a2.Kind==2)=true then
       if (a2.To==((Tally.mk J.Debtor a2.To J.Cut J.Amount J.Left)).Debtor)=true then
        some (.inr (a2.Day,O,((Y.set a2.Tally.toNat (Tally.mk J.Debtor a2.To J.Cut J.Amount J.Left)).set a2.Tally.toNat (Tally.mk ((Tally.mk J.Debtor a2.To J.Cut J.Amount J.Left)).Debtor ((Tally.mk J.Debtor a2.To J.Cut J.Amount J.Left)).Holder ((Tally.mk J.Debtor a2.To J.Cut J.Amount J.Left)).Cut ((Tally.mk J.Debtor a2.To J.Cut J.Amount J.Left)).Amount 0))))
       else
        some (.inr (a2.Day,O,(Y.set a2.Tally.toNat (Tally.mk J.Debtor a2.To J.Cut J.Amount J.Left))))
      else
       if (a2.Kind==3)=true then
        (rd O J.Debtor).bind fun ai=>
        if (decide (ai < a2.Amount))=true then
         some (.inl 8)
        else
         (rd O J.Debtor).bind fun aa=>
         (rd O J.Debtor).bind fun ay=>
         (rd (O.set J.Debtor.toNat (IntKind.i64.wrap (aa - a2.Amount))) J.Holder).bind fun af=>
         (rd (O.set J.Debtor.toNat (IntKind.i64.wrap (aa - a2.Amount))) J.Holder).bind fun az=>
         (rd ((O.set J.Debtor.toNat (IntKind.i64.wrap (aa - a2.Amount))).set J.Holder.toNat (IntKind.i64.wrap (af + a2.Amount))) (((Tally.mk J.Debtor J.Holder J.Cut J.Amount (IntKind.i64.wrap (J.Left - a2.Amount)))).Holder)).bind fun ao=>
         if (decide (ao > 100000000))=true then
          some (.inl 3)
         else
          some (.inr (a2.Day,((O.set J.Debtor.toNat (IntKind.i64.wrap (aa - a2.Amount))).set J.Holder.toNat (IntKind.i64.wrap (af + a2.Amount))),(Y.set a2.Tally.toNat (Tally.mk J.Debtor J.Holder J.Cut J.Amount (IntKind.i64.wrap (J.Left - a2.Amount))))))
       else
        if (a2.Kind==4)=true then
         some (.inr (a2.Day,O,(Y.set a2.Tally.toNat (Tally.mk J.Debtor J.Holder J.Cut J.Amount 0))))
        else
         some (.inr (a2.Day,O,Y))
def impl_do_enc (r:Int⊕(Int×(List Int)×(List Tally))):AV:=
  match r with
  | (.inl g)=>.tup [.agg [.int .i64 0,.nils,.nils],.int .i64 g]
  | (.inr g)=>.tup [.agg [.int .i64 g.1,.sl (some 2) (g.2.1.map (cI .i64)),.sl (some 49) (g.2.2.map Tally.c)],.int .i64 0]
theorem impl_do_ok (a1:Book) (a2:Deal) (r:Int⊕(Int×(List Int)×(List Tally))) (h:impl_do a1 a2=some r):Ev (fun k=>CN k 75 [.agg [.int .i64 a1.Day,.sl none (a1.Cash.map (cI .i64)),.sl none (a1.Tallies.map Tally.c)],.agg [.int .i64 a2.Day,.int .i8 a2.Kind,.int .i64 a2.Tally,.int .i64 a2.From,.int .i64 a2.To,.int .i64 a2.Amount]] []) (fun p=>rRes p.2 p.1=impl_do_enc r):=by
 unfold impl_do at h
 refine Ev.enter (F:=fun k=>f75 (CN k) k) (fun k=>callN_eq E Try.func75 E E E (by decide +kernel) (f75_eq _ _)) (sq (Rg (ku (bxO E E ⟨E,E,by decide⟩) fun M2 my=>?_)))
 have o4:M2[([]:Mem).length]? = some (.live ⟨.box,27,3,[[.int .i64 a1.Day,.sl none (a1.Cash.map (cI .i64)),.sl none (a1.Tallies.map Tally.c)]]⟩):=push_new my
 refine kx (bxI E E ⟨E,E,by decide⟩) (ku (alO zero27) fun M6 gz=>?_)
 have o8:=push_old gz o4
 have aq:=ne_new o4
 have aC:M6[M2.length]? = some (.live ⟨.box,27,3,[[.int .i64 0,.nils,.nils]]⟩):=push_new gz
 refine kx (mvO E) (Rn (hV (.loc ([]:Mem).length 1 0 0) E (hN E (hV (.loc M2.length 1 0 0) E hZ))) fun qo gA gB mz=>sN (sq (sq (Rg (kx (faP gB ⟨ble E,blt E⟩ E) (kx (ldP E E) (kx (faO gA o8 E) (kx (ldO E o8 E E E) (kx (bLss E E) (Rn (hA gA (hA gB (hA mz (hN E hZ)))) fun qp mA gC ee gD=>sN ?_))))))))))
 rcases ite_some h with ⟨dl,h⟩ | ⟨dl,h⟩
 ·refine cT gD dl (sq (Rg (kx (bldT zero27 E (fill0 E)) (kw (stO ee E aC E E ⟨E,ble E⟩ E E) fun mB eo=>?_))))
  have qq:=set_ne eo aq o8
  have mC:mB[M2.length]? = some (.live ⟨.box,27,3,[[.int .i64 0,.nils,.nils]]⟩):=set_same eo aC
  refine kx (mvO E) (Rn (hA ee (hV (.int .i64 4) E hZ)) fun qr mD mE=>sN (xx (sR ?_)))
  obtain rfl:=si h
  exact eR (resC (ag:=true) (sz:=3) ⟨by kernel_rfl,by kernel_rfl,by kernel_rfl⟩ (ldOA mD mC E E (ble E) E) (resT mE res0)) E
 obtain ⟨⟨mF,au,aL,mG⟩,gH,h⟩:=bind_some h
 obtain ⟨ep,gf,h⟩:=bind_some h
 refine cF gD dl (xx (sN (sq (Rg (kx (faP gC ⟨ble E,blt E⟩ E) (kx (ldP E E) (kc (cl (v:=.tup [.bool mF,.bool au,.bool aL,.bool mG]) E E (cns E E) E (impl_uses_ok a2.Kind _ gH) nm) (kx (mvO E) (kx (exT E E) (kx (exT E E) (kx (exT E E) (kx (exT E E) (kx (mvO E) (kx (mvO E) (kx (mvO E) (kx (mvO E) (Rn (hA mA (hA gC (hA ee (hN E (hN E (hN E hZ)))))) fun qt gE mH mI mJ mK mL=>sN (sq (Rg (kx (faO gE o8 E) (kx (ldO E o8 E E E) (kx (lnS Try.underlying24 E) (kx (mvO E) (Rn (hA gE (hA mH (hA mI (hA mJ (hA mK (hA mL (hN E hZ))))))) fun qu aP aK bj d5 bi ba eu=>sN (sq ?_)))))))))))))))))))))))))
 refine Ev.cut (Q1:=impl_do_c1_Q a1 a2 au aL (([]:Mem).length) M2.length ep) (by
     have h:=gf
     refine sq (Rg (kx (mvO bi) (kx (mvO E) ?_)))
     rcases ite_some h with ⟨aR,h⟩ | ⟨aR,h⟩
     ·refine kx (guT E aR (faP aK ⟨ble E,blt E⟩ E)) (kx (guT E aR (ldP E E)) (kx (guT E aR (mvO eu)) (kx (guT E aR (bGeq E E)) (kx (pkT E aR E) (kx (mvO E) ?_)))))
      rcases ite_some h with ⟨aS,h⟩ | ⟨aS,h⟩
      ·refine kx (gsF E aS) (kx (gsF E aS) (kx (gsU E) (kx (gsU E) (kx (gsU E) (kx (gsU E) (kx (gsF E aS) (kx (pkT E aS E) (kx (mvO E) (kx (gsF E E) (kx (gsF E E) (kx (gsU E) (kx (gsU E) (kx (gsU E) (kx (gsU E) (kx (gsU E) (kx (gsU E) (kx (gsF E E) (kx (pkT E E E) (Rn (hA aP (hA aK (hA bj (hA bi (hA ba (hV (.bool true) E hZ)))))) fun qv qw qx gF qy qz mM=>sN (cT mM E (sq (Rg (kx (bldT zero27 E (fill0 E)) (kw (stO gF E aC E E ⟨E,ble E⟩ E E) fun mN ew=>?_))))))))))))))))))))))))
       have qA:=set_ne ew aq o8
       have mO:mN[M2.length]? = some (.live ⟨.box,27,3,[[.int .i64 0,.nils,.nils]]⟩):=set_same ew aC
       refine kx (mvO E) (Rn (hA gF (hV (.int .i64 2) E hZ)) fun qB mP mQ=>sN (xx ?_))
       obtain rfl:=si h
       exact kd (show impl_do_c1_Q a1 a2 au aL (([]:Mem).length) M2.length _ _ from ⟨E,mP,mQ,mO⟩)
      refine kx (guF E aS (mvO ba)) (kx (guF E aS (mvO E)) ?_)
      rcases ite_some h with ⟨aT,h⟩ | ⟨aT,h⟩
      ·refine kx (guT E aT (faP aK ⟨ble E,blt E⟩ E)) (kx (guT E aT (ldP E E)) (kx (guT E aT (mvO eu)) (kx (guT E aT (bGeq E E)) (kx (guF E aS (pkT E aT E)) (kx (pkF E aS E) (kx (mvO E) ?_))))))
       rcases ite_some h with ⟨aU,h⟩ | ⟨aU,h⟩
       ·refine kx (gsF E aU) (kx (gsF E aU) (kx (gsU E) (kx (gsU E) (kx (gsU E) (kx (gsU E) (kx (gsU E) (kx (gsU E) (kx (gsF E aU) (kx (pkT E aU E) (Rn (hA aP (hA aK (hA bj (hA bi (hA ba (hV (.bool true) E hZ)))))) fun qC qD qF gG qG qH mR=>sN (cT mR E (sq (Rg (kx (bldT zero27 E (fill0 E)) (kw (stO gG E aC E E ⟨E,ble E⟩ E E) fun mS ex=>?_)))))))))))))))
        have qI:=set_ne ex aq o8
        have mT:mS[M2.length]? = some (.live ⟨.box,27,3,[[.int .i64 0,.nils,.nils]]⟩):=set_same ex aC
        refine kx (mvO E) (Rn (hA gG (hV (.int .i64 2) E hZ)) fun qJ mU mV=>sN (xx ?_))
        obtain rfl:=si h
        exact kd (show impl_do_c1_Q a1 a2 au aL (([]:Mem).length) M2.length _ _ from ⟨E,mU,mV,mT⟩)
       refine kx (guF E aU (mvO d5)) (kx (guF E aU (mvO E)) ?_)
       rcases ite_some h with ⟨aH,h⟩ | ⟨aH,h⟩
       ·refine kx (guT E aH (faP aK ⟨ble E,blt E⟩ E)) (kx (guT E aH (ldP E E)) (kx (guT E aH (faO aP o8 E)) (kx (guT E aH (ldO E o8 E E E)) (kx (guT E aH (lnS Try.underlying25 E)) (kx (guT E aH (bGeq E E)) (kx (guF E aU (pkT E aH E)) (kx (pkF E aU E) (Rn (hA aP (hA aK (hA bj (hA bi (hA ba (hN E hZ)))))) fun qK mW mX ey mY mZ ez=>sN ?_))))))))
        rcases ite_some h with ⟨dm,h⟩ | ⟨dm,h⟩
        ·refine cT ez dm (sq (Rg (kx (bldT zero27 E (fill0 E)) (kw (stO ey E aC E E ⟨E,ble E⟩ E E) fun m7 d6=>?_))))
         have ng:=set_ne d6 aq o8
         have gI:m7[M2.length]? = some (.live ⟨.box,27,3,[[.int .i64 0,.nils,.nils]]⟩):=set_same d6 aC
         refine kx (mvO E) (Rn (hA ey (hV (.int .i64 2) E hZ)) fun nh gJ gK=>sN (xx ?_))
         obtain rfl:=si h
         exact kd (show impl_do_c1_Q a1 a2 au aL (([]:Mem).length) M2.length _ _ from ⟨E,gJ,gK,gI⟩)
        refine cF ez dm (xx ?_)
        obtain rfl:=si h
        exact kd (show impl_do_c1_Q a1 a2 au aL (([]:Mem).length) M2.length _ _ from ⟨E,mW,mX,ey,mY,mZ,ez,o8,aC⟩)
       refine kx (gsT E aH) (kx (gsT E aH) (kx (gsT E aH) (kx (gsT E aH) (kx (gsT E aH) (kx (gsT E aH) (kx (guF E aU (pkF E aH E)) (kx (pkF E aU E) (Rn (hA aP (hA aK (hA bj (hA bi (hA ba (hV (.bool false) E hZ)))))) fun ni gL gM gN gO gP eA=>sN (cF eA E (xx ?_))))))))))
       obtain rfl:=si h
       exact kd (show impl_do_c1_Q a1 a2 au aL (([]:Mem).length) M2.length _ _ from ⟨E,gL,gM,gN,gO,gP,eA,o8,aC⟩)
      refine kx (gsT E aT) (kx (gsT E aT) (kx (gsT E aT) (kx (gsT E aT) (kx (guF E aS (pkF E aT E)) (kx (pkF E aS E) (kx (mvO E) (kx (guF E E (mvO d5)) (kx (guF E E (mvO E)) ?_))))))))
      rcases ite_some h with ⟨aw,h⟩ | ⟨aw,h⟩
      ·refine kx (guT E aw (faP aK ⟨ble E,blt E⟩ E)) (kx (guT E aw (ldP E E)) (kx (guT E aw (faO aP o8 E)) (kx (guT E aw (ldO E o8 E E E)) (kx (guT E aw (lnS Try.underlying25 E)) (kx (guT E aw (bGeq E E)) (kx (guF E E (pkT E aw E)) (kx (pkF E E E) (Rn (hA aP (hA aK (hA bj (hA bi (hA ba (hN E hZ)))))) fun nj gQ gR dn gS gT dp=>sN ?_))))))))
       rcases ite_some h with ⟨cC,h⟩ | ⟨cC,h⟩
       ·refine cT dp cC (sq (Rg (kx (bldT zero27 E (fill0 E)) (kw (stO dn E aC E E ⟨E,ble E⟩ E E) fun gU d7=>?_))))
        have nn:=set_ne d7 aq o8
        have gV:gU[M2.length]? = some (.live ⟨.box,27,3,[[.int .i64 0,.nils,.nils]]⟩):=set_same d7 aC
        refine kx (mvO E) (Rn (hA dn (hV (.int .i64 2) E hZ)) fun np gW gX=>sN (xx ?_))
        obtain rfl:=si h
        exact kd (show impl_do_c1_Q a1 a2 au aL (([]:Mem).length) M2.length _ _ from ⟨E,gW,gX,gV⟩)
       refine cF dp cC (xx ?_)
       obtain rfl:=si h
       exact kd (show impl_do_c1_Q a1 a2 au aL (([]:Mem).length) M2.length _ _ from ⟨E,gQ,gR,dn,gS,gT,dp,o8,aC⟩)
      refine kx (gsT E aw) (kx (gsT E aw) (kx (gsT E aw) (kx (gsT E aw) (kx (gsT E aw) (kx (gsT E aw) (kx (guF E E (pkF E aw E)) (kx (pkF E E E) (Rn (hA aP (hA aK (hA bj (hA bi (hA ba (hV (.bool false) E hZ)))))) fun nq gY gZ hH hO hP eB=>sN (cF eB E (xx ?_))))))))))
      obtain rfl:=si h
      exact kd (show impl_do_c1_Q a1 a2 au aL (([]:Mem).length) M2.length _ _ from ⟨E,gY,gZ,hH,hO,hP,eB,o8,aC⟩)
     refine kx (gsT E aR) (kx (gsT E aR) (kx (gsT E aR) (kx (gsT E aR) (kx (pkF E aR E) (kx (mvO E) (kx (guF E E (mvO ba)) (kx (guF E E (mvO E)) ?_)))))))
     rcases ite_some h with ⟨aI,h⟩ | ⟨aI,h⟩
     ·refine kx (guT E aI (faP aK ⟨ble E,blt E⟩ E)) (kx (guT E aI (ldP E E)) (kx (guT E aI (mvO eu)) (kx (guT E aI (bGeq E E)) (kx (guF E E (pkT E aI E)) (kx (pkF E E E) (kx (mvO E) ?_))))))
      rcases ite_some h with ⟨aJ,h⟩ | ⟨aJ,h⟩
      ·refine kx (gsF E aJ) (kx (gsF E aJ) (kx (gsU E) (kx (gsU E) (kx (gsU E) (kx (gsU E) (kx (gsU E) (kx (gsU E) (kx (gsF E aJ) (kx (pkT E aJ E) (Rn (hA aP (hA aK (hA bj (hA bi (hA ba (hV (.bool true) E hZ)))))) fun nr nu nv eC nw ny hY=>sN (cT hY E (sq (Rg (kx (bldT zero27 E (fill0 E)) (kw (stO eC E aC E E ⟨E,ble E⟩ E E) fun ib d8=>?_)))))))))))))))
       have nz:=set_ne d8 aq o8
       have ic:ib[M2.length]? = some (.live ⟨.box,27,3,[[.int .i64 0,.nils,.nils]]⟩):=set_same d8 aC
       refine kx (mvO E) (Rn (hA eC (hV (.int .i64 2) E hZ)) fun nA ie ig=>sN (xx ?_))
       obtain rfl:=si h
       exact kd (show impl_do_c1_Q a1 a2 au aL (([]:Mem).length) M2.length _ _ from ⟨E,ie,ig,ic⟩)
      refine kx (guF E aJ (mvO d5)) (kx (guF E aJ (mvO E)) ?_)
      rcases ite_some h with ⟨ax,h⟩ | ⟨ax,h⟩
      ·refine kx (guT E ax (faP aK ⟨ble E,blt E⟩ E)) (kx (guT E ax (ldP E E)) (kx (guT E ax (faO aP o8 E)) (kx (guT E ax (ldO E o8 E E E)) (kx (guT E ax (lnS Try.underlying25 E)) (kx (guT E ax (bGeq E E)) (kx (guF E aJ (pkT E ax E)) (kx (pkF E aJ E) (Rn (hA aP (hA aK (hA bj (hA bi (hA ba (hN E hZ)))))) fun nB ii ij dq ik il dt=>sN ?_))))))))
       rcases ite_some h with ⟨cD,h⟩ | ⟨cD,h⟩
       ·refine cT dt cD (sq (Rg (kx (bldT zero27 E (fill0 E)) (kw (stO dq E aC E E ⟨E,ble E⟩ E E) fun im d9=>?_))))
        have nC:=set_ne d9 aq o8
        have io:im[M2.length]? = some (.live ⟨.box,27,3,[[.int .i64 0,.nils,.nils]]⟩):=set_same d9 aC
        refine kx (mvO E) (Rn (hA dq (hV (.int .i64 2) E hZ)) fun nD ip iq=>sN (xx ?_))
        obtain rfl:=si h
        exact kd (show impl_do_c1_Q a1 a2 au aL (([]:Mem).length) M2.length _ _ from ⟨E,ip,iq,io⟩)
       refine cF dt cD (xx ?_)
       obtain rfl:=si h
       exact kd (show impl_do_c1_Q a1 a2 au aL (([]:Mem).length) M2.length _ _ from ⟨E,ii,ij,dq,ik,il,dt,o8,aC⟩)
      refine kx (gsT E ax) (kx (gsT E ax) (kx (gsT E ax) (kx (gsT E ax) (kx (gsT E ax) (kx (gsT E ax) (kx (guF E aJ (pkF E ax E)) (kx (pkF E aJ E) (Rn (hA aP (hA aK (hA bj (hA bi (hA ba (hV (.bool false) E hZ)))))) fun nE ir iu iw ix iy eD=>sN (cF eD E (xx ?_))))))))))
      obtain rfl:=si h
      exact kd (show impl_do_c1_Q a1 a2 au aL (([]:Mem).length) M2.length _ _ from ⟨E,ir,iu,iw,ix,iy,eD,o8,aC⟩)
     refine kx (gsT E aI) (kx (gsT E aI) (kx (gsT E aI) (kx (gsT E aI) (kx (guF E E (pkF E aI E)) (kx (pkF E E E) (kx (mvO E) (kx (guF E E (mvO d5)) (kx (guF E E (mvO E)) ?_))))))))
     rcases ite_some h with ⟨ay,h⟩ | ⟨ay,h⟩
     ·refine kx (guT E ay (faP aK ⟨ble E,blt E⟩ E)) (kx (guT E ay (ldP E E)) (kx (guT E ay (faO aP o8 E)) (kx (guT E ay (ldO E o8 E E E)) (kx (guT E ay (lnS Try.underlying25 E)) (kx (guT E ay (bGeq E E)) (kx (guF E E (pkT E ay E)) (kx (pkF E E E) (Rn (hA aP (hA aK (hA bj (hA bi (hA ba (hN E hZ)))))) fun nF iz iA du iB iC dw=>sN ?_))))))))
      rcases ite_some h with ⟨cE,h⟩ | ⟨cE,h⟩
      ·refine cT dw cE (sq (Rg (kx (bldT zero27 E (fill0 E)) (kw (stO du E aC E E ⟨E,ble E⟩ E E) fun iD ea=>?_))))
       have nG:=set_ne ea aq o8
       have iE:iD[M2.length]? = some (.live ⟨.box,27,3,[[.int .i64 0,.nils,.nils]]⟩):=set_same ea aC
       refine kx (mvO E) (Rn (hA du (hV (.int .i64 2) E hZ)) fun nH iF iG=>sN (xx ?_))
       obtain rfl:=si h
       exact kd (show impl_do_c1_Q a1 a2 au aL (([]:Mem).length) M2.length _ _ from ⟨E,iF,iG,iE⟩)
      refine cF dw cE (xx ?_)
      obtain rfl:=si h
      exact kd (show impl_do_c1_Q a1 a2 au aL (([]:Mem).length) M2.length _ _ from ⟨E,iz,iA,du,iB,iC,dw,o8,aC⟩)
     refine kx (gsT E ay) (kx (gsT E ay) (kx (gsT E ay) (kx (gsT E ay) (kx (gsT E ay) (kx (gsT E ay) (kx (guF E E (pkF E ay E)) (kx (pkF E E E) (Rn (hA aP (hA aK (hA bj (hA bi (hA ba (hV (.bool false) E hZ)))))) fun nI iH iI iJ iK iL eE=>sN (cF eE E (xx ?_))))))))))
     obtain rfl:=si h
     exact kd (show impl_do_c1_Q a1 a2 au aL (([]:Mem).length) M2.length _ _ from ⟨E,iH,iI,iJ,iK,iL,eE,o8,aC⟩)) ?_
 rcases ep with _ | nJ
 ·intro x nK nL gg
  obtain ⟨rfl,iM,iN,iO⟩:=gg
  refine sR ?_
  obtain rfl:=si h
  exact eR (resC (ag:=true) (sz:=3) ⟨by kernel_rfl,by kernel_rfl,by kernel_rfl⟩ (ldOA iM iO E E (ble E) E) (resT iN res0)) E
 intro x nM nN gh
 obtain ⟨rfl,dx,ci,dz,cG,iP,nO,cH,cj⟩:=gh
 obtain ⟨eF,gi,h⟩:=bind_some h
 refine sN (sq ?_)
 refine Ev.cut (Q1:=impl_do_c2_Q a1 a2 au (([]:Mem).length) M2.length eF) (by
     have h:=gi
     refine sq (Rg (kx (mvO cG) (kx (mvO E) ?_)))
     rcases ite_some h with ⟨bw,h⟩ | ⟨bw,h⟩
     ·refine kx (guT E bw (mvO iP)) (kx (pkT E bw E) (kx (mvO E) ?_))
      rcases ite_some h with ⟨aF,h⟩ | ⟨aF,h⟩
      ·refine kx (guT E aF (faP ci ⟨ble E,blt E⟩ E)) (kx (guT E aF (ldP E E)) (kx (guT E aF (faP ci ⟨ble E,blt E⟩ E)) (kx (guT E aF (ldP E E)) (kx (guT E aF (bEql E E)) (kx (pkT E aF E) (Rn (hV (.loc ([]:Mem).length 1 0 0) dx (hV (.pt none [.int .i64 a2.Day,.int .i8 a2.Kind,.int .i64 a2.Tally,.int .i64 a2.From,.int .i64 a2.To,.int .i64 a2.Amount]) ci (hV (.loc M2.length 1 0 0) dz (hV (.bool au) cG (hN E hZ))))) fun nP iQ iR dA iS dC=>sN ?_))))))
       rcases ite_some h with ⟨cJ,h⟩ | ⟨cJ,h⟩
       ·refine cT dC cJ (sq (Rg (kx (bldT zero27 E (fill0 E)) (kw (stO dA E cj E E ⟨E,ble E⟩ E E) fun iT ed=>?_))))
        have nQ:=set_ne ed aq cH
        have iU:iT[M2.length]? = some (.live ⟨.box,27,3,[[.int .i64 0,.nils,.nils]]⟩):=set_same ed cj
        refine kx (mvO E) (Rn (hA dA (hV (.int .i64 4) E hZ)) fun nS iV iW=>sN (xx ?_))
        obtain rfl:=si h
        exact kd (show impl_do_c2_Q a1 a2 au (([]:Mem).length) M2.length _ _ from ⟨E,iV,iW,iU⟩)
       refine cF dC cJ (xx ?_)
       obtain rfl:=si h
       exact kd (show impl_do_c2_Q a1 a2 au (([]:Mem).length) M2.length _ _ from ⟨E,iQ,iR,dA,iS,dC,cH,cj⟩)
      refine kx (gsT E aF) (kx (gsT E aF) (kx (gsT E aF) (kx (gsT E aF) (kx (gsT E aF) (kx (pkF E aF E) (Rn (hV (.loc ([]:Mem).length 1 0 0) dx (hV (.pt none [.int .i64 a2.Day,.int .i8 a2.Kind,.int .i64 a2.Tally,.int .i64 a2.From,.int .i64 a2.To,.int .i64 a2.Amount]) ci (hV (.loc M2.length 1 0 0) dz (hV (.bool au) cG (hV (.bool false) E hZ))))) fun nT iX iY iZ ja eG=>sN (cF eG E (xx ?_))))))))
      obtain rfl:=si h
      exact kd (show impl_do_c2_Q a1 a2 au (([]:Mem).length) M2.length _ _ from ⟨E,iX,iY,iZ,ja,eG,cH,cj⟩)
     refine kx (gsT E bw) (kx (pkF E bw E) (kx (mvO E) (kx (gsT E E) (kx (gsT E E) (kx (gsT E E) (kx (gsT E E) (kx (gsT E E) (kx (pkF E E E) (Rn (hV (.loc ([]:Mem).length 1 0 0) dx (hV (.pt none [.int .i64 a2.Day,.int .i8 a2.Kind,.int .i64 a2.Tally,.int .i64 a2.From,.int .i64 a2.To,.int .i64 a2.Amount]) ci (hV (.loc M2.length 1 0 0) dz (hV (.bool au) cG (hV (.bool false) E hZ))))) fun nU jb jc jd je eH=>sN (cF eH E (xx ?_)))))))))))
     obtain rfl:=si h
     exact kd (show impl_do_c2_Q a1 a2 au (([]:Mem).length) M2.length _ _ from ⟨E,jb,jc,jd,je,eH,cH,cj⟩)) ?_
 rcases eF with _ | nV
 ·intro x nW nX gj
  obtain ⟨rfl,jf,jh,ji⟩:=gj
  refine sR ?_
  obtain rfl:=si h
  exact eR (resC (ag:=true) (sz:=3) ⟨by kernel_rfl,by kernel_rfl,by kernel_rfl⟩ (ldOA jf ji E E (ble E) E) (resT jh res0)) E
 intro x nY O gk
 obtain ⟨rfl,dD,jj,jk,jm,nZ,cK,dE⟩:=gk
 obtain ⟨⟨dF,Y,aa⟩,gm,h⟩:=bind_some h
 refine sN (sq (Rg (kx (ldOA dD cK E E (ble E) E) (Ev.nxcp (Ev.callT (v:=.agg [.int .i64 dF,.sl (some 2) (Y.map (cI .i64)),.sl (some 49) (aa.map Tally.c)]) E (cns E E) E (impl_ownBook_ok a1 _ gm) (th_gen (v':=.agg [.int .i64 dF,.lsl O.length Y.length 0 Y.length,.lsl (O.length + 1) aa.length 0 aa.length]) (l:=[⟨.grow,2,1,Y.map (cI .i64)⟩,⟨.grow,49,5,aa.map Tally.c⟩]) (own_agg (oa1 E (oa1 (own1_row' (c:=(cI .i64)) (fun _=>E)) (oa1 (own1_row' (c:=Tally.c) Tally.flF) oa0)))) (by simp [thaw,thaw2,thaw1,thawL,co2,co49]) E E)) fun eJ bI=>?_))))
 have eK:=push_old bI cK
 have jo:=push_old bI dE
 have bz:([]:Mem).length≠O.length:=by have:=lt_of_get (M:=O) cK; omega
 have ao:M2.length≠O.length:=by have:=lt_of_get (M:=O) dE; omega
 have eL:eJ[O.length]? = some (.live ⟨.grow,2,1,Y.map (cI .i64)⟩):=push_at bI 0 E
 have aZ:([]:Mem).length≠(O.length + 1):=by have:=lt_of_get (M:=O) cK; omega
 have ac:M2.length≠(O.length + 1):=by have:=lt_of_get (M:=O) dE; omega
 have bb:O.length≠(O.length + 1):=by omega
 have eM:eJ[(O.length + 1)]? = some (.live ⟨.grow,49,5,aa.map Tally.c⟩):=push_at bI 1 E
 refine kw (stO dD E eK E E ⟨E,ble E⟩ (all1 E (all1 (okL eL (by simp)) (all1 (okL eM (by simp)) all0))) E) fun jp bJ=>?_
 have dG:jp[([]:Mem).length]? = some (.live ⟨.box,27,3,[[.int .i64 dF,.lsl O.length Y.length 0 Y.length,.lsl (O.length + 1) aa.length 0 aa.length]]⟩):=set_same bJ eK
 have jq:=set_ne bJ (Ne.symm aq) jo
 have jr:=set_ne bJ (Ne.symm bz) eL
 have js:=set_ne bJ (Ne.symm aZ) eM
 refine Rn (hV (.loc ([]:Mem).length 1 0 0) dD (hV (.pt none [.int .i64 a2.Day,.int .i8 a2.Kind,.int .i64 a2.Tally,.int .i64 a2.From,.int .i64 a2.To,.int .i64 a2.Amount]) jj (hV (.loc M2.length 1 0 0) jk (hV (.bool au) jm hZ)))) fun n5 eO eP jt ju=>sN (sq (Rg (kx (faP eP ⟨ble E,blt E⟩ E) (kx (ldP E E) (kx (faO eO dG E) (kw (stO E E dG E E ⟨E,ble E⟩ E E) fun jv bK=>?_))))))
 have aD:jv[([]:Mem).length]? = some (.live ⟨.box,27,3,[[.int .i64 a2.Day,.lsl O.length Y.length 0 Y.length,.lsl (O.length + 1) aa.length 0 aa.length]]⟩):=set_same bK dG
 have aE:=set_ne bK (Ne.symm aq) jq
 have aV:=set_ne bK (Ne.symm bz) jr
 have ab:=set_ne bK (Ne.symm aZ) js
 refine Rn (hA eO (hA eP (hA jt (hA ju hZ)))) fun n7 jz eQ jA jB=>sN (sq (sq (Rg (kx (faP eQ ⟨ble E,blt E⟩ E) (kx (ldP E E) (kx (bEql E E) (Rn (hA jz (hA eQ (hA jA (hA jB (hN E hZ))))) fun oa cM dH eS jC eT=>sN ?_)))))))
 rcases ite_some h with ⟨cN,h⟩ | ⟨cN,h⟩
 ·refine cT eT cN (sq (sq (Rg (kx (faO cM aD E) (kx (ldO E aD E E E) (kx (lnL Try.underlying25 E ab (by simp)) (kx (bEql E E) (Rn (hA cM (hA dH (hA eS (hN E hZ)))) fun oc dI cm dJ eU=>sN ?_))))))))
  rcases ite_some h with ⟨cO,h⟩ | ⟨cO,h⟩
  ·refine cT eU cO (sq (Rg (kx (bldT zero27 E (fill0 E)) (kw (stO dJ E aE E E ⟨E,ble E⟩ E E) fun jD bL=>?_))))
   have od:=set_ne bL aq aD
   have jE:jD[M2.length]? = some (.live ⟨.box,27,3,[[.int .i64 0,.nils,.nils]]⟩):=set_same bL aE
   have oe:=set_ne bL (Ne.symm ao) aV
   have og:=set_ne bL (Ne.symm ac) ab
   refine kx (mvO E) (Rn (hA dJ (hV (.int .i64 3) E hZ)) fun oi jF jG=>sN (xx (sR (sR ?_))))
   obtain rfl:=si h
   exact eR (resC (ag:=true) (sz:=3) ⟨by kernel_rfl,by kernel_rfl,by kernel_rfl⟩ (ldOA jF jE E E (ble E) E) (resT jG res0)) E
  obtain ⟨cq,gn,h⟩:=bind_some h
  refine cF eU cO (xx (sN (sq (Rg (kx (faO dI aD E) (kx (ldO E aD E E E) (kx (faP cm ⟨ble E,blt E⟩ E) (kx (ldP E E) (kx (faP cm ⟨ble E,blt E⟩ E) (kx (ldP E E) (kx (faP cm ⟨ble E,blt E⟩ E) (kx (ldP E E) (kx (faP cm ⟨ble E,blt E⟩ E) (kx (ldP E E) (kx (faP cm ⟨ble E,blt E⟩ E) (kx (ldP E E) (kx (bldT zero49 (cns (pr3 E) (cns (pr3 E) (cns (pr3 E) (cns (pr3 E) (cns (pr3 E) E))))) (fill1 ⟨E,ble E⟩ E E (fill1 ⟨E,ble E⟩ E E (fill1 ⟨E,ble E⟩ E E (fill1 ⟨E,ble E⟩ E E (fill1 ⟨E,ble E⟩ E E (fill0 E))))))) (kx (litI (cns E E) E ⟨E,by decide⟩) (kw (apO E ab E (elT (c:=Tally.c) (xs:=[(Tally.mk a2.From a2.To a2.Day a2.Amount a2.Amount)]) E) gn Tally.fl (by decide)) fun jH bM=>?_)))))))))))))))))))
  have dK:=set_ne bM aZ aD
  have jI:=set_ne bM ac aE
  have jJ:=set_ne bM bb aV
  have eV:jH[(O.length + 1)]? = some (.live ⟨.grow,49,5,cq.map Tally.c⟩):=set_same bM ab
  refine kx (faO dI dK E) (kw (stO E E dK E E ⟨E,ble E⟩ (all1 (okL eV (by simp)) all0) E) fun jK bP=>?_)
  have eW:jK[([]:Mem).length]? = some (.live ⟨.box,27,3,[[.int .i64 a2.Day,.lsl O.length Y.length 0 Y.length,.lsl (O.length + 1) cq.length 0 cq.length]]⟩):=set_same bP dK
  have eX:=set_ne bP (Ne.symm aq) jI
  have eY:=set_ne bP (Ne.symm bz) jJ
  have eZ:=set_ne bP (Ne.symm aZ) eV
  refine Rn (hA dI (hA dJ hZ)) fun oj jL fa=>sN (sq (Rg (kx (ldOA jL eW E E (ble E) E) (kw (stO fa E eX E E ⟨E,ble E⟩ (all1 E (all1 (okL eY (by simp)) (all1 (okL eZ (by simp)) all0))) E) fun jM bS=>?_))))
  have om:=set_ne bS aq eW
  have jN:jM[M2.length]? = some (.live ⟨.box,27,3,[[.int .i64 a2.Day,.lsl O.length Y.length 0 Y.length,.lsl (O.length + 1) cq.length 0 cq.length]]⟩):=set_same bS eX
  have jO:=set_ne bS (Ne.symm ao) eY
  have jP:=set_ne bS (Ne.symm ac) eZ
  refine kx (mvO E) (Rn (hA fa (hV (.int .i64 0) E hZ)) fun oq jQ jR=>sN (xx (sR ?_)))
  obtain rfl:=si h
  exact eR (resC (ag:=true) (sz:=3) ⟨by kernel_rfl,by kernel_rfl,by kernel_rfl⟩ (ldOA jQ jN E E (ble E) E) (resT jR res0)) (rr_tup (mp1 (rr_agg (mp1 E (mp1 (rr_row jO E (cI_fl _)) (mp1 (rr_row jP E Tally.fl) mp0)))) (mp1 E mp0)))
 obtain ⟨J,ae,h⟩:=bind_some h
 obtain ⟨fd,gp,h⟩:=bind_some h
 refine cF eT cN (xx (sN (sq (Rg (kx (faO cM aD E) (kx (ldO E aD E E E) (kx (faP dH ⟨ble E,blt E⟩ E) (kx (ldP E E) (kx (ixO E ab E E (rd_get ae).1 (rd_lt ae).2) (kx (mvO E) (Rn (hA cM (hA dH (hA eS (hA jC (hV (.loc (O.length + 1) aa.length (0 + a2.Tally.toNat) 0) E hZ))))) fun ot bm aM bo jS aN=>sN (sq ?_))))))))))))
 refine Ev.cut (Q1:=impl_do_c3_Q a2 Y aa (([]:Mem).length) M2.length O.length (O.length + 1) fd) (by
     have h:=gp
     refine sq (Rd (kf (mvO jS) (kf (mvO E) ?_)))
     rcases ite_some h with ⟨af,h⟩ | ⟨af,h⟩
     ·refine kf (guT E af (faP aM ⟨ble E,blt E⟩ E)) (kf (guT E af (ldP E E)) (kf (guT E af (mvO aN)) (kf (guT E af (ncO E ab (by simp))) (kf (guT E af (faO E ab (by simp))) (kf (guT E af (ldO E ab (by simp) (rz ae) E)) (kf (guT E af (bNeq E E)) (kf (pkT E af E) (kf (mvO E) ?_))))))))
      rcases ite_some h with ⟨aG,h⟩ | ⟨aG,h⟩
      ·refine kf (gsF E aG) (kf (gsF E aG) (kf (gsF E aG) (kf (gsF E aG) (kf (gsF E aG) (kf (pkT E aG E) (kf (mvO E) (kf (gsF E E) (kf (gsF E E) (kf (gsF E E) (kf (gsF E E) (kf (gsU E) (kf (gsU E) (kf (gsU E) (kf (gsU E) (kf (gsU E) (kf (gsU E) (kf (gsU E) (kf (gsF E E) (kf (pkT E E E) (fZ (Rn (hA bm (hA aM (hA bo (hA aN (hV (.bool true) E hZ))))) fun ou ov oz ff oA jT=>sN (cT jT E (sq (Rg (kx (bldT zero27 E (fill0 E)) (kw (stO ff E aE E E ⟨E,ble E⟩ E E) fun jU bT=>?_))))))))))))))))))))))))))
       have oB:=set_ne bT aq aD
       have jV:jU[M2.length]? = some (.live ⟨.box,27,3,[[.int .i64 0,.nils,.nils]]⟩):=set_same bT aE
       have oC:=set_ne bT (Ne.symm ao) aV
       have oD:=set_ne bT (Ne.symm ac) ab
       refine kx (mvO E) (Rn (hA ff (hV (.int .i64 4) E hZ)) fun oE jW jX=>sN (xx ?_))
       obtain rfl:=si h
       exact kd (show impl_do_c3_Q a2 Y aa (([]:Mem).length) M2.length O.length (O.length + 1) _ _ from ⟨E,jW,jX,jV⟩)
      refine kf (guF E aG (mvO aN)) (kf (guF E aG (ncO E ab (by simp))) (kf (guF E aG (faO E ab (by simp))) (kf (guF E aG (ldO E ab (by simp) (rz ae) E)) (kf (guF E aG (bEql E E)) (kf (pkF E aG E) (kf (mvO E) ?_))))))
      rcases ite_some h with ⟨az,h⟩ | ⟨az,h⟩
      ·refine kf (gsF E az) (kf (gsF E az) (kf (gsF E az) (kf (gsF E az) (kf (gsU E) (kf (gsU E) (kf (gsU E) (kf (gsU E) (kf (gsU E) (kf (gsU E) (kf (gsU E) (kf (gsF E az) (kf (pkT E az E) (fZ (Rn (hA bm (hA aM (hA bo (hA aN (hV (.bool true) E hZ))))) fun oF oG oH fg oI jY=>sN (cT jY E (sq (Rg (kx (bldT zero27 E (fill0 E)) (kw (stO fg E aE E E ⟨E,ble E⟩ E E) fun jZ bU=>?_)))))))))))))))))))
       have oJ:=set_ne bU aq aD
       have j7:jZ[M2.length]? = some (.live ⟨.box,27,3,[[.int .i64 0,.nils,.nils]]⟩):=set_same bU aE
       have oK:=set_ne bU (Ne.symm ao) aV
       have oL:=set_ne bU (Ne.symm ac) ab
       refine kx (mvO E) (Rn (hA fg (hV (.int .i64 4) E hZ)) fun oM j8 j9=>sN (xx ?_))
       obtain rfl:=si h
       exact kd (show impl_do_c3_Q a2 Y aa (([]:Mem).length) M2.length O.length (O.length + 1) _ _ from ⟨E,j8,j9,j7⟩)
      refine kf (guF E az (faP aM ⟨ble E,blt E⟩ E)) (kf (guF E az (ldP E E)) (kf (guF E az (bEql E E)) (kf (guF E az (mvO E)) ?_)))
      rcases ite_some h with ⟨ah,h⟩ | ⟨ah,h⟩
      ·refine kf (guT E ah (faP aM ⟨ble E,blt E⟩ E)) (kf (guT E ah (ldP E E)) (kf (guT E ah (mvO aN)) (kf (guT E ah (ncO E ab (by simp))) (kf (guT E ah (faO E ab (by simp))) (kf (guT E ah (ldO E ab (by simp) (rz ae) E)) (kf (guT E ah (bGtr E E)) (kf (guF E az (pkT E ah E)) (kf (pkF E az E) (fZ (Rn (hA bm (hA aM (hA bo (hA aN (hN E hZ))))) fun oN ke kg dL kh dM=>sN ?_))))))))))
       rcases ite_some h with ⟨cQ,h⟩ | ⟨cQ,h⟩
       ·refine cT dM cQ (sq (Rg (kx (bldT zero27 E (fill0 E)) (kw (stO dL E aE E E ⟨E,ble E⟩ E E) fun ki bV=>?_))))
        have oO:=set_ne bV aq aD
        have kj:ki[M2.length]? = some (.live ⟨.box,27,3,[[.int .i64 0,.nils,.nils]]⟩):=set_same bV aE
        have oP:=set_ne bV (Ne.symm ao) aV
        have oQ:=set_ne bV (Ne.symm ac) ab
        refine kx (mvO E) (Rn (hA dL (hV (.int .i64 4) E hZ)) fun oR kl km=>sN (xx ?_))
        obtain rfl:=si h
        exact kd (show impl_do_c3_Q a2 Y aa (([]:Mem).length) M2.length O.length (O.length + 1) _ _ from ⟨E,kl,km,kj⟩)
       refine cF dM cQ (xx ?_)
       obtain rfl:=si h
       exact kd (show impl_do_c3_Q a2 Y aa (([]:Mem).length) M2.length O.length (O.length + 1) _ _ from ⟨E,ke,kg,dL,kh,dM,aD,aV,ab,aE⟩)
      refine kf (gsT E ah) (kf (gsT E ah) (kf (gsT E ah) (kf (gsT E ah) (kf (gsT E ah) (kf (gsT E ah) (kf (gsT E ah) (kf (guF E az (pkF E ah E)) (kf (pkF E az E) (fZ (Rn (hA bm (hA aM (hA bo (hA aN (hV (.bool false) E hZ))))) fun oS ko kq kr ks fh=>sN (cF fh E (xx ?_))))))))))))
      obtain rfl:=si h
      exact kd (show impl_do_c3_Q a2 Y aa (([]:Mem).length) M2.length O.length (O.length + 1) _ _ from ⟨E,ko,kq,kr,ks,fh,aD,aV,ab,aE⟩)
     refine kf (gsT E af) (kf (gsT E af) (kf (gsT E af) (kf (gsT E af) (kf (gsT E af) (kf (gsT E af) (kf (gsT E af) (kf (pkF E af E) (kf (mvO E) (kf (guF E E (mvO aN)) (kf (guF E E (ncO E ab (by simp))) (kf (guF E E (faO E ab (by simp))) (kf (guF E E (ldO E ab (by simp) (rz ae) E)) (kf (guF E E (bEql E E)) (kf (pkF E E E) (kf (mvO E) ?_)))))))))))))))
     rcases ite_some h with ⟨aA,h⟩ | ⟨aA,h⟩
     ·refine kf (gsF E aA) (kf (gsF E aA) (kf (gsF E aA) (kf (gsF E aA) (kf (gsU E) (kf (gsU E) (kf (gsU E) (kf (gsU E) (kf (gsU E) (kf (gsU E) (kf (gsU E) (kf (gsF E aA) (kf (pkT E aA E) (fZ (Rn (hA bm (hA aM (hA bo (hA aN (hV (.bool true) E hZ))))) fun oT oU oV fi oW kv=>sN (cT kv E (sq (Rg (kx (bldT zero27 E (fill0 E)) (kw (stO fi E aE E E ⟨E,ble E⟩ E E) fun ky bW=>?_)))))))))))))))))))
      have oX:=set_ne bW aq aD
      have kz:ky[M2.length]? = some (.live ⟨.box,27,3,[[.int .i64 0,.nils,.nils]]⟩):=set_same bW aE
      have oY:=set_ne bW (Ne.symm ao) aV
      have oZ:=set_ne bW (Ne.symm ac) ab
      refine kx (mvO E) (Rn (hA fi (hV (.int .i64 4) E hZ)) fun pb kA kC=>sN (xx ?_))
      obtain rfl:=si h
      exact kd (show impl_do_c3_Q a2 Y aa (([]:Mem).length) M2.length O.length (O.length + 1) _ _ from ⟨E,kA,kC,kz⟩)
     refine kf (guF E aA (faP aM ⟨ble E,blt E⟩ E)) (kf (guF E aA (ldP E E)) (kf (guF E aA (bEql E E)) (kf (guF E aA (mvO E)) ?_)))
     rcases ite_some h with ⟨ai,h⟩ | ⟨ai,h⟩
     ·refine kf (guT E ai (faP aM ⟨ble E,blt E⟩ E)) (kf (guT E ai (ldP E E)) (kf (guT E ai (mvO aN)) (kf (guT E ai (ncO E ab (by simp))) (kf (guT E ai (faO E ab (by simp))) (kf (guT E ai (ldO E ab (by simp) (rz ae) E)) (kf (guT E ai (bGtr E E)) (kf (guF E aA (pkT E ai E)) (kf (pkF E aA E) (fZ (Rn (hA bm (hA aM (hA bo (hA aN (hN E hZ))))) fun pd kD kE dN kF dO=>sN ?_))))))))))
      rcases ite_some h with ⟨cR,h⟩ | ⟨cR,h⟩
      ·refine cT dO cR (sq (Rg (kx (bldT zero27 E (fill0 E)) (kw (stO dN E aE E E ⟨E,ble E⟩ E E) fun kG bX=>?_))))
       have pe:=set_ne bX aq aD
       have kH:kG[M2.length]? = some (.live ⟨.box,27,3,[[.int .i64 0,.nils,.nils]]⟩):=set_same bX aE
       have pf:=set_ne bX (Ne.symm ao) aV
       have pg:=set_ne bX (Ne.symm ac) ab
       refine kx (mvO E) (Rn (hA dN (hV (.int .i64 4) E hZ)) fun pi kJ kK=>sN (xx ?_))
       obtain rfl:=si h
       exact kd (show impl_do_c3_Q a2 Y aa (([]:Mem).length) M2.length O.length (O.length + 1) _ _ from ⟨E,kJ,kK,kH⟩)
      refine cF dO cR (xx ?_)
      obtain rfl:=si h
      exact kd (show impl_do_c3_Q a2 Y aa (([]:Mem).length) M2.length O.length (O.length + 1) _ _ from ⟨E,kD,kE,dN,kF,dO,aD,aV,ab,aE⟩)
     refine kf (gsT E ai) (kf (gsT E ai) (kf (gsT E ai) (kf (gsT E ai) (kf (gsT E ai) (kf (gsT E ai) (kf (gsT E ai) (kf (guF E aA (pkF E ai E)) (kf (pkF E aA E) (fZ (Rn (hA bm (hA aM (hA bo (hA aN (hV (.bool false) E hZ))))) fun pj kL kM kN kO fj=>sN (cF fj E (xx ?_))))))))))))
     obtain rfl:=si h
     exact kd (show impl_do_c3_Q a2 Y aa (([]:Mem).length) M2.length O.length (O.length + 1) _ _ from ⟨E,kL,kM,kN,kO,fj,aD,aV,ab,aE⟩)) ?_
 rcases fd with _ | pk
 ·intro x pm pn gq
  obtain ⟨rfl,kP,kQ,kR⟩:=gq
  refine sR ?_
  obtain rfl:=si h
  exact eR (resC (ag:=true) (sz:=3) ⟨by kernel_rfl,by kernel_rfl,by kernel_rfl⟩ (ldOA kP kR E E (ble E) E) (resT kQ res0)) E
 intro x po pp gt
 obtain ⟨rfl,kT,fk,kU,kV,pq,a8,aO,aB,bq⟩:=gt
 refine sN (sq (sq (Rg (kx (faP fk ⟨ble E,blt E⟩ E) (kx (ldP E E) (Rn (hV (.loc ([]:Mem).length 1 0 0) kT (hV (.pt none [.int .i64 a2.Day,.int .i8 a2.Kind,.int .i64 a2.Tally,.int .i64 a2.From,.int .i64 a2.To,.int .i64 a2.Amount]) fk (hV (.loc M2.length 1 0 0) kU (hV (.loc (O.length + 1) aa.length (0 + a2.Tally.toNat) 0) kV (hN E hZ))))) fun px kW kX kY kZ fm=>sN (bl (sq (Rg (kx (bEql fm E) (kx (mvO E) (Rn (hA kW (hA kX (hA kY (hA kZ (hA fm (hN E hZ)))))) fun pz fo dP fq dQ ft fu=>sN ?_))))))))))))
 rcases ite_some h with ⟨cU,h⟩ | ⟨cU,h⟩
 ·refine cT fu cU (sq (Rg (kx (mvO dQ) (kx (faP dP ⟨ble E,blt E⟩ E) (kx (ldP E E) (kx (ncO E aB (by simp)) (kx (faO E aB (by simp)) (kw (stR (u:=J) (u':=(Tally.mk J.Debtor a2.To J.Cut J.Amount J.Left)) E E aB E (rz2 ae) ⟨E,ble E⟩ E E) fun k9 bA=>?_))))))))
  rw [Nat.zero_add] at bA
  have dR:=set_ne bA aZ a8
  have dS:=set_ne bA bb aO
  have bf:k9[(O.length + 1)]? = some (.live ⟨.grow,49,5,(aa.set a2.Tally.toNat (Tally.mk J.Debtor a2.To J.Cut J.Amount J.Left)).map Tally.c⟩):=set_same bA aB
  have dT:=set_ne bA ac bq
  have cV:=rd_set (u':=(Tally.mk J.Debtor a2.To J.Cut J.Amount J.Left)) ae
  refine Rn (hA fo (hA dP (hA fq (hA dQ hZ)))) fun pA la lb lc fw=>sN (sq (Rd (kf (faP lb ⟨ble E,blt E⟩ E) (kf (ldP E E) (kf (mvO fw) (kf (ncO E bf (by simp)) (kf (faO E bf (by simp)) (kf (ldO E bf (by simp) (rz cV) E) (kf (bEql E E) (fZ (Rn (hA la (hA lc (hA fw (hN E hZ)))) fun pC fA dU ld fB=>sN ?_)))))))))))
  rcases ite_some h with ⟨cW,h⟩ | ⟨cW,h⟩
  ·refine cT fB cW (Rg (kx (mvO ld) (kx (ncO E bf (by simp)) (kx (faO E bf (by simp)) (kw (stR (u:=(Tally.mk J.Debtor a2.To J.Cut J.Amount J.Left)) (u':=(Tally.mk ((Tally.mk J.Debtor a2.To J.Cut J.Amount J.Left)).Debtor ((Tally.mk J.Debtor a2.To J.Cut J.Amount J.Left)).Holder ((Tally.mk J.Debtor a2.To J.Cut J.Amount J.Left)).Cut ((Tally.mk J.Debtor a2.To J.Cut J.Amount J.Left)).Amount 0)) E E bf (by simp) (rz2 cV) ⟨E,ble E⟩ E E) fun le bB=>?_)))))
   rw [Nat.zero_add] at bB
   have fC:=set_ne bB aZ dR
   have fD:=set_ne bB bb dS
   have fE:le[(O.length + 1)]? = some (.live ⟨.grow,49,5,((aa.set a2.Tally.toNat (Tally.mk J.Debtor a2.To J.Cut J.Amount J.Left)).set a2.Tally.toNat (Tally.mk ((Tally.mk J.Debtor a2.To J.Cut J.Amount J.Left)).Debtor ((Tally.mk J.Debtor a2.To J.Cut J.Amount J.Left)).Holder ((Tally.mk J.Debtor a2.To J.Cut J.Amount J.Left)).Cut ((Tally.mk J.Debtor a2.To J.Cut J.Amount J.Left)).Amount 0)).map Tally.c⟩):=set_same bB bf
   have fF:=set_ne bB ac dT
   have m8:=rd_set (u':=(Tally.mk ((Tally.mk J.Debtor a2.To J.Cut J.Amount J.Left)).Debtor ((Tally.mk J.Debtor a2.To J.Cut J.Amount J.Left)).Holder ((Tally.mk J.Debtor a2.To J.Cut J.Amount J.Left)).Cut ((Tally.mk J.Debtor a2.To J.Cut J.Amount J.Left)).Amount 0)) cV
   refine Rn (hA fA (hA dU hZ)) fun pD lg fG=>bN (sN (sq (Rg (kx (ldOA lg fC E E (ble E) E) (kw (stO fG E fF E E ⟨E,ble E⟩ (all1 E (all1 (okL fD (by simp)) (all1 (okL fE (by simp)) all0))) E) fun lh bY=>?_)))))
   have pH:=set_ne bY aq fC
   have lj:=set_ne bY (Ne.symm ao) fD
   have lm:=set_ne bY (Ne.symm ac) fE
   have ln:lh[M2.length]? = some (.live ⟨.box,27,3,[[.int .i64 a2.Day,.lsl O.length Y.length 0 Y.length,.lsl (O.length + 1) aa.length 0 aa.length]]⟩):=set_same bY fF
   refine kx (mvO E) (Rn (hA fG (hV (.int .i64 0) E hZ)) fun pJ lq lr=>sN (xx ?_))
   obtain rfl:=si h
   exact eR (resC (ag:=true) (sz:=3) ⟨by kernel_rfl,by kernel_rfl,by kernel_rfl⟩ (ldOA lq ln E E (ble E) E) (resT lr res0)) (rr_tup (mp1 (rr_agg (mp1 E (mp1 (rr_row lj E (cI_fl _)) (mp1 (rr_row lm (by simp) Tally.fl) mp0)))) (mp1 E mp0)))
  refine cF fB cW (xx (bN (sN (sq (Rg (kx (ldOA fA dR E E (ble E) E) (kw (stO dU E dT E E ⟨E,ble E⟩ (all1 E (all1 (okL dS (by simp)) (all1 (okL bf (by simp)) all0))) E) fun lu bZ=>?_)))))))
  have pO:=set_ne bZ aq dR
  have lv:=set_ne bZ (Ne.symm ao) dS
  have lx:=set_ne bZ (Ne.symm ac) bf
  have ly:lu[M2.length]? = some (.live ⟨.box,27,3,[[.int .i64 a2.Day,.lsl O.length Y.length 0 Y.length,.lsl (O.length + 1) aa.length 0 aa.length]]⟩):=set_same bZ dT
  refine kx (mvO E) (Rn (hA dU (hV (.int .i64 0) E hZ)) fun pQ lz lA=>sN (xx ?_))
  obtain rfl:=si h
  exact eR (resC (ag:=true) (sz:=3) ⟨by kernel_rfl,by kernel_rfl,by kernel_rfl⟩ (ldOA lz ly E E (ble E) E) (resT lA res0)) (rr_tup (mp1 (rr_agg (mp1 E (mp1 (rr_row lv E (cI_fl _)) (mp1 (rr_row lx (by simp) Tally.fl) mp0)))) (mp1 E mp0)))
 refine cF fu cU (sq (Rg (kx (bEql ft E) (kx (mvO E) (Rn (hA fo (hA dP (hA fq (hA dQ (hA ft (hN E hZ)))))) fun pR dV fH fI dW lB fJ=>sN ?_)))))
 rcases ite_some h with ⟨cX,h⟩ | ⟨cX,h⟩
 ·obtain ⟨pV,cY,h⟩:=bind_some h
  refine cT fJ cX (sq (sq (Rd (kf (faO dV a8 E) (kf (ldO E a8 E E E) (kf (mvO dW) (kf (ncO E aB (by simp)) (kf (faO E aB (by simp)) (kf (ldO E aB (by simp) (rz ae) E) (kf (ixO E aO E E (rd_get cY).1 (rd_lt cY).2) (kf (ldO E aO (by simp) (rz cY) E) (kf (faP fH ⟨ble E,blt E⟩ E) (kf (ldP E E) (kf (bLss E E) (fZ (Rn (hA dV (hA fH (hA fI (hA dW (hN E hZ))))) fun pW fK fL dX fM fN=>sN ?_))))))))))))))))
  rcases ite_some h with ⟨cZ,h⟩ | ⟨cZ,h⟩
  ·refine cT fN cZ (sq (Rg (kx (bldT zero27 E (fill0 E)) (kw (stO dX E bq E E ⟨E,ble E⟩ E E) fun lC b7=>?_))))
   have pX:=set_ne b7 aq a8
   have pY:=set_ne b7 (Ne.symm ao) aO
   have pZ:=set_ne b7 (Ne.symm ac) aB
   have lD:lC[M2.length]? = some (.live ⟨.box,27,3,[[.int .i64 0,.nils,.nils]]⟩):=set_same b7 bq
   refine kx (mvO E) (Rn (hA dX (hV (.int .i64 8) E hZ)) fun p5 lE lF=>sN (xx (sR (bR (sR ?_)))))
   obtain rfl:=si h
   exact eR (resC (ag:=true) (sz:=3) ⟨by kernel_rfl,by kernel_rfl,by kernel_rfl⟩ (ldOA lE lD E E (ble E) E) (resT lF res0)) E
  obtain ⟨bu,da,h⟩:=bind_some h
  obtain ⟨lG,b8,h⟩:=bind_some h
  refine cF fN cZ (xx (sN (sq (Rd (kf (faO fK a8 E) (kf (ldO E a8 E E E) (kf (mvO fM) (kf (ncO E aB (by simp)) (kf (faO E aB (by simp)) (kf (ldO E aB (by simp) (rz ae) E) (kf (ixO E aO E E (rd_get da).1 (rd_lt da).2) (kf (ldO E aO (by simp) (rz da) E) (kf (faP fL ⟨ble E,blt E⟩ E) (kf (ldP E E) (kf (bSub E E) (kf (ixO E aO E E (rd_get b8).1 (rd_lt b8).2) (fZ (kw (stR (u:=lG) (u':=(IntKind.i64.wrap (bu - a2.Amount))) E E aO E (rz2 b8) ⟨E,ble E⟩ E E) fun lH bC=>?_))))))))))))))))))
  rw [Nat.zero_add] at bC
  have dY:=set_ne bC bz a8
  have cr:lH[O.length]? = some (.live ⟨.grow,2,1,(Y.set J.Debtor.toNat (IntKind.i64.wrap (bu - a2.Amount))).map (cI .i64)⟩):=set_same bC aO
  have db:=set_ne bC (Ne.symm bb) aB
  have lI:=set_ne bC ao bq
  have m9:=rd_set (u':=(IntKind.i64.wrap (bu - a2.Amount))) b8
  obtain ⟨dc,de,h⟩:=bind_some h
  obtain ⟨lJ,b9,h⟩:=bind_some h
  refine Rn (hA fK (hA fL (hA dX (hA fM hZ)))) fun p7 fO fP lK fQ=>sN (sq (Rd (kf (faO fO dY E) (kf (ldO E dY E E E) (kf (mvO fQ) (kf (ncO E db (by simp)) (kf (faO E db (by simp)) (kf (ldO E db (by simp) (rz ae) E) (kf (ixO (lslL (L':=(Y.set J.Debtor.toNat (IntKind.i64.wrap (bu - a2.Amount))).length) E (by simp)) cr E E (rd_get de).1 (rd_lt de).2) (kf (ldO E cr (by simp) (rz de) E) (kf (faP fP ⟨ble E,blt E⟩ E) (kf (ldP E E) (kf (bAdd E E) (kf (ixO (lslL (L':=(Y.set J.Debtor.toNat (IntKind.i64.wrap (bu - a2.Amount))).length) E (by simp)) cr E E (rd_get b9).1 (rd_lt b9).2) (fZ (kw (stR (u:=lJ) (u':=(IntKind.i64.wrap (dc + a2.Amount))) E E cr E (rz2 b9) ⟨E,ble E⟩ E E) fun lL bD=>?_))))))))))))))))
  rw [Nat.zero_add] at bD
  have lM:=set_ne bD bz dY
  have lN:lL[O.length]? = some (.live ⟨.grow,2,1,((Y.set J.Debtor.toNat (IntKind.i64.wrap (bu - a2.Amount))).set J.Holder.toNat (IntKind.i64.wrap (dc + a2.Amount))).map (cI .i64)⟩):=set_same bD cr
  have bv:=set_ne bD (Ne.symm bb) db
  have lO:=set_ne bD ao lI
  have na:=rd_set (u':=(IntKind.i64.wrap (dc + a2.Amount))) b9
  refine Rn (hA fO (hA fP (hA lK (hA fQ hZ)))) fun p8 lP lQ lR fR=>sN (sq (Rd (kf (mvO fR) (kf (ncO E bv (by simp)) (kf (faO E bv (by simp)) (kf (ldO E bv (by simp) (rz ae) E) (kf (faP lQ ⟨ble E,blt E⟩ E) (kf (ldP E E) (kf (bSub E E) (kf (ncO E bv (by simp)) (kf (faO E bv (by simp)) (fZ (kw (stR (u:=J) (u':=(Tally.mk J.Debtor J.Holder J.Cut J.Amount (IntKind.i64.wrap (J.Left - a2.Amount)))) E E bv E (rz2 ae) ⟨E,ble E⟩ E E) fun lS bF=>?_)))))))))))))
  rw [Nat.zero_add] at bF
  have ct:=set_ne bF aZ lM
  have cw:=set_ne bF bb lN
  have bH:lS[(O.length + 1)]? = some (.live ⟨.grow,49,5,(aa.set a2.Tally.toNat (Tally.mk J.Debtor J.Holder J.Cut J.Amount (IntKind.i64.wrap (J.Left - a2.Amount)))).map Tally.c⟩):=set_same bF bv
  have df:=set_ne bF ac lO
  have gw:=rd_set (u':=(Tally.mk J.Debtor J.Holder J.Cut J.Amount (IntKind.i64.wrap (J.Left - a2.Amount)))) ae
  obtain ⟨p9,dg,h⟩:=bind_some h
  refine Rn (hA lP (hA lR (hA fR hZ))) fun qa fS lT lU=>sN (sq (Rd (kf (faO fS ct E) (kf (ldO E ct E E E) (kf (mvO lU) (kf (ncO E bH (by simp)) (kf (faO E bH (by simp)) (kf (ldO E bH (by simp) (rz gw) E) (kf (ixO (lslL (L':=((Y.set J.Debtor.toNat (IntKind.i64.wrap (bu - a2.Amount))).set J.Holder.toNat (IntKind.i64.wrap (dc + a2.Amount))).length) E (by simp)) cw E E (rd_get dg).1 (rd_lt dg).2) (kf (ldO E cw (by simp) (rz dg) E) (kf (bGtr E E) (fZ (Rn (hA fS (hA lT (hN E hZ))) fun qb lV di fT=>sN ?_)))))))))))))
  rcases ite_some h with ⟨dj,h⟩ | ⟨dj,h⟩
  ·refine cT fT dj (sq (Rg (kx (bldT zero27 E (fill0 E)) (kw (stO di E df E E ⟨E,ble E⟩ E E) fun lW cb=>?_))))
   have qc:=set_ne cb aq ct
   have qd:=set_ne cb (Ne.symm ao) cw
   have qe:=set_ne cb (Ne.symm ac) bH
   have lX:lW[M2.length]? = some (.live ⟨.box,27,3,[[.int .i64 0,.nils,.nils]]⟩):=set_same cb df
   refine kx (mvO E) (Rn (hA di (hV (.int .i64 3) E hZ)) fun qf lY lZ=>sN (xx (bR (sR ?_))))
   obtain rfl:=si h
   exact eR (resC (ag:=true) (sz:=3) ⟨by kernel_rfl,by kernel_rfl,by kernel_rfl⟩ (ldOA lY lX E E (ble E) E) (resT lZ res0)) E
  refine cF fT dj (xx (bN (sN (sq (Rg (kx (ldOA lV ct E E (ble E) E) (kw (stO di E df E E ⟨E,ble E⟩ (all1 E (all1 (okL cw (by simp)) (all1 (okL bH (by simp)) all0))) E) fun l5 cd=>?_)))))))
  have qg:=set_ne cd aq ct
  have l6:=set_ne cd (Ne.symm ao) cw
  have l7:=set_ne cd (Ne.symm ac) bH
  have l8:l5[M2.length]? = some (.live ⟨.box,27,3,[[.int .i64 a2.Day,.lsl O.length Y.length 0 Y.length,.lsl (O.length + 1) aa.length 0 aa.length]]⟩):=set_same cd df
  refine kx (mvO E) (Rn (hA di (hV (.int .i64 0) E hZ)) fun qh l9 ma=>sN (xx ?_))
  obtain rfl:=si h
  exact eR (resC (ag:=true) (sz:=3) ⟨by kernel_rfl,by kernel_rfl,by kernel_rfl⟩ (ldOA l9 l8 E E (ble E) E) (resT ma res0)) (rr_tup (mp1 (rr_agg (mp1 E (mp1 (rr_row l6 (by simp) (cI_fl _)) (mp1 (rr_row l7 (by simp) Tally.fl) mp0)))) (mp1 E mp0)))
 refine cF fJ cX (sq (Rg (kx (bEql lB E) (kx (mvO E) (Rn (hA dV (hA fI (hA dW (hN E hZ)))) fun qi fU dZ me fV=>sN ?_)))))
 rcases ite_some h with ⟨dk,h⟩ | ⟨dk,h⟩
 ·refine cT fV dk (Rg (kx (mvO me) (kx (ncO E aB (by simp)) (kx (faO E aB (by simp)) (kw (stR (u:=J) (u':=(Tally.mk J.Debtor J.Holder J.Cut J.Amount 0)) E E aB E (rz2 ae) ⟨E,ble E⟩ E E) fun mf bG=>?_)))))
  rw [Nat.zero_add] at bG
  have fW:=set_ne bG aZ a8
  have fX:=set_ne bG bb aO
  have fY:mf[(O.length + 1)]? = some (.live ⟨.grow,49,5,(aa.set a2.Tally.toNat (Tally.mk J.Debtor J.Holder J.Cut J.Amount 0)).map Tally.c⟩):=set_same bG aB
  have ga:=set_ne bG ac bq
  have nb:=rd_set (u':=(Tally.mk J.Debtor J.Holder J.Cut J.Amount 0)) ae
  refine Rn (hA fU (hA dZ hZ)) fun qj mg gc=>bN (sN (sq (Rg (kx (ldOA mg fW E E (ble E) E) (kw (stO gc E ga E E ⟨E,ble E⟩ (all1 E (all1 (okL fX (by simp)) (all1 (okL fY (by simp)) all0))) E) fun mh cf=>?_)))))
  have qk:=set_ne cf aq fW
  have mi:=set_ne cf (Ne.symm ao) fX
  have mj:=set_ne cf (Ne.symm ac) fY
  have ml:mh[M2.length]? = some (.live ⟨.box,27,3,[[.int .i64 a2.Day,.lsl O.length Y.length 0 Y.length,.lsl (O.length + 1) aa.length 0 aa.length]]⟩):=set_same cf ga
  refine kx (mvO E) (Rn (hA gc (hV (.int .i64 0) E hZ)) fun ql mm mn=>sN (xx ?_))
  obtain rfl:=si h
  exact eR (resC (ag:=true) (sz:=3) ⟨by kernel_rfl,by kernel_rfl,by kernel_rfl⟩ (ldOA mm ml E E (ble E) E) (resT mn res0)) (rr_tup (mp1 (rr_agg (mp1 E (mp1 (rr_row mi E (cI_fl _)) (mp1 (rr_row mj (by simp) Tally.fl) mp0)))) (mp1 E mp0)))
 refine cF fV dk (xx (bN (sN (sq (Rg (kx (ldOA fU a8 E E (ble E) E) (kw (stO dZ E bq E E ⟨E,ble E⟩ (all1 E (all1 (okL aO (by simp)) (all1 (okL aB (by simp)) all0))) E) fun mo cg=>?_)))))))
 have qm:=set_ne cg aq a8
 have mp:=set_ne cg (Ne.symm ao) aO
 have mq:=set_ne cg (Ne.symm ac) aB
 have mu:mo[M2.length]? = some (.live ⟨.box,27,3,[[.int .i64 a2.Day,.lsl O.length Y.length 0 Y.length,.lsl (O.length + 1) aa.length 0 aa.length]]⟩):=set_same cg bq
 refine kx (mvO E) (Rn (hA dZ (hV (.int .i64 0) E hZ)) fun qn mv mw=>sN (xx ?_))
 obtain rfl:=si h
 exact eR (resC (ag:=true) (sz:=3) ⟨by kernel_rfl,by kernel_rfl,by kernel_rfl⟩ (ldOA mv mu E E (ble E) E) (resT mw res0)) (rr_tup (mp1 (rr_agg (mp1 E (mp1 (rr_row mp E (cI_fl _)) (mp1 (rr_row mq E Tally.fl) mp0)))) (mp1 E mp0)))
noncomputable def impl_isAmount (a1:Int):Option Bool:=
 if (decide (a1≥0))=true then
  some (decide (a1≤100000000))
 else
  some false
def impl_isAmount_enc (r:Bool):AV:=.bool r
theorem impl_isAmount_ok (a1:Int) (r:Bool) (h:impl_isAmount a1=some r):Ev (fun k=>CN k 74 [.int .i64 a1] []) (fun p=>rRes p.2 p.1=impl_isAmount_enc r):=by
 unfold impl_isAmount at h
 refine Ev.enter (F:=fun k=>f74 (CN k) k) (fun k=>callN_eq E Try.func74 E E E (by decide +kernel) (f74_eq _ _)) (sq (Rg (kx (mvO E) (Rn (hN E hZ) fun e1 h3=>sN (sq (Rg (kx (mvO h3) (kx (bGeq E E) (kx (mvO E) ?_)))))))))
 rcases ite_some h with ⟨J,h⟩ | ⟨J,h⟩
 ·refine kx (guT E J (mvO h3)) (kx (guT E J (bLeq E E)) (kx (pkT E J E) (kx (mvO E) (Rn (hN E hZ) fun e5 h7=>sN (xx ?_)))))
  obtain rfl:=si h
  exact eR (resT h7 res0) E
 refine kx (gsT E J) (kx (gsT E J) (kx (pkF E J E) (kx (mvO E) (Rn (hV (.bool false) E hZ) fun e8 O=>sN (xx ?_)))))
 obtain rfl:=si h
 exact eR (resT O res0) E
abbrev impl_books_b1_S:=Int×Int×(List Int)×(List Tally)×(List Book)
abbrev impl_books_b1_R:=(Int×(List Book))⊕(Int×(List Int)×(List Tally)×(List Book))
def impl_books_b1_RS (a2:List Deal) (J:Nat) (O:Nat) (s:impl_books_b1_S) (e:Env) (M:Mem):Prop:=eget e 2 = .loc J 1 0 0∧eget e 6 = .lsl O s.2.2.2.2.length 0 s.2.2.2.2.length∧eget e 12 = .sl none (a2.map Deal.c)∧eget e 13 = .int .i64 (a2.length:Int)∧eget e 14 = .int .i64 s.1∧M[J]? = some (.live ⟨.box,27,3,[[.int .i64 s.2.1,.sl none (s.2.2.1.map (cI .i64)),.sl none (s.2.2.2.1.map Tally.c)]]⟩)∧M[O]? = some (.live ⟨.grow,27,3,s.2.2.2.2.map Book.c⟩)
def impl_books_b1_RR (a2:List Deal) (O:Nat) (J:Nat) (r:impl_books_b1_R) (x:Ex) (e:Env) (M:Mem):Prop:=
  match r with
  | (.inl g)=>x = .ret∧eget e 4 = .lsl J g.2.length 0 g.2.length∧eget e 5 = .int .i64 g.1∧M[J]? = some (.live ⟨.grow,27,3,g.2.map Book.c⟩)
  | (.inr g)=>x = .ext 0∧eget e 6 = .lsl J g.2.2.2.length 0 g.2.2.2.length∧M[O]? = some (.live ⟨.box,27,3,[[.int .i64 g.1,.sl none (g.2.1.map (cI .i64)),.sl none (g.2.2.1.map Tally.c)]]⟩)∧M[J]? = some (.live ⟨.grow,27,3,g.2.2.2.map Book.c⟩)
noncomputable def impl_books_b1 (a2:List Deal):impl_books_b1_S→Option (impl_books_b1_S⊕impl_books_b1_R):=fun (J,Y,aa,ab,O)=>
 if (decide (J < (a2.length:Int)))=true then
  (rd a2 J).bind fun ao=>
  (impl_do (Book.mk Y aa ab) ao).bind fun r=>match r with
  | (.inl ah)=>
   if (ah != 0)=true then
    some (.inr (.inl (ah,O)))
   else
    none
  | (.inr (ac,ae,af))=>
   (app 56 O [(Book.mk ac ae af)]).bind fun ai=>
   some (.inl ((IntKind.i64.wrap (J + 1)),ac,ae,af,ai))
 else
  some (.inr (.inr (Y,aa,ab,O)))
theorem impl_books_b1_ok (a2:List Deal) (O:Nat) (J:Nat) (aB:O≠J) (s:impl_books_b1_S) (r:impl_books_b1_S⊕impl_books_b1_R) (h:impl_books_b1 a2 s=some r) (e:Env) (M:Mem) (hs:impl_books_b1_RS a2 O J s e M):Ev (fun k=>(f71_l3 (CN k) k (prune [2,6,12,13,14] e) M).bind fun q=>some q) (bQ (impl_books_b1_RS a2 O J) (impl_books_b1_RR a2 O J) r):=by
 obtain ⟨bP,aJ,aK,aL,ah⟩:=s
 unfold impl_books_b1 at h
 obtain ⟨dA,dC,dD,dE,dF,aM,aN⟩:=hs
 generalize ae:prune [2,6,12,13,14] e=ey
 have dG:=envp ae.symm E dA
 have dH:=envp ae.symm E dC
 have dI:=envp ae.symm E dD
 have bA:=envp ae.symm E dE
 have bB:=envp ae.symm E dF
 refine sq (Rg (kx (bLss bB bA) (Rn (hV (.loc O 1 0 0) dG (hV (.lsl J ah.length 0 ah.length) dH (hV (.sl none (a2.map Deal.c)) dI (hV (.int .i64 (a2.length:Int)) bA (hV (.int .i64 bP) bB (hN E hZ)))))) fun ez dJ bC bD dK bF bG=>sN (sq ?_))))
 rcases ite_some h with ⟨aC,h⟩ | ⟨aC,h⟩
 ·obtain ⟨Y,bS,h⟩:=bind_some h
  refine cT bG aC (xx (sN (sq (bl (sq (Rg (kx (ixS bD bF bS Deal.fl) (kx (ldPA E E E) (ku (alO zero36) fun dL aD=>?_)))))))))
  have dM:=push_old aD aM
  have bT:=ne_new aM
  have dN:=push_old aD aN
  have bU:=ne_new aN
  have bH:dL[M.length]? = some (.live ⟨.box,36,6,[[.int .i64 0,.int .i8 0,.int .i64 0,.int .i64 0,.int .i64 0,.int .i64 0]]⟩):=push_new aD
  refine kw (stO E E bH E E ⟨E,ble E⟩ E E) fun af aE=>?_
  have az:=set_ne aE bT dM
  have aG:=set_ne aE bU dN
  have aA:af[M.length]? = some (.live ⟨.box,36,6,[[.int .i64 Y.Day,.int .i8 Y.Kind,.int .i64 Y.Tally,.int .i64 Y.From,.int .i64 Y.To,.int .i64 Y.Amount]]⟩):=set_same aE bH
  obtain ⟨bV,aO,h⟩:=bind_some h
  refine Rn (hA dJ (hA bC (hV (.loc M.length 1 0 0) E (hA bD (hA dK (hA bF hZ)))))) fun eA aP bI dO bJ bK bL=>sN (sq (Rg (kx (ldOA aP az E E (ble E) E) (kx (ldOA dO aA E E (ble E) E) ?_))))
  rcases bV with dP | ⟨ai,ao,aq⟩
  ·refine kc (cl (v:=.tup [.agg [.int .i64 0,.nils,.nils],.int .i64 dP]) E E (cns E (cns E E)) E (impl_do_ok (Book.mk aJ aK aL) Y _ aO) nm) (kx (mvO E) (kx (exT E E) (kx (exT E E) (ku (alO zero27) fun dQ au=>?_))))
   have dR:=push_old au az
   have aR:=ne_new az
   have dS:=push_old au aG
   have bW:=ne_new aG
   have dT:=push_old au aA
   have bX:=ne_new aA
   have bM:dQ[af.length]? = some (.live ⟨.box,27,3,[[.int .i64 0,.nils,.nils]]⟩):=push_new au
   refine kw (stO E E bM E E ⟨E,ble E⟩ E E) fun dU aa=>?_
   have aS:=set_ne aa aR dR
   have aT:=set_ne aa bW dS
   have dV:=set_ne aa bX dT
   have aU:dU[af.length]? = some (.live ⟨.box,27,3,[[.int .i64 0,.nils,.nils]]⟩):=set_same aa bM
   refine kx (mvO E) (Rn (hA aP (hA bI (hV (.loc af.length 1 0 0) E (hN E (hA bJ (hA bK (hA bL hZ))))))) fun dW bY bZ b7 aV b8 b9 cb=>sN (sq (sq (Rg (kx (mvO aV) (kx (bNeq E E) (Rn (hA bY (hA bZ (hA b7 (hA aV (hA b8 (hA b9 (hA cb (hN E hZ)))))))) fun dX aZ a8 cd cf cg ci cj ba=>sN ?_)))))))
   rcases ite_some h with ⟨aw,h⟩ | ⟨aw,h⟩
   ·refine cT ba aw (sq (Rg (kx (mvO a8) (kx (mvO cf) (kx (mvO E) (kx (mvO E) (Rn (hV (.lsl J ah.length 0 ah.length) E (hN E hZ)) fun dY cm cq=>sN (xx (sR (bR (sR ?_)))))))))))
    obtain rfl:=si h
    exact qR ⟨E,cm,cq,aT⟩
   refine cF ba aw (xx (sN (sq (Rg (kx (ldOA cd aU E E (ble E) E) (kw (stO aZ E aS E E ⟨E,ble E⟩ E E) fun cr ax=>?_))))))
   have ct:cr[O]? = some (.live ⟨.box,27,3,[[.int .i64 0,.nils,.nils]]⟩):=set_same ax aS
   have dZ:=set_ne ax (Ne.symm aB) aT
   have d5:=set_ne ax (Ne.symm aR) aU
   refine Rn (hA aZ (hA a8 (hA cg (hA ci (hA cj hZ))))) fun d6 cw cC d7 d8 d9=>sN (Rg (kx (mvO cC) (kx (ldOA cw ct E E (ble E) E) ?_)))
   cases h
  refine kc (cl (v:=.tup [.agg [.int .i64 ai,.sl (some 2) (ao.map (cI .i64)),.sl (some 49) (aq.map Tally.c)],.int .i64 0]) E E (cns E (cns E E)) E (impl_do_ok (Book.mk aJ aK aL) Y _ aO) nm) (kx (mvO E) (kx (exT E E) (kx (exT E E) (ku (alO zero27) fun cD ab=>?_))))
  have cE:=push_old ab az
  have aH:=ne_new az
  have cG:=push_old ab aG
  have bv:=ne_new aG
  have cH:=push_old ab aA
  have bw:=ne_new aA
  have bb:cD[af.length]? = some (.live ⟨.box,27,3,[[.int .i64 0,.nils,.nils]]⟩):=push_new ab
  refine kw (stO E E bb E E ⟨E,ble E⟩ E E) fun cJ ac=>?_
  have bf:=set_ne ac aH cE
  have cK:=set_ne ac bv cG
  have ea:=set_ne ac bw cH
  have bi:cJ[af.length]? = some (.live ⟨.box,27,3,[[.int .i64 ai,.sl none (ao.map (cI .i64)),.sl none (aq.map Tally.c)]]⟩):=set_same ac bb
  refine kx (mvO E) (Rn (hA aP (hA bI (hV (.loc af.length 1 0 0) E (hV (.int .i64 0) E (hA bJ (hA bK (hA bL hZ))))))) fun ed cM cN cO bj cQ cR cU=>sN (sq (sq (Rg (kx (mvO bj) (kx (bNeq E E) (Rn (hA cM (hA cN (hA cO (hA bj (hA cQ (hA cR (hA cU (hV (.bool false) E hZ)))))))) fun ee bm cV cW eo cX cY cZ da=>sN (cF da E (xx (sN (sq (Rg (kx (ldOA cW bi E E (ble E) E) (kw (stO bm E bf E E ⟨E,ble E⟩ E E) fun db ay=>?_))))))))))))))
  have bo:db[O]? = some (.live ⟨.box,27,3,[[.int .i64 ai,.sl none (ao.map (cI .i64)),.sl none (aq.map Tally.c)]]⟩):=set_same ay bf
  have bq:=set_ne ay (Ne.symm aB) cK
  have ep:=set_ne ay (Ne.symm aH) bi
  obtain ⟨aF,bz,h⟩:=bind_some h
  refine Rn (hA bm (hA cV (hA cX (hA cY (hA cZ hZ))))) fun eu bu dc de df dg=>sN (Rg (kx (mvO dc) (kx (ldOA bu bo E E (ble E) E) (kx (litI (cns E E) E ⟨E,by decide⟩) (kw (apO E bq E (elT (c:=Book.c) (xs:=[(Book.mk ai ao aq)]) E) bz Book.fl (by decide)) fun di aI=>?_)))))
  have dj:=set_ne aI aB bo
  have dk:di[J]? = some (.live ⟨.grow,27,3,aF.map Book.c⟩):=set_same aI bq
  refine kx (mvO E) (Rn (hA bu (hV (.lsl J aF.length 0 aF.length) E (hA de (hA df (hA dg hZ))))) fun ew dl dm dn dp dq=>bN (sN (Rg (kx (bAdd dq E) (kx (mvO E) (Rn (hA dl (hA dm (hA dn (hA dp (hN E hZ))))) fun ex dt du dw dx dz=>?_))))))
  obtain rfl:=si h
  exact qN ⟨dt,du,dw,dx,dz,dj,dk⟩
 refine cF bG aC (xx (sE ?_))
 obtain rfl:=si h
 exact qE ⟨E,bC,aM,aN⟩
noncomputable def impl_books (a1:Book) (a2:List Deal):Option ((List Book)×Int):=
 (Lw (impl_books_b1 a2) (0,a1.Day,a1.Cash,a1.Tallies,([]:List Book))).bind fun r=>match r with
 | (.inl (J,O))=>
  some (O,J)
 | (.inr (aa,ab,ac,Y))=>
  some (Y,0)
def impl_books_enc (r:(List Book)×Int):AV:=.tup [.sl (some 27) (r.1.map Book.c),.int .i64 r.2]
theorem impl_books_ok (a1:Book) (a2:List Deal) (r:(List Book)×Int) (h:impl_books a1 a2=some r):Ev (fun k=>CN k 71 [.agg [.int .i64 a1.Day,.sl none (a1.Cash.map (cI .i64)),.sl none (a1.Tallies.map Tally.c)],.sl none (a2.map Deal.c)] []) (fun p=>rRes p.2 p.1=impl_books_enc r):=by
 unfold impl_books at h
 refine Ev.enter (F:=fun k=>f71 (CN k) k) (fun k=>callN_eq E Try.func71 E E E (by decide +kernel) (f71_eq _ _)) (sq (Rg (ku (bxO E E ⟨E,E,by decide⟩) fun M2 aD=>?_)))
 have o4:M2[([]:Mem).length]? = some (.live ⟨.box,27,3,[[.int .i64 a1.Day,.sl none (a1.Cash.map (cI .i64)),.sl none (a1.Tallies.map Tally.c)]]⟩):=push_new aD
 refine kx (mvO E) (kx (mvO E) (Rn (hN E (hV (.loc ([]:Mem).length 1 0 0) E hZ)) fun e5 h7 h8=>sN (sq (Rg (ku (litO (xs:=([]:List Book)) (c:=Book.c) E E (by decide)) fun aE Y=>?_)))))
 have ac:=push_old Y o4
 have aa:=ne_new o4
 have ae:aE[M2.length]? = some (.live ⟨.grow,27,3,([]:List Book).map Book.c⟩):=push_new Y
 obtain ⟨au,O,h⟩:=bind_some h
 refine kx (mvO E) (Rn (hA h7 (hA h8 (hV (.lsl M2.length ([]:List Book).length 0 ([]:List Book).length) E hZ))) fun aU aF aG aH=>sN (sq (sq (Rg (kx (mvO aF) (kx (lnS Try.underlying28 E) (kx (mvO E) (Rn (hA aG (hA aH (hN E (hN E (hV (.int .i64 0) E hZ))))) fun aV af ah ai ao aq=>sN (bl ?_)))))))))
 rcases au with ⟨aI,aJ⟩ | ⟨aK,aL,aM,ab⟩
 ·refine Ev.loop (RS:=impl_books_b1_RS a2 (([]:Mem).length) M2.length) (RR:=impl_books_b1_RR a2 (([]:Mem).length) M2.length) (fun s r h e M hs=>impl_books_b1_ok a2 (([]:Mem).length) M2.length aa s r h e M hs) O ⟨af,ah,ai,ao,aq,ac,ae⟩ fun x aN aO J=>?_
  obtain ⟨rfl,aw,ax,ay⟩:=J
  refine bR (sR ?_)
  obtain rfl:=si h
  exact eR (resT aw (resT ax res0)) (rr_tup (mp1 (rr_row ay E Book.fl) (mp1 E mp0)))
 refine Ev.loop (RS:=impl_books_b1_RS a2 (([]:Mem).length) M2.length) (RR:=impl_books_b1_RR a2 (([]:Mem).length) M2.length) (fun s r h e M hs=>impl_books_b1_ok a2 (([]:Mem).length) M2.length aa s r h e M hs) O ⟨af,ah,ai,ao,aq,ac,ae⟩ fun x aP aR J=>?_
 obtain ⟨rfl,az,aS,aA⟩:=J
 refine bE (sN (sq (Rg (kx (mvO az) (kx (mvO E) (kx (mvO E) (Rn (hV (.lsl M2.length ab.length 0 ab.length) E (hV (.int .i64 0) E hZ)) fun aT aB aC=>sN (xx ?_))))))))
 obtain rfl:=si h
 exact eR (resT aB (resT aC res0)) (rr_tup (mp1 (rr_row aA E Book.fl) (mp1 E mp0)))
abbrev spec_l07Least_b1_S:=Int×Int
abbrev spec_l07Least_b1_R:=Int
def spec_l07Least_b1_RS (a1:List Book) (a2:Int) (s:spec_l07Least_b1_S) (e:Env) (M:Mem):Prop:=eget e 0 = .sl none (a1.map Book.c)∧eget e 1 = .int .i64 a2∧eget e 2 = .int .i64 s.1∧eget e 7 = .int .i64 s.2
def spec_l07Least_b1_RR (a1:List Book) (a2:Int) (g:spec_l07Least_b1_R) (x:Ex) (e:Env) (M:Mem):Prop:=x = .ext 0∧eget e 2 = .int .i64 g
noncomputable def spec_l07Least_b1 (a1:List Book) (a2:Int):spec_l07Least_b1_S→Option (spec_l07Least_b1_S⊕spec_l07Least_b1_R):=fun (O,J)=>
 if (decide (J < (a1.length:Int)))=true then
  (rd a1 J).bind fun Y=>
  if (decide (a2 < (Y.Tallies.length:Int)))=true then
   (rd a1 J).bind fun aa=>
   (rd aa.Tallies a2).bind fun ab=>
   if (decide (ab.Holder < O))=true then
    (rd a1 J).bind fun ac=>
    (rd ac.Tallies a2).bind fun ae=>
    some (.inl (ae.Holder,(IntKind.i64.wrap (J + 1))))
   else
    some (.inl (O,(IntKind.i64.wrap (J + 1))))
  else
   some (.inl (O,(IntKind.i64.wrap (J + 1))))
 else
  some (.inr O)
theorem spec_l07Least_b1_ok (a1:List Book) (a2:Int) (s:spec_l07Least_b1_S) (r:spec_l07Least_b1_S⊕spec_l07Least_b1_R) (h:spec_l07Least_b1 a1 a2 s=some r) (e:Env) (M:Mem) (hs:spec_l07Least_b1_RS a1 a2 s e M):Ev (fun k=>(f70_l2 (CN k) k (prune [0,1,2,7] e) M).bind fun q=>some q) (bQ (spec_l07Least_b1_RS a1 a2) (spec_l07Least_b1_RR a1 a2) r):=by
 obtain ⟨ay,az⟩:=s
 unfold spec_l07Least_b1 at h
 obtain ⟨aF,aG,aH,aI⟩:=hs
 generalize O:prune [0,1,2,7] e=bw
 have aq:=envp O.symm E aF
 have aJ:=envp O.symm E aG
 have aK:=envp O.symm E aH
 have au:=envp O.symm E aI
 refine sq (sq (Rg (kx (mvO au) (kx (mvO aq) (kx (lnS Try.underlying94 E) (kx (bLss E E) (Rn (hV (.sl none (a1.map Book.c)) aq (hV (.int .i64 a2) aJ (hV (.int .i64 ay) aK (hV (.int .i64 az) au (hN E hZ))))) fun bz ab ac ae af aw=>sN ?_)))))))
 rcases ite_some h with ⟨Y,h⟩ | ⟨Y,h⟩
 ·obtain ⟨bA,aA,h⟩:=bind_some h
  refine cT aw Y (xx (sN (sq (bl (sq (Rg (kx (mvO ac) (kx (mvO ab) (kx (mvO af) (kx (ixS E E aA Book.fl) (kx (faP E ⟨ble E,blt E⟩ E) (kx (ldP E E) (kx (lnS Try.underlying25 E) (kx (bLss E E) (kx (mvO E) ?_)))))))))))))))
  rcases ite_some h with ⟨J,h⟩ | ⟨J,h⟩
  ·obtain ⟨bB,aB,h⟩:=bind_some h
   obtain ⟨bC,aC,h⟩:=bind_some h
   refine kx (guT E J (mvO ab)) (kx (guT E J (mvO af)) (kx (guT E J (ixS E E aB Book.fl)) (kx (guT E J (faP E ⟨ble E,blt E⟩ E)) (kx (guT E J (ldP E E)) (kx (guT E J (mvO ac)) (kx (guT E J (ixS E E aC Tally.fl)) (kx (guT E J (faP E ⟨ble E,blt E⟩ E)) (kx (guT E J (ldP E E)) (kx (guT E J (mvO ae)) (kx (guT E J (bLss E E)) (kx (pkT E J E) (Rn (hA ab (hA ac (hA ae (hA af (hN E hZ))))) fun bD ah ai aL ao ax=>sN ?_))))))))))))
   rcases ite_some h with ⟨aa,h⟩ | ⟨aa,h⟩
   ·obtain ⟨bF,aD,h⟩:=bind_some h
    obtain ⟨bG,aE,h⟩:=bind_some h
    refine cT ax aa (Rg (kx (mvO ah) (kx (mvO ao) (kx (ixS E E aD Book.fl) (kx (faP E ⟨ble E,blt E⟩ E) (kx (ldP E E) (kx (mvO ai) (kx (ixS E E aE Tally.fl) (kx (faP E ⟨ble E,blt E⟩ E) (kx (ldP E E) (kx (mvO E) (Rn (hA ah (hA ai (hN E (hA ao hZ)))) fun bH aM aN aO aP=>bN (sN (Rg (kx (mvO aP) (kx (bAdd E E) (kx (mvO E) (Rn (hA aM (hA aN (hA aO (hN E hZ)))) fun bI aR aS aT aU=>?_))))))))))))))))))
    obtain rfl:=si h
    exact qN ⟨aR,aS,aT,aU⟩
   refine cF ax aa (xx (bN (sN (Rg (kx (mvO ao) (kx (bAdd E E) (kx (mvO E) (Rn (hA ah (hA ai (hA aL (hN E hZ)))) fun bJ aV aZ a8 ba=>?_))))))))
   obtain rfl:=si h
   exact qN ⟨aV,aZ,a8,ba⟩
  refine kx (gsT E J) (kx (gsT E J) (kx (gsT E J) (kx (gsT E J) (kx (gsT E J) (kx (gsT E J) (kx (gsT E J) (kx (gsT E J) (kx (gsT E J) (kx (gsT E J) (kx (gsT E J) (kx (pkF E J E) (Rn (hA ab (hA ac (hA ae (hA af (hV (.bool false) E hZ))))) fun bK bb bf bi bj bm=>sN (cF bm E (xx (bN (sN (Rg (kx (mvO bj) (kx (bAdd E E) (kx (mvO E) (Rn (hA bb (hA bf (hA bi (hN E hZ)))) fun bL bo bq bu bv=>?_)))))))))))))))))))))
  obtain rfl:=si h
  exact qN ⟨bo,bq,bu,bv⟩
 refine cF aw Y (xx (sE ?_))
 obtain rfl:=si h
 exact qE ⟨E,ae⟩
noncomputable def spec_l07Least (a1:List Book) (a2:Int) (a3:Int):Option Int:=
 (Lw (spec_l07Least_b1 a1 a2) (a3,0)).bind fun J=>
 some J
def spec_l07Least_enc (r:Int):AV:=.int .i64 r
theorem spec_l07Least_ok (a1:List Book) (a2:Int) (a3:Int) (r:Int) (h:spec_l07Least a1 a2 a3=some r):Ev (fun k=>CN k 70 [.sl none (a1.map Book.c),.int .i64 a2,.int .i64 a3] []) (fun p=>rRes p.2 p.1=spec_l07Least_enc r):=by
 unfold spec_l07Least at h
 obtain ⟨ae,J,h⟩:=bind_some h
 refine Ev.enter (F:=fun k=>f70 (CN k) k) (fun k=>callN_eq E Try.func70 E E E (by decide +kernel) (f70_eq _ _)) (sq (Rg (kx (mvO E) (Rn (hN E (hN E (hN E hZ))) fun e1 h3 h4 h5=>sN (sq (sq (Rg (kx (mvO E) (Rn (hA h3 (hA h4 (hA h5 (hV (.int .i64 0) E hZ)))) fun e6 h8 h9 Y aa=>sN (bl (Ev.loop (RS:=spec_l07Least_b1_RS a1 a2) (RR:=spec_l07Least_b1_RR a1 a2) (fun s r h e M hs=>spec_l07Least_b1_ok a1 a2 s r h e M hs) J ⟨h8,h9,Y,aa⟩ fun x af ah O=>?_)))))))))))
 obtain ⟨rfl,ab⟩:=O
 refine bE (sN (sq (Rg (kx (mvO ab) (kx (mvO E) (Rn (hN E hZ) fun ai ac=>sN (xx ?_)))))))
 obtain rfl:=si h
 exact eR (resT ac res0) E
abbrev spec_l07History_b1_S:=Int×Int×(List Int)
abbrev spec_l07History_b1_R:=(List Int)
def spec_l07History_b1_RS (a2:List Deal) (a3:Int) (J:Nat) (s:spec_l07History_b1_S) (e:Env) (M:Mem):Prop:=eget e 1 = .sl none (a2.map Deal.c)∧eget e 2 = .int .i64 a3∧eget e 7 = .lsl J s.2.2.length 0 s.2.2.length∧eget e 8 = .int .i64 s.1∧eget e 9 = .int .i64 s.2.1∧M[J]? = some (.live ⟨.grow,2,1,s.2.2.map (cI .i64)⟩)
def spec_l07History_b1_RR (a2:List Deal) (a3:Int) (J:Nat) (g:spec_l07History_b1_R) (x:Ex) (e:Env) (M:Mem):Prop:=x = .ext 0∧eget e 7 = .lsl J g.length 0 g.length∧M[J]? = some (.live ⟨.grow,2,1,g.map (cI .i64)⟩)
noncomputable def spec_l07History_b1 (a2:List Deal) (a3:Int):spec_l07History_b1_S→Option (spec_l07History_b1_S⊕spec_l07History_b1_R):=fun (O,J,Y)=>
 if (decide (J < (a2.length:Int)))=true then
  (rd a2 J).bind fun ac=>
  (rd a2 J).bind fun ae=>
  if (ae.Kind==1)=true then
   if (O==a3)=true then
    (app 8 Y [J]).bind fun aa=>
    some (.inl ((IntKind.i64.wrap (O + 1)),(IntKind.i64.wrap (J + 1)),aa))
   else
    some (.inl ((IntKind.i64.wrap (O + 1)),(IntKind.i64.wrap (J + 1)),Y))
  else
   if (ac.Tally==a3)=true then
    (app 8 Y [J]).bind fun ab=>
    some (.inl (O,(IntKind.i64.wrap (J + 1)),ab))
   else
    some (.inl (O,(IntKind.i64.wrap (J + 1)),Y))
 else
  some (.inr Y)
theorem spec_l07History_b1_ok (a2:List Deal) (a3:Int) (J:Nat) (s:spec_l07History_b1_S) (r:spec_l07History_b1_S⊕spec_l07History_b1_R) (h:spec_l07History_b1 a2 a3 s=some r) (e:Env) (M:Mem) (hs:spec_l07History_b1_RS a2 a3 J s e M):Ev (fun k=>(f68_l4 (CN k) k (prune [1,2,7,8,9] e) M).bind fun q=>some q) (bQ (spec_l07History_b1_RS a2 a3 J) (spec_l07History_b1_RR a2 a3 J) r):=by
 obtain ⟨bf,ac,au⟩:=s
 unfold spec_l07History_b1 at h
 obtain ⟨cj,cm,cq,cr,ct,O⟩:=hs
 generalize Y:prune [1,2,7,8,9] e=dk
 have aM:=envp Y.symm E cj
 have cw:=envp Y.symm E cm
 have cC:=envp Y.symm E cq
 have cD:=envp Y.symm E cr
 have aN:=envp Y.symm E ct
 refine sq (sq (Rg (kx (mvO aN) (kx (mvO aM) (kx (lnS Try.underlying28 E) (kx (bLss E E) (Rn (hV (.sl none (a2.map Deal.c)) aM (hV (.int .i64 a3) cw (hV (.lsl J au.length 0 au.length) cC (hV (.int .i64 bf) cD (hV (.int .i64 ac) aN (hN E hZ)))))) fun dl aO cE aP cG aR aS=>sN ?_)))))))
 rcases ite_some h with ⟨ae,h⟩ | ⟨ae,h⟩
 ·obtain ⟨dm,bi,h⟩:=bind_some h
  obtain ⟨dn,bj,h⟩:=bind_some h
  refine cT aS ae (xx (sN (sq (bl (sq (Rg (kx (mvO aO) (kx (mvO aR) (kx (ixS E E bi Deal.fl) (kx (faP E ⟨ble E,blt E⟩ E) (kx (ldP E E) (kx (mvO E) (Rn (hA aO (hA cE (hA aP (hA cG (hA aR (hN E hZ)))))) fun dp aT cH cJ cK aU cM=>sN (sq (sq (Rg (kx (mvO aT) (kx (mvO aU) (kx (ixS E E bj Deal.fl) (kx (faP E ⟨ble E,blt E⟩ E) (kx (ldP E E) (kx (bEql E E) (Rn (hA aT (hA cH (hA cJ (hA cK (hA aU (hA cM (hN E hZ))))))) fun dq aV aw aZ ax a8 cN ba=>sN ?_)))))))))))))))))))))))
  rcases ite_some h with ⟨af,h⟩ | ⟨af,h⟩
  ·refine cT ba af (sq (Rg (kx (mvO ax) (kx (mvO E) (Rn (hA aV (hA aw (hA aZ (hA ax (hA a8 (hN E hZ)))))) fun dt cO cQ cR cU cV cW=>sN (Rg (kx (mvO cU) (kx (bAdd E E) (kx (mvO E) (Rn (hA cO (hA cQ (hA cR (hN E (hA cV (hA cW hZ)))))) fun du cX bb cY cZ bm bo=>sN (sq (Rg (kx (mvO bo) (kx (mvO bb) (kx (bEql E E) (Rn (hA cX (hA bb (hA cY (hA cZ (hA bm (hN E hZ)))))) fun da ay az aA aB ah aC=>sN ?_))))))))))))))))
   rcases ite_some h with ⟨aa,h⟩ | ⟨aa,h⟩
   ·obtain ⟨ai,aI,h⟩:=bind_some h
    refine cT aC aa (Rg (kx (mvO aA) (kx (mvO ah) (kx (litI (cns E E) E ⟨E,by decide⟩) (kw (apO E O E (elT (c:=(cI .i64)) (xs:=[ac]) E) aI (cI_fl _) (by decide)) fun bq aJ=>?_)))))
    have bu:bq[J]? = some (.live ⟨.grow,2,1,ai.map (cI .i64)⟩):=set_same aJ O
    refine kx (mvO E) (Rn (hA ay (hA az (hV (.lsl J ai.length 0 ai.length) E (hA aB (hA ah hZ))))) fun db bv bw bz bA bB=>bN (sN (Rg (kx (mvO bB) (kx (bAdd E E) (kx (mvO E) (Rn (hA bv (hA bw (hA bz (hA bA (hN E hZ))))) fun dc bC bD bF bG bH=>?_)))))))
    obtain rfl:=si h
    exact qN ⟨bC,bD,bF,bG,bH,bu⟩
   refine cF aC aa (xx (bN (sN (Rg (kx (mvO ah) (kx (bAdd E E) (kx (mvO E) (Rn (hA ay (hA az (hA aA (hA aB (hN E hZ))))) fun de bI bJ bK bL bM=>?_))))))))
   obtain rfl:=si h
   exact qN ⟨bI,bJ,bK,bL,bM,O⟩
  refine cF ba af (xx (sN (sq (Rg (kx (mvO cN) (kx (mvO aw) (kx (bEql E E) (Rn (hA aV (hA aw (hA aZ (hA ax (hA a8 (hN E hZ)))))) fun df aD aE aF aG ao aH=>sN ?_))))))))
  rcases ite_some h with ⟨ab,h⟩ | ⟨ab,h⟩
  ·obtain ⟨aq,aK,h⟩:=bind_some h
   refine cT aH ab (Rg (kx (mvO aF) (kx (mvO ao) (kx (litI (cns E E) E ⟨E,by decide⟩) (kw (apO E O E (elT (c:=(cI .i64)) (xs:=[ac]) E) aK (cI_fl _) (by decide)) fun bP aL=>?_)))))
   have bS:bP[J]? = some (.live ⟨.grow,2,1,aq.map (cI .i64)⟩):=set_same aL O
   refine kx (mvO E) (Rn (hA aD (hA aE (hV (.lsl J aq.length 0 aq.length) E (hA aG (hA ao hZ))))) fun dg bT bU bV bW bX=>bN (sN (Rg (kx (mvO bX) (kx (bAdd E E) (kx (mvO E) (Rn (hA bT (hA bU (hA bV (hA bW (hN E hZ))))) fun di bY bZ b7 b8 b9=>?_)))))))
   obtain rfl:=si h
   exact qN ⟨bY,bZ,b7,b8,b9,bS⟩
  refine cF aH ab (xx (bN (sN (Rg (kx (mvO ao) (kx (bAdd E E) (kx (mvO E) (Rn (hA aD (hA aE (hA aF (hA aG (hN E hZ))))) fun dj cb cd cf cg ci=>?_))))))))
  obtain rfl:=si h
  exact qN ⟨cb,cd,cf,cg,ci,O⟩
 refine cF aS ae (xx (sE ?_))
 obtain rfl:=si h
 exact qE ⟨E,aP,O⟩
noncomputable def spec_l07History (a1:Book) (a2:List Deal) (a3:Int):Option ((List Int)):=
 (Lw (spec_l07History_b1 a2 a3) ((a1.Tallies.length:Int),0,([]:List Int))).bind fun J=>
 some J
def spec_l07History_enc (r:(List Int)):AV:=.sl (some 2) (r.map (cI .i64))
theorem spec_l07History_ok (a1:Book) (a2:List Deal) (a3:Int) (r:(List Int)) (h:spec_l07History a1 a2 a3=some r):Ev (fun k=>CN k 68 [.pt none [.int .i64 a1.Day,.sl none (a1.Cash.map (cI .i64)),.sl none (a1.Tallies.map Tally.c)],.sl none (a2.map Deal.c),.int .i64 a3] []) (fun p=>rRes p.2 p.1=spec_l07History_enc r):=by
 unfold spec_l07History at h
 refine Ev.enter (F:=fun k=>f68 (CN k) k) (fun k=>callN_eq E Try.func68 E E E (by decide +kernel) (f68_eq _ _)) (sq (Rg (kx (mvO E) (Rn (hN E (hN E (hN E hZ))) fun e1 h3 h4 h5=>sN (sq (Rg (ku (litO (xs:=([]:List Int)) (c:=(cI .i64)) E E (by decide)) fun M7 ae=>?_)))))))
 have o9:M7[([]:Mem).length]? = some (.live ⟨.grow,2,1,([]:List Int).map (cI .i64)⟩):=push_new ae
 obtain ⟨J,O,h⟩:=bind_some h
 refine kx (mvO E) (Rn (hA h3 (hA h4 (hA h5 (hV (.lsl ([]:Mem).length ([]:List Int).length 0 ([]:List Int).length) E hZ)))) fun aG af ah ai ao=>sN (sq (Rg (kx (mvO af) (kx (ncP E) (kx (faP E ⟨ble E,blt E⟩ E) (kx (ldP E E) (kx (lnS Try.underlying25 E) (kx (mvO E) (Rn (hA ah (hA ai (hA ao (hN E hZ)))) fun aH aq au aw ax=>sN (sq (sq (Rg (kx (mvO E) (Rn (hA aq (hA au (hA aw (hA ax (hV (.int .i64 0) E hZ))))) fun aI ay az aA aB aC=>sN (bl (Ev.loop (RS:=spec_l07History_b1_RS a2 a3 (([]:Mem).length)) (RR:=spec_l07History_b1_RR a2 a3 (([]:Mem).length)) (fun s r h e M hs=>spec_l07History_b1_ok a2 a3 (([]:Mem).length) s r h e M hs) O ⟨ay,az,aA,aB,aC,o9⟩ fun x aD aE Y=>?_)))))))))))))))))
 obtain ⟨rfl,aa,ab⟩:=Y
 refine bE (sN (sq (Rg (kx (mvO aa) (kx (mvO E) (Rn (hV (.lsl ([]:Mem).length J.length 0 J.length) E hZ) fun aF ac=>sN (xx ?_)))))))
 obtain rfl:=si h
 exact eR (resT ac res0) (rr_row ab E (cI_fl _))
def spec_l07Asked_c1_Q (a2:List Deal) (g:Bool) (q:Out):Prop:=q.1 = .nrm∧eget q.2.1 1 = .sl none (a2.map Deal.c)∧eget q.2.1 12 = .bool g
noncomputable def spec_l07Asked (a1:Book) (a2:List Deal):Option Int:=
 ((spec_l07Ok a1).bind fun r6=>
 if r6=true then
  (spec_l07Deals a2).bind fun r9=>
  some (!r9)
 else
  some true).bind fun J=>
 if J=true then
  some 1
 else
  if (decide ((a2.length:Int) > 80))=true then
   some 3
  else
   some 0
def spec_l07Asked_enc (r:Int):AV:=.int .i64 r
theorem spec_l07Asked_ok (a1:Book) (a2:List Deal) (r:Int) (h:spec_l07Asked a1 a2=some r):Ev (fun k=>CN k 55 [.pt none [.int .i64 a1.Day,.sl none (a1.Cash.map (cI .i64)),.sl none (a1.Tallies.map Tally.c)],.sl none (a2.map Deal.c)] []) (fun p=>rRes p.2 p.1=spec_l07Asked_enc r):=by
 unfold spec_l07Asked at h
 obtain ⟨ab,O,h⟩:=bind_some h
 refine Ev.enter (F:=fun k=>f55 (CN k) k) (fun k=>callN_eq E Try.func55 E E E (by decide +kernel) (f55_eq _ _)) (sq (Rg (kx (mvO E) (Rn (hN E (hN E hZ)) fun e1 h3 h4=>sN (sq (sq ?_))))))
 refine Ev.cut (Q1:=spec_l07Asked_c1_Q a2 ab) (by
     have h:=O
     obtain ⟨r6,ah,h⟩:=bind_some h
     refine Rg (kx (mvO h3) (kc (cl (v:=.bool r6) E E (cns E E) E (spec_l07Ok_ok a1 _ ah) nm) (kx (uNot E) (kx (mvO E) ?_))))
     rcases ite_some h with ⟨J,h⟩ | ⟨J,h⟩
     ·obtain ⟨r9,ai,h⟩:=bind_some h
      refine kx (guF E (congrArg Bool.not J) (mvO h4)) (kc (Ev.guF E (congrArg Bool.not J) (cl (v:=.bool r9) E E (cns E E) E (spec_l07Deals_ok a2 _ ai) nm)) (kx (guF E (congrArg Bool.not J) (uNot E)) (kx (pkF E (congrArg Bool.not J) E) (Rn (hA h4 (hN E hZ)) fun aB ao aq=>?_))))
      obtain rfl:=si h
      exact kd (show spec_l07Asked_c1_Q a2 _ _ from ⟨E,ao,aq⟩)
     refine kx (gsF E (congrArg Bool.not J)) (kc (Ev.gsF E (congrArg Bool.not J)) (kx (gsF E (congrArg Bool.not J)) (kx (pkT E (congrArg Bool.not J) E) (Rn (hA h4 (hV (.bool true) E hZ)) fun aC au aw=>?_))))
     obtain rfl:=si h
     exact kd (show spec_l07Asked_c1_Q a2 _ _ from ⟨E,au,aw⟩)) ?_
 revert h O
 revert ab
 intro aD O h
 intro x aE aF af
 obtain ⟨rfl,ax,ac⟩:=af
 refine sN ?_
 rcases ite_some h with ⟨Y,h⟩ | ⟨Y,h⟩
 ·refine cT ac Y (sq (Rg (kx (mvO E) (Rn (hV (.int .i64 1) E hZ) fun aG ay=>sN (xx (sR ?_))))))
  obtain rfl:=si h
  exact eR (resT ay res0) E
 refine cF ac Y (xx (sN (sq (sq (Rg (kx (mvO ax) (kx (lnS Try.underlying28 E) (kx (bGtr E E) (Rn (hN E hZ) fun aH ae=>sN ?_)))))))))
 rcases ite_some h with ⟨aa,h⟩ | ⟨aa,h⟩
 ·refine cT ae aa (sq (Rg (kx (mvO E) (Rn (hV (.int .i64 3) E hZ) fun aI az=>sN (xx (sR ?_))))))
  obtain rfl:=si h
  exact eR (resT az res0) E
 refine cF ae aa (xx (sN (sq (Rg (kx (mvO E) (Rn (hV (.int .i64 0) E hZ) fun aJ aA=>sN (xx ?_)))))))
 obtain rfl:=si h
 exact eR (resT aA res0) E
end Go.Proofs.Ytjlalepbhcekoaa
