/- Printed by a program of ours (ext.py). -/
import Derived.Test.YtjlalepbhcekoaaLnkDaysx2
set_option linter.unusedVariables false
set_option linter.unusedSimpArgs false
set_option maxRecDepth 100000
set_option maxHeartbeats 20000000
namespace Go.Proofs.Ytjlalepbhcekoaa
open Go Go.Ab
abbrev laws_FnDays_b1_S:=Int
abbrev laws_FnDays_b1_R:=Int
def laws_FnDays_b1_RS (a2:List Int) (aa:Int) (ab:List Int) (ac:List Tally) (ae:List Deal) (af:Int) (ah:Int) (ai:List Int) (ao:List Tally) (aq:Int) (au:Int) (aw:List Int) (ax:List Tally) (ay:Int) (J:Nat) (O:Nat) (Y:Nat) (s:laws_FnDays_b1_S) (e:Env) (M:Mem):Prop:=eget e 1 = .sl none (a2.map (cI .u8))∧eget e 5 = .loc J 1 0 0∧eget e 6 = .sl (some 36) (ae.map Deal.c)∧eget e 7 = .int .i64 (IntKind.i64.wrap (aa + af))∧eget e 8 = .loc O 1 0 0∧eget e 9 = .int .i64 aq∧eget e 10 = .loc Y 1 0 0∧eget e 11 = .int .i64 ay∧eget e 12 = .int .i64 s∧M[J]? = some (.live ⟨.box,27,3,[[.int .i64 aa,.sl none (ab.map (cI .i64)),.sl none (ac.map Tally.c)]]⟩)∧M[O]? = some (.live ⟨.box,27,3,[[.int .i64 ah,.sl none (ai.map (cI .i64)),.sl none (ao.map Tally.c)]]⟩)∧M[Y]? = some (.live ⟨.box,27,3,[[.int .i64 au,.sl none (aw.map (cI .i64)),.sl none (ax.map Tally.c)]]⟩)
def laws_FnDays_b1_RR (a2:List Int) (aa:Int) (ab:List Int) (ac:List Tally) (ae:List Deal) (af:Int) (ah:Int) (ai:List Int) (ao:List Tally) (aq:Int) (au:Int) (aw:List Int) (ax:List Tally) (ay:Int) (J:Nat) (O:Nat) (Y:Nat) (g:laws_FnDays_b1_R) (x:Ex) (e:Env) (M:Mem):Prop:=x = .ext 0∧eget e 1 = .sl none (a2.map (cI .u8))∧eget e 5 = .loc J 1 0 0∧eget e 6 = .sl (some 36) (ae.map Deal.c)∧eget e 7 = .int .i64 (IntKind.i64.wrap (aa + af))∧eget e 8 = .loc O 1 0 0∧eget e 9 = .int .i64 aq∧eget e 10 = .loc Y 1 0 0∧eget e 11 = .int .i64 ay∧eget e 12 = .int .i64 g∧M[J]? = some (.live ⟨.box,27,3,[[.int .i64 aa,.sl none (ab.map (cI .i64)),.sl none (ac.map Tally.c)]]⟩)∧M[O]? = some (.live ⟨.box,27,3,[[.int .i64 ah,.sl none (ai.map (cI .i64)),.sl none (ao.map Tally.c)]]⟩)∧M[Y]? = some (.live ⟨.box,27,3,[[.int .i64 au,.sl none (aw.map (cI .i64)),.sl none (ax.map Tally.c)]]⟩)
noncomputable def laws_FnDays_b1 (aa:Int) (O:List Deal) (ab:Int):laws_FnDays_b1_S→Option (laws_FnDays_b1_S⊕laws_FnDays_b1_R):=fun J=>
 if (decide (J < (O.length:Int)))=true then
  (rd O J).bind fun Y=>
  if (decide (Y.Day≤(IntKind.i64.wrap (aa + ab))))=true then
   some (.inl (IntKind.i64.wrap (J + 1)))
  else
   some (.inr J)
 else
  some (.inr J)
theorem laws_FnDays_b1_ok (a2:List Int) (ac:Int) (aA:List Int) (aB:List Tally) (az:List Deal) (ae:Int) (aC:Int) (aD:List Int) (aE:List Tally) (ao:Int) (aF:Int) (aG:List Int) (aH:List Tally) (aq:Int) (Y:Nat) (aa:Nat) (ab:Nat) (bY:Y≠aa) (bZ:Y≠ab) (b7:aa≠ab) (s:laws_FnDays_b1_S) (r:laws_FnDays_b1_S⊕laws_FnDays_b1_R) (h:laws_FnDays_b1 ac az ae s=some r) (e:Env) (M:Mem) (hs:laws_FnDays_b1_RS a2 ac aA aB az ae aC aD aE ao aF aG aH aq Y aa ab s e M):Ev (fun k=>(f3_l8 (CN k) k (prune [1,5,6,7,8,9,10,11,12] e) M).bind fun q=>some q) (bQ (laws_FnDays_b1_RS a2 ac aA aB az ae aC aD aE ao aF aG aH aq Y aa ab) (laws_FnDays_b1_RR a2 ac aA aB az ae aC aD aE ao aF aG aH aq Y aa ab) r):=by
 revert h hs
 revert s
 intro aI h hs
 unfold laws_FnDays_b1 at h
 obtain ⟨bi,bj,bm,bo,bq,bu,bv,bw,bz,au,aw,ax⟩:=hs
 generalize O:prune [1,5,6,7,8,9,10,11,12] e=b8
 have aJ:=envp O.symm E bi
 have aK:=envp O.symm E bj
 have af:=envp O.symm E bm
 have ay:=envp O.symm E bo
 have aL:=envp O.symm E bq
 have aM:=envp O.symm E bu
 have aN:=envp O.symm E bv
 have aO:=envp O.symm E bw
 have ah:=envp O.symm E bz
 refine sq (sq (Rg (kx (mvO ah) (kx (mvO af) (kx (lnS Try.underlying28 E) (kx (bLss E E) (kx (mvO E) ?_)))))))
 rcases ite_some h with ⟨J,h⟩ | ⟨J,h⟩
 ·obtain ⟨b9,bf,h⟩:=bind_some h
  refine kx (guT E J (mvO af)) (kx (guT E J (mvO ah)) (kx (guT E J (ixS E E bf Deal.fl)) (kx (guT E J (faP E ⟨ble E,blt E⟩ E)) (kx (guT E J (ldP E E)) (kx (guT E J (mvO ay)) (kx (guT E J (bLeq E E)) (kx (pkT E J E) (Rn (hV (.sl none (a2.map (cI .u8))) aJ (hV (.loc Y 1 0 0) aK (hA af (hV (.int .i64 (IntKind.i64.wrap (ac + ae))) ay (hV (.loc aa 1 0 0) aL (hV (.int .i64 ao) aM (hV (.loc ab 1 0 0) aN (hV (.int .i64 aq) aO (hV (.int .i64 aI) ah (hN E hZ)))))))))) fun cb aP aR aS aT aU aV aZ a8 ba bb=>sN ?_))))))))
  rcases ite_some h with ⟨ai,h⟩ | ⟨ai,h⟩
  ·refine cT bb ai (xx (sN (bl (Rg (kx (mvO ba) (kx (bAdd E E) (kx (mvO E) (Rn (hA aP (hA aR (hA aS (hA aT (hA aU (hA aV (hA aZ (hA a8 (hN E hZ))))))))) fun cd bA bB bC bD bF bG bH bI bJ=>bN ?_))))))))
   obtain rfl:=si h
   exact qN ⟨bA,bB,bC,bD,bF,bG,bH,bI,bJ,au,aw,ax⟩
  refine cF bb ai (xx (sE ?_))
  obtain rfl:=si h
  exact qE ⟨E,aP,aR,aS,aT,aU,aV,aZ,a8,ba,au,aw,ax⟩
 refine kx (gsT E J) (kx (gsT E J) (kx (gsT E J) (kx (gsT E J) (kx (gsT E J) (kx (gsT E J) (kx (gsT E J) (kx (pkF E J E) (Rn (hV (.sl none (a2.map (cI .u8))) aJ (hV (.loc Y 1 0 0) aK (hA af (hV (.int .i64 (IntKind.i64.wrap (ac + ae))) ay (hV (.loc aa 1 0 0) aL (hV (.int .i64 ao) aM (hV (.loc ab 1 0 0) aN (hV (.int .i64 aq) aO (hV (.int .i64 aI) ah (hV (.bool false) E hZ)))))))))) fun cf bK bL bM bP bS bT bU bV bW bX=>sN (cF bX E (xx (sE ?_)))))))))))
 obtain rfl:=si h
 exact qE ⟨E,bK,bL,bM,bP,bS,bT,bU,bV,bW,au,aw,ax⟩
def laws_FnDays_c1_Q (a2:List Int) (Y:Int) (aa:List Int) (ab:List Tally) (ac:List Deal) (ae:Int) (af:Int) (ah:List Int) (ai:List Tally) (J:Nat) (ao:Nat) (O:Nat) (aq:Nat) (g:Bool) (q:Out):Prop:=q.1 = .nrm∧eget q.2.1 1 = .sl none (a2.map (cI .u8))∧eget q.2.1 5 = .loc J 1 0 0∧eget q.2.1 6 = .sl (some 36) (ac.map Deal.c)∧eget q.2.1 7 = .int .i64 (IntKind.i64.wrap (Y + ae))∧eget q.2.1 10 = .loc O 1 0 0∧eget q.2.1 128 = .bool g∧q.2.2[J]? = some (.live ⟨.box,27,3,[[.int .i64 Y,.sl none (aa.map (cI .i64)),.sl none (ab.map Tally.c)]]⟩)∧q.2.2[O]? = some (.live ⟨.box,27,3,[[.int .i64 af,.sl none (ah.map (cI .i64)),.sl none (ai.map Tally.c)]]⟩)
def laws_FnDays_c2_Q (a2:List Int) (O:Int) (Y:List Int) (aa:List Tally) (ab:List Deal) (J:Nat) (g:Bool) (q:Out):Prop:=q.1 = .nrm∧eget q.2.1 1 = .sl none (a2.map (cI .u8))∧eget q.2.1 5 = .loc J 1 0 0∧eget q.2.1 6 = .sl (some 36) (ab.map Deal.c)∧eget q.2.1 168 = .bool g∧q.2.2[J]? = some (.live ⟨.box,27,3,[[.int .i64 O,.sl none (Y.map (cI .i64)),.sl none (aa.map Tally.c)]]⟩)
def laws_FnDays_c3_Q (a2:List Int) (ae:Int) (af:List Int) (ah:List Tally) (ai:List Deal) (Y:Int) (aa:List Int) (ab:List Tally) (ac:Int) (J:Nat) (O:Nat) (g:Bool) (q:Out):Prop:=q.1 = .nrm∧eget q.2.1 1 = .sl none (a2.map (cI .u8))∧eget q.2.1 5 = .loc J 1 0 0∧eget q.2.1 6 = .sl (some 36) (ai.map Deal.c)∧eget q.2.1 20 = .loc O 1 0 0∧eget q.2.1 21 = .int .i64 ac∧eget q.2.1 182 = .bool g∧q.2.2[J]? = some (.live ⟨.box,27,3,[[.int .i64 ae,.sl none (af.map (cI .i64)),.sl none (ah.map Tally.c)]]⟩)∧q.2.2[O]? = some (.live ⟨.box,27,3,[[.int .i64 Y,.sl none (aa.map (cI .i64)),.sl none (ab.map Tally.c)]]⟩)
def laws_FnDays_c4_Q (ah:Int) (ai:List Int) (ao:List Tally) (aq:List Deal) (Y:Int) (aa:List Int) (ab:List Tally) (ac:Int) (ae:List Int) (af:Int) (J:Nat) (O:Nat) (g:Bool) (q:Out):Prop:=q.1 = .nrm∧eget q.2.1 5 = .loc J 1 0 0∧eget q.2.1 6 = .sl (some 36) (aq.map Deal.c)∧eget q.2.1 20 = .loc O 1 0 0∧eget q.2.1 22 = .int .i64 ac∧eget q.2.1 25 = .sl none (ae.map (cI .i64))∧eget q.2.1 27 = .int .i64 af∧eget q.2.1 287 = .bool g∧q.2.2[J]? = some (.live ⟨.box,27,3,[[.int .i64 ah,.sl none (ai.map (cI .i64)),.sl none (ao.map Tally.c)]]⟩)∧q.2.2[O]? = some (.live ⟨.box,27,3,[[.int .i64 Y,.sl none (aa.map (cI .i64)),.sl none (ab.map Tally.c)]]⟩)
abbrev laws_FnDays_b2_S:=Int
abbrev laws_FnDays_b2_R:=Unit⊕Unit
def laws_FnDays_b2_RS (ah:Int) (ai:List Int) (ao:List Tally) (aq:List Deal) (Y:Int) (aa:List Int) (ab:List Tally) (ac:Int) (ae:List Int) (af:Int) (J:Nat) (O:Nat) (s:laws_FnDays_b2_S) (e:Env) (M:Mem):Prop:=eget e 5 = .loc J 1 0 0∧eget e 6 = .sl (some 36) (aq.map Deal.c)∧eget e 20 = .loc O 1 0 0∧eget e 22 = .int .i64 ac∧eget e 25 = .sl none (ae.map (cI .i64))∧eget e 27 = .int .i64 af∧eget e 35 = .int .i64 s∧M[J]? = some (.live ⟨.box,27,3,[[.int .i64 ah,.sl none (ai.map (cI .i64)),.sl none (ao.map Tally.c)]]⟩)∧M[O]? = some (.live ⟨.box,27,3,[[.int .i64 Y,.sl none (aa.map (cI .i64)),.sl none (ab.map Tally.c)]]⟩)
def laws_FnDays_b2_RR (af:Int) (ah:List Int) (ai:List Tally) (aq:List Deal) (O:Int) (Y:List Int) (aa:List Tally) (ab:Int) (ao:List Int) (ac:Int) (ae:Nat) (J:Nat) (r:laws_FnDays_b2_R) (x:Ex) (e:Env) (M:Mem):Prop:=
  match r with
  | (.inl g)=>x = .ret∧eget e 4 = .bool false
  | (.inr g)=>x = .ext 2∧eget e 20 = .loc J 1 0 0∧eget e 22 = .int .i64 ab∧eget e 27 = .int .i64 ac∧M[ae]? = some (.live ⟨.box,27,3,[[.int .i64 af,.sl none (ah.map (cI .i64)),.sl none (ai.map Tally.c)]]⟩)∧M[J]? = some (.live ⟨.box,27,3,[[.int .i64 O,.sl none (Y.map (cI .i64)),.sl none (aa.map Tally.c)]]⟩)
noncomputable def laws_FnDays_b2 (ac:List Tally) (ae:List Deal) (Y:Int) (aa:List Int):laws_FnDays_b2_S→Option (laws_FnDays_b2_S⊕laws_FnDays_b2_R):=fun J=>
 if (decide (J < (aa.length:Int)))=true then
  (rd aa J).bind fun ab=>
  (rd ae ab).bind fun O=>
  if (O.Kind==1)=true then
   if (decide (J > 0))=true then
    some (.inr (.inl ()))
   else
    if (decide (Y < (ac.length:Int)))=true then
     some (.inr (.inl ()))
    else
     if (O.Kind != 1)=true then
      if (O.Tally != Y)=true then
       some (.inr (.inl ()))
      else
       some (.inl (IntKind.i64.wrap (J + 1)))
     else
      some (.inl (IntKind.i64.wrap (J + 1)))
  else
   if (O.Kind != 1)=true then
    if (O.Tally != Y)=true then
     some (.inr (.inl ()))
    else
     some (.inl (IntKind.i64.wrap (J + 1)))
   else
    some (.inl (IntKind.i64.wrap (J + 1)))
 else
  some (.inr (.inr ()))
theorem laws_FnDays_b2_ok (aT:Int) (aU:List Int) (aS:List Tally) (aL:List Deal) (aM:Int) (aN:List Int) (aO:List Tally) (az:Int) (aA:List Int) (aE:Int) (aB:Nat) (aC:Nat) (dM:aB≠aC) (s:laws_FnDays_b2_S) (r:laws_FnDays_b2_S⊕laws_FnDays_b2_R) (h:laws_FnDays_b2 aS aL az aA s=some r) (e:Env) (M:Mem) (hs:laws_FnDays_b2_RS aT aU aS aL aM aN aO az aA aE aB aC s e M):Ev (fun k=>(f3_l30 (CN k) k (prune [5,6,20,22,25,27,35] e) M).bind fun q=>some q) (bQ (laws_FnDays_b2_RS aT aU aS aL aM aN aO az aA aE aB aC) (laws_FnDays_b2_RR aT aU aS aL aM aN aO az aA aE aB aC) r):=by
 revert h hs
 revert s
 intro bB h hs
 unfold laws_FnDays_b2 at h
 obtain ⟨bC,bD,bF,bG,bH,bI,bJ,aP,aR⟩:=hs
 generalize ae:prune [5,6,20,22,25,27,35] e=dN
 have bK:=envp ae.symm E bC
 have bL:=envp ae.symm E bD
 have bM:=envp ae.symm E bF
 have bP:=envp ae.symm E bG
 have aV:=envp ae.symm E bH
 have bS:=envp ae.symm E bI
 have aZ:=envp ae.symm E bJ
 refine sq (sq (Rg (kx (mvO aZ) (kx (mvO aV) (kx (lnS Try.underlying24 E) (kx (bLss E E) (Rn (hV (.loc aB 1 0 0) bK (hV (.sl (some 36) (aL.map Deal.c)) bL (hV (.loc aC 1 0 0) bM (hV (.int .i64 az) bP (hV (.sl none (aA.map (cI .i64))) aV (hV (.int .i64 aE) bS (hV (.int .i64 bB) aZ (hN E hZ)))))))) fun dO bT a8 ba bb bf bi bj bm=>sN ?_)))))))
 rcases ite_some h with ⟨aF,h⟩ | ⟨aF,h⟩
 ·obtain ⟨dP,bv,h⟩:=bind_some h
  obtain ⟨ao,bw,h⟩:=bind_some h
  refine cT bm aF (xx (sN (sq (bl (sq (Rg (kx (mvO a8) (kx (mvO bf) (kx (mvO bj) (kx (ixS E E bv (cI_fl _)) (kx (ldP E E) (kx (ixS E E bw Deal.fl) (kx (ldPA E E E) (ku (alO zero36) fun bU aG=>?_))))))))))))))
  have bV:=push_old aG aP
  have bz:=ne_new aP
  have bW:=push_old aG aR
  have bA:=ne_new aR
  have bo:bU[M.length]? = some (.live ⟨.box,36,6,[[.int .i64 0,.int .i8 0,.int .i64 0,.int .i64 0,.int .i64 0,.int .i64 0]]⟩):=push_new aG
  refine kw (stO E E bo E E ⟨E,ble E⟩ E E) fun bX aH=>?_
  have aq:=set_ne aH bz bV
  have aI:=set_ne aH bA bW
  have ac:bX[M.length]? = some (.live ⟨.box,36,6,[[.int .i64 ao.Day,.int .i8 ao.Kind,.int .i64 ao.Tally,.int .i64 ao.From,.int .i64 ao.To,.int .i64 ao.Amount]]⟩):=set_same aH bo
  refine Rn (hA bT (hA a8 (hA ba (hA bb (hA bf (hA bi (hA bj (hV (.loc M.length 1 0 0) E hZ)))))))) fun dQ ah au aw af ax ay ai aD=>sN (sq (Rg (kx (faO aD ac E) (kx (ldO E ac E E E) (kx (bEql E E) (kx (mvO E) ?_))))))
  rcases ite_some h with ⟨O,h⟩ | ⟨O,h⟩
  ·refine kx (guT E O (mvO ai)) (kx (guT E O (bGtr E E)) (kx (guT E O (mvO E)) ?_))
   rcases ite_some h with ⟨Y,h⟩ | ⟨Y,h⟩
   ·refine kx (gsF E Y) (kx (gsF E Y) (kx (gsF E Y) (kx (gsF E Y) (kx (gsF E Y) (kx (guT E O (pkT E Y E)) (kx (pkT E O E) (kx (mvO E) (kx (gsF E E) (kx (gsF E E) (kx (gsF E E) (kx (gsF E E) (kx (gsU E) (kx (gsU E) (kx (gsU E) (kx (gsU E) (kx (gsF E E) (kx (pkT E E E) (Rn (hA ah (hA au (hA aw (hA af (hA ax (hA ay (hA ai (hV (.bool true) E hZ)))))))) fun dR dS dT dU dV dW dX dY bY=>sN (cT bY E (sq (Rg (kx (mvO E) (Rn (hV (.bool false) E hZ) fun dZ bZ=>sN (xx (bR (sR ?_))))))))))))))))))))))))))
    obtain rfl:=si h
    exact qR ⟨E,bZ⟩
   refine kx (guF E Y (mvO af)) (kx (guF E Y (faO ah aq E)) (kx (guF E Y (ldO E aq E E E)) (kx (guF E Y (lnS Try.underlying25 E)) (kx (guF E Y (bLss E E)) (kx (guT E O (pkF E Y E)) (kx (pkT E O E) (kx (mvO E) ?_)))))))
   rcases ite_some h with ⟨J,h⟩ | ⟨J,h⟩
   ·refine kx (gsF E J) (kx (gsF E J) (kx (gsF E J) (kx (gsF E J) (kx (gsU E) (kx (gsU E) (kx (gsU E) (kx (gsU E) (kx (gsF E J) (kx (pkT E J E) (Rn (hA ah (hA au (hA aw (hA af (hA ax (hA ay (hA ai (hV (.bool true) E hZ)))))))) fun d5 d6 d7 d8 d9 ea ed ee b7=>sN (cT b7 E (sq (Rg (kx (mvO E) (Rn (hV (.bool false) E hZ) fun eo b8=>sN (xx (bR (sR ?_))))))))))))))))))
    obtain rfl:=si h
    exact qR ⟨E,b8⟩
   refine kx (guF E J (faO aD ac E)) (kx (guF E J (ldO E ac E E E)) (kx (guF E J (bNeq E E)) (kx (guF E J (mvO E)) ?_)))
   rcases ite_some h with ⟨aa,h⟩ | ⟨aa,h⟩
   ·refine kx (guT E aa (faO aD ac E)) (kx (guT E aa (ldO E ac E E E)) (kx (guT E aa (mvO af)) (kx (guT E aa (bNeq E E)) (kx (guF E J (pkT E aa E)) (kx (pkF E J E) (Rn (hA ah (hA au (hA aw (hA af (hA ax (hA ay (hA ai (hN E hZ)))))))) fun ep b9 cb cd cf cg ci cj bq=>sN ?_))))))
    rcases ite_some h with ⟨aJ,h⟩ | ⟨aJ,h⟩
    ·refine cT bq aJ (sq (Rg (kx (mvO E) (Rn (hV (.bool false) E hZ) fun eu cm=>sN (xx (bR (sR ?_)))))))
     obtain rfl:=si h
     exact qR ⟨E,cm⟩
    refine cF bq aJ (xx (bN (sN (Rg (kx (mvO cj) (kx (bAdd E E) (kx (mvO E) (Rn (hA b9 (hA cb (hA cd (hA cf (hA cg (hA ci (hN E hZ))))))) fun ew cq cr ct cw cC cD cE=>?_))))))))
    obtain rfl:=si h
    exact qN ⟨cq,cr,ct,cw,cC,cD,cE,aq,aI⟩
   refine kx (gsT E aa) (kx (gsT E aa) (kx (gsT E aa) (kx (gsT E aa) (kx (guF E J (pkF E aa E)) (kx (pkF E J E) (Rn (hA ah (hA au (hA aw (hA af (hA ax (hA ay (hA ai (hV (.bool false) E hZ)))))))) fun ex cG cH cJ cK cM cN cO cQ=>sN (cF cQ E (xx (bN (sN (Rg (kx (mvO cO) (kx (bAdd E E) (kx (mvO E) (Rn (hA cG (hA cH (hA cJ (hA cK (hA cM (hA cN (hN E hZ))))))) fun ey cR cU cV cW cX cY cZ=>?_)))))))))))))))
   obtain rfl:=si h
   exact qN ⟨cR,cU,cV,cW,cX,cY,cZ,aq,aI⟩
  refine kx (gsT E O) (kx (gsT E O) (kx (gsT E O) (kx (gsU E) (kx (gsU E) (kx (gsU E) (kx (gsU E) (kx (gsU E) (kx (gsT E O) (kx (pkF E O E) (kx (mvO E) (kx (guF E E (faO aD ac E)) (kx (guF E E (ldO E ac E E E)) (kx (guF E E (bNeq E E)) (kx (guF E E (mvO E)) ?_))))))))))))))
  rcases ite_some h with ⟨ab,h⟩ | ⟨ab,h⟩
  ·refine kx (guT E ab (faO aD ac E)) (kx (guT E ab (ldO E ac E E E)) (kx (guT E ab (mvO af)) (kx (guT E ab (bNeq E E)) (kx (guF E E (pkT E ab E)) (kx (pkF E E E) (Rn (hA ah (hA au (hA aw (hA af (hA ax (hA ay (hA ai (hN E hZ)))))))) fun ez da db dc de df dg di bu=>sN ?_))))))
   rcases ite_some h with ⟨aK,h⟩ | ⟨aK,h⟩
   ·refine cT bu aK (sq (Rg (kx (mvO E) (Rn (hV (.bool false) E hZ) fun eA dj=>sN (xx (bR (sR ?_)))))))
    obtain rfl:=si h
    exact qR ⟨E,dj⟩
   refine cF bu aK (xx (bN (sN (Rg (kx (mvO di) (kx (bAdd E E) (kx (mvO E) (Rn (hA da (hA db (hA dc (hA de (hA df (hA dg (hN E hZ))))))) fun eB dk dl dm dn dp dq dt=>?_))))))))
   obtain rfl:=si h
   exact qN ⟨dk,dl,dm,dn,dp,dq,dt,aq,aI⟩
  refine kx (gsT E ab) (kx (gsT E ab) (kx (gsT E ab) (kx (gsT E ab) (kx (guF E E (pkF E ab E)) (kx (pkF E E E) (Rn (hA ah (hA au (hA aw (hA af (hA ax (hA ay (hA ai (hV (.bool false) E hZ)))))))) fun eC du dw dx dz dA dC dD dE=>sN (cF dE E (xx (bN (sN (Rg (kx (mvO dD) (kx (bAdd E E) (kx (mvO E) (Rn (hA du (hA dw (hA dx (hA dz (hA dA (hA dC (hN E hZ))))))) fun eD dF dG dH dI dJ dK dL=>?_)))))))))))))))
  obtain rfl:=si h
  exact qN ⟨dF,dG,dH,dI,dJ,dK,dL,aq,aI⟩
 refine cF bm aF (xx (sE ?_))
 obtain rfl:=si h
 exact qE ⟨E,ba,bb,bi,aP,aR⟩
noncomputable def laws_FnDays (a1:List Int) (a2:List Int):Option Bool:=
 (laws_a2Long a1 a2).bind fun r6=>
 if r6=true then
  some true
 else
  (spec_A2Days a1).bind fun (J,aa,ab,Y)=>
  (laws_a2At a2 0 20).bind fun ae=>
  (impl_StateOn (Book.mk J aa ab) Y (IntKind.i64.wrap (J + ae))).bind fun (bv,bw,bz,aC)=>
  (spec_StateOn (Book.mk J aa ab) Y (IntKind.i64.wrap (J + ae))).bind fun (ai,ao,aq,bA)=>
  (Lw (laws_FnDays_b1 J Y ae) 0).bind fun aD=>
  (slc Y 0 aD).bind fun aE=>
  (impl_DoDeals (Book.mk J aa ab) aE).bind fun (bB,aF,aG,aH)=>
  (if (aC != bA)=true then
   some true
  else
   if (aC != 0)=true then
    some true
   else
    (spec_SameBook (Book.mk bv bw bz) (Book.mk ai ao aq)).bind fun aI=>
    if aI=true then
     if (ai != (IntKind.i64.wrap (J + ae)))=true then
      some true
     else
      if (aH != 0)=true then
       some true
      else
       (spec_A2Same aF ao).bind fun aJ=>
       if aJ=true then
        some ((aG.length:Int) != (aq.length:Int))
       else
        some true
    else
     some true).bind fun aK=>
  if aK=true then
   some false
  else
   (laws_a2At a2 1 (aa.length:Int)).bind fun au=>
   (impl_WorthsOn (Book.mk J aa ab) Y au [(IntKind.i64.wrap (J + ae)),J]).bind fun (aw,aL)=>
   (impl_WorthOfPerson (Book.mk ai ao aq) au).bind fun (aM,aN)=>
   (if (aL != 0)=true then
    some true
   else
    if ((aw.length:Int) != 2)=true then
     some true
    else
     if (aN != 0)=true then
      some true
     else
      (rd aw 0).bind fun aO=>
      some (aO != aM)).bind fun aP=>
   if aP=true then
    some false
   else
    (spec_DoDeals (Book.mk J aa ab) Y).bind fun (af,aR,ac,ax)=>
    (if (ax != 0)=true then
     some true
    else
     some ((ac.length:Int)==0)).bind fun aS=>
    if aS=true then
     some (ax==0)
    else
     (laws_a2At a2 2 (ac.length:Int)).bind fun O=>
     (impl_HistoryOf (Book.mk J aa ab) Y O).bind fun (aT,ay)=>
     (spec_HistoryOf (Book.mk J aa ab) Y O).bind fun (az,aU)=>
     (impl_HolderOn (Book.mk J aa ab) Y O af).bind fun (aA,aV)=>
     (impl_LongestHeld (Book.mk J aa ab) Y O).bind fun (aZ,a8,aB)=>
     (spec_LongestHeld (Book.mk J aa ab) Y O).bind fun (ba,ah,bb)=>
     (if (ay != aU)=true then
      some true
     else
      if (ay != 0)=true then
       some true
      else
       (spec_A2Same aT az).bind fun bf=>
       if bf=true then
        if (aV != 0)=true then
         some true
        else
         (rd ac O).bind fun bi=>
         if (aA != bi.Holder)=true then
          some true
         else
          if (aB != bb)=true then
           some true
          else
           if (aB != 0)=true then
            some true
           else
            if (aZ != ba)=true then
             some true
            else
             if (a8 != ah)=true then
              some true
             else
              if (decide (ah < 0))=true then
               some true
              else
               some (decide (ah > (IntKind.i64.wrap (af - J))))
       else
        some true).bind fun bj=>
     if bj=true then
      some false
     else
      (Lw (laws_FnDays_b2 ab Y O az) 0).bind fun r=>match r with
      | (.inl _)=>
       some false
      | (.inr _)=>
       (impl_HoldsNow (Book.mk af aR ac) aA).bind fun (bm,bo)=>
       if (bo==0)=true then
        (spec_A2Has bm O).bind fun bq=>
        (rd ac O).bind fun bu=>
        some (bq==(decide (bu.Left > 0)))
       else
        some false
def laws_FnDays_enc (r:Bool):AV:=.bool r
theorem laws_FnDays_ok (a1:List Int) (a2:List Int) (r:Bool) (h:laws_FnDays a1 a2=some r):Ev (fun k=>CN k 3 [.sl none (a1.map (cI .u8)),.sl none (a2.map (cI .u8))] []) (fun p=>rRes p.2 p.1=laws_FnDays_enc r):=by
 unfold laws_FnDays at h
 obtain ⟨r6,mD,h⟩:=bind_some h
 refine Ev.enter (F:=fun k=>f3 (CN k) k) (fun k=>callN_eq E Try.func3 E E E (by decide +kernel) (f3_eq _ _)) (sq (Rg (kx (mvO E) (Rn (hN E (hN E hZ)) fun e1 h3 h4=>sN (sq (sq (Rg (kx (mvO h3) (kx (mvO h4) (kc (cl (v:=.bool r6) E E (cns E (cns E E)) E (laws_a2Long_ok a1 a2 _ mD) nm) (Rn (hA h3 (hA h4 (hN E hZ))) fun e7 h9 mE fg=>sN ?_)))))))))))
 rcases ite_some h with ⟨cg,h⟩ | ⟨cg,h⟩
 ·refine cT fg cg (sq (Rg (kx (mvO E) (Rn (hV (.bool true) E hZ) fun oP mF=>sN (xx (sR ?_))))))
  obtain rfl:=si h
  exact eR (resT mF res0) E
 obtain ⟨⟨J,Y,aa,O⟩,fC,h⟩:=bind_some h
 refine cF fg cg (xx (sN (sq (Rg (kx (mvO h9) (kc (cl (v:=.tup [.agg [.int .i64 J,.sl none (Y.map (cI .i64)),.sl none (aa.map Tally.c)],.sl (some 36) (O.map Deal.c)]) E E (cns E E) E (spec_A2Days_ok a1 _ fC) nm) (kx (mvO E) (kx (exT E E) (kx (exT E E) (ku (alO zero27) fun mG fD=>?_))))))))))
 have fh:mG[([]:Mem).length]? = some (.live ⟨.box,27,3,[[.int .i64 0,.nils,.nils]]⟩):=push_new fD
 refine kw (stO E E fh E E ⟨E,ble E⟩ E E) fun aK fE=>?_
 have cb:aK[([]:Mem).length]? = some (.live ⟨.box,27,3,[[.int .i64 J,.sl none (Y.map (cI .i64)),.sl none (aa.map Tally.c)]]⟩):=set_same fE fh
 obtain ⟨aL,fF,h⟩:=bind_some h
 obtain ⟨⟨bG,bH,bI,cd⟩,fG,h⟩:=bind_some h
 refine kx (mvO E) (Rn (hA mE (hV (.loc ([]:Mem).length 1 0 0) E (hN E hZ))) fun oQ fi fj mH=>sN (sq (Rd (kf (faO fj cb E) (kf (ldO E cb E E E) (kf (mvO fi) (fc (cl (v:=.int .i64 aL) E E (cns E (cns E (cns E E))) E (laws_a2At_ok a2 0 20 _ fF) nm) (kf (bAdd E E) (kf (mvO E) (fZ (Rn (hA fi (hA fj (hA mH (hN E hZ)))) fun oR mI fk fm fo=>sN (sq (Rg (kx (ldOA fk cb E E (ble E) E) (kx (mvO fm) (kx (mvO fo) (kc (clW (v:=.tup [.agg [.int .i64 bG,.sl none (bH.map (cI .i64)),.sl none (bI.map Tally.c)],.int .i64 cd]) E E (cns E (cns E (cns E E))) E (impl_StateOn_ok (Book.mk J Y aa) O (IntKind.i64.wrap (J + aL)) _ fG) E) (kx (mvO E) (kx (exT E E) (kx (exT E E) (ku (alO zero27) fun mJ cM=>?_)))))))))))))))))))))
 have mK:=push_old cM cb
 have cN:=ne_new cb
 have fq:mJ[aK.length]? = some (.live ⟨.box,27,3,[[.int .i64 0,.nils,.nils]]⟩):=push_new cM
 refine kw (stO E E fq E E ⟨E,ble E⟩ E E) fun aI cO=>?_
 have cQ:=set_ne cO cN mK
 have ft:aI[aK.length]? = some (.live ⟨.box,27,3,[[.int .i64 bG,.sl none (bH.map (cI .i64)),.sl none (bI.map Tally.c)]]⟩):=set_same cO fq
 obtain ⟨⟨aZ,aR,a8,cf⟩,fH,h⟩:=bind_some h
 refine kx (mvO E) (Rn (hA mI (hA fk (hA fm (hA fo (hV (.loc aK.length 1 0 0) E (hN E hZ)))))) fun oS mL fu fw fA mM mN=>sN (sq (Rg (kx (ldOA fu cQ E E (ble E) E) (kx (mvO fw) (kx (mvO fA) (kc (clW (v:=.tup [.agg [.int .i64 aZ,.sl none (aR.map (cI .i64)),.sl none (a8.map Tally.c)],.int .i64 cf]) E E (cns E (cns E (cns E E))) E (spec_StateOn_ok (Book.mk J Y aa) O (IntKind.i64.wrap (J + aL)) _ fH) E) (kx (mvO E) (kx (exT E E) (kx (exT E E) (ku (alO zero27) fun mO ci=>?_)))))))))))
 have mP:=push_old ci cQ
 have cR:=ne_new cQ
 have mQ:=push_old ci ft
 have cU:=ne_new ft
 have fB:mO[aI.length]? = some (.live ⟨.box,27,3,[[.int .i64 0,.nils,.nils]]⟩):=push_new ci
 refine kw (stO E E fB E E ⟨E,ble E⟩ E E) fun mR cj=>?_
 have mS:=set_ne cj cR mP
 have mT:=set_ne cj cU mQ
 have mU:mR[aI.length]? = some (.live ⟨.box,27,3,[[.int .i64 aZ,.sl none (aR.map (cI .i64)),.sl none (a8.map Tally.c)]]⟩):=set_same cj fB
 obtain ⟨nn,ex,h⟩:=bind_some h
 refine kx (mvO E) (Rn (hA mL (hA fu (hA fw (hA fA (hA mM (hA mN (hV (.loc aI.length 1 0 0) E (hN E hZ)))))))) fun oT mV mW mX mY mZ m7 m8 m9=>sN (sq (Rg (kx (mvO E) (Rn (hA mV (hA mW (hA mX (hA mY (hA mZ (hA m7 (hA m8 (hA m9 (hV (.int .i64 0) E hZ))))))))) fun oU na nb ng nh ni nj fI fJ fK=>sN (sq (bl (Ev.loop (RS:=laws_FnDays_b1_RS a2 J Y aa O aL bG bH bI cd aZ aR a8 cf (([]:Mem).length) aK.length aI.length) (RR:=laws_FnDays_b1_RR a2 J Y aa O aL bG bH bI cd aZ aR a8 cf (([]:Mem).length) aK.length aI.length) (fun s r h e M hs=>laws_FnDays_b1_ok a2 J Y aa O aL bG bH bI cd aZ aR a8 cf (([]:Mem).length) aK.length aI.length cN cR cU s r h e M hs) ex ⟨na,nb,ng,nh,ni,nj,fI,fJ,fK,mS,mT,mU⟩ fun x np aB ey=>?_))))))))
 obtain ⟨rfl,fL,cV,cW,fM,fN,fO,fP,fQ,fR,cm,cX,cY⟩:=ey
 obtain ⟨fS,ez,h⟩:=bind_some h
 obtain ⟨⟨cZ,cq,da,fT⟩,eA,h⟩:=bind_some h
 refine bE (sN (sq (Rd (kf (ldOA cV cm E E (ble E) E) (kf (mvO cW) (kf (mvO fR) (kf (slS E E (bnd1 E) ez Deal.fl) (fc (clW (v:=.tup [.agg [.int .i64 cZ,.sl none (cq.map (cI .i64)),.sl none (da.map Tally.c)],.int .i64 fT]) E E (cns E (cns E E)) E (impl_DoDeals_ok (Book.mk J Y aa) fS _ eA) E) (kf (mvO E) (kf (exT E E) (kf (exT E E) (Ev.nfpushE (alO zero27) (Ev.fend1 fun fU bz=>?_)))))))))))))
 have bz:=fendM bz [⟨.box,27,3,[[.int .i64 0,.nils,.nils]]⟩] E
 have fV:=push_old bz cm
 have fW:=push_old bz cX
 have fX:=push_old bz cY
 have eB:([]:Mem).length≠aB.length:=by have:=lt_of_get (M:=aB) cm; omega
 have eC:aK.length≠aB.length:=by have:=lt_of_get (M:=aB) cX; omega
 have eD:aI.length≠aB.length:=by have:=lt_of_get (M:=aB) cY; omega
 have db:fU[aB.length]? = some (.live ⟨.box,27,3,[[.int .i64 0,.nils,.nils]]⟩):=push_at bz 0 E
 refine kw (stO E E db E E ⟨E,ble E⟩ E E) fun fY bF=>?_
 have bA:=set_ne bF eB fV
 have ga:=set_ne bF eC fW
 have aD:=set_ne bF eD fX
 have bJ:fY[aB.length]? = some (.live ⟨.box,27,3,[[.int .i64 cZ,.sl none (cq.map (cI .i64)),.sl none (da.map Tally.c)]]⟩):=set_same bF db
 obtain ⟨dc,bK,h⟩:=bind_some h
 refine kx (mvO E) (Rn (hV (.sl none (a2.map (cI .u8))) fL (hV (.loc ([]:Mem).length 1 0 0) cV (hV (.sl (some 36) (O.map Deal.c)) cW (hV (.int .i64 (IntKind.i64.wrap (J + aL))) fM (hV (.loc aK.length 1 0 0) fN (hV (.int .i64 cd) fO (hV (.loc aI.length 1 0 0) fP (hV (.int .i64 cf) fQ (hV (.loc aB.length 1 0 0) E (hN E hZ)))))))))) fun nq bB bC bD bw gc de ba gf df gg=>sN (sq (sq ?_)))
 refine Ev.cut (Q1:=laws_FnDays_c1_Q a2 J Y aa O aL aZ aR a8 (([]:Mem).length) aK.length aI.length aB.length dc) (by
     have h:=bK
     refine Rg (kx (mvO de) (kx (mvO gf) (kx (bNeq E E) (kx (mvO E) ?_))))
     rcases ite_some h with ⟨bf,h⟩ | ⟨bf,h⟩
     ·refine kx (gsF E bf) (kx (gsF E bf) (kx (pkT E bf E) (kx (mvO E) (kx (gsF E E) (kx (gsF E E) (kc (Ev.gsF E E) (kx (gsF E E) (kx (pkT E E E) (kx (mvO E) (kx (gsF E E) (kx (gsF E E) (kx (gsF E E) (kx (gsF E E) (kx (pkT E E E) (kx (mvO E) (kx (gsF E E) (kx (gsF E E) (kx (pkT E E E) (kx (mvO E) (kx (gsF E E) (kx (gsF E E) (kx (gsF E E) (kx (gsF E E) (kc (Ev.gsF E E) (kx (gsF E E) (kx (pkT E E E) (kx (mvO E) (kx (gsF E E) (kx (gsF E E) (kx (gsF E E) (kx (gsF E E) (kx (gsF E E) (kx (gsF E E) (kx (gsF E E) (kx (pkT E E E) (Rn (hA bB (hA bC (hA bD (hA bw (hA ba (hV (.bool true) E hZ)))))) fun nr gh gi gj gk gm gn=>?_))))))))))))))))))))))))))))))))))))
      obtain rfl:=si h
      exact kd (show laws_FnDays_c1_Q a2 J Y aa O aL aZ aR a8 (([]:Mem).length) aK.length aI.length aB.length _ _ from ⟨E,gh,gi,gj,gk,gm,gn,bA,aD⟩)
     refine kx (guF E bf (mvO de)) (kx (guF E bf (bNeq E E)) (kx (pkF E bf E) (kx (mvO E) ?_)))
     rcases ite_some h with ⟨aE,h⟩ | ⟨aE,h⟩
     ·refine kx (gsF E aE) (kx (gsF E aE) (kc (Ev.gsF E aE) (kx (gsF E aE) (kx (pkT E aE E) (kx (mvO E) (kx (gsF E E) (kx (gsF E E) (kx (gsF E E) (kx (gsF E E) (kx (pkT E E E) (kx (mvO E) (kx (gsF E E) (kx (gsF E E) (kx (pkT E E E) (kx (mvO E) (kx (gsF E E) (kx (gsF E E) (kx (gsF E E) (kx (gsF E E) (kc (Ev.gsF E E) (kx (gsF E E) (kx (pkT E E E) (kx (mvO E) (kx (gsF E E) (kx (gsF E E) (kx (gsF E E) (kx (gsF E E) (kx (gsF E E) (kx (gsF E E) (kx (gsF E E) (kx (pkT E E E) (Rn (hA bB (hA bC (hA bD (hA bw (hA ba (hV (.bool true) E hZ)))))) fun nu gp gq gt gw gz gA=>?_))))))))))))))))))))))))))))))))
      obtain rfl:=si h
      exact kd (show laws_FnDays_c1_Q a2 J Y aa O aL aZ aR a8 (([]:Mem).length) aK.length aI.length aB.length _ _ from ⟨E,gp,gq,gt,gw,gz,gA,bA,aD⟩)
     obtain ⟨gB,eE,h⟩:=bind_some h
     refine kx (guF E aE (ldOA gc ga E E (ble E) E)) (kx (guF E aE (ldOA ba aD E E (ble E) E)) (kc (Ev.guF E aE (cl (v:=.bool gB) E E (cns E (cns E E)) E (spec_SameBook_ok (Book.mk bG bH bI) (Book.mk aZ aR a8) _ eE) nm)) (kx (guF E aE (uNot E)) (kx (pkF E aE E) (kx (mvO E) ?_)))))
     rcases ite_some h with ⟨aF,h⟩ | ⟨aF,h⟩
     ·refine kx (guF E (congrArg Bool.not aF) (faO ba aD E)) (kx (guF E (congrArg Bool.not aF) (ldO E aD E E E)) (kx (guF E (congrArg Bool.not aF) (mvO bw)) (kx (guF E (congrArg Bool.not aF) (bNeq E E)) (kx (pkF E (congrArg Bool.not aF) E) (kx (mvO E) ?_)))))
      rcases ite_some h with ⟨bi,h⟩ | ⟨bi,h⟩
      ·refine kx (gsF E bi) (kx (gsF E bi) (kx (pkT E bi E) (kx (mvO E) (kx (gsF E E) (kx (gsF E E) (kx (gsF E E) (kx (gsF E E) (kc (Ev.gsF E E) (kx (gsF E E) (kx (pkT E E E) (kx (mvO E) (kx (gsF E E) (kx (gsF E E) (kx (gsF E E) (kx (gsF E E) (kx (gsF E E) (kx (gsF E E) (kx (gsF E E) (kx (pkT E E E) (Rn (hA bB (hA bC (hA bD (hA bw (hA ba (hV (.bool true) E hZ)))))) fun nv gC gD gE gF gG gH=>?_))))))))))))))))))))
       obtain rfl:=si h
       exact kd (show laws_FnDays_c1_Q a2 J Y aa O aL aZ aR a8 (([]:Mem).length) aK.length aI.length aB.length _ _ from ⟨E,gC,gD,gE,gF,gG,gH,bA,aD⟩)
      refine kx (guF E bi (mvO gg)) (kx (guF E bi (bNeq E E)) (kx (pkF E bi E) (kx (mvO E) ?_)))
      rcases ite_some h with ⟨ay,h⟩ | ⟨ay,h⟩
      ·refine kx (gsF E ay) (kx (gsF E ay) (kx (gsF E ay) (kx (gsF E ay) (kc (Ev.gsF E ay) (kx (gsF E ay) (kx (pkT E ay E) (kx (mvO E) (kx (gsF E E) (kx (gsF E E) (kx (gsF E E) (kx (gsF E E) (kx (gsF E E) (kx (gsF E E) (kx (gsF E E) (kx (pkT E E E) (Rn (hA bB (hA bC (hA bD (hA bw (hA ba (hV (.bool true) E hZ)))))) fun nw gI gJ gK gL gM gN=>?_))))))))))))))))
       obtain rfl:=si h
       exact kd (show laws_FnDays_c1_Q a2 J Y aa O aL aZ aR a8 (([]:Mem).length) aK.length aI.length aB.length _ _ from ⟨E,gI,gJ,gK,gL,gM,gN,bA,aD⟩)
      obtain ⟨gO,eF,h⟩:=bind_some h
      refine kx (guF E ay (faO df bJ E)) (kx (guF E ay (ldO E bJ E E E)) (kx (guF E ay (faO ba aD E)) (kx (guF E ay (ldO E aD E E E)) (kc (Ev.guF E ay (cl (v:=.bool gO) E E (cns E (cns E E)) E (spec_A2Same_ok cq aR _ eF) nm)) (kx (guF E ay (uNot E)) (kx (pkF E ay E) (kx (mvO E) ?_)))))))
      rcases ite_some h with ⟨aq,h⟩ | ⟨aq,h⟩
      ·refine kx (guF E (congrArg Bool.not aq) (faO df bJ E)) (kx (guF E (congrArg Bool.not aq) (ldO E bJ E E E)) (kx (guF E (congrArg Bool.not aq) (lnS Try.underlying25 E)) (kx (guF E (congrArg Bool.not aq) (faO ba aD E)) (kx (guF E (congrArg Bool.not aq) (ldO E aD E E E)) (kx (guF E (congrArg Bool.not aq) (lnS Try.underlying25 E)) (kx (guF E (congrArg Bool.not aq) (bNeq E E)) (kx (pkF E (congrArg Bool.not aq) E) (Rn (hA bB (hA bC (hA bD (hA bw (hA ba (hN E hZ)))))) fun ny gP gQ gR gS gT gU=>?_))))))))
       obtain rfl:=si h
       exact kd (show laws_FnDays_c1_Q a2 J Y aa O aL aZ aR a8 (([]:Mem).length) aK.length aI.length aB.length _ _ from ⟨E,gP,gQ,gR,gS,gT,gU,bA,aD⟩)
      refine kx (gsF E (congrArg Bool.not aq)) (kx (gsF E (congrArg Bool.not aq)) (kx (gsF E (congrArg Bool.not aq)) (kx (gsF E (congrArg Bool.not aq)) (kx (gsF E (congrArg Bool.not aq)) (kx (gsF E (congrArg Bool.not aq)) (kx (gsF E (congrArg Bool.not aq)) (kx (pkT E (congrArg Bool.not aq) E) (Rn (hA bB (hA bC (hA bD (hA bw (hA ba (hV (.bool true) E hZ)))))) fun nz gV gW gX gY gZ hH=>?_))))))))
      obtain rfl:=si h
      exact kd (show laws_FnDays_c1_Q a2 J Y aa O aL aZ aR a8 (([]:Mem).length) aK.length aI.length aB.length _ _ from ⟨E,gV,gW,gX,gY,gZ,hH,bA,aD⟩)
     refine kx (gsF E (congrArg Bool.not aF)) (kx (gsF E (congrArg Bool.not aF)) (kx (gsF E (congrArg Bool.not aF)) (kx (gsF E (congrArg Bool.not aF)) (kx (pkT E (congrArg Bool.not aF) E) (kx (mvO E) (kx (gsF E E) (kx (gsF E E) (kx (pkT E E E) (kx (mvO E) (kx (gsF E E) (kx (gsF E E) (kx (gsF E E) (kx (gsF E E) (kc (Ev.gsF E E) (kx (gsF E E) (kx (pkT E E E) (kx (mvO E) (kx (gsF E E) (kx (gsF E E) (kx (gsF E E) (kx (gsF E E) (kx (gsF E E) (kx (gsF E E) (kx (gsF E E) (kx (pkT E E E) (Rn (hA bB (hA bC (hA bD (hA bw (hA ba (hV (.bool true) E hZ)))))) fun nA hO hP hY ib ic ie=>?_))))))))))))))))))))))))))
     obtain rfl:=si h
     exact kd (show laws_FnDays_c1_Q a2 J Y aa O aL aZ aR a8 (([]:Mem).length) aK.length aI.length aB.length _ _ from ⟨E,hO,hP,hY,ib,ic,ie,bA,aD⟩)) ?_
 revert h bK
 revert dc
 intro nB bK h
 intro x nC nD eG
 obtain ⟨rfl,dg,di,ig,ii,ij,dj,bj,ik⟩:=eG
 refine sN ?_
 rcases ite_some h with ⟨bL,h⟩ | ⟨bL,h⟩
 ·refine cT dj bL (sq (Rg (kx (mvO E) (Rn (hV (.bool false) E hZ) fun nE il=>sN (xx (sR ?_))))))
  obtain rfl:=si h
  exact eR (resT il res0) E
 obtain ⟨cr,eH,h⟩:=bind_some h
 obtain ⟨⟨im,io⟩,eJ,h⟩:=bind_some h
 obtain ⟨⟨ip,iq⟩,eK,h⟩:=bind_some h
 obtain ⟨dk,bM,h⟩:=bind_some h
 refine cF dj bL (xx (sN (sq (Rg (kx (mvO dg) (kx (faO di bj E) (kx (ldO E bj E E E) (kx (lnS Try.underlying24 E) (kc (cl (v:=.int .i64 cr) E E (cns E (cns E (cns E E))) E (laws_a2At_ok a2 1 (Y.length:Int) _ eH) nm) (kx (mvO E) (Rn (hV (.sl none (a2.map (cI .u8))) dg (hV (.loc ([]:Mem).length 1 0 0) di (hV (.sl (some 36) (O.map Deal.c)) ig (hV (.int .i64 (IntKind.i64.wrap (J + aL))) ii (hV (.loc aI.length 1 0 0) ij (hN E hZ)))))) fun nF ir ct dl iu iw dm=>sN (sq (Rg (kx (ldOA ct bj E E (ble E) E) (kx (mvO dl) (kx (mvO dm) (kx (mvO iu) (kx (faO ct bj E) (kx (ldO E bj E E E) (kx (litI (cns E (cns E E)) E ⟨E,by decide⟩) (kc (clO (v:=.tup [.sl none (im.map (cI .i64)),.int .i64 io]) E E (cns E (cns E (cns E (cns E E)))) E (impl_WorthsOn_ok (Book.mk J Y aa) O cr [(IntKind.i64.wrap (J + aL)),J] _ eJ)) (kx (mvO E) (kx (exT E E) (kx (exT E E) (kx (mvO E) (kx (mvO E) (Rn (hA ir (hA ct (hA dl (hA iw (hA dm (hN E (hN E hZ))))))) fun nG ix iy iz iA iB iC iD=>sN (sq (Rg (kx (ldOA iA ik E E (ble E) E) (kx (mvO iB) (kc (cl (v:=.tup [.int .i64 ip,.int .i64 iq]) E E (cns E (cns E E)) E (impl_WorthOfPerson_ok (Book.mk aZ aR a8) cr _ eK) nm) (kx (mvO E) (kx (exT E E) (kx (exT E E) (kx (mvO E) (kx (mvO E) (Rn (hA ix (hA iy (hA iz (hA iC (hA iD (hN E (hN E hZ))))))) fun nH bP bS bT dn iE iF iG=>sN (sq (sq ?_))))))))))))))))))))))))))))))))))))))))
 refine Ev.cut (Q1:=laws_FnDays_c2_Q a2 J Y aa O (([]:Mem).length) dk) (by
     have h:=bM
     refine Rg (kx (mvO iE) (kx (bNeq E E) (kx (mvO E) ?_)))
     rcases ite_some h with ⟨aS,h⟩ | ⟨aS,h⟩
     ·refine kx (gsF E aS) (kx (gsF E aS) (kx (gsF E aS) (kx (pkT E aS E) (kx (mvO E) (kx (gsF E E) (kx (gsF E E) (kx (pkT E E E) (kx (mvO E) (kx (gsF E E) (kx (gsF E E) (kx (gsF E E) (kx (gsF E E) (kx (gsF E E) (kx (pkT E E E) (Rn (hA bP (hA bS (hA bT (hV (.bool true) E hZ)))) fun nI iH iI iJ iK=>?_)))))))))))))))
      obtain rfl:=si h
      exact kd (show laws_FnDays_c2_Q a2 J Y aa O (([]:Mem).length) _ _ from ⟨E,iH,iI,iJ,iK,bj⟩)
     refine kx (guF E aS (mvO dn)) (kx (guF E aS (lnS Try.underlying24 E)) (kx (guF E aS (bNeq E E)) (kx (pkF E aS E) (kx (mvO E) ?_))))
     rcases ite_some h with ⟨bm,h⟩ | ⟨bm,h⟩
     ·refine kx (gsF E bm) (kx (gsF E bm) (kx (pkT E bm E) (kx (mvO E) (kx (gsF E E) (kx (gsF E E) (kx (gsF E E) (kx (gsF E E) (kx (gsF E E) (kx (pkT E E E) (Rn (hA bP (hA bS (hA bT (hV (.bool true) E hZ)))) fun nJ iL iM iN iO=>?_))))))))))
      obtain rfl:=si h
      exact kd (show laws_FnDays_c2_Q a2 J Y aa O (([]:Mem).length) _ _ from ⟨E,iL,iM,iN,iO,bj⟩)
     refine kx (guF E bm (mvO iG)) (kx (guF E bm (bNeq E E)) (kx (pkF E bm E) (kx (mvO E) ?_)))
     rcases ite_some h with ⟨aC,h⟩ | ⟨aC,h⟩
     ·refine kx (gsF E aC) (kx (gsF E aC) (kx (gsF E aC) (kx (gsF E aC) (kx (gsF E aC) (kx (pkT E aC E) (Rn (hA bP (hA bS (hA bT (hV (.bool true) E hZ)))) fun nK iP iQ iR iS=>?_))))))
      obtain rfl:=si h
      exact kd (show laws_FnDays_c2_Q a2 J Y aa O (([]:Mem).length) _ _ from ⟨E,iP,iQ,iR,iS,bj⟩)
     obtain ⟨nL,eL,h⟩:=bind_some h
     refine kx (guF E aC (mvO dn)) (kx (guF E aC (ixS E E eL (cI_fl _))) (kx (guF E aC (ldP E E)) (kx (guF E aC (mvO iF)) (kx (guF E aC (bNeq E E)) (kx (pkF E aC E) (Rn (hA bP (hA bS (hA bT (hN E hZ)))) fun nM iT iU iV iW=>?_))))))
     obtain rfl:=si h
     exact kd (show laws_FnDays_c2_Q a2 J Y aa O (([]:Mem).length) _ _ from ⟨E,iT,iU,iV,iW,bj⟩)) ?_
 revert h bM
 revert dk
 intro nN bM h
 intro x nO ac eM
 obtain ⟨rfl,iX,dp,dq,dt,cw⟩:=eM
 refine sN ?_
 rcases ite_some h with ⟨bU,h⟩ | ⟨bU,h⟩
 ·refine cT dt bU (sq (Rg (kx (mvO E) (Rn (hV (.bool false) E hZ) fun nP iY=>sN (xx (sR ?_))))))
  obtain rfl:=si h
  exact eR (resT iY res0) E
 obtain ⟨⟨af,ai,ah,bV⟩,eO,h⟩:=bind_some h
 refine cF dt bU (xx (sN (sq (Rg (kx (ldOA dp cw E E (ble E) E) (kx (mvO dq) (kc (clW (v:=.tup [.agg [.int .i64 af,.sl none (ai.map (cI .i64)),.sl none (ah.map Tally.c)],.int .i64 bV]) E E (cns E (cns E E)) E (spec_DoDeals_ok (Book.mk J Y aa) O _ eO) E) (kx (mvO E) (kx (exT E E) (kx (exT E E) (ku (alO zero27) fun iZ cH=>?_)))))))))))
 have ja:=push_old cH cw
 have bW:=ne_new cw
 have du:iZ[ac.length]? = some (.live ⟨.box,27,3,[[.int .i64 0,.nils,.nils]]⟩):=push_new cH
 refine kw (stO E E du E E ⟨E,ble E⟩ E E) fun jb cJ=>?_
 have dw:=set_ne cJ bW ja
 have bX:jb[ac.length]? = some (.live ⟨.box,27,3,[[.int .i64 af,.sl none (ai.map (cI .i64)),.sl none (ah.map Tally.c)]]⟩):=set_same cJ du
 obtain ⟨dx,bY,h⟩:=bind_some h
 refine kx (mvO E) (Rn (hV (.sl none (a2.map (cI .u8))) iX (hV (.loc ([]:Mem).length 1 0 0) dp (hV (.sl (some 36) (O.map Deal.c)) dq (hV (.loc ac.length 1 0 0) E (hN E hZ))))) fun nQ dz dA dC cC cD=>sN (sq (sq ?_)))
 refine Ev.cut (Q1:=laws_FnDays_c3_Q a2 J Y aa O af ai ah bV (([]:Mem).length) ac.length dx) (by
     have h:=bY
     refine Rg (kx (mvO cD) (kx (bNeq E E) (kx (mvO E) ?_)))
     rcases ite_some h with ⟨aG,h⟩ | ⟨aG,h⟩
     ·refine kx (gsF E aG) (kx (gsF E aG) (kx (gsF E aG) (kx (gsF E aG) (kx (pkT E aG E) (Rn (hA dz (hA dA (hA dC (hA cC (hA cD (hV (.bool true) E hZ)))))) fun nS jc jd je jf jh ji=>?_)))))
      obtain rfl:=si h
      exact kd (show laws_FnDays_c3_Q a2 J Y aa O af ai ah bV (([]:Mem).length) ac.length _ _ from ⟨E,jc,jd,je,jf,jh,ji,dw,bX⟩)
     refine kx (guF E aG (faO cC bX E)) (kx (guF E aG (ldO E bX E E E)) (kx (guF E aG (lnS Try.underlying25 E)) (kx (guF E aG (bEql E E)) (kx (pkF E aG E) (Rn (hA dz (hA dA (hA dC (hA cC (hA cD (hN E hZ)))))) fun nT jj jk jm jo jp jq=>?_)))))
     obtain rfl:=si h
     exact kd (show laws_FnDays_c3_Q a2 J Y aa O af ai ah bV (([]:Mem).length) ac.length _ _ from ⟨E,jj,jk,jm,jo,jp,jq,dw,bX⟩)) ?_
 revert h bY
 revert dx
 intro nU bY h
 intro x nV nW eP
 obtain ⟨rfl,jr,js,jt,dD,ju,dE,aA,az⟩:=eP
 refine sN ?_
 rcases ite_some h with ⟨bZ,h⟩ | ⟨bZ,h⟩
 ·refine cT dE bZ (sq (Rg (kx (mvO ju) (kx (bEql E E) (kx (mvO E) (Rn (hN E hZ) fun nX jv=>sN (xx (sR ?_))))))))
  obtain rfl:=si h
  exact eR (resT jv res0) E
 obtain ⟨ae,eQ,h⟩:=bind_some h
 obtain ⟨⟨dF,jz⟩,eS,h⟩:=bind_some h
 obtain ⟨⟨aw,jA⟩,eT,h⟩:=bind_some h
 obtain ⟨⟨ax,jB⟩,eU,h⟩:=bind_some h
 obtain ⟨⟨jC,jD,jE⟩,eV,h⟩:=bind_some h
 obtain ⟨⟨jF,jG,jH⟩,eW,h⟩:=bind_some h
 obtain ⟨dG,b7,h⟩:=bind_some h
 refine cF dE bZ (xx (sN (sq (Rg (kx (mvO jr) (kx (faO dD az E) (kx (ldO E az E E E) (kx (lnS Try.underlying25 E) (kc (cl (v:=.int .i64 ae) E E (cns E (cns E (cns E E))) E (laws_a2At_ok a2 2 (ah.length:Int) _ eQ) nm) (kx (mvO E) (Rn (hV (.loc ([]:Mem).length 1 0 0) js (hV (.sl (some 36) (O.map Deal.c)) jt (hV (.loc ac.length 1 0 0) dD (hN E hZ)))) fun nY dH dI jI dJ=>sN (sq (Rg (kx (ldOA dH aA E E (ble E) E) (kx (mvO dI) (kx (mvO dJ) (kc (clO (v:=.tup [.sl none (dF.map (cI .i64)),.int .i64 jz]) E E (cns E (cns E (cns E E))) E (impl_HistoryOf_ok (Book.mk J Y aa) O ae _ eS)) (kx (mvO E) (kx (exT E E) (kx (exT E E) (kx (mvO E) (kx (mvO E) (Rn (hA dH (hA dI (hA jI (hA dJ (hN E (hN E hZ)))))) fun nZ dK dL jJ dM jK jL=>sN (sq (Rg (kx (ldOA dK aA E E (ble E) E) (kx (mvO dL) (kx (mvO dM) (kc (clO (v:=.tup [.sl none (aw.map (cI .i64)),.int .i64 jA]) E E (cns E (cns E (cns E E))) E (spec_HistoryOf_ok (Book.mk J Y aa) O ae _ eT)) (kx (mvO E) (kx (exT E E) (kx (exT E E) (kx (mvO E) (kx (mvO E) (Rn (hA dK (hA dL (hA jJ (hA dM (hA jK (hA jL (hN E (hN E hZ)))))))) fun n5 dN dO dP dQ jM jN jO jP=>sN (sq (Rg (kx (ldOA dN aA E E (ble E) E) (kx (mvO dO) (kx (mvO dQ) (kx (faO dP az E) (kx (ldO E az E E E) (kc (cl (v:=.tup [.int .i64 ax,.int .i64 jB]) E E (cns E (cns E (cns E (cns E E)))) E (impl_HolderOn_ok (Book.mk J Y aa) O ae af _ eU) nm) (kx (mvO E) (kx (exT E E) (kx (exT E E) (kx (mvO E) (kx (mvO E) (Rn (hA dN (hA dO (hA dP (hA dQ (hA jM (hA jN (hA jO (hA jP (hN E (hN E hZ)))))))))) fun n7 dR dS jQ dT jR jS jT jU jV jW=>sN (sq (Rg (kx (ldOA dR aA E E (ble E) E) (kx (mvO dS) (kx (mvO dT) (kc (cl (v:=.tup [.int .i64 jC,.int .i64 jD,.int .i64 jE]) E E (cns E (cns E (cns E E))) E (impl_LongestHeld_ok (Book.mk J Y aa) O ae _ eV) nm) (kx (mvO E) (kx (exT E E) (kx (exT E E) (kx (exT E E) (kx (mvO E) (kx (mvO E) (kx (mvO E) (Rn (hA dR (hA dS (hA jQ (hA dT (hA jR (hA jS (hA jT (hA jU (hA jV (hA jW (hN E (hN E (hN E hZ))))))))))))) fun oa dU dV jX dW jY jZ j7 j8 j9 ke kg kh ki=>sN (sq (Rg (kx (ldOA dU aA E E (ble E) E) (kx (mvO dV) (kx (mvO dW) (kc (cl (v:=.tup [.int .i64 jF,.int .i64 jG,.int .i64 jH]) E E (cns E (cns E (cns E E))) E (spec_LongestHeld_ok (Book.mk J Y aa) O ae _ eW) nm) (kx (mvO E) (kx (exT E E) (kx (exT E E) (kx (exT E E) (kx (mvO E) (kx (mvO E) (kx (mvO E) (Rn (hA dU (hA dV (hA jX (hA dW (hA jY (hA jZ (hA j7 (hA j8 (hA j9 (hA ke (hA kg (hA kh (hA ki (hN E (hN E (hN E hZ)))))))))))))))) fun oc aM bb aJ aN kj dX aO kl aP km ko kq dY kr cE ks=>sN (sq (sq ?_)))))))))))))))))))))))))))))))))))))))))))))))))))))))))))))))))))))))))))))))
 refine Ev.cut (Q1:=laws_FnDays_c4_Q J Y aa O af ai ah ae aw ax (([]:Mem).length) ac.length dG) (by
     have h:=b7
     refine Rg (kx (mvO dX) (kx (mvO kl) (kx (bNeq E E) (kx (mvO E) ?_))))
     rcases ite_some h with ⟨bo,h⟩ | ⟨bo,h⟩
     ·refine kx (gsF E bo) (kx (gsF E bo) (kx (pkT E bo E) (kx (mvO E) (kx (gsF E E) (kx (gsF E E) (kc (Ev.gsF E E) (kx (gsF E E) (kx (pkT E E E) (kx (mvO E) (kx (gsF E E) (kx (gsF E E) (kx (pkT E E E) (kx (mvO E) (kx (gsF E E) (kx (gsF E E) (kx (gsF E E) (kx (gsF E E) (kx (gsF E E) (kx (gsF E E) (kx (gsF E E) (kx (gsF E E) (kx (pkT E E E) (kx (mvO E) (kx (gsF E E) (kx (gsF E E) (kx (gsF E E) (kx (pkT E E E) (kx (mvO E) (kx (gsF E E) (kx (gsF E E) (kx (pkT E E E) (kx (mvO E) (kx (gsF E E) (kx (gsF E E) (kx (gsF E E) (kx (pkT E E E) (kx (mvO E) (kx (gsF E E) (kx (gsF E E) (kx (gsF E E) (kx (pkT E E E) (kx (mvO E) (kx (gsF E E) (kx (gsF E E) (kx (pkT E E E) (kx (mvO E) (kx (gsF E E) (kx (gsF E E) (kx (gsF E E) (kx (gsF E E) (kx (gsF E E) (kx (gsF E E) (kx (gsF E E) (kx (pkT E E E) (Rn (hA aM (hA bb (hA aJ (hA aN (hA aO (hA aP (hV (.bool true) E hZ))))))) fun od kv ky kz kA kC kD kE=>?_)))))))))))))))))))))))))))))))))))))))))))))))))))))))
      obtain rfl:=si h
      exact kd (show laws_FnDays_c4_Q J Y aa O af ai ah ae aw ax (([]:Mem).length) ac.length _ _ from ⟨E,kv,ky,kz,kA,kC,kD,kE,aA,az⟩)
     refine kx (guF E bo (mvO dX)) (kx (guF E bo (bNeq E E)) (kx (pkF E bo E) (kx (mvO E) ?_)))
     rcases ite_some h with ⟨aH,h⟩ | ⟨aH,h⟩
     ·refine kx (gsF E aH) (kx (gsF E aH) (kc (Ev.gsF E aH) (kx (gsF E aH) (kx (pkT E aH E) (kx (mvO E) (kx (gsF E E) (kx (gsF E E) (kx (pkT E E E) (kx (mvO E) (kx (gsF E E) (kx (gsF E E) (kx (gsF E E) (kx (gsF E E) (kx (gsF E E) (kx (gsF E E) (kx (gsF E E) (kx (gsF E E) (kx (pkT E E E) (kx (mvO E) (kx (gsF E E) (kx (gsF E E) (kx (gsF E E) (kx (pkT E E E) (kx (mvO E) (kx (gsF E E) (kx (gsF E E) (kx (pkT E E E) (kx (mvO E) (kx (gsF E E) (kx (gsF E E) (kx (gsF E E) (kx (pkT E E E) (kx (mvO E) (kx (gsF E E) (kx (gsF E E) (kx (gsF E E) (kx (pkT E E E) (kx (mvO E) (kx (gsF E E) (kx (gsF E E) (kx (pkT E E E) (kx (mvO E) (kx (gsF E E) (kx (gsF E E) (kx (gsF E E) (kx (gsF E E) (kx (gsF E E) (kx (gsF E E) (kx (gsF E E) (kx (pkT E E E) (Rn (hA aM (hA bb (hA aJ (hA aN (hA aO (hA aP (hV (.bool true) E hZ))))))) fun oe kF kG kH kJ kK kL kM=>?_)))))))))))))))))))))))))))))))))))))))))))))))))))
      obtain rfl:=si h
      exact kd (show laws_FnDays_c4_Q J Y aa O af ai ah ae aw ax (([]:Mem).length) ac.length _ _ from ⟨E,kF,kG,kH,kJ,kK,kL,kM,aA,az⟩)
     obtain ⟨kN,eX,h⟩:=bind_some h
     refine kx (guF E aH (mvO kj)) (kx (guF E aH (mvO aO)) (kc (Ev.guF E aH (cl (v:=.bool kN) E E (cns E (cns E E)) E (spec_A2Same_ok dF aw _ eX) nm)) (kx (guF E aH (uNot E)) (kx (pkF E aH E) (kx (mvO E) ?_)))))
     rcases ite_some h with ⟨bq,h⟩ | ⟨bq,h⟩
     ·refine kx (guF E (congrArg Bool.not bq) (mvO km)) (kx (guF E (congrArg Bool.not bq) (bNeq E E)) (kx (pkF E (congrArg Bool.not bq) E) (kx (mvO E) ?_)))
      rcases ite_some h with ⟨ao,h⟩ | ⟨ao,h⟩
      ·refine kx (gsF E ao) (kx (gsF E ao) (kx (gsF E ao) (kx (gsF E ao) (kx (gsF E ao) (kx (gsF E ao) (kx (gsF E ao) (kx (gsF E ao) (kx (pkT E ao E) (kx (mvO E) (kx (gsF E E) (kx (gsF E E) (kx (gsF E E) (kx (pkT E E E) (kx (mvO E) (kx (gsF E E) (kx (gsF E E) (kx (pkT E E E) (kx (mvO E) (kx (gsF E E) (kx (gsF E E) (kx (gsF E E) (kx (pkT E E E) (kx (mvO E) (kx (gsF E E) (kx (gsF E E) (kx (gsF E E) (kx (pkT E E E) (kx (mvO E) (kx (gsF E E) (kx (gsF E E) (kx (pkT E E E) (kx (mvO E) (kx (gsF E E) (kx (gsF E E) (kx (gsF E E) (kx (gsF E E) (kx (gsF E E) (kx (gsF E E) (kx (gsF E E) (kx (pkT E E E) (Rn (hA aM (hA bb (hA aJ (hA aN (hA aO (hA aP (hV (.bool true) E hZ))))))) fun og kO kP kQ kR kT kU kV=>?_)))))))))))))))))))))))))))))))))))))))))
       obtain rfl:=si h
       exact kd (show laws_FnDays_c4_Q J Y aa O af ai ah ae aw ax (([]:Mem).length) ac.length _ _ from ⟨E,kO,kP,kQ,kR,kT,kU,kV,aA,az⟩)
      obtain ⟨oi,eY,h⟩:=bind_some h
      refine kx (guF E ao (mvO aP)) (kx (guF E ao (faO aJ az E)) (kx (guF E ao (ldO E az E E E)) (kx (guF E ao (mvO aN)) (kx (guF E ao (ixS E E eY Tally.fl)) (kx (guF E ao (faP E ⟨ble E,blt E⟩ E)) (kx (guF E ao (ldP E E)) (kx (guF E ao (bNeq E E)) (kx (pkF E ao E) (kx (mvO E) ?_)))))))))
      rcases ite_some h with ⟨aT,h⟩ | ⟨aT,h⟩
      ·refine kx (gsF E aT) (kx (gsF E aT) (kx (gsF E aT) (kx (pkT E aT E) (kx (mvO E) (kx (gsF E E) (kx (gsF E E) (kx (pkT E E E) (kx (mvO E) (kx (gsF E E) (kx (gsF E E) (kx (gsF E E) (kx (pkT E E E) (kx (mvO E) (kx (gsF E E) (kx (gsF E E) (kx (gsF E E) (kx (pkT E E E) (kx (mvO E) (kx (gsF E E) (kx (gsF E E) (kx (pkT E E E) (kx (mvO E) (kx (gsF E E) (kx (gsF E E) (kx (gsF E E) (kx (gsF E E) (kx (gsF E E) (kx (gsF E E) (kx (gsF E E) (kx (pkT E E E) (Rn (hA aM (hA bb (hA aJ (hA aN (hA aO (hA aP (hV (.bool true) E hZ))))))) fun oj kW kX kY kZ k9 la lb=>?_)))))))))))))))))))))))))))))))
       obtain rfl:=si h
       exact kd (show laws_FnDays_c4_Q J Y aa O af ai ah ae aw ax (([]:Mem).length) ac.length _ _ from ⟨E,kW,kX,kY,kZ,k9,la,lb,aA,az⟩)
      refine kx (guF E aT (mvO dY)) (kx (guF E aT (mvO ks)) (kx (guF E aT (bNeq E E)) (kx (pkF E aT E) (kx (mvO E) ?_))))
      rcases ite_some h with ⟨bu,h⟩ | ⟨bu,h⟩
      ·refine kx (gsF E bu) (kx (gsF E bu) (kx (pkT E bu E) (kx (mvO E) (kx (gsF E E) (kx (gsF E E) (kx (gsF E E) (kx (pkT E E E) (kx (mvO E) (kx (gsF E E) (kx (gsF E E) (kx (gsF E E) (kx (pkT E E E) (kx (mvO E) (kx (gsF E E) (kx (gsF E E) (kx (pkT E E E) (kx (mvO E) (kx (gsF E E) (kx (gsF E E) (kx (gsF E E) (kx (gsF E E) (kx (gsF E E) (kx (gsF E E) (kx (gsF E E) (kx (pkT E E E) (Rn (hA aM (hA bb (hA aJ (hA aN (hA aO (hA aP (hV (.bool true) E hZ))))))) fun om lc ld le lg lh lj lm=>?_))))))))))))))))))))))))))
       obtain rfl:=si h
       exact kd (show laws_FnDays_c4_Q J Y aa O af ai ah ae aw ax (([]:Mem).length) ac.length _ _ from ⟨E,lc,ld,le,lg,lh,lj,lm,aA,az⟩)
      refine kx (guF E bu (mvO dY)) (kx (guF E bu (bNeq E E)) (kx (pkF E bu E) (kx (mvO E) ?_)))
      rcases ite_some h with ⟨aU,h⟩ | ⟨aU,h⟩
      ·refine kx (gsF E aU) (kx (gsF E aU) (kx (gsF E aU) (kx (pkT E aU E) (kx (mvO E) (kx (gsF E E) (kx (gsF E E) (kx (gsF E E) (kx (pkT E E E) (kx (mvO E) (kx (gsF E E) (kx (gsF E E) (kx (pkT E E E) (kx (mvO E) (kx (gsF E E) (kx (gsF E E) (kx (gsF E E) (kx (gsF E E) (kx (gsF E E) (kx (gsF E E) (kx (gsF E E) (kx (pkT E E E) (Rn (hA aM (hA bb (hA aJ (hA aN (hA aO (hA aP (hV (.bool true) E hZ))))))) fun oq ln lq lr lu lv lx ly=>?_))))))))))))))))))))))
       obtain rfl:=si h
       exact kd (show laws_FnDays_c4_Q J Y aa O af ai ah ae aw ax (([]:Mem).length) ac.length _ _ from ⟨E,ln,lq,lr,lu,lv,lx,ly,aA,az⟩)
      refine kx (guF E aU (mvO ko)) (kx (guF E aU (mvO kr)) (kx (guF E aU (bNeq E E)) (kx (pkF E aU E) (kx (mvO E) ?_))))
      rcases ite_some h with ⟨aV,h⟩ | ⟨aV,h⟩
      ·refine kx (gsF E aV) (kx (gsF E aV) (kx (gsF E aV) (kx (pkT E aV E) (kx (mvO E) (kx (gsF E E) (kx (gsF E E) (kx (pkT E E E) (kx (mvO E) (kx (gsF E E) (kx (gsF E E) (kx (gsF E E) (kx (gsF E E) (kx (gsF E E) (kx (gsF E E) (kx (gsF E E) (kx (pkT E E E) (Rn (hA aM (hA bb (hA aJ (hA aN (hA aO (hA aP (hV (.bool true) E hZ))))))) fun ot lz lA lB lC lD lE lF=>?_)))))))))))))))))
       obtain rfl:=si h
       exact kd (show laws_FnDays_c4_Q J Y aa O af ai ah ae aw ax (([]:Mem).length) ac.length _ _ from ⟨E,lz,lA,lB,lC,lD,lE,lF,aA,az⟩)
      refine kx (guF E aV (mvO kq)) (kx (guF E aV (mvO cE)) (kx (guF E aV (bNeq E E)) (kx (pkF E aV E) (kx (mvO E) ?_))))
      rcases ite_some h with ⟨bv,h⟩ | ⟨bv,h⟩
      ·refine kx (gsF E bv) (kx (gsF E bv) (kx (pkT E bv E) (kx (mvO E) (kx (gsF E E) (kx (gsF E E) (kx (gsF E E) (kx (gsF E E) (kx (gsF E E) (kx (gsF E E) (kx (gsF E E) (kx (pkT E E E) (Rn (hA aM (hA bb (hA aJ (hA aN (hA aO (hA aP (hV (.bool true) E hZ))))))) fun ou lG lH lI lJ lK lL lM=>?_))))))))))))
       obtain rfl:=si h
       exact kd (show laws_FnDays_c4_Q J Y aa O af ai ah ae aw ax (([]:Mem).length) ac.length _ _ from ⟨E,lG,lH,lI,lJ,lK,lL,lM,aA,az⟩)
      refine kx (guF E bv (mvO cE)) (kx (guF E bv (bLss E E)) (kx (pkF E bv E) (kx (mvO E) ?_)))
      rcases ite_some h with ⟨au,h⟩ | ⟨au,h⟩
      ·refine kx (gsF E au) (kx (gsF E au) (kx (gsF E au) (kx (gsF E au) (kx (gsF E au) (kx (gsF E au) (kx (gsF E au) (kx (pkT E au E) (Rn (hA aM (hA bb (hA aJ (hA aN (hA aO (hA aP (hV (.bool true) E hZ))))))) fun ov lN lO lP lQ lR lS lT=>?_))))))))
       obtain rfl:=si h
       exact kd (show laws_FnDays_c4_Q J Y aa O af ai ah ae aw ax (([]:Mem).length) ac.length _ _ from ⟨E,lN,lO,lP,lQ,lR,lS,lT,aA,az⟩)
      refine kx (guF E au (mvO cE)) (kx (guF E au (faO aJ az E)) (kx (guF E au (ldO E az E E E)) (kx (guF E au (faO aM aA E)) (kx (guF E au (ldO E aA E E E)) (kx (guF E au (bSub E E)) (kx (guF E au (bGtr E E)) (kx (pkF E au E) (Rn (hA aM (hA bb (hA aJ (hA aN (hA aO (hA aP (hN E hZ))))))) fun oz lU lV lW lX lY lZ l5=>?_))))))))
      obtain rfl:=si h
      exact kd (show laws_FnDays_c4_Q J Y aa O af ai ah ae aw ax (([]:Mem).length) ac.length _ _ from ⟨E,lU,lV,lW,lX,lY,lZ,l5,aA,az⟩)
     refine kx (gsF E (congrArg Bool.not bq)) (kx (gsF E (congrArg Bool.not bq)) (kx (pkT E (congrArg Bool.not bq) E) (kx (mvO E) (kx (gsF E E) (kx (gsF E E) (kx (gsF E E) (kx (gsF E E) (kx (gsF E E) (kx (gsF E E) (kx (gsF E E) (kx (gsF E E) (kx (pkT E E E) (kx (mvO E) (kx (gsF E E) (kx (gsF E E) (kx (gsF E E) (kx (pkT E E E) (kx (mvO E) (kx (gsF E E) (kx (gsF E E) (kx (pkT E E E) (kx (mvO E) (kx (gsF E E) (kx (gsF E E) (kx (gsF E E) (kx (pkT E E E) (kx (mvO E) (kx (gsF E E) (kx (gsF E E) (kx (gsF E E) (kx (pkT E E E) (kx (mvO E) (kx (gsF E E) (kx (gsF E E) (kx (pkT E E E) (kx (mvO E) (kx (gsF E E) (kx (gsF E E) (kx (gsF E E) (kx (gsF E E) (kx (gsF E E) (kx (gsF E E) (kx (gsF E E) (kx (pkT E E E) (Rn (hA aM (hA bb (hA aJ (hA aN (hA aO (hA aP (hV (.bool true) E hZ))))))) fun oA l6 l7 l8 l9 ma me mf=>?_)))))))))))))))))))))))))))))))))))))))))))))
     obtain rfl:=si h
     exact kd (show laws_FnDays_c4_Q J Y aa O af ai ah ae aw ax (([]:Mem).length) ac.length _ _ from ⟨E,l6,l7,l8,l9,ma,me,mf,aA,az⟩)) ?_
 revert h b7
 revert dG
 intro oB b7 h
 intro x oC oD eZ
 obtain ⟨rfl,mg,mh,mi,mj,ml,mm,dZ,d5,d6⟩:=eZ
 refine sN ?_
 rcases ite_some h with ⟨b8,h⟩ | ⟨b8,h⟩
 ·refine cT dZ b8 (sq (Rg (kx (mvO E) (Rn (hV (.bool false) E hZ) fun oE mn=>sN (xx (sR ?_))))))
  obtain rfl:=si h
  exact eR (resT mn res0) E
 obtain ⟨mo,cK,h⟩:=bind_some h
 refine cF dZ b8 (xx (sN (sq (sq (Rg (kx (mvO E) (Rn (hV (.loc ([]:Mem).length 1 0 0) mg (hV (.sl (some 36) (O.map Deal.c)) mh (hV (.loc ac.length 1 0 0) mi (hV (.int .i64 ae) mj (hV (.sl none (aw.map (cI .i64))) ml (hV (.int .i64 ax) mm (hV (.int .i64 0) E hZ))))))) fun oF d7 d8 d9 ea ed ee eo=>sN (bl ?_))))))))
 rcases mo with _ | _
 ·refine Ev.loop (RS:=laws_FnDays_b2_RS J Y aa O af ai ah ae aw ax (([]:Mem).length) ac.length) (RR:=laws_FnDays_b2_RR J Y aa O af ai ah ae aw ax (([]:Mem).length) ac.length) (fun s r h e M hs=>laws_FnDays_b2_ok J Y aa O af ai ah ae aw ax (([]:Mem).length) ac.length bW s r h e M hs) cK ⟨d7,d8,d9,ea,ed,ee,eo,d5,d6⟩ fun x oG oH b9=>?_
  obtain ⟨rfl,mp⟩:=b9
  refine bR (sR ?_)
  obtain rfl:=si h
  exact eR (resT mp res0) E
 refine Ev.loop (RS:=laws_FnDays_b2_RS J Y aa O af ai ah ae aw ax (([]:Mem).length) ac.length) (RR:=laws_FnDays_b2_RR J Y aa O af ai ah ae aw ax (([]:Mem).length) ac.length) (fun s r h e M hs=>laws_FnDays_b2_ok J Y aa O af ai ah ae aw ax (([]:Mem).length) ac.length bW s r h e M hs) cK ⟨d7,d8,d9,ea,ed,ee,eo,d5,d6⟩ fun x oI oJ b9=>?_
 obtain ⟨rfl,ep,mq,mu,oK,cG⟩:=b9
 obtain ⟨⟨eu,mv⟩,fa,h⟩:=bind_some h
 refine bE (sN (sq (Rg (kx (ldOA ep cG E E (ble E) E) (kx (mvO mu) (kc (clO (v:=.tup [.sl none (eu.map (cI .i64)),.int .i64 mv]) E E (cns E (cns E E)) E (impl_HoldsNow_ok (Book.mk af ai ah) ax _ fa)) (kx (mvO E) (kx (exT E E) (kx (exT E E) (kx (mvO E) (kx (mvO E) (Rn (hV (.loc ac.length 1 0 0) ep (hV (.int .i64 ae) mq (hN E (hN E hZ)))) fun oL mw ew my mz=>sN (sq (Rd (kf (mvO mz) (kf (bEql E E) (kf (mvO E) ?_)))))))))))))))))
 rcases ite_some h with ⟨ab,h⟩ | ⟨ab,h⟩
 ·obtain ⟨mA,fd,h⟩:=bind_some h
  obtain ⟨oM,ff,h⟩:=bind_some h
  refine kf (guT E ab (mvO my)) (kf (guT E ab (mvO ew)) (fc (Ev.guT E ab (cl (v:=.bool mA) E E (cns E (cns E E)) E (spec_A2Has_ok eu ae _ fd) nm)) (kf (guT E ab (faO mw cG E)) (kf (guT E ab (ldO E cG E E E)) (kf (guT E ab (mvO ew)) (kf (guT E ab (ixS E E ff Tally.fl)) (kf (guT E ab (faP E ⟨ble E,blt E⟩ E)) (kf (guT E ab (ldP E E)) (kf (guT E ab (bGtr E E)) (kf (guT E ab (oEql (by kernel_rfl) E E)) (kf (pkT E ab E) (kf (mvO E) (fZ (Rn (hN E hZ) fun oN mB=>sN (xx ?_)))))))))))))))
  obtain rfl:=si h
  exact eR (resT mB res0) E
 refine kf (gsT E ab) (kf (gsT E ab) (fc (Ev.gsT E ab) (kf (gsT E ab) (kf (gsT E ab) (kf (gsT E ab) (kf (gsT E ab) (kf (gsT E ab) (kf (gsT E ab) (kf (gsT E ab) (kf (gsT E ab) (kf (pkF E ab E) (kf (mvO E) (fZ (Rn (hV (.bool false) E hZ) fun oO mC=>sN (xx ?_)))))))))))))))
 obtain rfl:=si h
 exact eR (resT mC res0) E
end Go.Proofs.Ytjlalepbhcekoaa
