/- Printed by a program of ours (ext.py). -/
import Derived.Test.YtjlalepbhcekoaaLnkDaysx0
set_option linter.unusedVariables false
set_option linter.unusedSimpArgs false
set_option maxRecDepth 100000
set_option maxHeartbeats 20000000
namespace Go.Proofs.Ytjlalepbhcekoaa
open Go Go.Ab
abbrev spec_l07All_b1_S:=Int×Int×(List Int)×(List Tally)×(List Book)
abbrev spec_l07All_b1_R:=(Int×Int)⊕(Int×(List Int)×(List Tally)×(List Book))
def spec_l07All_b1_RS (a2:List Deal) (J:Nat) (O:Nat) (s:spec_l07All_b1_S) (e:Env) (M:Mem):Prop:=eget e 1 = .sl none (a2.map Deal.c)∧eget e 7 = .lsl J s.2.2.2.2.length 0 s.2.2.2.2.length∧eget e 8 = .loc O 1 0 0∧eget e 9 = .int .i64 s.1∧M[O]? = some (.live ⟨.box,27,3,[[.int .i64 s.2.1,.sl none (s.2.2.1.map (cI .i64)),.sl none (s.2.2.2.1.map Tally.c)]]⟩)∧M[J]? = some (.live ⟨.grow,27,3,s.2.2.2.2.map Book.c⟩)
def spec_l07All_b1_RR (a2:List Deal) (J:Nat) (O:Nat) (r:spec_l07All_b1_R) (x:Ex) (e:Env) (M:Mem):Prop:=
  match r with
  | (.inl g)=>x = .ret∧eget e 4 = .lit 27 (([]:List Book).map Book.c)∧eget e 5 = .int .i64 g.1∧eget e 6 = .int .i64 g.2
  | (.inr g)=>x = .ext 0∧eget e 7 = .lsl J g.2.2.2.length 0 g.2.2.2.length∧M[O]? = some (.live ⟨.box,27,3,[[.int .i64 g.1,.sl none (g.2.1.map (cI .i64)),.sl none (g.2.2.1.map Tally.c)]]⟩)∧M[J]? = some (.live ⟨.grow,27,3,g.2.2.2.map Book.c⟩)
noncomputable def spec_l07All_b1 (a2:List Deal):spec_l07All_b1_S→Option (spec_l07All_b1_S⊕spec_l07All_b1_R):=fun (J,O,Y,aa,ab)=>
 if (decide (J < (a2.length:Int)))=true then
  (rd a2 J).bind fun ao=>
  (spec_l07Do (Book.mk O Y aa) ao).bind fun r=>match r with
  | (.inl ah)=>
   if (ah != 0)=true then
    some (.inr (.inl (ah,J)))
   else
    none
  | (.inr (ac,ae,af))=>
   (app 56 ab [(Book.mk ac ae af)]).bind fun ai=>
   some (.inl ((IntKind.i64.wrap (J + 1)),ac,ae,af,ai))
 else
  some (.inr (.inr (O,Y,aa,ab)))
theorem spec_l07All_b1_ok (a2:List Deal) (J:Nat) (O:Nat) (aw:J≠O) (s:spec_l07All_b1_S) (r:spec_l07All_b1_S⊕spec_l07All_b1_R) (h:spec_l07All_b1 a2 s=some r) (e:Env) (M:Mem) (hs:spec_l07All_b1_RS a2 J O s e M):Ev (fun k=>(f64_l4 (CN k) k (prune [1,7,8,9] e) M).bind fun q=>some q) (bQ (spec_l07All_b1_RS a2 J O) (spec_l07All_b1_RR a2 J O) r):=by
 obtain ⟨bz,aE,aF,aG,aH⟩:=s
 unfold spec_l07All_b1 at h
 obtain ⟨cM,cN,cO,cQ,Y,au⟩:=hs
 generalize aa:prune [1,7,8,9] e=dD
 have bi:=envp aa.symm E cM
 have cR:=envp aa.symm E cN
 have cU:=envp aa.symm E cO
 have bj:=envp aa.symm E cQ
 refine sq (sq (Rg (kx (mvO bj) (kx (mvO bi) (kx (lnS Try.underlying28 E) (kx (bLss E E) (Rn (hV (.sl none (a2.map Deal.c)) bi (hV (.lsl J aH.length 0 aH.length) cR (hV (.loc O 1 0 0) cU (hV (.int .i64 bz) bj (hN E hZ))))) fun dE aI aJ aB aK bm=>sN ?_)))))))
 rcases ite_some h with ⟨ax,h⟩ | ⟨ax,h⟩
 ·obtain ⟨bo,bA,h⟩:=bind_some h
  obtain ⟨bB,aL,h⟩:=bind_some h
  refine cT bm ax (xx (sN (sq (bl (sq (Rg (kx (mvO aI) (kx (mvO aK) (kx (ixS E E bA Deal.fl) ?_)))))))))
  rcases bB with cV | ⟨ab,ac,ae⟩
  ·refine kc (cl (v:=.tup [.agg [.int .i64 0,.nils,.nils],.int .i64 cV]) E E (cns aB (cns E E)) (ra1 (ra1_loc Y E E E ⟨E,blt E⟩) (ra1 E ra0)) (spec_l07Do_ok (Book.mk aE aF aG) bo _ aL) (fun _=>(own_tup (oa1 (own2_agg (oa1 E (oa1 E (oa1 E oa0)))) (oa1 E oa0))))) (kx (mvO E) (kx (exT E E) (kx (exT E E) (ku (alO zero27) fun cW ay=>?_))))
   have cX:=push_old ay au
   have bC:=ne_new au
   have cY:=push_old ay Y
   have aM:=ne_new Y
   have bq:cW[M.length]? = some (.live ⟨.box,27,3,[[.int .i64 0,.nils,.nils]]⟩):=push_new ay
   refine kw (stO E E bq E E ⟨E,ble E⟩ E E) fun cZ az=>?_
   have da:=set_ne az bC cX
   have bu:=set_ne az aM cY
   have bv:cZ[M.length]? = some (.live ⟨.box,27,3,[[.int .i64 0,.nils,.nils]]⟩):=set_same az bq
   refine kx (mvO E) (Rn (hA aI (hA aJ (hA aB (hA aK (hV (.loc M.length 1 0 0) E (hN E hZ)))))) fun dF db dc de df dg bw=>sN (sq (sq (Rg (kx (mvO bw) (kx (bNeq E E) (Rn (hA db (hA dc (hA de (hA df (hA dg (hA bw (hN E hZ))))))) fun dG di dj aN aO bD bF aP=>sN ?_)))))))
   rcases ite_some h with ⟨af,h⟩ | ⟨af,h⟩
   ·refine cT aP af (sq (Rg (kx (litI E E ⟨E,by decide⟩) (kx (mvO bF) (kx (mvO aO) (kx (mvO E) (kx (mvO E) (kx (mvO E) (Rn (hN E (hN E (hN E hZ))) fun dk bG bH bI=>sN (xx (sR (bR (sR ?_)))))))))))))
    obtain rfl:=si h
    exact qR ⟨E,bG,bH,bI⟩
   refine cF aP af (xx (sN (sq (Rg (kx (ldOA bD bv E E (ble E) E) (kw (stO aN E bu E E ⟨E,ble E⟩ E E) fun bJ ah=>?_))))))
   have dl:=set_ne ah aw da
   have bK:bJ[O]? = some (.live ⟨.box,27,3,[[.int .i64 0,.nils,.nils]]⟩):=set_same ah bu
   have dm:=set_ne ah (Ne.symm aM) bv
   refine Rn (hA di (hA dj (hA aN (hA aO hZ)))) fun dn dp bL bM dq=>sN (Rg (kx (mvO bL) (kx (ldOA bM bK E E (ble E) E) ?_)))
   cases h
  refine kc (cl (v:=.tup [.agg [.int .i64 ab,.sl (some 2) (ac.map (cI .i64)),.sl (some 49) (ae.map Tally.c)],.int .i64 0]) E E (cns aB (cns E E)) (ra1 (ra1_loc Y E E E ⟨E,blt E⟩) (ra1 E ra0)) (spec_l07Do_ok (Book.mk aE aF aG) bo _ aL) (fun _=>(own_tup (oa1 (own2_agg (oa1 E (oa1 (own1_row' (c:=(cI .i64)) (fun _=>E)) (oa1 (own1_row' (c:=Tally.c) Tally.flF) oa0)))) (oa1 E oa0))))) (kx (mvO E) (kx (exT E E) (kx (exT E E) (ku (alO zero27) fun bP ai=>?_))))
  have bS:=push_old ai au
  have bb:=ne_new au
  have bT:=push_old ai Y
  have aC:=ne_new Y
  have aR:bP[M.length]? = some (.live ⟨.box,27,3,[[.int .i64 0,.nils,.nils]]⟩):=push_new ai
  refine kw (stO E E aR E E ⟨E,ble E⟩ E E) fun bU ao=>?_
  have bV:=set_ne ao bb bS
  have aS:=set_ne ao aC bT
  have aT:bU[M.length]? = some (.live ⟨.box,27,3,[[.int .i64 ab,.sl none (ac.map (cI .i64)),.sl none (ae.map Tally.c)]]⟩):=set_same ao aR
  refine kx (mvO E) (Rn (hA aI (hA aJ (hA aB (hA aK (hV (.loc M.length 1 0 0) E (hV (.int .i64 0) E hZ)))))) fun dt bW bX bY bZ b7 aU=>sN (sq (sq (Rg (kx (mvO aU) (kx (bNeq E E) (Rn (hA bW (hA bX (hA bY (hA bZ (hA b7 (hA aU (hV (.bool false) E hZ))))))) fun du b8 b9 aV cb cd dw cf=>sN (cF cf E (xx (sN (sq (Rg (kx (ldOA cd aT E E (ble E) E) (kw (stO aV E aS E E ⟨E,ble E⟩ E E) fun cg aq=>?_))))))))))))))
  have aZ:=set_ne aq aw bV
  have a8:cg[O]? = some (.live ⟨.box,27,3,[[.int .i64 ab,.sl none (ac.map (cI .i64)),.sl none (ae.map Tally.c)]]⟩):=set_same aq aS
  have dx:=set_ne aq (Ne.symm aC) aT
  obtain ⟨aA,bf,h⟩:=bind_some h
  refine Rn (hA b8 (hA b9 (hA aV (hA cb hZ)))) fun dz ci cj ba cm=>sN (Rg (kx (mvO cj) (kx (ldOA ba a8 E E (ble E) E) (kx (litI (cns E E) E ⟨E,by decide⟩) (kw (apO E aZ E (elT (c:=Book.c) (xs:=[(Book.mk ab ac ae)]) E) bf Book.fl (by decide)) fun cq aD=>?_)))))
  have cr:cq[J]? = some (.live ⟨.grow,27,3,aA.map Book.c⟩):=set_same aD aZ
  have ct:=set_ne aD (Ne.symm aw) a8
  refine kx (mvO E) (Rn (hA ci (hV (.lsl J aA.length 0 aA.length) E (hA ba (hA cm hZ)))) fun dA cw cC cD cE=>bN (sN (Rg (kx (mvO cE) (kx (bAdd E E) (kx (mvO E) (Rn (hA cw (hA cC (hA cD (hN E hZ)))) fun dC cG cH cJ cK=>?_)))))))
  obtain rfl:=si h
  exact qN ⟨cG,cH,cJ,cK,ct,cr⟩
 refine cF bm ax (xx (sE ?_))
 obtain rfl:=si h
 exact qE ⟨E,aJ,Y,au⟩
noncomputable def spec_l07All (a1:Book) (a2:List Deal):Option ((List Book)×Int×Int):=
 (spec_l07Copy a1).bind fun (aa,ab,ac)=>
 (Lw (spec_l07All_b1 a2) (0,aa,ab,ac,([]:List Book))).bind fun r=>match r with
 | (.inl (J,O))=>
  some (([]:List Book),J,O)
 | (.inr (ae,af,ah,Y))=>
  some (Y,0,0)
def spec_l07All_enc (r:(List Book)×Int×Int):AV:=.tup [.sl (some 27) (r.1.map Book.c),.int .i64 r.2.1,.int .i64 r.2.2]
theorem spec_l07All_ok (a1:Book) (a2:List Deal) (r:(List Book)×Int×Int) (h:spec_l07All a1 a2=some r):Ev (fun k=>CN k 64 [.pt none [.int .i64 a1.Day,.sl none (a1.Cash.map (cI .i64)),.sl none (a1.Tallies.map Tally.c)],.sl none (a2.map Deal.c)] []) (fun p=>rRes p.2 p.1=spec_l07All_enc r):=by
 unfold spec_l07All at h
 refine Ev.enter (F:=fun k=>f64 (CN k) k) (fun k=>callN_eq E Try.func64 E E E (by decide +kernel) (f64_eq _ _)) (sq (Rg (kx (mvO E) (kx (mvO E) (kx (mvO E) (Rn (hN E (hN E hZ)) fun e1 h3 h4=>sN (sq (Rg (ku (litO (xs:=([]:List Book)) (c:=Book.c) E E (by decide)) fun M6 aJ=>?_)))))))))
 have o8:M6[([]:Mem).length]? = some (.live ⟨.grow,27,3,([]:List Book).map Book.c⟩):=push_new aJ
 obtain ⟨⟨ae,af,ah⟩,az,h⟩:=bind_some h
 refine kx (mvO E) (Rn (hA h3 (hA h4 (hV (.lsl ([]:Mem).length ([]:List Book).length 0 ([]:List Book).length) E hZ))) fun e9 aK aL aM=>sN (sq (Rg (kx (mvO aK) (kc (cl (v:=.agg [.int .i64 ae,.sl (some 2) (af.map (cI .i64)),.sl (some 49) (ah.map Tally.c)]) E E (cns E E) E (spec_l07Copy_ok a1 _ az) nm) (ku (alO zero27) fun aN aa=>?_))))))
 have aO:=push_old aa o8
 have O:=ne_new o8
 have ai:aN[M6.length]? = some (.live ⟨.box,27,3,[[.int .i64 0,.nils,.nils]]⟩):=push_new aa
 refine kw (stO E E ai E E ⟨E,ble E⟩ E E) fun aP ab=>?_
 have ao:=set_ne ab O aO
 have aq:aP[M6.length]? = some (.live ⟨.box,27,3,[[.int .i64 ae,.sl none (af.map (cI .i64)),.sl none (ah.map Tally.c)]]⟩):=set_same ab ai
 obtain ⟨aA,Y,h⟩:=bind_some h
 refine Rn (hA aL (hA aM (hV (.loc M6.length 1 0 0) E hZ))) fun bq aR aS aT=>sN (sq (sq (Rg (kx (mvO E) (Rn (hA aR (hA aS (hA aT (hV (.int .i64 0) E hZ)))) fun bu au aw ax ay=>sN (bl ?_))))))
 rcases aA with ⟨aU,aV⟩ | ⟨aZ,a8,ba,ac⟩
 ·refine Ev.loop (RS:=spec_l07All_b1_RS a2 (([]:Mem).length) M6.length) (RR:=spec_l07All_b1_RR a2 (([]:Mem).length) M6.length) (fun s r h e M hs=>spec_l07All_b1_ok a2 (([]:Mem).length) M6.length O s r h e M hs) Y ⟨au,aw,ax,ay,aq,ao⟩ fun x bb bf J=>?_
  obtain ⟨rfl,aB,aC,aD⟩:=J
  refine bR (sR ?_)
  obtain rfl:=si h
  exact eR (resT aB (resT aC (resT aD res0))) E
 refine Ev.loop (RS:=spec_l07All_b1_RS a2 (([]:Mem).length) M6.length) (RR:=spec_l07All_b1_RR a2 (([]:Mem).length) M6.length) (fun s r h e M hs=>spec_l07All_b1_ok a2 (([]:Mem).length) M6.length O s r h e M hs) Y ⟨au,aw,ax,ay,aq,ao⟩ fun x bi bj J=>?_
 obtain ⟨rfl,aE,bm,aF⟩:=J
 refine bE (sN (sq (Rg (kx (mvO aE) (kx (mvO E) (kx (mvO E) (kx (mvO E) (Rn (hV (.lsl ([]:Mem).length ac.length 0 ac.length) E (hV (.int .i64 0) E (hV (.int .i64 0) E hZ))) fun bo aG aH aI=>sN (xx ?_)))))))))
 obtain rfl:=si h
 exact eR (resT aG (resT aH (resT aI res0))) (rr_tup (mp1 (rr_row aF E Book.fl) (mp1 E (mp1 E mp0))))
noncomputable def spec_l07Known (a1:Book) (a2:List Deal) (a3:Int):Option ((List Book)×Int):=
 (spec_l07Asked a1 a2).bind fun r7=>
 if (r7 != 0)=true then
  some (([]:List Book),r7)
 else
  (spec_l07All a1 a2).bind fun (Y,O,ah)=>
  if (O != 0)=true then
   some (([]:List Book),O)
  else
   (spec_l07Copy a1).bind fun (aa,ab,ac)=>
   (app 56 [(Book.mk aa ab ac)] Y).bind fun J=>
   (rd J (IntKind.i64.wrap ((J.length:Int) - 1))).bind fun ae=>
   (spec_l00In a3 0 (IntKind.i64.wrap ((ae.Tallies.length:Int) - 1))).bind fun af=>
   if af=true then
    some (J,0)
   else
    some (([]:List Book),6)
def spec_l07Known_enc (r:(List Book)×Int):AV:=.tup [.sl (some 27) (r.1.map Book.c),.int .i64 r.2]
theorem spec_l07Known_ok (a1:Book) (a2:List Deal) (a3:Int) (r:(List Book)×Int) (h:spec_l07Known a1 a2 a3=some r):Ev (fun k=>CN k 67 [.pt none [.int .i64 a1.Day,.sl none (a1.Cash.map (cI .i64)),.sl none (a1.Tallies.map Tally.c)],.sl none (a2.map Deal.c),.int .i64 a3] []) (fun p=>rRes p.2 p.1=spec_l07Known_enc r):=by
 unfold spec_l07Known at h
 obtain ⟨r7,aB,h⟩:=bind_some h
 refine Ev.enter (F:=fun k=>f67 (CN k) k) (fun k=>callN_eq E Try.func67 E E E (by decide +kernel) (f67_eq _ _)) (sq (Rg (kx (mvO E) (kx (mvO E) (Rn (hN E (hN E (hN E hZ))) fun e1 h3 h4 h5=>sN (sq (sq (Rg (kx (mvO h3) (kx (mvO h4) (kc (cl (v:=.int .i64 r7) E E (cns E (cns E E)) E (spec_l07Asked_ok a1 a2 _ aB) nm) (kx (mvO E) (Rn (hA h3 (hA h4 (hA h5 (hN E hZ)))) fun e8 aC aD aE ab=>sN (sq (Rg (kx (mvO ab) (kx (bNeq E E) (Rn (hA aC (hA aD (hA aE (hA ab (hN E hZ))))) fun bq ac aF aG aH ae=>sN ?_))))))))))))))))))
 rcases ite_some h with ⟨J,h⟩ | ⟨J,h⟩
 ·refine cT ae J (sq (Rg (kx (litI E E ⟨E,by decide⟩) (kx (mvO aH) (kx (mvO E) (kx (mvO E) (Rn (hN E (hN E hZ)) fun bu aI aJ=>sN (xx (sR ?_)))))))))
  obtain rfl:=si h
  exact eR (resT aI (resT aJ res0)) E
 obtain ⟨⟨aK,aL,aM⟩,aw,h⟩:=bind_some h
 refine cF ae J (xx (sN (sq (Rg (kx (mvO ac) (kx (mvO aF) (kc (cl (v:=.tup [.sl (some 27) (aK.map Book.c),.int .i64 aL,.int .i64 aM]) E E (cns E (cns E E)) E (spec_l07All_ok a1 a2 _ aw) nm) (kx (mvO E) (kx (exT E E) (kx (exT E E) (kx (exT E E) (kx (mvO E) (kx (mvO E) (kx (mvO E) (Rn (hA ac (hA aG (hN E (hN E hZ)))) fun bv aN aO aP af=>sN (sq (sq (Rg (kx (mvO af) (kx (bNeq E E) (Rn (hA aN (hA aO (hA aP (hA af (hN E hZ))))) fun bw aR aS aT aU ah=>sN ?_)))))))))))))))))))))
 rcases ite_some h with ⟨O,h⟩ | ⟨O,h⟩
 ·refine cT ah O (sq (Rg (kx (litI E E ⟨E,by decide⟩) (kx (mvO aU) (kx (mvO E) (kx (mvO E) (Rn (hN E (hN E hZ)) fun bz aV aZ=>sN (xx (sR ?_)))))))))
  obtain rfl:=si h
  exact eR (resT aV (resT aZ res0)) E
 obtain ⟨⟨ai,ao,aq⟩,ax,h⟩:=bind_some h
 obtain ⟨bA,ay,h⟩:=bind_some h
 obtain ⟨a8,az,h⟩:=bind_some h
 obtain ⟨ba,aA,h⟩:=bind_some h
 refine cF ah O (xx (sN (sq (Rg (kx (mvO aR) (kc (cl (v:=.agg [.int .i64 ai,.sl (some 2) (ao.map (cI .i64)),.sl (some 49) (aq.map Tally.c)]) E E (cns E E) E (spec_l07Copy_ok a1 _ ax) nm) (kx (litI (cns E E) E ⟨E,by decide⟩) (kx (mvO aT) (kx (aiT (c:=Book.c) (xs:=[(Book.mk ai ao aq)]) E (elS E) ay Book.fl (by decide)) (kx (mvO E) (Rn (hA aS (hN E hZ)) fun bB bb aa=>sN (sq (sq (Rg (kx (mvO bb) (kx (mvO aa) (kx (mvO aa) (kx (lnS Try.underlying94 E) (kx (bSub E E) (kx (ixS E E az Book.fl) (kx (faP E ⟨ble E,blt E⟩ E) (kx (ldP E E) (kx (lnS Try.underlying25 E) (kx (bSub E E) (kc (cl (v:=.bool ba) E E (cns E (cns E (cns E E))) E (spec_l00In_ok a3 0 (IntKind.i64.wrap ((a8.Tallies.length:Int) - 1)) _ aA) nm) (kx (uNot E) (Rn (hA aa (hN E hZ)) fun bC bf au=>sN ?_)))))))))))))))))))))))))))
 rcases ite_some h with ⟨Y,h⟩ | ⟨Y,h⟩
 ·refine cF au (congrArg Bool.not Y) (xx (sN (sq (Rg (kx (mvO bf) (kx (mvO E) (kx (mvO E) (Rn (hN E (hV (.int .i64 0) E hZ)) fun bD bi bj=>sN (xx ?_)))))))))
  obtain rfl:=si h
  exact eR (resT bi (resT bj res0)) E
 refine cT au (congrArg Bool.not Y) (sq (Rg (kx (litI E E ⟨E,by decide⟩) (kx (mvO E) (kx (mvO E) (Rn (hN E (hV (.int .i64 6) E hZ)) fun bF bm bo=>sN (xx (sR ?_))))))))
 obtain rfl:=si h
 exact eR (resT bm (resT bo res0)) E
abbrev impl_arePeople_b1_S:=Int
abbrev impl_arePeople_b1_R:=Unit⊕Unit
def impl_arePeople_b1_RS (a1:Int) (a2:List Int) (s:impl_arePeople_b1_S) (e:Env) (M:Mem):Prop:=eget e 0 = .int .i64 a1∧eget e 7 = .sl none (a2.map (cI .i64))∧eget e 8 = .int .i64 (a2.length:Int)∧eget e 9 = .int .i64 s
def impl_arePeople_b1_RR (a1:Int) (a2:List Int) (r:impl_arePeople_b1_R) (x:Ex) (e:Env) (M:Mem):Prop:=
  match r with
  | (.inl g)=>x = .ret∧eget e 4 = .bool false
  | (.inr g)=>x = .ext 0∧True
noncomputable def impl_arePeople_b1 (a1:Int) (a2:List Int):impl_arePeople_b1_S→Option (impl_arePeople_b1_S⊕impl_arePeople_b1_R):=fun J=>
 if (decide (J < (a2.length:Int)))=true then
  (rd a2 J).bind fun O=>
  if (decide (O < 0))=true then
   some (.inr (.inl ()))
  else
   if (decide (O≥a1))=true then
    some (.inr (.inl ()))
   else
    some (.inl (IntKind.i64.wrap (J + 1)))
 else
  some (.inr (.inr ()))
theorem impl_arePeople_b1_ok (a1:Int) (a2:List Int) (s:impl_arePeople_b1_S) (r:impl_arePeople_b1_S⊕impl_arePeople_b1_R) (h:impl_arePeople_b1 a1 a2 s=some r) (e:Env) (M:Mem) (hs:impl_arePeople_b1_RS a1 a2 s e M):Ev (fun k=>(f61_l2 (CN k) k (prune [0,7,8,9] e) M).bind fun q=>some q) (bQ (impl_arePeople_b1_RS a1 a2) (impl_arePeople_b1_RR a1 a2) r):=by
 revert h hs
 revert s
 intro ay h hs
 unfold impl_arePeople_b1 at h
 obtain ⟨aA,aB,aC,aD⟩:=hs
 generalize O:prune [0,7,8,9] e=aU
 have aE:=envp O.symm E aA
 have aF:=envp O.symm E aB
 have ac:=envp O.symm E aC
 have ae:=envp O.symm E aD
 refine sq (Rg (kx (bLss ae ac) (Rn (hV (.int .i64 a1) aE (hV (.sl none (a2.map (cI .i64))) aF (hV (.int .i64 (a2.length:Int)) ac (hV (.int .i64 ay) ae (hN E hZ))))) fun aV aG af aH ah ai=>sN (sq ?_))))
 rcases ite_some h with ⟨Y,h⟩ | ⟨Y,h⟩
 ·obtain ⟨aZ,az,h⟩:=bind_some h
  refine cT ai Y (xx (sN (sq (bl (sq (Rg (kx (ixS af ah az (cI_fl _)) (kx (ldP E E) (kx (mvO E) (Rn (hA aG (hN E (hA af (hA aH (hA ah hZ))))) fun a8 ab ao aq au aw=>sN (sq (Rg (kx (mvO ao) (kx (bLss E E) (kx (mvO E) ?_)))))))))))))))
  rcases ite_some h with ⟨J,h⟩ | ⟨J,h⟩
  ·refine kx (gsF E J) (kx (gsF E J) (kx (gsF E J) (kx (pkT E J E) (Rn (hA ab (hA aq (hA au (hA aw (hV (.bool true) E hZ))))) fun ba bb bf bi bj aI=>sN (cT aI E (sq (Rg (kx (mvO E) (Rn (hV (.bool false) E hZ) fun bm aJ=>sN (xx (bR (sR ?_))))))))))))
   obtain rfl:=si h
   exact qR ⟨E,aJ⟩
  refine kx (guF E J (mvO ao)) (kx (guF E J (mvO ab)) (kx (guF E J (bGeq E E)) (kx (pkF E J E) (Rn (hA ab (hA aq (hA au (hA aw (hN E hZ))))) fun bo aK aL aM aN ax=>sN ?_))))
  rcases ite_some h with ⟨aa,h⟩ | ⟨aa,h⟩
  ·refine cT ax aa (sq (Rg (kx (mvO E) (Rn (hV (.bool false) E hZ) fun bq aO=>sN (xx (bR (sR ?_)))))))
   obtain rfl:=si h
   exact qR ⟨E,aO⟩
  refine cF ax aa (xx (bN (sN (Rg (kx (bAdd aN E) (kx (mvO E) (Rn (hA aK (hA aL (hA aM (hN E hZ)))) fun bu aP aR aS aT=>?_)))))))
  obtain rfl:=si h
  exact qN ⟨aP,aR,aS,aT⟩
 refine cF ai Y (xx (sE ?_))
 obtain rfl:=si h
 exact qE ⟨E,trivial⟩
noncomputable def impl_arePeople (a1:Int) (a2:List Int):Option Bool:=
 (Lw (impl_arePeople_b1 a1 a2) 0).bind fun r=>match r with
 | (.inl _)=>
  some false
 | (.inr _)=>
  some true
def impl_arePeople_enc (r:Bool):AV:=.bool r
theorem impl_arePeople_ok (a1:Int) (a2:List Int) (r:Bool) (h:impl_arePeople a1 a2=some r):Ev (fun k=>CN k 61 [.int .i64 a1,.sl none (a2.map (cI .i64))] []) (fun p=>rRes p.2 p.1=impl_arePeople_enc r):=by
 unfold impl_arePeople at h
 obtain ⟨aa,O,h⟩:=bind_some h
 refine Ev.enter (F:=fun k=>f61 (CN k) k) (fun k=>callN_eq E Try.func61 E E E (by decide +kernel) (f61_eq _ _)) (sq (Rg (kx (mvO E) (Rn (hN E (hN E hZ)) fun e1 h3 h4=>sN (sq (sq (Rg (kx (mvO h4) (kx (lnS Try.underlying24 E) (kx (mvO E) (Rn (hA h3 (hN E (hN E (hV (.int .i64 0) E hZ)))) fun e5 h7 h8 h9 Y=>sN (bl ?_))))))))))))
 rcases aa with _ | _
 ·refine Ev.loop (RS:=impl_arePeople_b1_RS a1 a2) (RR:=impl_arePeople_b1_RR a1 a2) (fun s r h e M hs=>impl_arePeople_b1_ok a1 a2 s r h e M hs) O ⟨h7,h8,h9,Y⟩ fun x ae af J=>?_
  obtain ⟨rfl,ab⟩:=J
  refine bR (sR ?_)
  obtain rfl:=si h
  exact eR (resT ab res0) E
 refine Ev.loop (RS:=impl_arePeople_b1_RS a1 a2) (RR:=impl_arePeople_b1_RR a1 a2) (fun s r h e M hs=>impl_arePeople_b1_ok a1 a2 s r h e M hs) O ⟨h7,h8,h9,Y⟩ fun x ah ai J=>?_
 obtain ⟨rfl,_⟩:=J
 refine bE (sN (sq (Rg (kx (mvO E) (Rn (hV (.bool true) E hZ) fun ao ac=>sN (xx ?_))))))
 obtain rfl:=si h
 exact eR (resT ac res0) E
def impl_ValidBook_c1_Q (a1:Book) (g:Bool) (q:Out):Prop:=q.1 = .nrm∧eget q.2.1 1 = .pt none [.int .i64 a1.Day,.sl none (a1.Cash.map (cI .i64)),.sl none (a1.Tallies.map Tally.c)]∧eget q.2.1 3 = .int .i64 (a1.Cash.length:Int)∧eget q.2.1 29 = .bool g
abbrev impl_ValidBook_b1_S:=Int
abbrev impl_ValidBook_b1_R:=Unit⊕Unit
def impl_ValidBook_b1_RS (a1:Book) (s:impl_ValidBook_b1_S) (e:Env) (M:Mem):Prop:=eget e 1 = .pt none [.int .i64 a1.Day,.sl none (a1.Cash.map (cI .i64)),.sl none (a1.Tallies.map Tally.c)]∧eget e 3 = .int .i64 (a1.Cash.length:Int)∧eget e 31 = .sl none (a1.Cash.map (cI .i64))∧eget e 32 = .int .i64 (a1.Cash.length:Int)∧eget e 33 = .int .i64 s
def impl_ValidBook_b1_RR (a1:Book) (r:impl_ValidBook_b1_R) (x:Ex) (e:Env) (M:Mem):Prop:=
  match r with
  | (.inl g)=>x = .ret∧eget e 2 = .bool false
  | (.inr g)=>x = .ext 0∧eget e 1 = .pt none [.int .i64 a1.Day,.sl none (a1.Cash.map (cI .i64)),.sl none (a1.Tallies.map Tally.c)]∧eget e 3 = .int .i64 (a1.Cash.length:Int)
noncomputable def impl_ValidBook_b1 (a1:Book):impl_ValidBook_b1_S→Option (impl_ValidBook_b1_S⊕impl_ValidBook_b1_R):=fun J=>
 if (decide (J < (a1.Cash.length:Int)))=true then
  (rd a1.Cash J).bind fun O=>
  (impl_isAmount O).bind fun Y=>
  if Y=true then
   some (.inl (IntKind.i64.wrap (J + 1)))
  else
   some (.inr (.inl ()))
 else
  some (.inr (.inr ()))
theorem impl_ValidBook_b1_ok (a1:Book) (s:impl_ValidBook_b1_S) (r:impl_ValidBook_b1_S⊕impl_ValidBook_b1_R) (h:impl_ValidBook_b1 a1 s=some r) (e:Env) (M:Mem) (hs:impl_ValidBook_b1_RS a1 s e M):Ev (fun k=>(f26_l5 (CN k) k (prune [1,3,31,32,33] e) M).bind fun q=>some q) (bQ (impl_ValidBook_b1_RS a1) (impl_ValidBook_b1_RR a1) r):=by
 revert h hs
 revert s
 intro aq h hs
 unfold impl_ValidBook_b1 at h
 obtain ⟨aF,aG,aH,aI,aJ⟩:=hs
 generalize J:prune [1,3,31,32,33] e=bj
 have aK:=envp J.symm E aF
 have aL:=envp J.symm E aG
 have aM:=envp J.symm E aH
 have ab:=envp J.symm E aI
 have ac:=envp J.symm E aJ
 refine sq (Rg (kx (bLss ac ab) (Rn (hV (.pt none [.int .i64 a1.Day,.sl none (a1.Cash.map (cI .i64)),.sl none (a1.Tallies.map Tally.c)]) aK (hV (.int .i64 (a1.Cash.length:Int)) aL (hV (.sl none (a1.Cash.map (cI .i64))) aM (hV (.int .i64 (a1.Cash.length:Int)) ab (hV (.int .i64 aq) ac (hN E hZ)))))) fun bm ae af ah aN ai ao=>sN (sq ?_))))
 rcases ite_some h with ⟨Y,h⟩ | ⟨Y,h⟩
 ·obtain ⟨aO,au,h⟩:=bind_some h
  obtain ⟨aP,aw,h⟩:=bind_some h
  refine cT ao Y (xx (sN (sq (bl (sq (Rg (kx (ixS ah ai au (cI_fl _)) (kx (ldP E E) (kx (mvO E) (Rn (hA ae (hA af (hN E (hA ah (hA aN (hA ai hZ)))))) fun bo aR aS aT aU aV aZ=>sN (sq (Rg (kx (mvO aT) (kc (cl (v:=.bool aP) E E (cns E E) E (impl_isAmount_ok aO _ aw) nm) (kx (uNot E) (Rn (hA aR (hA aS (hA aU (hA aV (hA aZ (hN E hZ)))))) fun bq a8 ba bb ax ay aa=>sN ?_))))))))))))))))
  rcases ite_some h with ⟨O,h⟩ | ⟨O,h⟩
  ·refine cF aa (congrArg Bool.not O) (xx (bN (sN (Rg (kx (bAdd ay E) (kx (mvO E) (Rn (hA a8 (hA ba (hA bb (hA ax (hN E hZ))))) fun bf az aA aB aC aD=>?_)))))))
   obtain rfl:=si h
   exact qN ⟨az,aA,aB,aC,aD⟩
  refine cT aa (congrArg Bool.not O) (sq (Rg (kx (mvO E) (Rn (hV (.bool false) E hZ) fun bi aE=>sN (xx (bR (sR ?_)))))))
  obtain rfl:=si h
  exact qR ⟨E,aE⟩
 refine cF ao Y (xx (sE ?_))
 obtain rfl:=si h
 exact qE ⟨E,ae,af⟩
abbrev impl_ValidBook_b2_S:=Int×Int
abbrev impl_ValidBook_b2_R:=Unit⊕Unit
def impl_ValidBook_b2_RS (a1:Book) (s:impl_ValidBook_b2_S) (e:Env) (M:Mem):Prop:=eget e 1 = .pt none [.int .i64 a1.Day,.sl none (a1.Cash.map (cI .i64)),.sl none (a1.Tallies.map Tally.c)]∧eget e 3 = .int .i64 (a1.Cash.length:Int)∧eget e 6 = .int .i64 s.1∧eget e 42 = .sl none (a1.Tallies.map Tally.c)∧eget e 43 = .int .i64 (a1.Tallies.length:Int)∧eget e 44 = .int .i64 s.2
def impl_ValidBook_b2_RR (a1:Book) (r:impl_ValidBook_b2_R) (x:Ex) (e:Env) (M:Mem):Prop:=
  match r with
  | (.inl g)=>x = .ret∧eget e 2 = .bool false
  | (.inr g)=>x = .ext 2∧True
noncomputable def impl_ValidBook_b2 (a1:Book):impl_ValidBook_b2_S→Option (impl_ValidBook_b2_S⊕impl_ValidBook_b2_R):=fun (Y,O)=>
 if (decide (O < (a1.Tallies.length:Int)))=true then
  (rd a1.Tallies O).bind fun J=>
  (impl_arePeople (a1.Cash.length:Int) [J.Debtor,J.Holder]).bind fun aa=>
  if aa=true then
   if (decide (J.Cut < Y))=true then
    some (.inr (.inl ()))
   else
    if (decide (J.Cut > a1.Day))=true then
     some (.inr (.inl ()))
    else
     if (decide (J.Amount < 1))=true then
      some (.inr (.inl ()))
     else
      if (decide (J.Amount > 100000000))=true then
       some (.inr (.inl ()))
      else
       if (decide (J.Left < 0))=true then
        some (.inr (.inl ()))
       else
        if (decide (J.Left > J.Amount))=true then
         some (.inr (.inl ()))
        else
         if (J.Debtor==J.Holder)=true then
          if (J.Left != 0)=true then
           some (.inr (.inl ()))
          else
           some (.inl (J.Cut,(IntKind.i64.wrap (O + 1))))
         else
          some (.inl (J.Cut,(IntKind.i64.wrap (O + 1))))
  else
   some (.inr (.inl ()))
 else
  some (.inr (.inr ()))
theorem impl_ValidBook_b2_ok (a1:Book) (s:impl_ValidBook_b2_S) (r:impl_ValidBook_b2_S⊕impl_ValidBook_b2_R) (h:impl_ValidBook_b2 a1 s=some r) (e:Env) (M:Mem) (hs:impl_ValidBook_b2_RS a1 s e M):Ev (fun k=>(f26_l12 (CN k) k (prune [1,3,6,42,43,44] e) M).bind fun q=>some q) (bQ (impl_ValidBook_b2_RS a1) (impl_ValidBook_b2_RR a1) r):=by
 obtain ⟨aN,aO⟩:=s
 unfold impl_ValidBook_b2 at h
 obtain ⟨aP,aR,aS,aT,aU,aV⟩:=hs
 generalize ay:prune [1,3,6,42,43,44] e=cX
 have aZ:=envp ay.symm E aP
 have a8:=envp ay.symm E aR
 have ba:=envp ay.symm E aS
 have bb:=envp ay.symm E aT
 have aC:=envp ay.symm E aU
 have aD:=envp ay.symm E aV
 refine sq (Rg (kx (bLss aD aC) (Rn (hV (.pt none [.int .i64 a1.Day,.sl none (a1.Cash.map (cI .i64)),.sl none (a1.Tallies.map Tally.c)]) aZ (hV (.int .i64 (a1.Cash.length:Int)) a8 (hV (.int .i64 aN) ba (hV (.sl none (a1.Tallies.map Tally.c)) bb (hV (.int .i64 (a1.Tallies.length:Int)) aC (hV (.int .i64 aO) aD (hN E hZ))))))) fun cY bf bi bj aE bm aF aG=>sN (sq ?_))))
 rcases ite_some h with ⟨aA,h⟩ | ⟨aA,h⟩
 ·obtain ⟨az,aJ,h⟩:=bind_some h
  refine cT aG aA (xx (sN (sq (bl (sq (Rg (kx (ixS aE aF aJ Tally.fl) (kx (ldPA E E E) (ku (alO zero49) fun bo aK=>?_)))))))))
  have aH:bo[M.length]? = some (.live ⟨.box,49,5,[[.int .i64 0,.int .i64 0,.int .i64 0,.int .i64 0,.int .i64 0]]⟩):=push_new aK
  refine kw (stO E E aH E E ⟨E,ble E⟩ E E) fun bq aL=>?_
  have J:bq[M.length]? = some (.live ⟨.box,49,5,[[.int .i64 az.Debtor,.int .i64 az.Holder,.int .i64 az.Cut,.int .i64 az.Amount,.int .i64 az.Left]]⟩):=set_same aL aH
  obtain ⟨bu,aM,h⟩:=bind_some h
  refine Rn (hA bf (hA bi (hA bj (hV (.loc M.length 1 0 0) E (hA aE (hA bm (hA aF hZ))))))) fun cZ ao aq bv Y au aw ax=>sN (sq (sq (Rg (kx (mvO aq) (kx (faO Y J E) (kx (ldO E J E E E) (kx (faO Y J E) (kx (ldO E J E E E) (kx (litI (cns E (cns E E)) E ⟨E,by decide⟩) (kc (cl (v:=.bool bu) E E (cns E (cns E E)) E (impl_arePeople_ok (a1.Cash.length:Int) [az.Debtor,az.Holder] _ aM) nm) (kx (uNot E) (kx (mvO E) ?_))))))))))))
  rcases ite_some h with ⟨ac,h⟩ | ⟨ac,h⟩
  ·refine kx (guF E (congrArg Bool.not ac) (faO Y J E)) (kx (guF E (congrArg Bool.not ac) (ldO E J E E E)) (kx (guF E (congrArg Bool.not ac) (mvO bv)) (kx (guF E (congrArg Bool.not ac) (bLss E E)) (kx (pkF E (congrArg Bool.not ac) E) (kx (mvO E) ?_)))))
   rcases ite_some h with ⟨aa,h⟩ | ⟨aa,h⟩
   ·refine kx (gsF E aa) (kx (gsF E aa) (kx (gsF E aa) (kx (gsF E aa) (kx (gsF E aa) (kx (pkT E aa E) (kx (mvO E) (kx (gsF E E) (kx (gsF E E) (kx (gsF E E) (kx (pkT E E E) (kx (mvO E) (kx (gsF E E) (kx (gsF E E) (kx (gsF E E) (kx (pkT E E E) (kx (mvO E) (kx (gsF E E) (kx (gsF E E) (kx (gsF E E) (kx (pkT E E E) (kx (mvO E) (kx (gsF E E) (kx (gsF E E) (kx (gsF E E) (kx (gsF E E) (kx (gsF E E) (kx (pkT E E E) (kx (mvO E) (kx (gsF E E) (kx (gsF E E) (kx (gsF E E) (kx (gsF E E) (kx (gsF E E) (kx (gsF E E) (kx (gsU E) (kx (gsU E) (kx (gsU E) (kx (gsF E E) (kx (pkT E E E) (Rn (hA ao (hA aq (hA Y (hA au (hA aw (hA ax (hV (.bool true) E hZ))))))) fun da db dc de df dg di bw=>sN (cT bw E (sq (Rg (kx (mvO E) (Rn (hV (.bool false) E hZ) fun dj bz=>sN (xx (sR (bR (sR ?_)))))))))))))))))))))))))))))))))))))))))))))))))
    obtain rfl:=si h
    exact qR ⟨E,bz⟩
   refine kx (guF E aa (faO Y J E)) (kx (guF E aa (ldO E J E E E)) (kx (guF E aa (faP ao ⟨ble E,blt E⟩ E)) (kx (guF E aa (ldP E E)) (kx (guF E aa (bGtr E E)) (kx (pkF E aa E) (kx (mvO E) ?_))))))
   rcases ite_some h with ⟨ae,h⟩ | ⟨ae,h⟩
   ·refine kx (gsF E ae) (kx (gsF E ae) (kx (gsF E ae) (kx (pkT E ae E) (kx (mvO E) (kx (gsF E E) (kx (gsF E E) (kx (gsF E E) (kx (pkT E E E) (kx (mvO E) (kx (gsF E E) (kx (gsF E E) (kx (gsF E E) (kx (pkT E E E) (kx (mvO E) (kx (gsF E E) (kx (gsF E E) (kx (gsF E E) (kx (gsF E E) (kx (gsF E E) (kx (pkT E E E) (kx (mvO E) (kx (gsF E E) (kx (gsF E E) (kx (gsF E E) (kx (gsF E E) (kx (gsF E E) (kx (gsF E E) (kx (gsU E) (kx (gsU E) (kx (gsU E) (kx (gsF E E) (kx (pkT E E E) (Rn (hA ao (hA aq (hA Y (hA au (hA aw (hA ax (hV (.bool true) E hZ))))))) fun dk dl dm dn dp dq dt bA=>sN (cT bA E (sq (Rg (kx (mvO E) (Rn (hV (.bool false) E hZ) fun du bB=>sN (xx (sR (bR (sR ?_))))))))))))))))))))))))))))))))))))))))))
    obtain rfl:=si h
    exact qR ⟨E,bB⟩
   refine kx (guF E ae (faO Y J E)) (kx (guF E ae (ldO E J E E E)) (kx (guF E ae (bLss E E)) (kx (pkF E ae E) (kx (mvO E) ?_))))
   rcases ite_some h with ⟨af,h⟩ | ⟨af,h⟩
   ·refine kx (gsF E af) (kx (gsF E af) (kx (gsF E af) (kx (pkT E af E) (kx (mvO E) (kx (gsF E E) (kx (gsF E E) (kx (gsF E E) (kx (pkT E E E) (kx (mvO E) (kx (gsF E E) (kx (gsF E E) (kx (gsF E E) (kx (gsF E E) (kx (gsF E E) (kx (pkT E E E) (kx (mvO E) (kx (gsF E E) (kx (gsF E E) (kx (gsF E E) (kx (gsF E E) (kx (gsF E E) (kx (gsF E E) (kx (gsU E) (kx (gsU E) (kx (gsU E) (kx (gsF E E) (kx (pkT E E E) (Rn (hA ao (hA aq (hA Y (hA au (hA aw (hA ax (hV (.bool true) E hZ))))))) fun dw dx dz dA dC dD dE bC=>sN (cT bC E (sq (Rg (kx (mvO E) (Rn (hV (.bool false) E hZ) fun dF bD=>sN (xx (sR (bR (sR ?_)))))))))))))))))))))))))))))))))))))
    obtain rfl:=si h
    exact qR ⟨E,bD⟩
   refine kx (guF E af (faO Y J E)) (kx (guF E af (ldO E J E E E)) (kx (guF E af (bGtr E E)) (kx (pkF E af E) (kx (mvO E) ?_))))
   rcases ite_some h with ⟨ah,h⟩ | ⟨ah,h⟩
   ·refine kx (gsF E ah) (kx (gsF E ah) (kx (gsF E ah) (kx (pkT E ah E) (kx (mvO E) (kx (gsF E E) (kx (gsF E E) (kx (gsF E E) (kx (gsF E E) (kx (gsF E E) (kx (pkT E E E) (kx (mvO E) (kx (gsF E E) (kx (gsF E E) (kx (gsF E E) (kx (gsF E E) (kx (gsF E E) (kx (gsF E E) (kx (gsU E) (kx (gsU E) (kx (gsU E) (kx (gsF E E) (kx (pkT E E E) (Rn (hA ao (hA aq (hA Y (hA au (hA aw (hA ax (hV (.bool true) E hZ))))))) fun dG dH dI dJ dK dL dM bF=>sN (cT bF E (sq (Rg (kx (mvO E) (Rn (hV (.bool false) E hZ) fun dN bG=>sN (xx (sR (bR (sR ?_))))))))))))))))))))))))))))))))
    obtain rfl:=si h
    exact qR ⟨E,bG⟩
   refine kx (guF E ah (faO Y J E)) (kx (guF E ah (ldO E J E E E)) (kx (guF E ah (bLss E E)) (kx (pkF E ah E) (kx (mvO E) ?_))))
   rcases ite_some h with ⟨ab,h⟩ | ⟨ab,h⟩
   ·refine kx (gsF E ab) (kx (gsF E ab) (kx (gsF E ab) (kx (gsF E ab) (kx (gsF E ab) (kx (pkT E ab E) (kx (mvO E) (kx (gsF E E) (kx (gsF E E) (kx (gsF E E) (kx (gsF E E) (kx (gsF E E) (kx (gsF E E) (kx (gsU E) (kx (gsU E) (kx (gsU E) (kx (gsF E E) (kx (pkT E E E) (Rn (hA ao (hA aq (hA Y (hA au (hA aw (hA ax (hV (.bool true) E hZ))))))) fun dO dP dQ dR dS dT dU bH=>sN (cT bH E (sq (Rg (kx (mvO E) (Rn (hV (.bool false) E hZ) fun dV bI=>sN (xx (sR (bR (sR ?_)))))))))))))))))))))))))))
    obtain rfl:=si h
    exact qR ⟨E,bI⟩
   refine kx (guF E ab (faO Y J E)) (kx (guF E ab (ldO E J E E E)) (kx (guF E ab (faO Y J E)) (kx (guF E ab (ldO E J E E E)) (kx (guF E ab (bGtr E E)) (kx (pkF E ab E) (kx (mvO E) ?_))))))
   rcases ite_some h with ⟨O,h⟩ | ⟨O,h⟩
   ·refine kx (gsF E O) (kx (gsF E O) (kx (gsF E O) (kx (gsF E O) (kx (gsF E O) (kx (gsF E O) (kx (gsU E) (kx (gsU E) (kx (gsU E) (kx (gsF E O) (kx (pkT E O E) (Rn (hA ao (hA aq (hA Y (hA au (hA aw (hA ax (hV (.bool true) E hZ))))))) fun dW dX dY dZ d5 d6 d7 bJ=>sN (cT bJ E (sq (Rg (kx (mvO E) (Rn (hV (.bool false) E hZ) fun d8 bK=>sN (xx (sR (bR (sR ?_))))))))))))))))))))
    obtain rfl:=si h
    exact qR ⟨E,bK⟩
   refine kx (guF E O (faO Y J E)) (kx (guF E O (ldO E J E E E)) (kx (guF E O (faO Y J E)) (kx (guF E O (ldO E J E E E)) (kx (guF E O (bEql E E)) (kx (guF E O (mvO E)) ?_)))))
   rcases ite_some h with ⟨ai,h⟩ | ⟨ai,h⟩
   ·refine kx (guT E ai (faO Y J E)) (kx (guT E ai (ldO E J E E E)) (kx (guT E ai (bNeq E E)) (kx (guF E O (pkT E ai E)) (kx (pkF E O E) (Rn (hA ao (hA aq (hA Y (hA au (hA aw (hA ax (hN E hZ))))))) fun d9 bL bM bP bS bT bU aI=>sN ?_)))))
    rcases ite_some h with ⟨aB,h⟩ | ⟨aB,h⟩
    ·refine cT aI aB (sq (Rg (kx (mvO E) (Rn (hV (.bool false) E hZ) fun ea bV=>sN (xx (sR (bR (sR ?_))))))))
     obtain rfl:=si h
     exact qR ⟨E,bV⟩
    refine cF aI aB (xx (sN (Rg (kx (faO bP J E) (kx (ldO E J E E E) (kx (mvO E) (Rn (hA bL (hA bM (hN E (hA bS (hA bT (hA bU hZ)))))) fun ed bW bX bY bZ b7 b8=>bN (sN (Rg (kx (bAdd b8 E) (kx (mvO E) (Rn (hA bW (hA bX (hA bY (hA bZ (hA b7 (hN E hZ)))))) fun ee b9 cb cd cf cg ci=>?_))))))))))))
    obtain rfl:=si h
    exact qN ⟨b9,cb,cd,cf,cg,ci⟩
   refine kx (gsT E ai) (kx (gsT E ai) (kx (gsT E ai) (kx (guF E O (pkF E ai E)) (kx (pkF E O E) (Rn (hA ao (hA aq (hA Y (hA au (hA aw (hA ax (hV (.bool false) E hZ))))))) fun eo cj cm cq cr ct cw cC=>sN (cF cC E (xx (sN (Rg (kx (faO cq J E) (kx (ldO E J E E E) (kx (mvO E) (Rn (hA cj (hA cm (hN E (hA cr (hA ct (hA cw hZ)))))) fun ep cD cE cG cH cJ cK=>bN (sN (Rg (kx (bAdd cK E) (kx (mvO E) (Rn (hA cD (hA cE (hA cG (hA cH (hA cJ (hN E hZ)))))) fun eu cM cN cO cQ cR cU=>?_))))))))))))))))))
   obtain rfl:=si h
   exact qN ⟨cM,cN,cO,cQ,cR,cU⟩
  refine kx (gsF E (congrArg Bool.not ac)) (kx (gsF E (congrArg Bool.not ac)) (kx (gsF E (congrArg Bool.not ac)) (kx (gsF E (congrArg Bool.not ac)) (kx (pkT E (congrArg Bool.not ac) E) (kx (mvO E) (kx (gsF E E) (kx (gsF E E) (kx (gsF E E) (kx (gsF E E) (kx (gsF E E) (kx (pkT E E E) (kx (mvO E) (kx (gsF E E) (kx (gsF E E) (kx (gsF E E) (kx (pkT E E E) (kx (mvO E) (kx (gsF E E) (kx (gsF E E) (kx (gsF E E) (kx (pkT E E E) (kx (mvO E) (kx (gsF E E) (kx (gsF E E) (kx (gsF E E) (kx (pkT E E E) (kx (mvO E) (kx (gsF E E) (kx (gsF E E) (kx (gsF E E) (kx (gsF E E) (kx (gsF E E) (kx (pkT E E E) (kx (mvO E) (kx (gsF E E) (kx (gsF E E) (kx (gsF E E) (kx (gsF E E) (kx (gsF E E) (kx (gsF E E) (kx (gsU E) (kx (gsU E) (kx (gsU E) (kx (gsF E E) (kx (pkT E E E) (Rn (hA ao (hA aq (hA Y (hA au (hA aw (hA ax (hV (.bool true) E hZ))))))) fun ew ex ey ez eA eB eC cV=>sN (cT cV E (sq (Rg (kx (mvO E) (Rn (hV (.bool false) E hZ) fun eD cW=>sN (xx (sR (bR (sR ?_)))))))))))))))))))))))))))))))))))))))))))))))))))))))
  obtain rfl:=si h
  exact qR ⟨E,cW⟩
 refine cF aG aA (xx (sE ?_))
 obtain rfl:=si h
 exact qE ⟨E,trivial⟩
noncomputable def impl_ValidBook (a1:Book):Option Bool:=
 ((impl_isBookDay a1.Day).bind fun r9=>
 if r9=true then
  if (decide ((a1.Cash.length:Int) < 1))=true then
   some true
  else
   if (decide ((a1.Cash.length:Int) > 16))=true then
    some true
   else
    some (decide ((a1.Tallies.length:Int) > 40))
 else
  some true).bind fun J=>
 if J=true then
  some false
 else
  (Lw (impl_ValidBook_b1 a1) 0).bind fun r=>match r with
  | (.inl _)=>
   some false
  | (.inr _)=>
   (Lw (impl_ValidBook_b2 a1) (0,0)).bind fun r=>match r with
   | (.inl _)=>
    some false
   | (.inr _)=>
    some true
def impl_ValidBook_enc (r:Bool):AV:=.bool r
theorem impl_ValidBook_ok (a1:Book) (r:Bool) (h:impl_ValidBook a1=some r):Ev (fun k=>CN k 26 [.agg [.int .i64 a1.Day,.sl none (a1.Cash.map (cI .i64)),.sl none (a1.Tallies.map Tally.c)]] []) (fun p=>rRes p.2 p.1=impl_ValidBook_enc r):=by
 unfold impl_ValidBook at h
 obtain ⟨ai,aa,h⟩:=bind_some h
 refine Ev.enter (F:=fun k=>f26 (CN k) k) (fun k=>callN_eq E Try.func26 E E E (by decide +kernel) (f26_eq _ _)) (sq (Rg (kx (bxI E E ⟨E,E,by decide⟩) (kx (mvO E) (Rn (hN E hZ) fun e1 h3=>sN (sq (Rg (kx (faP h3 ⟨ble E,blt E⟩ E) (kx (ldP E E) (kx (lnS Try.underlying24 E) (kx (mvO E) (Rn (hA h3 (hN E hZ)) fun e4 h6 h7=>sN (sq (sq ?_))))))))))))))
 refine Ev.cut (Q1:=impl_ValidBook_c1_Q a1 ai) (by
     have h:=aa
     obtain ⟨r9,aS,h⟩:=bind_some h
     refine Rg (kx (faP h6 ⟨ble E,blt E⟩ E) (kx (ldP E E) (kc (cl (v:=.bool r9) E E (cns E E) E (impl_isBookDay_ok a1.Day _ aS) nm) (kx (uNot E) (kx (mvO E) ?_)))))
     rcases ite_some h with ⟨O,h⟩ | ⟨O,h⟩
     ·refine kx (guF E (congrArg Bool.not O) (mvO h7)) (kx (guF E (congrArg Bool.not O) (bLss E E)) (kx (pkF E (congrArg Bool.not O) E) (kx (mvO E) ?_)))
      rcases ite_some h with ⟨Y,h⟩ | ⟨Y,h⟩
      ·refine kx (gsF E Y) (kx (gsF E Y) (kx (pkT E Y E) (kx (mvO E) (kx (gsF E E) (kx (gsF E E) (kx (gsF E E) (kx (gsF E E) (kx (pkT E E E) (Rn (hA h6 (hA h7 (hV (.bool true) E hZ))) fun bJ aT aU aV=>?_)))))))))
       obtain rfl:=si h
       exact kd (show impl_ValidBook_c1_Q a1 _ _ from ⟨E,aT,aU,aV⟩)
      refine kx (guF E Y (mvO h7)) (kx (guF E Y (bGtr E E)) (kx (pkF E Y E) (kx (mvO E) ?_)))
      rcases ite_some h with ⟨J,h⟩ | ⟨J,h⟩
      ·refine kx (gsF E J) (kx (gsF E J) (kx (gsF E J) (kx (gsF E J) (kx (pkT E J E) (Rn (hA h6 (hA h7 (hV (.bool true) E hZ))) fun bK aZ a8 ba=>?_)))))
       obtain rfl:=si h
       exact kd (show impl_ValidBook_c1_Q a1 _ _ from ⟨E,aZ,a8,ba⟩)
      refine kx (guF E J (faP h6 ⟨ble E,blt E⟩ E)) (kx (guF E J (ldP E E)) (kx (guF E J (lnS Try.underlying25 E)) (kx (guF E J (bGtr E E)) (kx (pkF E J E) (Rn (hA h6 (hA h7 (hN E hZ))) fun bL bb bf bi=>?_)))))
      obtain rfl:=si h
      exact kd (show impl_ValidBook_c1_Q a1 _ _ from ⟨E,bb,bf,bi⟩)
     refine kx (gsF E (congrArg Bool.not O)) (kx (gsF E (congrArg Bool.not O)) (kx (pkT E (congrArg Bool.not O) E) (kx (mvO E) (kx (gsF E E) (kx (gsF E E) (kx (pkT E E E) (kx (mvO E) (kx (gsF E E) (kx (gsF E E) (kx (gsF E E) (kx (gsF E E) (kx (pkT E E E) (Rn (hA h6 (hA h7 (hV (.bool true) E hZ))) fun bM bj bm bo=>?_)))))))))))))
     obtain rfl:=si h
     exact kd (show impl_ValidBook_c1_Q a1 _ _ from ⟨E,bj,bm,bo⟩)) ?_
 revert h aa
 revert ai
 intro bP aa h
 intro x bS bT aA
 obtain ⟨rfl,aB,bq,aC⟩:=aA
 refine sN ?_
 rcases ite_some h with ⟨ae,h⟩ | ⟨ae,h⟩
 ·refine cT aC ae (sq (Rg (kx (mvO E) (Rn (hV (.bool false) E hZ) fun bU bu=>sN (xx (sR ?_))))))
  obtain rfl:=si h
  exact eR (resT bu res0) E
 obtain ⟨aI,af,h⟩:=bind_some h
 refine cF aC ae (xx (sN (sq (sq (Rg (kx (faP aB ⟨ble E,blt E⟩ E) (kx (ldP E E) (kx (lnS Try.underlying24 E) (kx (mvO E) (Rn (hV (.pt none [.int .i64 a1.Day,.sl none (a1.Cash.map (cI .i64)),.sl none (a1.Tallies.map Tally.c)]) aB (hV (.int .i64 (a1.Cash.length:Int)) bq (hN E (hN E (hV (.int .i64 0) E hZ))))) fun bV aD aE aF aG aH=>sN (bl ?_)))))))))))
 rcases aI with _ | _
 ·refine Ev.loop (RS:=impl_ValidBook_b1_RS a1) (RR:=impl_ValidBook_b1_RR a1) (fun s r h e M hs=>impl_ValidBook_b1_ok a1 s r h e M hs) af ⟨aD,aE,aF,aG,aH⟩ fun x bv bw ab=>?_
  obtain ⟨rfl,aJ⟩:=ab
  refine bR (sR ?_)
  obtain rfl:=si h
  exact eR (resT aJ res0) E
 refine Ev.loop (RS:=impl_ValidBook_b1_RS a1) (RR:=impl_ValidBook_b1_RR a1) (fun s r h e M hs=>impl_ValidBook_b1_ok a1 s r h e M hs) af ⟨aD,aE,aF,aG,aH⟩ fun x bz bA ab=>?_
 obtain ⟨rfl,aK,aL⟩:=ab
 obtain ⟨aM,ah,h⟩:=bind_some h
 refine bE (sN (sq (Rg (kx (mvO E) (Rn (hV (.pt none [.int .i64 a1.Day,.sl none (a1.Cash.map (cI .i64)),.sl none (a1.Tallies.map Tally.c)]) aK (hV (.int .i64 (a1.Cash.length:Int)) aL (hV (.int .i64 0) E hZ))) fun bB ao aN aO=>sN (sq (sq (Rg (kx (faP ao ⟨ble E,blt E⟩ E) (kx (ldP E E) (kx (lnS Try.underlying25 E) (kx (mvO E) (Rn (hA ao (hA aN (hA aO (hN E (hN E (hV (.int .i64 0) E hZ)))))) fun bC aq au aw ax ay az=>sN (bl ?_))))))))))))))
 rcases aM with _ | _
 ·refine Ev.loop (RS:=impl_ValidBook_b2_RS a1) (RR:=impl_ValidBook_b2_RR a1) (fun s r h e M hs=>impl_ValidBook_b2_ok a1 s r h e M hs) ah ⟨aq,au,aw,ax,ay,az⟩ fun x bD bF ac=>?_
  obtain ⟨rfl,aP⟩:=ac
  refine bR (sR ?_)
  obtain rfl:=si h
  exact eR (resT aP res0) E
 refine Ev.loop (RS:=impl_ValidBook_b2_RS a1) (RR:=impl_ValidBook_b2_RR a1) (fun s r h e M hs=>impl_ValidBook_b2_ok a1 s r h e M hs) ah ⟨aq,au,aw,ax,ay,az⟩ fun x bG bH ac=>?_
 obtain ⟨rfl,_⟩:=ac
 refine bE (sN (sq (Rg (kx (mvO E) (Rn (hV (.bool true) E hZ) fun bI aR=>sN (xx ?_))))))
 obtain rfl:=si h
 exact eR (resT aR res0) E
def impl_dealsCode_c1_Q (a2:List Deal) (g:Bool) (q:Out):Prop:=q.1 = .nrm∧eget q.2.1 1 = .sl none (a2.map Deal.c)∧eget q.2.1 5 = .bool g
noncomputable def impl_dealsCode (a1:Book) (a2:List Deal):Option Int:=
 ((impl_ValidBook a1).bind fun r6=>
 if r6=true then
  (impl_areDeals a2).bind fun r9=>
  some (!r9)
 else
  some true).bind fun J=>
 if J=true then
  some 1
 else
  if (decide ((a2.length:Int) > 80))=true then
   some 3
  else
   some 0
def impl_dealsCode_enc (r:Int):AV:=.int .i64 r
theorem impl_dealsCode_ok (a1:Book) (a2:List Deal) (r:Int) (h:impl_dealsCode a1 a2=some r):Ev (fun k=>CN k 52 [.agg [.int .i64 a1.Day,.sl none (a1.Cash.map (cI .i64)),.sl none (a1.Tallies.map Tally.c)],.sl none (a2.map Deal.c)] []) (fun p=>rRes p.2 p.1=impl_dealsCode_enc r):=by
 unfold impl_dealsCode at h
 obtain ⟨ab,O,h⟩:=bind_some h
 refine Ev.enter (F:=fun k=>f52 (CN k) k) (fun k=>callN_eq E Try.func52 E E E (by decide +kernel) (f52_eq _ _)) (sq (Rg (kx (bxI E E ⟨E,E,by decide⟩) (kx (mvO E) (Rn (hN E (hN E hZ)) fun e1 h3 h4=>sN (sq (bl (sq ?_))))))))
 refine Ev.cut (Q1:=impl_dealsCode_c1_Q a2 ab) (by
     have h:=O
     obtain ⟨r6,ah,h⟩:=bind_some h
     refine Rg (kx (ldPA h4 E E) (kc (cl (v:=.bool r6) E E (cns E E) E (impl_ValidBook_ok a1 _ ah) nm) (kx (uNot E) (kx (mvO E) ?_))))
     rcases ite_some h with ⟨J,h⟩ | ⟨J,h⟩
     ·obtain ⟨r9,ai,h⟩:=bind_some h
      refine kx (guF E (congrArg Bool.not J) (mvO h3)) (kc (Ev.guF E (congrArg Bool.not J) (cl (v:=.bool r9) E E (cns E E) E (impl_areDeals_ok a2 _ ai) nm)) (kx (guF E (congrArg Bool.not J) (uNot E)) (kx (pkF E (congrArg Bool.not J) E) (kx (mvO E) (Rn (hA h3 (hN E hZ)) fun aB ao aq=>?_)))))
      obtain rfl:=si h
      exact kd (show impl_dealsCode_c1_Q a2 _ _ from ⟨E,ao,aq⟩)
     refine kx (gsF E (congrArg Bool.not J)) (kc (Ev.gsF E (congrArg Bool.not J)) (kx (gsF E (congrArg Bool.not J)) (kx (pkT E (congrArg Bool.not J) E) (kx (mvO E) (Rn (hA h3 (hV (.bool true) E hZ)) fun aC au aw=>?_)))))
     obtain rfl:=si h
     exact kd (show impl_dealsCode_c1_Q a2 _ _ from ⟨E,au,aw⟩)) ?_
 revert h O
 revert ab
 intro aD O h
 intro x aE aF af
 obtain ⟨rfl,ax,ac⟩:=af
 refine sN ?_
 rcases ite_some h with ⟨Y,h⟩ | ⟨Y,h⟩
 ·refine cT ac Y (sq (Rg (kx (mvO E) (Rn (hV (.int .i64 1) E hZ) fun aG ay=>sN (xx (bR (sR ?_)))))))
  obtain rfl:=si h
  exact eR (resT ay res0) E
 refine cF ac Y (sq (Rg (kx (mvO ax) (kx (lnS Try.underlying28 E) (kx (bGtr E E) (kx (mvO E) (Rn (hN E hZ) fun aH ae=>sN ?_)))))))
 rcases ite_some h with ⟨aa,h⟩ | ⟨aa,h⟩
 ·refine cT ae aa (sq (Rg (kx (mvO E) (Rn (hV (.int .i64 3) E hZ) fun aI az=>sN (xx (bR (sR ?_)))))))
  obtain rfl:=si h
  exact eR (resT az res0) E
 refine cF ae aa (xx (bN (sN (sq (Rg (kx (mvO E) (Rn (hV (.int .i64 0) E hZ) fun aJ aA=>sN (xx ?_))))))))
 obtain rfl:=si h
 exact eR (resT aA res0) E
noncomputable def impl_behind (a1:Book) (a2:List Deal):Option (Int⊕(Int×(List Int)×(List Tally))):=
 (impl_books a1 a2).bind fun (J,Y)=>
 if (Y != 0)=true then
  some (.inl Y)
 else
  if ((J.length:Int)==0)=true then
   (impl_ownBook a1).bind fun (aa,ab,ac)=>
   some (.inr (aa,ab,ac))
  else
   (rd J (IntKind.i64.wrap ((J.length:Int) - 1))).bind fun O=>
   some (.inr (O.Day,O.Cash,O.Tallies))
def impl_behind_enc (r:Int⊕(Int×(List Int)×(List Tally))):AV:=
  match r with
  | (.inl g)=>.tup [.agg [.int .i64 0,.nils,.nils],.int .i64 g]
  | (.inr g)=>.tup [.agg [.int .i64 g.1,.sl none (g.2.1.map (cI .i64)),.sl none (g.2.2.map Tally.c)],.int .i64 0]
theorem impl_behind_ok (a1:Book) (a2:List Deal) (r:Int⊕(Int×(List Int)×(List Tally))) (h:impl_behind a1 a2=some r):Ev (fun k=>CN k 58 [.agg [.int .i64 a1.Day,.sl none (a1.Cash.map (cI .i64)),.sl none (a1.Tallies.map Tally.c)],.sl none (a2.map Deal.c)] []) (fun p=>rRes p.2 p.1=impl_behind_enc r):=by
 unfold impl_behind at h
 refine Ev.enter (F:=fun k=>f58 (CN k) k) (fun k=>callN_eq E Try.func58 E E E (by decide +kernel) (f58_eq _ _)) (sq (Rg (kx (bxI E E ⟨E,E,by decide⟩) (ku (alO zero27) fun M2 aC=>?_))))
 have o4:M2[([]:Mem).length]? = some (.live ⟨.box,27,3,[[.int .i64 0,.nils,.nils]]⟩):=push_new aC
 obtain ⟨⟨aD,aE⟩,aw,h⟩:=bind_some h
 refine kx (mvO E) (Rn (hN E (hN E (hV (.loc ([]:Mem).length 1 0 0) E hZ))) fun e5 h7 h8 h9=>sN (sq (Rg (kx (ldPA h8 E E) (kx (mvO h7) (kc (cl (v:=.tup [.sl (some 27) (aD.map Book.c),.int .i64 aE]) E E (cns E (cns E E)) E (impl_books_ok a1 a2 _ aw) nm) (kx (mvO E) (kx (exT E E) (kx (exT E E) (kx (mvO E) (kx (mvO E) (Rn (hA h8 (hA h9 (hN E (hN E hZ)))) fun ba aF aG aH ac=>sN (sq (bl (sq (Rg (kx (mvO ac) (kx (bNeq E E) (kx (mvO E) (Rn (hA aF (hA aG (hA aH (hA ac (hN E hZ))))) fun bb aI aa ae aJ af=>sN ?_))))))))))))))))))))
 rcases ite_some h with ⟨J,h⟩ | ⟨J,h⟩
 ·refine cT af J (sq (Rg (kx (bldT zero27 E (fill0 E)) (kx (mvO aJ) (kw (stO aa E o4 E E ⟨E,ble E⟩ E E) fun aK ax=>?_)))))
  have aL:aK[([]:Mem).length]? = some (.live ⟨.box,27,3,[[.int .i64 0,.nils,.nils]]⟩):=set_same ax o4
  refine kx (mvO E) (Rn (hA aa (hN E hZ)) fun bf aM aN=>sN (xx (bR (sR ?_))))
  obtain rfl:=si h
  exact eR (resC (ag:=true) (sz:=3) ⟨by kernel_rfl,by kernel_rfl,by kernel_rfl⟩ (ldOA aM aL E E (ble E) E) (resT aN res0)) E
 refine cF af J (sq (Rg (kx (mvO ae) (kx (lnS Try.underlying94 E) (kx (bEql E E) (kx (mvO E) (Rn (hA aI (hA aa (hA ae (hN E hZ)))) fun bi aO Y ah ai=>sN ?_)))))))
 rcases ite_some h with ⟨O,h⟩ | ⟨O,h⟩
 ·obtain ⟨⟨ao,aq,au⟩,ay,h⟩:=bind_some h
  refine cT ai O (sq (Rg (kx (ldPA aO E E) (kc (cl (v:=.agg [.int .i64 ao,.sl (some 2) (aq.map (cI .i64)),.sl (some 49) (au.map Tally.c)]) E E (cns E E) E (impl_ownBook_ok a1 _ ay) nm) (kw (stO Y E o4 E E ⟨E,ble E⟩ E E) fun aP az=>?_)))))
  have aR:aP[([]:Mem).length]? = some (.live ⟨.box,27,3,[[.int .i64 ao,.sl none (aq.map (cI .i64)),.sl none (au.map Tally.c)]]⟩):=set_same az o4
  refine kx (mvO E) (Rn (hA Y (hV (.int .i64 0) E hZ)) fun bj aS aT=>sN (xx (bR (sR ?_))))
  obtain rfl:=si h
  exact eR (resC (ag:=true) (sz:=3) ⟨by kernel_rfl,by kernel_rfl,by kernel_rfl⟩ (ldOA aS aR E E (ble E) E) (resT aT res0)) E
 obtain ⟨ab,aA,h⟩:=bind_some h
 refine cF ai O (xx (bN (sN (sq (Rg (kx (mvO ah) (kx (mvO ah) (kx (lnS Try.underlying94 E) (kx (bSub E E) (kx (ixS E E aA Book.fl) (kx (ldPA E E E) (kw (stO Y E o4 E E ⟨E,ble E⟩ E E) fun aU aB=>?_))))))))))))
 have aV:aU[([]:Mem).length]? = some (.live ⟨.box,27,3,[[.int .i64 ab.Day,.sl none (ab.Cash.map (cI .i64)),.sl none (ab.Tallies.map Tally.c)]]⟩):=set_same aB o4
 refine kx (mvO E) (Rn (hA Y (hV (.int .i64 0) E hZ)) fun bm aZ a8=>sN (xx ?_))
 obtain rfl:=si h
 exact eR (resC (ag:=true) (sz:=3) ⟨by kernel_rfl,by kernel_rfl,by kernel_rfl⟩ (ldOA aZ aV E E (ble E) E) (resT a8 res0)) E
def impl_history_c1_Q (a1:Book) (a2:List Deal) (a3:Int) (J:Nat) (g:Bool) (q:Out):Prop:=q.1 = .nrm∧eget q.2.1 1 = .sl none (a2.map Deal.c)∧eget q.2.1 2 = .int .i64 a3∧eget q.2.1 3 = .pt none [.int .i64 a1.Day,.sl none (a1.Cash.map (cI .i64)),.sl none (a1.Tallies.map Tally.c)]∧eget q.2.1 38 = .bool g
def impl_history_c4_Q (a2:List Deal) (a3:Int) (ac:Int) (aa:Int) (Y:List Int) (J:Deal) (ab:Nat) (O:Nat) (g:Bool) (q:Out):Prop:=q.1 = .nrm∧eget q.2.1 2 = .int .i64 a3∧eget q.2.1 11 = .lsl ab Y.length 0 Y.length∧eget q.2.1 12 = .int .i64 ac∧eget q.2.1 13 = .int .i64 aa∧eget q.2.1 14 = .loc O 1 0 0∧eget q.2.1 43 = .sl none (a2.map Deal.c)∧eget q.2.1 44 = .int .i64 (a2.length:Int)∧eget q.2.1 45 = .int .i64 aa∧eget q.2.1 68 = .bool g∧q.2.2[O]? = some (.live ⟨.box,36,6,[[.int .i64 J.Day,.int .i8 J.Kind,.int .i64 J.Tally,.int .i64 J.From,.int .i64 J.To,.int .i64 J.Amount]]⟩)∧q.2.2[ab]? = some (.live ⟨.grow,2,1,Y.map (cI .i64)⟩)
abbrev impl_history_b1_S:=Int×Int×(List Int)
abbrev impl_history_b1_R:=(List Int)
def impl_history_b1_RS (a2:List Deal) (a3:Int) (J:Nat) (s:impl_history_b1_S) (e:Env) (M:Mem):Prop:=eget e 2 = .int .i64 a3∧eget e 11 = .lsl J s.2.2.length 0 s.2.2.length∧eget e 12 = .int .i64 s.1∧eget e 43 = .sl none (a2.map Deal.c)∧eget e 44 = .int .i64 (a2.length:Int)∧eget e 45 = .int .i64 s.2.1∧M[J]? = some (.live ⟨.grow,2,1,s.2.2.map (cI .i64)⟩)
def impl_history_b1_RR (a2:List Deal) (a3:Int) (J:Nat) (g:impl_history_b1_R) (x:Ex) (e:Env) (M:Mem):Prop:=x = .ext 0∧eget e 11 = .lsl J g.length 0 g.length∧M[J]? = some (.live ⟨.grow,2,1,g.map (cI .i64)⟩)
noncomputable def impl_history_b1 (a2:List Deal) (a3:Int):impl_history_b1_S→Option (impl_history_b1_S⊕impl_history_b1_R):=fun (Y,J,aa)=>
 if (decide (J < (a2.length:Int)))=true then
  (rd a2 J).bind fun O=>
  (if (O.Kind==1)=true then
   if (Y==a3)=true then
    some true
   else
    if (O.Kind != 1)=true then
     some (O.Tally==a3)
    else
     some false
  else
   if (O.Kind != 1)=true then
    some (O.Tally==a3)
   else
    some false).bind fun ac=>
  if ac=true then
   (app 8 aa [J]).bind fun ab=>
   if (O.Kind==1)=true then
    some (.inl ((IntKind.i64.wrap (Y + 1)),(IntKind.i64.wrap (J + 1)),ab))
   else
    some (.inl (Y,(IntKind.i64.wrap (J + 1)),ab))
  else
   if (O.Kind==1)=true then
    some (.inl ((IntKind.i64.wrap (Y + 1)),(IntKind.i64.wrap (J + 1)),aa))
   else
    some (.inl (Y,(IntKind.i64.wrap (J + 1)),aa))
 else
  some (.inr aa)
theorem impl_history_b1_ok (a2:List Deal) (a3:Int) (ab:Nat) (s:impl_history_b1_S) (r:impl_history_b1_S⊕impl_history_b1_R) (h:impl_history_b1 a2 a3 s=some r) (e:Env) (M:Mem) (hs:impl_history_b1_RS a2 a3 ab s e M):Ev (fun k=>(f66_l11 (CN k) k (prune [2,11,12,43,44,45] e) M).bind fun q=>some q) (bQ (impl_history_b1_RS a2 a3 ab) (impl_history_b1_RR a2 a3 ab) r):=by
 obtain ⟨ao,af,ah⟩:=s
 unfold impl_history_b1 at h
 obtain ⟨bV,bW,bX,bY,bZ,b7,aJ⟩:=hs
 generalize au:prune [2,11,12,43,44,45] e=eL
 have b8:=envp au.symm E bV
 have b9:=envp au.symm E bW
 have cb:=envp au.symm E bX
 have cd:=envp au.symm E bY
 have aS:=envp au.symm E bZ
 have aT:=envp au.symm E b7
 refine sq (Rg (kx (bLss aT aS) (Rn (hV (.int .i64 a3) b8 (hV (.lsl ab ah.length 0 ah.length) b9 (hV (.int .i64 ao) cb (hV (.sl none (a2.map Deal.c)) cd (hV (.int .i64 (a2.length:Int)) aS (hV (.int .i64 af) aT (hN E hZ))))))) fun eM cf aU cg aV ci aK aZ=>sN (sq ?_))))
 rcases ite_some h with ⟨aD,h⟩ | ⟨aD,h⟩
 ·obtain ⟨ac,bS,h⟩:=bind_some h
  refine cT aZ aD (xx (sN (sq (bl (sq (Rg (kx (mvO aK) (kx (ixS aV aK bS Deal.fl) (kx (ldPA E E E) (ku (alO zero36) fun cj aN=>?_))))))))))
  have cm:=push_old aN aJ
  have aO:=ne_new aJ
  have a8:cj[M.length]? = some (.live ⟨.box,36,6,[[.int .i64 0,.int .i8 0,.int .i64 0,.int .i64 0,.int .i64 0,.int .i64 0]]⟩):=push_new aN
  refine kx (mvO E) (kw (stO E E a8 E E ⟨E,ble E⟩ E E) fun cq aP=>?_)
  have ax:=set_ne aP aO cm
  have O:cq[M.length]? = some (.live ⟨.box,36,6,[[.int .i64 ac.Day,.int .i8 ac.Kind,.int .i64 ac.Tally,.int .i64 ac.From,.int .i64 ac.To,.int .i64 ac.Amount]]⟩):=set_same aP a8
  obtain ⟨ba,aE,h⟩:=bind_some h
  refine Rn (hA cf (hA aU (hA cg (hN E (hV (.loc M.length 1 0 0) E (hA aV (hA ci (hA aK hZ)))))))) fun eO aq ay aw az ai aA aB aC=>sN (sq (sq ?_))
  refine Ev.cut (Q1:=impl_history_c4_Q a2 a3 ao af ah ac ab M.length ba) (by
      have h:=aE
      refine Rg (kx (faO ai O E) (kx (ldO E O E E E) (kx (bEql E E) (kx (mvO E) ?_))))
      rcases ite_some h with ⟨ae,h⟩ | ⟨ae,h⟩
      ·refine kx (guT E ae (mvO aw)) (kx (guT E ae (mvO aq)) (kx (guT E ae (bEql E E)) (kx (pkT E ae E) (kx (mvO E) ?_))))
       rcases ite_some h with ⟨J,h⟩ | ⟨J,h⟩
       ·refine kx (gsF E J) (kx (gsF E J) (kx (gsF E J) (kx (gsF E J) (kx (gsU E) (kx (gsU E) (kx (gsU E) (kx (gsU E) (kx (gsF E J) (kx (pkT E J E) (Rn (hA aq (hA ay (hA aw (hA az (hA ai (hA aA (hA aB (hA aC (hV (.bool true) E hZ))))))))) fun eP cr ct cw cC cD cE cG cH cJ=>?_))))))))))
        obtain rfl:=si h
        exact kd (show impl_history_c4_Q a2 a3 ao af ah ac ab M.length _ _ from ⟨E,cr,ct,cw,cC,cD,cE,cG,cH,cJ,O,ax⟩)
       refine kx (guF E J (faO ai O E)) (kx (guF E J (ldO E O E E E)) (kx (guF E J (bNeq E E)) (kx (guF E J (mvO E)) ?_)))
       rcases ite_some h with ⟨Y,h⟩ | ⟨Y,h⟩
       ·refine kx (guT E Y (faO ai O E)) (kx (guT E Y (ldO E O E E E)) (kx (guT E Y (mvO aq)) (kx (guT E Y (bEql E E)) (kx (guF E J (pkT E Y E)) (kx (pkF E J E) (Rn (hA aq (hA ay (hA aw (hA az (hA ai (hA aA (hA aB (hA aC (hN E hZ))))))))) fun eQ cK cM cN cO cQ cR cU cV cW=>?_))))))
        obtain rfl:=si h
        exact kd (show impl_history_c4_Q a2 a3 ao af ah ac ab M.length _ _ from ⟨E,cK,cM,cN,cO,cQ,cR,cU,cV,cW,O,ax⟩)
       refine kx (gsT E Y) (kx (gsT E Y) (kx (gsT E Y) (kx (gsT E Y) (kx (guF E J (pkF E Y E)) (kx (pkF E J E) (Rn (hA aq (hA ay (hA aw (hA az (hA ai (hA aA (hA aB (hA aC (hV (.bool false) E hZ))))))))) fun eS cX cY cZ da db dc de df dg=>?_))))))
       obtain rfl:=si h
       exact kd (show impl_history_c4_Q a2 a3 ao af ah ac ab M.length _ _ from ⟨E,cX,cY,cZ,da,db,dc,de,df,dg,O,ax⟩)
      refine kx (gsT E ae) (kx (gsT E ae) (kx (gsT E ae) (kx (pkF E ae E) (kx (mvO E) (kx (guF E E (faO ai O E)) (kx (guF E E (ldO E O E E E)) (kx (guF E E (bNeq E E)) (kx (guF E E (mvO E)) ?_))))))))
      rcases ite_some h with ⟨aa,h⟩ | ⟨aa,h⟩
      ·refine kx (guT E aa (faO ai O E)) (kx (guT E aa (ldO E O E E E)) (kx (guT E aa (mvO aq)) (kx (guT E aa (bEql E E)) (kx (guF E E (pkT E aa E)) (kx (pkF E E E) (Rn (hA aq (hA ay (hA aw (hA az (hA ai (hA aA (hA aB (hA aC (hN E hZ))))))))) fun eT di dj dk dl dm dn dp dq dt=>?_))))))
       obtain rfl:=si h
       exact kd (show impl_history_c4_Q a2 a3 ao af ah ac ab M.length _ _ from ⟨E,di,dj,dk,dl,dm,dn,dp,dq,dt,O,ax⟩)
      refine kx (gsT E aa) (kx (gsT E aa) (kx (gsT E aa) (kx (gsT E aa) (kx (guF E E (pkF E aa E)) (kx (pkF E E E) (Rn (hA aq (hA ay (hA aw (hA az (hA ai (hA aA (hA aB (hA aC (hV (.bool false) E hZ))))))))) fun eU du dw dx dz dA dC dD dE dF=>?_))))))
      obtain rfl:=si h
      exact kd (show impl_history_c4_Q a2 a3 ao af ah ac ab M.length _ _ from ⟨E,du,dw,dx,dz,dA,dC,dD,dE,dF,O,ax⟩)) ?_
  revert h aE
  revert ba
  intro eV aE h
  intro x eW eX bT
  obtain ⟨rfl,bb,bf,bi,dG,bj,bm,bo,bq,bu,aL,aF⟩:=bT
  refine sN ?_
  rcases ite_some h with ⟨aG,h⟩ | ⟨aG,h⟩
  ·obtain ⟨aM,bU,h⟩:=bind_some h
   refine cT bu aG (Rg (kx (mvO bf) (kx (mvO dG) (kx (litI (cns E E) E ⟨E,by decide⟩) (kw (apO E aF E (elT (c:=(cI .i64)) (xs:=[af]) E) bU (cI_fl _) (by decide)) fun dH aR=>?_)))))
   have bv:=set_ne aR (Ne.symm aO) aL
   have bw:dH[ab]? = some (.live ⟨.grow,2,1,aM.map (cI .i64)⟩):=set_same aR aF
   refine kx (mvO E) (Rn (hV (.int .i64 a3) bb (hV (.lsl ab aM.length 0 aM.length) E (hV (.int .i64 ao) bi (hV (.loc M.length 1 0 0) bj (hV (.sl none (a2.map Deal.c)) bm (hV (.int .i64 (a2.length:Int)) bo (hV (.int .i64 af) bq hZ))))))) fun eY dI dJ dK dL dM dN dO=>sN (sq (Rg (kx (faO dL bv E) (kx (ldO E bv E E E) (kx (bEql E E) (Rn (hA dI (hA dJ (hA dK (hA dM (hA dN (hA dO (hN E hZ))))))) fun eZ bz bA bB bC bD bF bG=>sN ?_)))))))
   rcases ite_some h with ⟨aH,h⟩ | ⟨aH,h⟩
   ·refine cT bG aH (Rg (kx (mvO bB) (kx (bAdd E E) (kx (mvO E) (Rn (hA bz (hA bA (hN E (hA bC (hA bD (hA bF hZ)))))) fun fa dP dQ dR dS dT dU=>bN (sN (Rg (kx (bAdd dU E) (kx (mvO E) (Rn (hA dP (hA dQ (hA dR (hA dS (hA dT (hN E hZ)))))) fun fd dV dW dX dY dZ d5=>?_))))))))))
    obtain rfl:=si h
    exact qN ⟨dV,dW,dX,dY,dZ,d5,bw⟩
   refine cF bG aH (xx (bN (sN (Rg (kx (bAdd bF E) (kx (mvO E) (Rn (hA bz (hA bA (hA bB (hA bC (hA bD (hN E hZ)))))) fun ff d6 d7 d8 d9 ea ed=>?_)))))))
   obtain rfl:=si h
   exact qN ⟨d6,d7,d8,d9,ea,ed,bw⟩
  refine cF bu aG (xx (sN (sq (Rg (kx (faO bj aL E) (kx (ldO E aL E E E) (kx (bEql E E) (Rn (hV (.int .i64 a3) bb (hV (.lsl ab ah.length 0 ah.length) bf (hV (.int .i64 ao) bi (hV (.sl none (a2.map Deal.c)) bm (hV (.int .i64 (a2.length:Int)) bo (hV (.int .i64 af) bq (hN E hZ))))))) fun fg bH bI bJ bK bL bM bP=>sN ?_))))))))
  rcases ite_some h with ⟨aI,h⟩ | ⟨aI,h⟩
  ·refine cT bP aI (Rg (kx (mvO bJ) (kx (bAdd E E) (kx (mvO E) (Rn (hA bH (hA bI (hN E (hA bK (hA bL (hA bM hZ)))))) fun fh ee eo ep eu ew ex=>bN (sN (Rg (kx (bAdd ex E) (kx (mvO E) (Rn (hA ee (hA eo (hA ep (hA eu (hA ew (hN E hZ)))))) fun fi ey ez eA eB eC eD=>?_))))))))))
   obtain rfl:=si h
   exact qN ⟨ey,ez,eA,eB,eC,eD,aF⟩
  refine cF bP aI (xx (bN (sN (Rg (kx (bAdd bM E) (kx (mvO E) (Rn (hA bH (hA bI (hA bJ (hA bK (hA bL (hN E hZ)))))) fun fj eE eF eG eH eJ eK=>?_)))))))
  obtain rfl:=si h
  exact qN ⟨eE,eF,eG,eH,eJ,eK,aF⟩
 refine cF aZ aD (xx (sE ?_))
 obtain rfl:=si h
 exact qE ⟨E,aU,aJ⟩
def impl_history_c5_Q (a1:Book) (a2:List Deal) (a3:Int) (J:Nat) (g:Bool) (q:Out):Prop:=q.1 = .nrm∧eget q.2.1 1 = .sl none (a2.map Deal.c)∧eget q.2.1 2 = .int .i64 a3∧eget q.2.1 3 = .pt none [.int .i64 a1.Day,.sl none (a1.Cash.map (cI .i64)),.sl none (a1.Tallies.map Tally.c)]∧eget q.2.1 38 = .bool g
def impl_history_c8_Q (a2:List Deal) (a3:Int) (ac:Int) (aa:Int) (Y:List Int) (J:Deal) (ab:Nat) (O:Nat) (g:Bool) (q:Out):Prop:=q.1 = .nrm∧eget q.2.1 2 = .int .i64 a3∧eget q.2.1 11 = .lsl ab Y.length 0 Y.length∧eget q.2.1 12 = .int .i64 ac∧eget q.2.1 13 = .int .i64 aa∧eget q.2.1 14 = .loc O 1 0 0∧eget q.2.1 43 = .sl none (a2.map Deal.c)∧eget q.2.1 44 = .int .i64 (a2.length:Int)∧eget q.2.1 45 = .int .i64 aa∧eget q.2.1 68 = .bool g∧q.2.2[ab]? = some (.live ⟨.grow,2,1,Y.map (cI .i64)⟩)∧q.2.2[O]? = some (.live ⟨.box,36,6,[[.int .i64 J.Day,.int .i8 J.Kind,.int .i64 J.Tally,.int .i64 J.From,.int .i64 J.To,.int .i64 J.Amount]]⟩)
abbrev impl_history_b2_S:=Int×Int×(List Int)
abbrev impl_history_b2_R:=(List Int)
def impl_history_b2_RS (a2:List Deal) (a3:Int) (J:Nat) (s:impl_history_b2_S) (e:Env) (M:Mem):Prop:=eget e 2 = .int .i64 a3∧eget e 11 = .lsl J s.2.2.length 0 s.2.2.length∧eget e 12 = .int .i64 s.1∧eget e 43 = .sl none (a2.map Deal.c)∧eget e 44 = .int .i64 (a2.length:Int)∧eget e 45 = .int .i64 s.2.1∧M[J]? = some (.live ⟨.grow,2,1,s.2.2.map (cI .i64)⟩)
def impl_history_b2_RR (a2:List Deal) (a3:Int) (J:Nat) (g:impl_history_b2_R) (x:Ex) (e:Env) (M:Mem):Prop:=x = .ext 0∧eget e 11 = .lsl J g.length 0 g.length∧M[J]? = some (.live ⟨.grow,2,1,g.map (cI .i64)⟩)
noncomputable def impl_history_b2 (a2:List Deal) (a3:Int):impl_history_b2_S→Option (impl_history_b2_S⊕impl_history_b2_R):=fun (Y,J,aa)=>
 if (decide (J < (a2.length:Int)))=true then
  (rd a2 J).bind fun O=>
  (if (O.Kind==1)=true then
   if (Y==a3)=true then
    some true
   else
    if (O.Kind != 1)=true then
     some (O.Tally==a3)
    else
     some false
  else
   if (O.Kind != 1)=true then
    some (O.Tally==a3)
   else
    some false).bind fun ac=>
  if ac=true then
   (app 8 aa [J]).bind fun ab=>
   if (O.Kind==1)=true then
    some (.inl ((IntKind.i64.wrap (Y + 1)),(IntKind.i64.wrap (J + 1)),ab))
   else
    some (.inl (Y,(IntKind.i64.wrap (J + 1)),ab))
  else
   if (O.Kind==1)=true then
    some (.inl ((IntKind.i64.wrap (Y + 1)),(IntKind.i64.wrap (J + 1)),aa))
   else
    some (.inl (Y,(IntKind.i64.wrap (J + 1)),aa))
 else
  some (.inr aa)
theorem impl_history_b2_ok (a2:List Deal) (a3:Int) (ab:Nat) (s:impl_history_b2_S) (r:impl_history_b2_S⊕impl_history_b2_R) (h:impl_history_b2 a2 a3 s=some r) (e:Env) (M:Mem) (hs:impl_history_b2_RS a2 a3 ab s e M):Ev (fun k=>(f66_l11 (CN k) k (prune [2,11,12,43,44,45] e) M).bind fun q=>some q) (bQ (impl_history_b2_RS a2 a3 ab) (impl_history_b2_RR a2 a3 ab) r):=by
 obtain ⟨ao,af,ah⟩:=s
 unfold impl_history_b2 at h
 obtain ⟨bV,bW,bX,bY,bZ,b7,aJ⟩:=hs
 generalize au:prune [2,11,12,43,44,45] e=eL
 have b8:=envp au.symm E bV
 have b9:=envp au.symm E bW
 have cb:=envp au.symm E bX
 have cd:=envp au.symm E bY
 have aS:=envp au.symm E bZ
 have aT:=envp au.symm E b7
 refine sq (Rg (kx (bLss aT aS) (Rn (hV (.int .i64 a3) b8 (hV (.lsl ab ah.length 0 ah.length) b9 (hV (.int .i64 ao) cb (hV (.sl none (a2.map Deal.c)) cd (hV (.int .i64 (a2.length:Int)) aS (hV (.int .i64 af) aT (hN E hZ))))))) fun eM cf aU cg aV ci aK aZ=>sN (sq ?_))))
 rcases ite_some h with ⟨aD,h⟩ | ⟨aD,h⟩
 ·obtain ⟨ac,bS,h⟩:=bind_some h
  refine cT aZ aD (xx (sN (sq (bl (sq (Rg (kx (mvO aK) (kx (ixS aV aK bS Deal.fl) (kx (ldPA E E E) (ku (alO zero36) fun cj aN=>?_))))))))))
  have cm:=push_old aN aJ
  have aO:=ne_new aJ
  have a8:cj[M.length]? = some (.live ⟨.box,36,6,[[.int .i64 0,.int .i8 0,.int .i64 0,.int .i64 0,.int .i64 0,.int .i64 0]]⟩):=push_new aN
  refine kx (mvO E) (kw (stO E E a8 E E ⟨E,ble E⟩ E E) fun cq aP=>?_)
  have ax:=set_ne aP aO cm
  have O:cq[M.length]? = some (.live ⟨.box,36,6,[[.int .i64 ac.Day,.int .i8 ac.Kind,.int .i64 ac.Tally,.int .i64 ac.From,.int .i64 ac.To,.int .i64 ac.Amount]]⟩):=set_same aP a8
  obtain ⟨ba,aE,h⟩:=bind_some h
  refine Rn (hA cf (hA aU (hA cg (hN E (hV (.loc M.length 1 0 0) E (hA aV (hA ci (hA aK hZ)))))))) fun eO aq ay aw az ai aA aB aC=>sN (sq (sq ?_))
  refine Ev.cut (Q1:=impl_history_c8_Q a2 a3 ao af ah ac ab M.length ba) (by
      have h:=aE
      refine Rg (kx (faO ai O E) (kx (ldO E O E E E) (kx (bEql E E) (kx (mvO E) ?_))))
      rcases ite_some h with ⟨ae,h⟩ | ⟨ae,h⟩
      ·refine kx (guT E ae (mvO aw)) (kx (guT E ae (mvO aq)) (kx (guT E ae (bEql E E)) (kx (pkT E ae E) (kx (mvO E) ?_))))
       rcases ite_some h with ⟨J,h⟩ | ⟨J,h⟩
       ·refine kx (gsF E J) (kx (gsF E J) (kx (gsF E J) (kx (gsF E J) (kx (gsU E) (kx (gsU E) (kx (gsU E) (kx (gsU E) (kx (gsF E J) (kx (pkT E J E) (Rn (hA aq (hA ay (hA aw (hA az (hA ai (hA aA (hA aB (hA aC (hV (.bool true) E hZ))))))))) fun eP cr ct cw cC cD cE cG cH cJ=>?_))))))))))
        obtain rfl:=si h
        exact kd (show impl_history_c8_Q a2 a3 ao af ah ac ab M.length _ _ from ⟨E,cr,ct,cw,cC,cD,cE,cG,cH,cJ,ax,O⟩)
       refine kx (guF E J (faO ai O E)) (kx (guF E J (ldO E O E E E)) (kx (guF E J (bNeq E E)) (kx (guF E J (mvO E)) ?_)))
       rcases ite_some h with ⟨Y,h⟩ | ⟨Y,h⟩
       ·refine kx (guT E Y (faO ai O E)) (kx (guT E Y (ldO E O E E E)) (kx (guT E Y (mvO aq)) (kx (guT E Y (bEql E E)) (kx (guF E J (pkT E Y E)) (kx (pkF E J E) (Rn (hA aq (hA ay (hA aw (hA az (hA ai (hA aA (hA aB (hA aC (hN E hZ))))))))) fun eQ cK cM cN cO cQ cR cU cV cW=>?_))))))
        obtain rfl:=si h
        exact kd (show impl_history_c8_Q a2 a3 ao af ah ac ab M.length _ _ from ⟨E,cK,cM,cN,cO,cQ,cR,cU,cV,cW,ax,O⟩)
       refine kx (gsT E Y) (kx (gsT E Y) (kx (gsT E Y) (kx (gsT E Y) (kx (guF E J (pkF E Y E)) (kx (pkF E J E) (Rn (hA aq (hA ay (hA aw (hA az (hA ai (hA aA (hA aB (hA aC (hV (.bool false) E hZ))))))))) fun eS cX cY cZ da db dc de df dg=>?_))))))
       obtain rfl:=si h
       exact kd (show impl_history_c8_Q a2 a3 ao af ah ac ab M.length _ _ from ⟨E,cX,cY,cZ,da,db,dc,de,df,dg,ax,O⟩)
      refine kx (gsT E ae) (kx (gsT E ae) (kx (gsT E ae) (kx (pkF E ae E) (kx (mvO E) (kx (guF E E (faO ai O E)) (kx (guF E E (ldO E O E E E)) (kx (guF E E (bNeq E E)) (kx (guF E E (mvO E)) ?_))))))))
      rcases ite_some h with ⟨aa,h⟩ | ⟨aa,h⟩
      ·refine kx (guT E aa (faO ai O E)) (kx (guT E aa (ldO E O E E E)) (kx (guT E aa (mvO aq)) (kx (guT E aa (bEql E E)) (kx (guF E E (pkT E aa E)) (kx (pkF E E E) (Rn (hA aq (hA ay (hA aw (hA az (hA ai (hA aA (hA aB (hA aC (hN E hZ))))))))) fun eT di dj dk dl dm dn dp dq dt=>?_))))))
       obtain rfl:=si h
       exact kd (show impl_history_c8_Q a2 a3 ao af ah ac ab M.length _ _ from ⟨E,di,dj,dk,dl,dm,dn,dp,dq,dt,ax,O⟩)
      refine kx (gsT E aa) (kx (gsT E aa) (kx (gsT E aa) (kx (gsT E aa) (kx (guF E E (pkF E aa E)) (kx (pkF E E E) (Rn (hA aq (hA ay (hA aw (hA az (hA ai (hA aA (hA aB (hA aC (hV (.bool false) E hZ))))))))) fun eU du dw dx dz dA dC dD dE dF=>?_))))))
      obtain rfl:=si h
      exact kd (show impl_history_c8_Q a2 a3 ao af ah ac ab M.length _ _ from ⟨E,du,dw,dx,dz,dA,dC,dD,dE,dF,ax,O⟩)) ?_
  revert h aE
  revert ba
  intro eV aE h
  intro x eW eX bT
  obtain ⟨rfl,bb,bf,bi,dG,bj,bm,bo,bq,bu,aF,aL⟩:=bT
  refine sN ?_
  rcases ite_some h with ⟨aG,h⟩ | ⟨aG,h⟩
  ·obtain ⟨aM,bU,h⟩:=bind_some h
   refine cT bu aG (Rg (kx (mvO bf) (kx (mvO dG) (kx (litI (cns E E) E ⟨E,by decide⟩) (kw (apO E aF E (elT (c:=(cI .i64)) (xs:=[af]) E) bU (cI_fl _) (by decide)) fun dH aR=>?_)))))
   have bv:dH[ab]? = some (.live ⟨.grow,2,1,aM.map (cI .i64)⟩):=set_same aR aF
   have bw:=set_ne aR (Ne.symm aO) aL
   refine kx (mvO E) (Rn (hV (.int .i64 a3) bb (hV (.lsl ab aM.length 0 aM.length) E (hV (.int .i64 ao) bi (hV (.loc M.length 1 0 0) bj (hV (.sl none (a2.map Deal.c)) bm (hV (.int .i64 (a2.length:Int)) bo (hV (.int .i64 af) bq hZ))))))) fun eY dI dJ dK dL dM dN dO=>sN (sq (Rg (kx (faO dL bw E) (kx (ldO E bw E E E) (kx (bEql E E) (Rn (hA dI (hA dJ (hA dK (hA dM (hA dN (hA dO (hN E hZ))))))) fun eZ bz bA bB bC bD bF bG=>sN ?_)))))))
   rcases ite_some h with ⟨aH,h⟩ | ⟨aH,h⟩
   ·refine cT bG aH (Rg (kx (mvO bB) (kx (bAdd E E) (kx (mvO E) (Rn (hA bz (hA bA (hN E (hA bC (hA bD (hA bF hZ)))))) fun fa dP dQ dR dS dT dU=>bN (sN (Rg (kx (bAdd dU E) (kx (mvO E) (Rn (hA dP (hA dQ (hA dR (hA dS (hA dT (hN E hZ)))))) fun fd dV dW dX dY dZ d5=>?_))))))))))
    obtain rfl:=si h
    exact qN ⟨dV,dW,dX,dY,dZ,d5,bv⟩
   refine cF bG aH (xx (bN (sN (Rg (kx (bAdd bF E) (kx (mvO E) (Rn (hA bz (hA bA (hA bB (hA bC (hA bD (hN E hZ)))))) fun ff d6 d7 d8 d9 ea ed=>?_)))))))
   obtain rfl:=si h
   exact qN ⟨d6,d7,d8,d9,ea,ed,bv⟩
  refine cF bu aG (xx (sN (sq (Rg (kx (faO bj aL E) (kx (ldO E aL E E E) (kx (bEql E E) (Rn (hV (.int .i64 a3) bb (hV (.lsl ab ah.length 0 ah.length) bf (hV (.int .i64 ao) bi (hV (.sl none (a2.map Deal.c)) bm (hV (.int .i64 (a2.length:Int)) bo (hV (.int .i64 af) bq (hN E hZ))))))) fun fg bH bI bJ bK bL bM bP=>sN ?_))))))))
  rcases ite_some h with ⟨aI,h⟩ | ⟨aI,h⟩
  ·refine cT bP aI (Rg (kx (mvO bJ) (kx (bAdd E E) (kx (mvO E) (Rn (hA bH (hA bI (hN E (hA bK (hA bL (hA bM hZ)))))) fun fh ee eo ep eu ew ex=>bN (sN (Rg (kx (bAdd ex E) (kx (mvO E) (Rn (hA ee (hA eo (hA ep (hA eu (hA ew (hN E hZ)))))) fun fi ey ez eA eB eC eD=>?_))))))))))
   obtain rfl:=si h
   exact qN ⟨ey,ez,eA,eB,eC,eD,aF⟩
  refine cF bP aI (xx (bN (sN (Rg (kx (bAdd bM E) (kx (mvO E) (Rn (hA bH (hA bI (hA bJ (hA bK (hA bL (hN E hZ)))))) fun fj eE eF eG eH eJ eK=>?_)))))))
  obtain rfl:=si h
  exact qN ⟨eE,eF,eG,eH,eJ,eK,aF⟩
 refine cF aZ aD (xx (sE ?_))
 obtain rfl:=si h
 exact qE ⟨E,aU,aJ⟩
noncomputable def impl_history (a1:Book) (a2:List Deal) (a3:Int):Option (Int⊕((List Int))):=
 (impl_dealsCode a1 a2).bind fun r7=>
 if (r7 != 0)=true then
  some (.inl r7)
 else
  (impl_behind a1 a2).bind fun r=>match r with
  | (.inl J)=>
   if (J != 0)=true then
    some (.inl J)
   else
    (if (decide (a3 < 0))=true then
     some true
    else
     some (decide (a3≥0))).bind fun ac=>
    if ac=true then
     some (.inl 6)
    else
     (Lw (impl_history_b1 a2 a3) ((a1.Tallies.length:Int),0,([]:List Int))).bind fun O=>
     some (.inr O)
  | (.inr (ae,af,Y))=>
   (if (decide (a3 < 0))=true then
    some true
   else
    some (decide (a3≥(Y.length:Int)))).bind fun aa=>
   if aa=true then
    some (.inl 6)
   else
    (Lw (impl_history_b2 a2 a3) ((a1.Tallies.length:Int),0,([]:List Int))).bind fun ab=>
    some (.inr ab)
def impl_history_enc (r:Int⊕((List Int))):AV:=
  match r with
  | (.inl g)=>.tup [.nils,.int .i64 g]
  | (.inr g)=>.tup [.sl (some 2) (g.map (cI .i64)),.int .i64 0]
theorem impl_history_ok (a1:Book) (a2:List Deal) (a3:Int) (r:Int⊕((List Int))) (h:impl_history a1 a2 a3=some r):Ev (fun k=>CN k 66 [.agg [.int .i64 a1.Day,.sl none (a1.Cash.map (cI .i64)),.sl none (a1.Tallies.map Tally.c)],.sl none (a2.map Deal.c),.int .i64 a3] []) (fun p=>rRes p.2 p.1=impl_history_enc r):=by
 unfold impl_history at h
 obtain ⟨r7,cJ,h⟩:=bind_some h
 refine Ev.enter (F:=fun k=>f66 (CN k) k) (fun k=>callN_eq E Try.func66 E E E (by decide +kernel) (f66_eq _ _)) (sq (Rg (kx (bxI E E ⟨E,E,by decide⟩) (kx (mvO E) (kx (mvO E) (Rn (hN E (hN E (hN E hZ))) fun e1 h3 h4 h5=>sN (sq (sq (Rg (kx (ldPA h5 E E) (kx (mvO h3) (kc (cl (v:=.int .i64 r7) E E (cns E (cns E E)) E (impl_dealsCode_ok a1 a2 _ cJ) nm) (kx (mvO E) (Rn (hA h3 (hA h4 (hA h5 (hN E hZ)))) fun e8 cK cM cN aZ=>sN (sq (Rg (kx (mvO aZ) (kx (bNeq E E) (Rn (hA cK (hA cM (hA cN (hA aZ (hN E hZ))))) fun d7 ax a8 ay cO ba=>sN ?_)))))))))))))))))))
 rcases ite_some h with ⟨ai,h⟩ | ⟨ai,h⟩
 ·refine cT ba ai (sq (Rg (kx (mvO cO) (kx (mvO E) (kx (mvO E) (Rn (hV .nils E (hN E hZ)) fun d8 cQ cR=>sN (xx (sR ?_))))))))
  obtain rfl:=si h
  exact eR (resT cQ (resT cR res0)) E
 obtain ⟨bu,az,h⟩:=bind_some h
 refine cF ba ai (xx (sN (sq (Rg (kx (ldPA ay E E) (kx (mvO ax) ?_))))))
 rcases bu with cU | ⟨aA,aB,aC⟩
 ·refine kc (cl (v:=.tup [.agg [.int .i64 0,.nils,.nils],.int .i64 cU]) E E (cns E (cns E E)) E (impl_behind_ok a1 a2 _ az) nm) (kx (mvO E) (kx (exT E E) (kx (exT E E) (ku (alO zero27) fun cV bv=>?_))))
  have bb:cV[([]:Mem).length]? = some (.live ⟨.box,27,3,[[.int .i64 0,.nils,.nils]]⟩):=push_new bv
  refine kw (stO E E bb E E ⟨E,ble E⟩ E E) fun cW bw=>?_
  have bf:cW[([]:Mem).length]? = some (.live ⟨.box,27,3,[[.int .i64 0,.nils,.nils]]⟩):=set_same bw bb
  refine kx (mvO E) (Rn (hA ax (hA a8 (hA ay (hV (.loc ([]:Mem).length 1 0 0) E (hN E hZ))))) fun d9 cX cY cZ da bi=>sN (sq (sq (Rg (kx (mvO bi) (kx (bNeq E E) (Rn (hA cX (hA cY (hA cZ (hA da (hA bi (hN E hZ)))))) fun ea bj aw bm db dc bo=>sN ?_)))))))
  rcases ite_some h with ⟨ao,h⟩ | ⟨ao,h⟩
  ·refine cT bo ao (sq (Rg (kx (mvO dc) (kx (mvO E) (kx (mvO E) (Rn (hV .nils E (hN E hZ)) fun ed de df=>sN (xx (sR ?_))))))))
   obtain rfl:=si h
   exact eR (resT de (resT df res0)) E
  obtain ⟨aD,ab,h⟩:=bind_some h
  refine cF bo ao (xx (sN (sq (sq ?_))))
  refine Ev.cut (Q1:=impl_history_c1_Q a1 a2 a3 (([]:Mem).length) aD) (by
      have h:=ab
      refine Rg (kx (mvO aw) (kx (bLss E E) (kx (mvO E) ?_)))
      rcases ite_some h with ⟨O,h⟩ | ⟨O,h⟩
      ·refine kx (gsF E O) (kx (gsF E O) (kx (gsF E O) (kx (gsF E O) (kx (gsF E O) (kx (pkT E O E) (Rn (hA bj (hA aw (hA bm (hV (.bool true) E hZ)))) fun ee dg di dj dk=>?_))))))
       obtain rfl:=si h
       exact kd (show impl_history_c1_Q a1 a2 a3 (([]:Mem).length) _ _ from ⟨E,dg,di,dj,dk⟩)
      refine kx (guF E O (mvO aw)) (kx (guF E O (faO db bf E)) (kx (guF E O (ldO E bf E E E)) (kx (guF E O (lnN Try.underlying25 E)) (kx (guF E O (bGeq E E)) (kx (pkF E O E) (Rn (hA bj (hA aw (hA bm (hN E hZ)))) fun eo dl dm dn dp=>?_))))))
      obtain rfl:=si h
      exact kd (show impl_history_c1_Q a1 a2 a3 (([]:Mem).length) _ _ from ⟨E,dl,dm,dn,dp⟩)) ?_
  revert h ab
  revert aD
  intro ep ab h
  intro x eu aa aN
  obtain ⟨rfl,dq,dt,du,bq⟩:=aN
  refine sN ?_
  rcases ite_some h with ⟨aq,h⟩ | ⟨aq,h⟩
  ·refine cT bq aq (sq (Rg (kx (mvO E) (kx (mvO E) (Rn (hV .nils E (hV (.int .i64 6) E hZ)) fun ew dw dx=>sN (xx (sR ?_)))))))
   obtain rfl:=si h
   exact eR (resT dw (resT dx res0)) E
  refine cF bq aq (xx (sN (sq (Rd (Ev.nfpushE (litO (xs:=([]:List Int)) (c:=(cI .i64)) E E (by decide)) (kf (faP du ⟨ble E,blt E⟩ E) (kf (ldP E E) (kf (lnS Try.underlying25 E) (kf (mvO E) (kf (mvO E) (Ev.fend1 fun dz au=>?_)))))))))))
  have au:=fendM au [⟨.grow,2,1,([]:List Int).map (cI .i64)⟩] E
  have dA:dz[aa.length]? = some (.live ⟨.grow,2,1,([]:List Int).map (cI .i64)⟩):=push_at au 0 E
  obtain ⟨aE,aO,h⟩:=bind_some h
  refine Rn (hV (.sl none (a2.map Deal.c)) dq (hV (.int .i64 a3) dt (hV (.lsl aa.length ([]:List Int).length 0 ([]:List Int).length) E (hN E hZ)))) fun ex dC dD dE dF=>sN (sq (sq (Rg (kx (mvO dC) (kx (lnS Try.underlying28 E) (kx (mvO E) (Rn (hA dD (hA dE (hA dF (hN E (hN E (hV (.int .i64 0) E hZ)))))) fun ey dG dH dI dJ dK dL=>sN (bl (Ev.loop (RS:=impl_history_b1_RS a2 a3 aa.length) (RR:=impl_history_b1_RR a2 a3 aa.length) (fun s r h e M hs=>impl_history_b1_ok a2 a3 aa.length s r h e M hs) aO ⟨dG,dH,dI,dJ,dK,dL,dA⟩ fun x dM dN aP=>?_)))))))))
  obtain ⟨rfl,bz,bA⟩:=aP
  refine bE (sN (sq (Rg (kx (mvO bz) (kx (mvO E) (kx (mvO E) (Rn (hV (.lsl aa.length aE.length 0 aE.length) E (hV (.int .i64 0) E hZ)) fun dO bB bC=>sN (xx ?_))))))))
  obtain rfl:=si h
  exact eR (resT bB (resT bC res0)) (rr_tup (mp1 (rr_row bA E (cI_fl _)) (mp1 E mp0)))
 refine kc (cl (v:=.tup [.agg [.int .i64 aA,.sl none (aB.map (cI .i64)),.sl none (aC.map Tally.c)],.int .i64 0]) E E (cns E (cns E E)) E (impl_behind_ok a1 a2 _ az) nm) (kx (mvO E) (kx (exT E E) (kx (exT E E) (ku (alO zero27) fun bD aR=>?_))))
 have aF:bD[([]:Mem).length]? = some (.live ⟨.box,27,3,[[.int .i64 0,.nils,.nils]]⟩):=push_new aR
 refine kw (stO E E aF E E ⟨E,ble E⟩ E E) fun bF aS=>?_
 have aG:bF[([]:Mem).length]? = some (.live ⟨.box,27,3,[[.int .i64 aA,.sl none (aB.map (cI .i64)),.sl none (aC.map Tally.c)]]⟩):=set_same aS aF
 obtain ⟨aH,ac,h⟩:=bind_some h
 refine kx (mvO E) (Rn (hA ax (hA a8 (hA ay (hV (.loc ([]:Mem).length 1 0 0) E (hV (.int .i64 0) E hZ))))) fun dP bG bH bI bJ aI=>sN (sq (sq (Rg (kx (mvO aI) (kx (bNeq E E) (Rn (hA bG (hA bH (hA bI (hA bJ (hA aI (hV (.bool false) E hZ)))))) fun dQ aJ ae aK bK dR bL=>sN (cF bL E (xx (sN (sq (sq ?_))))))))))))
 refine Ev.cut (Q1:=impl_history_c5_Q a1 a2 a3 (([]:Mem).length) aH) (by
     have h:=ac
     refine Rg (kx (mvO ae) (kx (bLss E E) (kx (mvO E) ?_)))
     rcases ite_some h with ⟨J,h⟩ | ⟨J,h⟩
     ·refine kx (gsF E J) (kx (gsF E J) (kx (gsF E J) (kx (gsF E J) (kx (gsF E J) (kx (pkT E J E) (Rn (hA aJ (hA ae (hA aK (hV (.bool true) E hZ)))) fun dS bM bP bS bT=>?_))))))
      obtain rfl:=si h
      exact kd (show impl_history_c5_Q a1 a2 a3 (([]:Mem).length) _ _ from ⟨E,bM,bP,bS,bT⟩)
     refine kx (guF E J (mvO ae)) (kx (guF E J (faO bK aG E)) (kx (guF E J (ldO E aG E E E)) (kx (guF E J (lnS Try.underlying25 E)) (kx (guF E J (bGeq E E)) (kx (pkF E J E) (Rn (hA aJ (hA ae (hA aK (hN E hZ)))) fun dT bU bV bW bX=>?_))))))
     obtain rfl:=si h
     exact kd (show impl_history_c5_Q a1 a2 a3 (([]:Mem).length) _ _ from ⟨E,bU,bV,bW,bX⟩)) ?_
 revert h ac
 revert aH
 intro dU ac h
 intro x dV Y aT
 obtain ⟨rfl,bY,bZ,b7,aL⟩:=aT
 refine sN ?_
 rcases ite_some h with ⟨af,h⟩ | ⟨af,h⟩
 ·refine cT aL af (sq (Rg (kx (mvO E) (kx (mvO E) (Rn (hV .nils E (hV (.int .i64 6) E hZ)) fun dW b8 b9=>sN (xx (sR ?_)))))))
  obtain rfl:=si h
  exact eR (resT b8 (resT b9 res0)) E
 refine cF aL af (xx (sN (sq (Rd (Ev.nfpushE (litO (xs:=([]:List Int)) (c:=(cI .i64)) E E (by decide)) (kf (faP b7 ⟨ble E,blt E⟩ E) (kf (ldP E E) (kf (lnS Try.underlying25 E) (kf (mvO E) (kf (mvO E) (Ev.fend1 fun cb ah=>?_)))))))))))
 have ah:=fendM ah [⟨.grow,2,1,([]:List Int).map (cI .i64)⟩] E
 have cd:cb[Y.length]? = some (.live ⟨.grow,2,1,([]:List Int).map (cI .i64)⟩):=push_at ah 0 E
 obtain ⟨aM,aU,h⟩:=bind_some h
 refine Rn (hV (.sl none (a2.map Deal.c)) bY (hV (.int .i64 a3) bZ (hV (.lsl Y.length ([]:List Int).length 0 ([]:List Int).length) E (hN E hZ)))) fun dX cf cg ci cj=>sN (sq (sq (Rg (kx (mvO cf) (kx (lnS Try.underlying28 E) (kx (mvO E) (Rn (hA cg (hA ci (hA cj (hN E (hN E (hV (.int .i64 0) E hZ)))))) fun dY cm cq cr ct cw cC=>sN (bl (Ev.loop (RS:=impl_history_b2_RS a2 a3 Y.length) (RR:=impl_history_b2_RR a2 a3 Y.length) (fun s r h e M hs=>impl_history_b2_ok a2 a3 Y.length s r h e M hs) aU ⟨cm,cq,cr,ct,cw,cC,cd⟩ fun x dZ d5 aV=>?_)))))))))
 obtain ⟨rfl,cD,cE⟩:=aV
 refine bE (sN (sq (Rg (kx (mvO cD) (kx (mvO E) (kx (mvO E) (Rn (hV (.lsl Y.length aM.length 0 aM.length) E (hV (.int .i64 0) E hZ)) fun d6 cG cH=>sN (xx ?_))))))))
 obtain rfl:=si h
 exact eR (resT cG (resT cH res0)) (rr_tup (mp1 (rr_row cE E (cI_fl _)) (mp1 E mp0)))
noncomputable def impl_personCode (a1:Book) (a2:Int):Option Int:=
 (impl_ValidBook a1).bind fun r6=>
 if r6=true then
  (impl_arePeople (a1.Cash.length:Int) [a2]).bind fun J=>
  if J=true then
   some 0
  else
   some 2
 else
  some 1
def impl_personCode_enc (r:Int):AV:=.int .i64 r
theorem impl_personCode_ok (a1:Book) (a2:Int) (r:Int) (h:impl_personCode a1 a2=some r):Ev (fun k=>CN k 63 [.agg [.int .i64 a1.Day,.sl none (a1.Cash.map (cI .i64)),.sl none (a1.Tallies.map Tally.c)],.int .i64 a2] []) (fun p=>rRes p.2 p.1=impl_personCode_enc r):=by
 unfold impl_personCode at h
 obtain ⟨r6,ac,h⟩:=bind_some h
 refine Ev.enter (F:=fun k=>f63 (CN k) k) (fun k=>callN_eq E Try.func63 E E E (by decide +kernel) (f63_eq _ _)) (sq (Rg (kx (bxI E E ⟨E,E,by decide⟩) (kx (mvO E) (Rn (hN E (hN E hZ)) fun e1 h3 h4=>sN (sq (bl (sq (Rg (kx (ldPA h4 E E) (kc (cl (v:=.bool r6) E E (cns E E) E (impl_ValidBook_ok a1 _ ac) nm) (kx (uNot E) (kx (mvO E) (Rn (hA h3 (hA h4 (hN E hZ))) fun e7 h9 ae Y=>sN ?_))))))))))))))
 rcases ite_some h with ⟨J,h⟩ | ⟨J,h⟩
 ·obtain ⟨af,ab,h⟩:=bind_some h
  refine cF Y (congrArg Bool.not J) (sq (Rg (kx (faP ae ⟨ble E,blt E⟩ E) (kx (ldP E E) (kx (lnS Try.underlying24 E) (kx (mvO h9) (kx (litI (cns E E) E ⟨E,by decide⟩) (kc (cl (v:=.bool af) E E (cns E (cns E E)) E (impl_arePeople_ok (a1.Cash.length:Int) [a2] _ ab) nm) (kx (uNot E) (kx (mvO E) (Rn (hN E hZ) fun aq aa=>sN ?_)))))))))))
  rcases ite_some h with ⟨O,h⟩ | ⟨O,h⟩
  ·refine cF aa (congrArg Bool.not O) (xx (bN (sN (sq (Rg (kx (mvO E) (Rn (hV (.int .i64 0) E hZ) fun au ah=>sN (xx ?_))))))))
   obtain rfl:=si h
   exact eR (resT ah res0) E
  refine cT aa (congrArg Bool.not O) (sq (Rg (kx (mvO E) (Rn (hV (.int .i64 2) E hZ) fun aw ai=>sN (xx (bR (sR ?_)))))))
  obtain rfl:=si h
  exact eR (resT ai res0) E
 refine cT Y (congrArg Bool.not J) (sq (Rg (kx (mvO E) (Rn (hV (.int .i64 1) E hZ) fun ax ao=>sN (xx (bR (sR ?_)))))))
 obtain rfl:=si h
 exact eR (resT ao res0) E
noncomputable def impl_worthOf (a1:Book) (a2:Int):Option Int:=
 (impl_getsAndOwes a1 a2).bind fun (r6,r7)=>
 (rd a1.Cash a2).bind fun J=>
 some (IntKind.i64.wrap ((IntKind.i64.wrap (J + r6)) - r7))
def impl_worthOf_enc (r:Int):AV:=.int .i64 r
theorem impl_worthOf_ok (a1:Book) (a2:Int) (r:Int) (h:impl_worthOf a1 a2=some r):Ev (fun k=>CN k 62 [.agg [.int .i64 a1.Day,.sl none (a1.Cash.map (cI .i64)),.sl none (a1.Tallies.map Tally.c)],.int .i64 a2] []) (fun p=>rRes p.2 p.1=impl_worthOf_enc r):=by
 unfold impl_worthOf at h
 obtain ⟨⟨r6,r7⟩,O,h⟩:=bind_some h
 obtain ⟨af,J,h⟩:=bind_some h
 refine Ev.enter (F:=fun k=>f62 (CN k) k) (fun k=>callN_eq E Try.func62 E E E (by decide +kernel) (f62_eq _ _)) (sq (Rg (kx (bxI E E ⟨E,E,by decide⟩) (kx (mvO E) (Rn (hN E (hN E hZ)) fun e1 h3 h4=>sN (sq (Rg (kx (ldPA h4 E E) (kx (mvO h3) (kc (cl (v:=.tup [.int .i64 r6,.int .i64 r7]) E E (cns E (cns E E)) E (impl_getsAndOwes_ok a1 a2 _ O) nm) (kx (mvO E) (kx (exT E E) (kx (exT E E) (kx (mvO E) (kx (mvO E) (Rn (hA h3 (hA h4 (hN E (hN E hZ)))) fun e8 Y aa ab ac=>sN (sq (Rg (kx (faP aa ⟨ble E,blt E⟩ E) (kx (ldP E E) (kx (mvO Y) (kx (ixS E E J (cI_fl _)) (kx (ldP E E) (kx (mvO ab) (kx (bAdd E E) (kx (mvO ac) (kx (bSub E E) (kx (mvO E) (Rn (hN E hZ) fun ah ae=>sN (xx ?_))))))))))))))))))))))))))))))
 obtain rfl:=si h
 exact eR (resT ae res0) E
abbrev spec_l00Same_b1_S:=Int
abbrev spec_l00Same_b1_R:=Unit⊕Unit
def spec_l00Same_b1_RS (a1:List Int) (a2:List Int) (s:spec_l00Same_b1_S) (e:Env) (M:Mem):Prop:=eget e 0 = .sl none (a1.map (cI .i64))∧eget e 1 = .sl none (a2.map (cI .i64))∧eget e 5 = .int .i64 s
def spec_l00Same_b1_RR (a1:List Int) (a2:List Int) (r:spec_l00Same_b1_R) (x:Ex) (e:Env) (M:Mem):Prop:=
  match r with
  | (.inl g)=>x = .ret∧eget e 4 = .bool false
  | (.inr g)=>x = .ext 0∧True
noncomputable def spec_l00Same_b1 (a1:List Int) (a2:List Int):spec_l00Same_b1_S→Option (spec_l00Same_b1_S⊕spec_l00Same_b1_R):=fun J=>
 if (decide (J < (a1.length:Int)))=true then
  (rd a1 J).bind fun O=>
  (rd a2 J).bind fun Y=>
  if (O != Y)=true then
   some (.inr (.inl ()))
  else
   some (.inl (IntKind.i64.wrap (J + 1)))
 else
  some (.inr (.inr ()))
theorem spec_l00Same_b1_ok (a1:List Int) (a2:List Int) (s:spec_l00Same_b1_S) (r:spec_l00Same_b1_S⊕spec_l00Same_b1_R) (h:spec_l00Same_b1 a1 a2 s=some r) (e:Env) (M:Mem) (hs:spec_l00Same_b1_RS a1 a2 s e M):Ev (fun k=>(f60_l4 (CN k) k (prune [0,1,5] e) M).bind fun q=>some q) (bQ (spec_l00Same_b1_RS a1 a2) (spec_l00Same_b1_RR a1 a2) r):=by
 revert h hs
 revert s
 intro ao h hs
 unfold spec_l00Same_b1 at h
 obtain ⟨aw,ax,ay⟩:=hs
 generalize J:prune [0,1,5] e=aH
 have ab:=envp J.symm E aw
 have az:=envp J.symm E ax
 have ac:=envp J.symm E ay
 refine sq (sq (Rg (kx (mvO ac) (kx (mvO ab) (kx (lnS Try.underlying24 E) (kx (bLss E E) (Rn (hV (.sl none (a1.map (cI .i64))) ab (hV (.sl none (a2.map (cI .i64))) az (hV (.int .i64 ao) ac (hN E hZ)))) fun aI ae af aa ah=>sN ?_)))))))
 rcases ite_some h with ⟨O,h⟩ | ⟨O,h⟩
 ·obtain ⟨aJ,aq,h⟩:=bind_some h
  obtain ⟨aK,au,h⟩:=bind_some h
  refine cT ah O (xx (sN (sq (bl (sq (Rd (kf (mvO ae) (kf (mvO aa) (kf (ixS E E aq (cI_fl _)) (kf (ldP E E) (kf (mvO af) (kf (mvO aa) (kf (ixS E E au (cI_fl _)) (kf (ldP E E) (kf (bNeq E E) (fZ (Rn (hA ae (hA af (hA aa (hN E hZ)))) fun aL aA aB aC ai=>sN ?_)))))))))))))))))
  rcases ite_some h with ⟨Y,h⟩ | ⟨Y,h⟩
  ·refine cT ai Y (sq (Rg (kx (mvO E) (Rn (hV (.bool false) E hZ) fun aM aD=>sN (xx (bR (sR ?_)))))))
   obtain rfl:=si h
   exact qR ⟨E,aD⟩
  refine cF ai Y (xx (bN (sN (Rg (kx (mvO aC) (kx (bAdd E E) (kx (mvO E) (Rn (hA aA (hA aB (hN E hZ))) fun aN aE aF aG=>?_))))))))
  obtain rfl:=si h
  exact qN ⟨aE,aF,aG⟩
 refine cF ah O (xx (sE ?_))
 obtain rfl:=si h
 exact qE ⟨E,trivial⟩
noncomputable def spec_l00Same (a1:List Int) (a2:List Int):Option Bool:=
 if ((a1.length:Int) != (a2.length:Int))=true then
  some false
 else
  (Lw (spec_l00Same_b1 a1 a2) 0).bind fun r=>match r with
  | (.inl _)=>
   some false
  | (.inr _)=>
   some true
def spec_l00Same_enc (r:Bool):AV:=.bool r
theorem spec_l00Same_ok (a1:List Int) (a2:List Int) (r:Bool) (h:spec_l00Same a1 a2=some r):Ev (fun k=>CN k 60 [.sl none (a1.map (cI .i64)),.sl none (a2.map (cI .i64))] []) (fun p=>rRes p.2 p.1=spec_l00Same_enc r):=by
 unfold spec_l00Same at h
 refine Ev.enter (F:=fun k=>f60 (CN k) k) (fun k=>callN_eq E Try.func60 E E E (by decide +kernel) (f60_eq _ _)) (sq (Rg (kx (mvO E) (Rn (hN E (hN E hZ)) fun e1 h3 h4=>sN (sq (sq (Rg (kx (mvO h3) (kx (lnS Try.underlying24 E) (kx (mvO h4) (kx (lnS Try.underlying24 E) (kx (bNeq E E) (Rn (hA h3 (hA h4 (hN E hZ))) fun e5 h7 h8 h9=>sN ?_)))))))))))))
 rcases ite_some h with ⟨J,h⟩ | ⟨J,h⟩
 ·refine cT h9 J (sq (Rg (kx (mvO E) (Rn (hV (.bool false) E hZ) fun ao ae=>sN (xx (sR ?_))))))
  obtain rfl:=si h
  exact eR (resT ae res0) E
 obtain ⟨af,Y,h⟩:=bind_some h
 refine cF h9 J (xx (sN (sq (sq (Rg (kx (mvO E) (Rn (hA h7 (hA h8 (hV (.int .i64 0) E hZ))) fun aq aa ab ac=>sN (bl ?_))))))))
 rcases af with _ | _
 ·refine Ev.loop (RS:=spec_l00Same_b1_RS a1 a2) (RR:=spec_l00Same_b1_RR a1 a2) (fun s r h e M hs=>spec_l00Same_b1_ok a1 a2 s r h e M hs) Y ⟨aa,ab,ac⟩ fun x au aw O=>?_
  obtain ⟨rfl,ah⟩:=O
  refine bR (sR ?_)
  obtain rfl:=si h
  exact eR (resT ah res0) E
 refine Ev.loop (RS:=spec_l00Same_b1_RS a1 a2) (RR:=spec_l00Same_b1_RR a1 a2) (fun s r h e M hs=>spec_l00Same_b1_ok a1 a2 s r h e M hs) Y ⟨aa,ab,ac⟩ fun x ax ay O=>?_
 obtain ⟨rfl,_⟩:=O
 refine bE (sN (sq (Rg (kx (mvO E) (Rn (hV (.bool true) E hZ) fun az ai=>sN (xx ?_))))))
 obtain rfl:=si h
 exact eR (resT ai res0) E
def spec_l07Same_c1_Q (a1:Book) (a2:Book) (g:Bool) (q:Out):Prop:=q.1 = .nrm∧eget q.2.1 0 = .pt none [.int .i64 a1.Day,.sl none (a1.Cash.map (cI .i64)),.sl none (a1.Tallies.map Tally.c)]∧eget q.2.1 1 = .pt none [.int .i64 a2.Day,.sl none (a2.Cash.map (cI .i64)),.sl none (a2.Tallies.map Tally.c)]∧eget q.2.1 39 = .bool g
abbrev spec_l07Same_b1_S:=Int
abbrev spec_l07Same_b1_R:=Unit⊕Unit
def spec_l07Same_b1_RS (a1:Book) (a2:Book) (s:spec_l07Same_b1_S) (e:Env) (M:Mem):Prop:=eget e 0 = .pt none [.int .i64 a1.Day,.sl none (a1.Cash.map (cI .i64)),.sl none (a1.Tallies.map Tally.c)]∧eget e 1 = .pt none [.int .i64 a2.Day,.sl none (a2.Cash.map (cI .i64)),.sl none (a2.Tallies.map Tally.c)]∧eget e 5 = .int .i64 s
def spec_l07Same_b1_RR (a1:Book) (a2:Book) (r:spec_l07Same_b1_R) (x:Ex) (e:Env) (M:Mem):Prop:=
  match r with
  | (.inl g)=>x = .ret∧eget e 4 = .bool false
  | (.inr g)=>x = .ext 0∧True
noncomputable def spec_l07Same_b1 (a1:Book) (a2:Book):spec_l07Same_b1_S→Option (spec_l07Same_b1_S⊕spec_l07Same_b1_R):=fun J=>
 if (decide (J < (a1.Tallies.length:Int)))=true then
  (rd a1.Tallies J).bind fun O=>
  (rd a2.Tallies J).bind fun Y=>
  if ((O.Debtor==Y.Debtor) && ((O.Holder==Y.Holder) && ((O.Cut==Y.Cut) && ((O.Amount==Y.Amount) && ((O.Left==Y.Left) && true)))))=true then
   some (.inl (IntKind.i64.wrap (J + 1)))
  else
   some (.inr (.inl ()))
 else
  some (.inr (.inr ()))
theorem spec_l07Same_b1_ok (a1:Book) (a2:Book) (s:spec_l07Same_b1_S) (r:spec_l07Same_b1_S⊕spec_l07Same_b1_R) (h:spec_l07Same_b1 a1 a2 s=some r) (e:Env) (M:Mem) (hs:spec_l07Same_b1_RS a1 a2 s e M):Ev (fun k=>(f59_l4 (CN k) k (prune [0,1,5] e) M).bind fun q=>some q) (bQ (spec_l07Same_b1_RS a1 a2) (spec_l07Same_b1_RR a1 a2) r):=by
 revert h hs
 revert s
 intro ao h hs
 unfold spec_l07Same_b1 at h
 obtain ⟨aw,ax,ay⟩:=hs
 generalize J:prune [0,1,5] e=aH
 have ab:=envp J.symm E aw
 have az:=envp J.symm E ax
 have ac:=envp J.symm E ay
 refine sq (sq (Rg (kx (mvO ac) (kx (mvO ab) (kx (ncP E) (kx (faP E ⟨ble E,blt E⟩ E) (kx (ldP E E) (kx (lnS Try.underlying25 E) (kx (bLss E E) (Rn (hV (.pt none [.int .i64 a1.Day,.sl none (a1.Cash.map (cI .i64)),.sl none (a1.Tallies.map Tally.c)]) ab (hV (.pt none [.int .i64 a2.Day,.sl none (a2.Cash.map (cI .i64)),.sl none (a2.Tallies.map Tally.c)]) az (hV (.int .i64 ao) ac (hN E hZ)))) fun aI ae af aa ah=>sN ?_))))))))))
 rcases ite_some h with ⟨O,h⟩ | ⟨O,h⟩
 ·obtain ⟨aJ,aq,h⟩:=bind_some h
  obtain ⟨aK,au,h⟩:=bind_some h
  refine cT ah O (xx (sN (sq (bl (sq (Rd (kf (mvO ae) (kf (ncP E) (kf (faP E ⟨ble E,blt E⟩ E) (kf (ldP E E) (kf (mvO aa) (kf (ixS E E aq Tally.fl) (kf (ldPA E E E) (kf (mvO af) (kf (ncP E) (kf (faP E ⟨ble E,blt E⟩ E) (kf (ldP E E) (kf (mvO aa) (kf (ixS E E au Tally.fl) (kf (ldPA E E E) (kf (gNeq E E (by kernel_rfl) E) (fZ (Rn (hA ae (hA af (hA aa (hN E hZ)))) fun aL aA aB aC ai=>sN ?_)))))))))))))))))))))))
  rcases ite_some h with ⟨Y,h⟩ | ⟨Y,h⟩
  ·refine cF ai (congrArg Bool.not Y) (xx (bN (sN (Rg (kx (mvO aC) (kx (bAdd E E) (kx (mvO E) (Rn (hA aA (hA aB (hN E hZ))) fun aM aD aE aF=>?_))))))))
   obtain rfl:=si h
   exact qN ⟨aD,aE,aF⟩
  refine cT ai (congrArg Bool.not Y) (sq (Rg (kx (mvO E) (Rn (hV (.bool false) E hZ) fun aN aG=>sN (xx (bR (sR ?_)))))))
  obtain rfl:=si h
  exact qR ⟨E,aG⟩
 refine cF ah O (xx (sE ?_))
 obtain rfl:=si h
 exact qE ⟨E,trivial⟩
noncomputable def spec_l07Same (a1:Book) (a2:Book):Option Bool:=
 (if (a1.Day != a2.Day)=true then
  some true
 else
  (spec_l00Same a1.Cash a2.Cash).bind fun J=>
  if J=true then
   some ((a1.Tallies.length:Int) != (a2.Tallies.length:Int))
  else
   some true).bind fun O=>
 if O=true then
  some false
 else
  (Lw (spec_l07Same_b1 a1 a2) 0).bind fun r=>match r with
  | (.inl _)=>
   some false
  | (.inr _)=>
   some true
def spec_l07Same_enc (r:Bool):AV:=.bool r
theorem spec_l07Same_ok (a1:Book) (a2:Book) (r:Bool) (h:spec_l07Same a1 a2=some r):Ev (fun k=>CN k 59 [.pt none [.int .i64 a1.Day,.sl none (a1.Cash.map (cI .i64)),.sl none (a1.Tallies.map Tally.c)],.pt none [.int .i64 a2.Day,.sl none (a2.Cash.map (cI .i64)),.sl none (a2.Tallies.map Tally.c)]] []) (fun p=>rRes p.2 p.1=spec_l07Same_enc r):=by
 unfold spec_l07Same at h
 obtain ⟨ae,Y,h⟩:=bind_some h
 refine Ev.enter (F:=fun k=>f59 (CN k) k) (fun k=>callN_eq E Try.func59 E E E (by decide +kernel) (f59_eq _ _)) (sq (Rg (kx (mvO E) (Rn (hN E (hN E hZ)) fun e1 h3 h4=>sN (sq (sq ?_))))))
 refine Ev.cut (Q1:=spec_l07Same_c1_Q a1 a2 ae) (by
     have h:=Y
     refine Rd (kf (mvO h3) (kf (ncP E) (kf (faP E ⟨ble E,blt E⟩ E) (kf (ldP E E) (kf (mvO h4) (kf (ncP E) (kf (faP E ⟨ble E,blt E⟩ E) (kf (ldP E E) (kf (bNeq E E) (kf (mvO E) ?_))))))))))
     rcases ite_some h with ⟨O,h⟩ | ⟨O,h⟩
     ·refine kf (gsF E O) (kf (gsF E O) (kf (gsF E O) (kf (gsF E O) (kf (gsF E O) (kf (gsF E O) (kf (gsF E O) (kf (gsF E O) (fc (Ev.gsF E O) (kf (gsF E O) (kf (pkT E O E) (kf (mvO E) (kf (gsF E E) (kf (gsF E E) (kf (gsF E E) (kf (gsF E E) (kf (gsF E E) (kf (gsF E E) (kf (gsF E E) (kf (gsF E E) (kf (gsF E E) (kf (gsF E E) (kf (gsF E E) (kf (pkT E E E) (fZ (Rn (hA h3 (hA h4 (hV (.bool true) E hZ))) fun e6 h8 h9 aw=>?_)))))))))))))))))))))))))
      obtain rfl:=si h
      exact kd (show spec_l07Same_c1_Q a1 a2 _ _ from ⟨E,h8,h9,aw⟩)
     obtain ⟨ax,aq,h⟩:=bind_some h
     refine kf (guF E O (mvO h3)) (kf (guF E O (ncP E)) (kf (guF E O (faP E ⟨ble E,blt E⟩ E)) (kf (guF E O (ldP E E)) (kf (guF E O (mvO h4)) (kf (guF E O (ncP E)) (kf (guF E O (faP E ⟨ble E,blt E⟩ E)) (kf (guF E O (ldP E E)) (fc (Ev.guF E O (cl (v:=.bool ax) E E (cns E (cns E E)) E (spec_l00Same_ok a1.Cash a2.Cash _ aq) nm)) (kf (guF E O (uNot E)) (kf (pkF E O E) (kf (mvO E) ?_)))))))))))
     rcases ite_some h with ⟨J,h⟩ | ⟨J,h⟩
     ·refine kf (guF E (congrArg Bool.not J) (mvO h3)) (kf (guF E (congrArg Bool.not J) (ncP E)) (kf (guF E (congrArg Bool.not J) (faP E ⟨ble E,blt E⟩ E)) (kf (guF E (congrArg Bool.not J) (ldP E E)) (kf (guF E (congrArg Bool.not J) (lnS Try.underlying25 E)) (kf (guF E (congrArg Bool.not J) (mvO h4)) (kf (guF E (congrArg Bool.not J) (ncP E)) (kf (guF E (congrArg Bool.not J) (faP E ⟨ble E,blt E⟩ E)) (kf (guF E (congrArg Bool.not J) (ldP E E)) (kf (guF E (congrArg Bool.not J) (lnS Try.underlying25 E)) (kf (guF E (congrArg Bool.not J) (bNeq E E)) (kf (pkF E (congrArg Bool.not J) E) (fZ (Rn (hA h3 (hA h4 (hN E hZ))) fun aK ay az aA=>?_)))))))))))))
      obtain rfl:=si h
      exact kd (show spec_l07Same_c1_Q a1 a2 _ _ from ⟨E,ay,az,aA⟩)
     refine kf (gsF E (congrArg Bool.not J)) (kf (gsF E (congrArg Bool.not J)) (kf (gsF E (congrArg Bool.not J)) (kf (gsF E (congrArg Bool.not J)) (kf (gsF E (congrArg Bool.not J)) (kf (gsF E (congrArg Bool.not J)) (kf (gsF E (congrArg Bool.not J)) (kf (gsF E (congrArg Bool.not J)) (kf (gsF E (congrArg Bool.not J)) (kf (gsF E (congrArg Bool.not J)) (kf (gsF E (congrArg Bool.not J)) (kf (pkT E (congrArg Bool.not J) E) (fZ (Rn (hA h3 (hA h4 (hV (.bool true) E hZ))) fun aL aB aC aD=>?_)))))))))))))
     obtain rfl:=si h
     exact kd (show spec_l07Same_c1_Q a1 a2 _ _ from ⟨E,aB,aC,aD⟩)) ?_
 revert h Y
 revert ae
 intro aM Y h
 intro x aN aO au
 obtain ⟨rfl,aE,aF,af⟩:=au
 refine sN ?_
 rcases ite_some h with ⟨aa,h⟩ | ⟨aa,h⟩
 ·refine cT af aa (sq (Rg (kx (mvO E) (Rn (hV (.bool false) E hZ) fun aP aG=>sN (xx (sR ?_))))))
  obtain rfl:=si h
  exact eR (resT aG res0) E
 obtain ⟨aH,ac,h⟩:=bind_some h
 refine cF af aa (xx (sN (sq (sq (Rg (kx (mvO E) (Rn (hV (.pt none [.int .i64 a1.Day,.sl none (a1.Cash.map (cI .i64)),.sl none (a1.Tallies.map Tally.c)]) aE (hV (.pt none [.int .i64 a2.Day,.sl none (a2.Cash.map (cI .i64)),.sl none (a2.Tallies.map Tally.c)]) aF (hV (.int .i64 0) E hZ))) fun aR ah ai ao=>sN (bl ?_))))))))
 rcases aH with _ | _
 ·refine Ev.loop (RS:=spec_l07Same_b1_RS a1 a2) (RR:=spec_l07Same_b1_RR a1 a2) (fun s r h e M hs=>spec_l07Same_b1_ok a1 a2 s r h e M hs) ac ⟨ah,ai,ao⟩ fun x aS aT ab=>?_
  obtain ⟨rfl,aI⟩:=ab
  refine bR (sR ?_)
  obtain rfl:=si h
  exact eR (resT aI res0) E
 refine Ev.loop (RS:=spec_l07Same_b1_RS a1 a2) (RR:=spec_l07Same_b1_RR a1 a2) (fun s r h e M hs=>spec_l07Same_b1_ok a1 a2 s r h e M hs) ac ⟨ah,ai,ao⟩ fun x aU aV ab=>?_
 obtain ⟨rfl,_⟩:=ab
 refine bE (sN (sq (Rg (kx (mvO E) (Rn (hV (.bool true) E hZ) fun aZ aJ=>sN (xx ?_))))))
 obtain rfl:=si h
 exact eR (resT aJ res0) E
abbrev spec_l07State_b1_S:=Int
abbrev spec_l07State_b1_R:=Int
def spec_l07State_b1_RS (a1:Book) (a2:List Deal) (a3:Int) (J:Nat) (s:spec_l07State_b1_S) (e:Env) (M:Mem):Prop:=eget e 0 = .pt none [.int .i64 a1.Day,.sl none (a1.Cash.map (cI .i64)),.sl none (a1.Tallies.map Tally.c)]∧eget e 1 = .sl none (a2.map Deal.c)∧eget e 2 = .int .i64 a3∧eget e 6 = .loc J 1 0 0∧eget e 8 = .int .i64 s∧M[J]? = some (.live ⟨.box,27,3,[[.int .i64 0,.nils,.nils]]⟩)
def spec_l07State_b1_RR (a1:Book) (a2:List Deal) (a3:Int) (J:Nat) (g:spec_l07State_b1_R) (x:Ex) (e:Env) (M:Mem):Prop:=x = .ext 0∧eget e 0 = .pt none [.int .i64 a1.Day,.sl none (a1.Cash.map (cI .i64)),.sl none (a1.Tallies.map Tally.c)]∧eget e 1 = .sl none (a2.map Deal.c)∧eget e 2 = .int .i64 a3∧eget e 6 = .loc J 1 0 0∧eget e 8 = .int .i64 g∧M[J]? = some (.live ⟨.box,27,3,[[.int .i64 0,.nils,.nils]]⟩)
noncomputable def spec_l07State_b1 (a2:List Deal) (a3:Int):spec_l07State_b1_S→Option (spec_l07State_b1_S⊕spec_l07State_b1_R):=fun J=>
 if (decide (J < (a2.length:Int)))=true then
  (rd a2 J).bind fun O=>
  if (decide (O.Day≤a3))=true then
   some (.inl (IntKind.i64.wrap (J + 1)))
  else
   some (.inr J)
 else
  some (.inr J)
theorem spec_l07State_b1_ok (a1:Book) (a2:List Deal) (a3:Int) (O:Nat) (s:spec_l07State_b1_S) (r:spec_l07State_b1_S⊕spec_l07State_b1_R) (h:spec_l07State_b1 a2 a3 s=some r) (e:Env) (M:Mem) (hs:spec_l07State_b1_RS a1 a2 a3 O s e M):Ev (fun k=>(f57_l4 (CN k) k (prune [0,1,2,6,8] e) M).bind fun q=>some q) (bQ (spec_l07State_b1_RS a1 a2 a3 O) (spec_l07State_b1_RR a1 a2 a3 O) r):=by
 revert h hs
 revert s
 intro ae h hs
 unfold spec_l07State_b1 at h
 obtain ⟨aB,aC,aD,aE,aF,af⟩:=hs
 generalize Y:prune [0,1,2,6,8] e=aS
 have ai:=envp Y.symm E aB
 have ab:=envp Y.symm E aC
 have ah:=envp Y.symm E aD
 have ao:=envp Y.symm E aE
 have ac:=envp Y.symm E aF
 refine sq (sq (Rg (kx (mvO ac) (kx (mvO ab) (kx (lnS Try.underlying28 E) (kx (bLss E E) (kx (mvO E) ?_)))))))
 rcases ite_some h with ⟨J,h⟩ | ⟨J,h⟩
 ·obtain ⟨aT,aA,h⟩:=bind_some h
  refine kx (guT E J (mvO ab)) (kx (guT E J (mvO ac)) (kx (guT E J (ixS E E aA Deal.fl)) (kx (guT E J (faP E ⟨ble E,blt E⟩ E)) (kx (guT E J (ldP E E)) (kx (guT E J (mvO ah)) (kx (guT E J (bLeq E E)) (kx (pkT E J E) (Rn (hA ai (hV (.sl none (a2.map Deal.c)) ab (hA ah (hV (.loc O 1 0 0) ao (hV (.int .i64 ae) ac (hN E hZ)))))) fun aU aq au aw ax ay az=>sN ?_))))))))
  rcases ite_some h with ⟨aa,h⟩ | ⟨aa,h⟩
  ·refine cT az aa (xx (sN (bl (Rg (kx (mvO ay) (kx (bAdd E E) (kx (mvO E) (Rn (hA aq (hA au (hA aw (hA ax (hN E hZ))))) fun aV aG aH aI aJ aK=>bN ?_))))))))
   obtain rfl:=si h
   exact qN ⟨aG,aH,aI,aJ,aK,af⟩
  refine cF az aa (xx (sE ?_))
  obtain rfl:=si h
  exact qE ⟨E,aq,au,aw,ax,ay,af⟩
 refine kx (gsT E J) (kx (gsT E J) (kx (gsT E J) (kx (gsT E J) (kx (gsT E J) (kx (gsT E J) (kx (gsT E J) (kx (pkF E J E) (Rn (hA ai (hV (.sl none (a2.map Deal.c)) ab (hA ah (hV (.loc O 1 0 0) ao (hV (.int .i64 ae) ac (hV (.bool false) E hZ)))))) fun aZ aL aM aN aO aP aR=>sN (cF aR E (xx (sE ?_)))))))))))
 obtain rfl:=si h
 exact qE ⟨E,aL,aM,aN,aO,aP,af⟩
noncomputable def spec_l07State (a1:Book) (a2:List Deal) (a3:Int):Option (Int⊕(Int×(List Int)×(List Tally))):=
 if (decide (a3 < a1.Day))=true then
  some (.inl 4)
 else
  (Lw (spec_l07State_b1 a2 a3) 0).bind fun J=>
  (slc a2 0 J).bind fun ah=>
  (spec_l07All a1 ah).bind fun (Y,O,ai)=>
  if (O != 0)=true then
   some (.inl O)
  else
   (spec_l07Copy a1).bind fun (ao,aa,ab)=>
   if (decide (J > 0))=true then
    (rd Y (IntKind.i64.wrap (J - 1))).bind fun ac=>
    (spec_l07Copy ac).bind fun (aq,ae,af)=>
    some (.inr (a3,ae,af))
   else
    some (.inr (a3,aa,ab))
def spec_l07State_enc (r:Int⊕(Int×(List Int)×(List Tally))):AV:=
  match r with
  | (.inl g)=>.tup [.agg [.int .i64 0,.nils,.nils],.int .i64 g]
  | (.inr g)=>.tup [.agg [.int .i64 g.1,.sl none (g.2.1.map (cI .i64)),.sl none (g.2.2.map Tally.c)],.int .i64 0]
theorem spec_l07State_ok (a1:Book) (a2:List Deal) (a3:Int) (r:Int⊕(Int×(List Int)×(List Tally))) (h:spec_l07State a1 a2 a3=some r):Ev (fun k=>CN k 57 [.pt none [.int .i64 a1.Day,.sl none (a1.Cash.map (cI .i64)),.sl none (a1.Tallies.map Tally.c)],.sl none (a2.map Deal.c),.int .i64 a3] []) (fun p=>rRes p.2 p.1=spec_l07State_enc r):=by
 unfold spec_l07State at h
 refine Ev.enter (F:=fun k=>f57 (CN k) k) (fun k=>callN_eq E Try.func57 E E E (by decide +kernel) (f57_eq _ _)) (sq (Rg (ku (alO zero27) fun M2 cM=>?_)))
 have o4:M2[([]:Mem).length]? = some (.live ⟨.box,27,3,[[.int .i64 0,.nils,.nils]]⟩):=push_new cM
 refine kx (mvO E) (Rn (hN E (hN E (hN E (hV (.loc ([]:Mem).length 1 0 0) E hZ)))) fun e5 h7 h8 h9 cN=>sN (sq (sq (Rg (kx (mvO h9) (kx (mvO h7) (kx (ncP E) (kx (faP E ⟨ble E,blt E⟩ E) (kx (ldP E E) (kx (bLss E E) (Rn (hA h7 (hA h8 (hA h9 (hA cN (hN E hZ))))) fun dC cO cQ cR aE bj=>sN ?_)))))))))))
 rcases ite_some h with ⟨ao,h⟩ | ⟨ao,h⟩
 ·refine cT bj ao (sq (Rg (kx (bldT zero27 E (fill0 E)) (kw (stO aE E o4 E E ⟨E,ble E⟩ E E) fun cU bq=>?_))))
  have cV:cU[([]:Mem).length]? = some (.live ⟨.box,27,3,[[.int .i64 0,.nils,.nils]]⟩):=set_same bq o4
  refine kx (mvO E) (Rn (hA aE (hV (.int .i64 4) E hZ)) fun dD cW cX=>sN (xx (sR ?_)))
  obtain rfl:=si h
  exact eR (resC (ag:=true) (sz:=3) ⟨by kernel_rfl,by kernel_rfl,by kernel_rfl⟩ (ldOA cW cV E E (ble E) E) (resT cX res0)) E
 obtain ⟨cY,bu,h⟩:=bind_some h
 refine cF bj ao (xx (sN (sq (Rg (kx (mvO E) (Rn (hA cO (hA cQ (hA cR (hA aE (hV (.int .i64 0) E hZ))))) fun dE cZ da db dc de=>sN (sq (bl (Ev.loop (RS:=spec_l07State_b1_RS a1 a2 a3 (([]:Mem).length)) (RR:=spec_l07State_b1_RR a1 a2 a3 (([]:Mem).length)) (fun s r h e M hs=>spec_l07State_b1_ok a1 a2 a3 (([]:Mem).length) s r h e M hs) bu ⟨cZ,da,db,dc,de,o4⟩ fun x dF Y bv=>?_)))))))))
 obtain ⟨rfl,bm,df,dg,di,bo,aw⟩:=bv
 obtain ⟨dj,bw,h⟩:=bind_some h
 obtain ⟨⟨bz,bA,bB⟩,a8,h⟩:=bind_some h
 refine bE (sN (sq (Rg (kx (mvO bm) (kx (mvO df) (kx (mvO bo) (kx (slS E E (bnd1 E) bw Deal.fl) (kc (cl (v:=.tup [.sl (some 27) (bz.map Book.c),.int .i64 bA,.int .i64 bB]) E E (cns E (cns E E)) E (spec_l07All_ok a1 dj _ a8) nm) (kx (mvO E) (kx (exT E E) (kx (exT E E) (kx (exT E E) (kx (mvO E) (kx (mvO E) (kx (mvO E) (Rn (hV (.pt none [.int .i64 a1.Day,.sl none (a1.Cash.map (cI .i64)),.sl none (a1.Tallies.map Tally.c)]) bm (hV (.int .i64 a3) dg (hV (.loc ([]:Mem).length 1 0 0) di (hV (.int .i64 cY) bo (hN E (hN E hZ)))))) fun dk bC bD bF bG bH aF=>sN (sq (sq (Rg (kx (mvO aF) (kx (bNeq E E) (Rn (hA bC (hA bD (hA bF (hA bG (hA bH (hA aF (hN E hZ))))))) fun dl bI bJ aq bK bL bM aG=>sN ?_))))))))))))))))))))))
 rcases ite_some h with ⟨aa,h⟩ | ⟨aa,h⟩
 ·refine cT aG aa (sq (Rg (kx (bldT zero27 E (fill0 E)) (kx (mvO bM) (kw (stO aq E aw E E ⟨E,ble E⟩ E E) fun bP ba=>?_)))))
  have bS:bP[([]:Mem).length]? = some (.live ⟨.box,27,3,[[.int .i64 0,.nils,.nils]]⟩):=set_same ba aw
  refine kx (mvO E) (Rn (hA aq (hN E hZ)) fun dm bT bU=>sN (xx (sR ?_)))
  obtain rfl:=si h
  exact eR (resC (ag:=true) (sz:=3) ⟨by kernel_rfl,by kernel_rfl,by kernel_rfl⟩ (ldOA bT bS E E (ble E) E) (resT bU res0)) E
 obtain ⟨⟨aH,ab,ac⟩,bb,h⟩:=bind_some h
 refine cF aG aa (xx (sN (sq (Rg (kx (mvO bI) (kc (cl (v:=.agg [.int .i64 aH,.sl (some 2) (ab.map (cI .i64)),.sl (some 49) (ac.map Tally.c)]) E E (cns E E) E (spec_l07Copy_ok a1 _ bb) nm) (ku (alO zero27) fun bV ax=>?_)))))))
 have bW:=push_old ax aw
 have J:=ne_new aw
 have aI:bV[Y.length]? = some (.live ⟨.box,27,3,[[.int .i64 0,.nils,.nils]]⟩):=push_new ax
 refine kw (stO E E aI E E ⟨E,ble E⟩ E E) fun bX ay=>?_
 have aJ:=set_ne ay J bW
 have O:bX[Y.length]? = some (.live ⟨.box,27,3,[[.int .i64 aH,.sl none (ab.map (cI .i64)),.sl none (ac.map Tally.c)]]⟩):=set_same ay aI
 refine Rn (hA bJ (hA aq (hA bK (hA bL (hV (.loc Y.length 1 0 0) E hZ))))) fun dn bY bZ aK b7 b8=>sN (sq (sq (Rg (kx (mvO aK) (kx (bGtr E E) (Rn (hA bY (hA bZ (hA aK (hA b7 (hA b8 (hN E hZ)))))) fun dp aL aM b9 cb ae aN=>sN ?_))))))
 rcases ite_some h with ⟨af,h⟩ | ⟨af,h⟩
 ·obtain ⟨cd,bf,h⟩:=bind_some h
  obtain ⟨⟨aO,ah,ai⟩,bi,h⟩:=bind_some h
  refine cT aN af (Rg (kx (mvO cb) (kx (mvO b9) (kx (bSub E E) (kx (ixS E E bf Book.fl) (kc (cl (v:=.agg [.int .i64 aO,.sl (some 2) (ah.map (cI .i64)),.sl (some 49) (ai.map Tally.c)]) E E (cns E E) E (spec_l07Copy_ok cd _ bi) nm) (kw (stO ae E O E E ⟨E,ble E⟩ E E) fun cf az=>?_)))))))
  have cg:=set_ne az J aJ
  have au:cf[Y.length]? = some (.live ⟨.box,27,3,[[.int .i64 aO,.sl none (ah.map (cI .i64)),.sl none (ai.map Tally.c)]]⟩):=set_same az O
  refine Rn (hA aL (hA aM (hA ae hZ))) fun dq ci cj aP=>sN (sq (Rg (kx (mvO ci) (kx (faO aP au E) (kw (stO E E au E E ⟨E,ble E⟩ E E) fun cm aA=>?_)))))
  have aR:=set_ne aA J cg
  have aS:cm[Y.length]? = some (.live ⟨.box,27,3,[[.int .i64 a3,.sl none (ah.map (cI .i64)),.sl none (ai.map Tally.c)]]⟩):=set_same aA au
  refine Rn (hA cj (hA aP hZ)) fun dt aT cq=>sN (sq (Rg (kx (ldOA cq aS E E (ble E) E) (kw (stO aT E aR E E ⟨E,ble E⟩ E E) fun cr aB=>?_))))
  have ct:cr[([]:Mem).length]? = some (.live ⟨.box,27,3,[[.int .i64 a3,.sl none (ah.map (cI .i64)),.sl none (ai.map Tally.c)]]⟩):=set_same aB aR
  have du:=set_ne aB (Ne.symm J) aS
  refine kx (mvO E) (Rn (hA aT (hV (.int .i64 0) E hZ)) fun dw cw cC=>sN (xx ?_))
  obtain rfl:=si h
  exact eR (resC (ag:=true) (sz:=3) ⟨by kernel_rfl,by kernel_rfl,by kernel_rfl⟩ (ldOA cw ct E E (ble E) E) (resT cC res0)) E
 refine cF aN af (xx (sN (sq (Rg (kx (mvO aL) (kx (faO ae O E) (kw (stO E E O E E ⟨E,ble E⟩ E E) fun cD aC=>?_)))))))
 have aU:=set_ne aC J aJ
 have aV:cD[Y.length]? = some (.live ⟨.box,27,3,[[.int .i64 a3,.sl none (ab.map (cI .i64)),.sl none (ac.map Tally.c)]]⟩):=set_same aC O
 refine Rn (hA aM (hA ae hZ)) fun dx aZ cE=>sN (sq (Rg (kx (ldOA cE aV E E (ble E) E) (kw (stO aZ E aU E E ⟨E,ble E⟩ E E) fun cG aD=>?_))))
 have cH:cG[([]:Mem).length]? = some (.live ⟨.box,27,3,[[.int .i64 a3,.sl none (ab.map (cI .i64)),.sl none (ac.map Tally.c)]]⟩):=set_same aD aU
 have dz:=set_ne aD (Ne.symm J) aV
 refine kx (mvO E) (Rn (hA aZ (hV (.int .i64 0) E hZ)) fun dA cJ cK=>sN (xx ?_))
 obtain rfl:=si h
 exact eR (resC (ag:=true) (sz:=3) ⟨by kernel_rfl,by kernel_rfl,by kernel_rfl⟩ (ldOA cJ cH E E (ble E) E) (resT cK res0)) E
noncomputable def impl_stateOn_1 (a1:Deal) (a2:Int):Option Bool:=
 some (decide (a1.Day > a2))
def impl_stateOn_1_enc (r:Bool):AV:=.bool r
theorem impl_stateOn_1_ok (a1:Deal) (a2:Int) (r:Bool) (h:impl_stateOn_1 a1 a2=some r):Ev (fun k=>CN k 108 [.agg [.int .i64 a1.Day,.int .i8 a1.Kind,.int .i64 a1.Tally,.int .i64 a1.From,.int .i64 a1.To,.int .i64 a1.Amount],.pt none [.int .i64 a2]] []) (fun p=>rRes p.2 p.1=impl_stateOn_1_enc r):=by
 unfold impl_stateOn_1 at h
 refine Ev.enter (F:=fun k=>f108 (CN k) k) (fun k=>callN_eq E Try.func108 E E E (by decide +kernel) (f108_eq _ _)) (sq (Rg (kx (bxI E E ⟨E,E,by decide⟩) (kx (mvO E) (Rn (hN E (hN E hZ)) fun e1 h3 h4=>sN (sq (Rg (kx (faP h4 ⟨ble E,blt E⟩ E) (kx (ldP E E) (kx (ldP h3 E) (kx (bGtr E E) (kx (mvO E) (Rn (hN E hZ) fun e5 h7=>sN (xx ?_))))))))))))))
 obtain rfl:=si h
 exact eR (resT h7 res0) E
abbrev slices_IndexFunc_Deal__impl_stateOn_1_b1_S:=Int
abbrev slices_IndexFunc_Deal__impl_stateOn_1_b1_R:=Int⊕Unit
def slices_IndexFunc_Deal__impl_stateOn_1_b1_RS (a1:List Deal) (a2:Int) (s:slices_IndexFunc_Deal__impl_stateOn_1_b1_S) (e:Env) (M:Mem):Prop:=eget e 0 = .sl none (a1.map Deal.c)∧eget e 1 = .fn 108 [.pt none [.int .i64 a2]]∧eget e 7 = .int .i64 (a1.length:Int)∧eget e 8 = .int .i64 s
def slices_IndexFunc_Deal__impl_stateOn_1_b1_RR (a1:List Deal) (a2:Int) (r:slices_IndexFunc_Deal__impl_stateOn_1_b1_R) (x:Ex) (e:Env) (M:Mem):Prop:=
  match r with
  | (.inl g)=>x = .ret∧eget e 4 = .int .i64 g
  | (.inr g)=>x = .ext 0∧True
noncomputable def slices_IndexFunc_Deal__impl_stateOn_1_b1 (a1:List Deal) (a2:Int):slices_IndexFunc_Deal__impl_stateOn_1_b1_S→Option (slices_IndexFunc_Deal__impl_stateOn_1_b1_S⊕slices_IndexFunc_Deal__impl_stateOn_1_b1_R):=fun J=>
 if (decide (J < (a1.length:Int)))=true then
  (rd a1 J).bind fun O=>
  (impl_stateOn_1 O a2).bind fun Y=>
  if Y=true then
   some (.inr (.inl J))
  else
   some (.inl (IntKind.i64.wrap (J + 1)))
 else
  some (.inr (.inr ()))
theorem slices_IndexFunc_Deal__impl_stateOn_1_b1_ok (a1:List Deal) (a2:Int) (s:slices_IndexFunc_Deal__impl_stateOn_1_b1_S) (r:slices_IndexFunc_Deal__impl_stateOn_1_b1_S⊕slices_IndexFunc_Deal__impl_stateOn_1_b1_R) (h:slices_IndexFunc_Deal__impl_stateOn_1_b1 a1 a2 s=some r) (e:Env) (M:Mem) (hs:slices_IndexFunc_Deal__impl_stateOn_1_b1_RS a1 a2 s e M):Ev (fun k=>(f107_l2 (CN k) k (prune [0,1,7,8] e) M).bind fun q=>some q) (bQ (slices_IndexFunc_Deal__impl_stateOn_1_b1_RS a1 a2) (slices_IndexFunc_Deal__impl_stateOn_1_b1_RR a1 a2) r):=by
 revert h hs
 revert s
 intro aq h hs
 unfold slices_IndexFunc_Deal__impl_stateOn_1_b1 at h
 obtain ⟨ax,ay,az,aA⟩:=hs
 generalize J:prune [0,1,7,8] e=aV
 have aB:=envp J.symm E ax
 have aC:=envp J.symm E ay
 have aa:=envp J.symm E az
 have ab:=envp J.symm E aA
 refine sq (Rg (kx (bLss ab aa) (Rn (hV (.sl none (a1.map Deal.c)) aB (hV (.fn 108 [.pt none [.int .i64 a2]]) aC (hV (.int .i64 (a1.length:Int)) aa (hV (.int .i64 aq) ab (hN E hZ))))) fun aZ aD aE aF ac ae=>sN (sq ?_))))
 rcases ite_some h with ⟨O,h⟩ | ⟨O,h⟩
 ·obtain ⟨aG,au,h⟩:=bind_some h
  obtain ⟨aH,aw,h⟩:=bind_some h
  refine cT ae O (xx (sN (sq (bl (sq (Rg (kx (mvO ac) (kx (mvO E) (Rn (hA aD (hA aE (hN E (hA aF (hA ac hZ))))) fun a8 af ah ai aI aJ=>sN (sq (Rg (kx (mvO ah) (kx (mvO af) (kx (mvO ai) (kx (ixS E E au Deal.fl) (kx (ldPA E E E) (kc (cl (v:=.bool aH) E E (cns E (cns E E)) E (impl_stateOn_1_ok aG a2 _ aw) nm) (Rn (hA af (hA ah (hA ai (hA aI (hA aJ (hN E hZ)))))) fun ba aK aL aM aN aO ao=>sN ?_))))))))))))))))))
  rcases ite_some h with ⟨Y,h⟩ | ⟨Y,h⟩
  ·refine cT ao Y (sq (Rg (kx (mvO aM) (kx (mvO E) (Rn (hN E hZ) fun bb aP=>sN (xx (bR (sR ?_))))))))
   obtain rfl:=si h
   exact qR ⟨E,aP⟩
  refine cF ao Y (xx (bN (sN (Rg (kx (bAdd aO E) (kx (mvO E) (Rn (hA aK (hA aL (hA aN (hN E hZ)))) fun bf aR aS aT aU=>?_)))))))
  obtain rfl:=si h
  exact qN ⟨aR,aS,aT,aU⟩
 refine cF ae O (xx (sE ?_))
 obtain rfl:=si h
 exact qE ⟨E,trivial⟩
noncomputable def slices_IndexFunc_Deal__impl_stateOn_1 (a1:List Deal) (a2:Int):Option Int:=
 (Lw (slices_IndexFunc_Deal__impl_stateOn_1_b1 a1 a2) 0).bind fun r=>match r with
 | (.inl J)=>
  some J
 | (.inr _)=>
  some (-1)
def slices_IndexFunc_Deal__impl_stateOn_1_enc (r:Int):AV:=.int .i64 r
theorem slices_IndexFunc_Deal__impl_stateOn_1_ok (a1:List Deal) (a2:Int) (r:Int) (h:slices_IndexFunc_Deal__impl_stateOn_1 a1 a2=some r):Ev (fun k=>CN k 107 [.sl none (a1.map Deal.c),.fn 108 [.pt none [.int .i64 a2]]] []) (fun p=>rRes p.2 p.1=slices_IndexFunc_Deal__impl_stateOn_1_enc r):=by
 unfold slices_IndexFunc_Deal__impl_stateOn_1 at h
 obtain ⟨aa,O,h⟩:=bind_some h
 refine Ev.enter (F:=fun k=>f107 (CN k) k) (fun k=>callN_eq E Try.func107 E E E (by decide +kernel) (f107_eq _ _)) (sq (Rg (kx (mvO E) (Rn (hN E (hV (.fn 108 [.pt none [.int .i64 a2]]) E hZ)) fun e1 h3 h4=>sN (sq (sq (Rg (kx (mvO h3) (kx (lnS Try.underlying28 E) (kx (mvO E) (Rn (hA h3 (hA h4 (hN E (hV (.int .i64 0) E hZ)))) fun e5 h7 h8 h9 Y=>sN (bl ?_))))))))))))
 rcases aa with ae | _
 ·refine Ev.loop (RS:=slices_IndexFunc_Deal__impl_stateOn_1_b1_RS a1 a2) (RR:=slices_IndexFunc_Deal__impl_stateOn_1_b1_RR a1 a2) (fun s r h e M hs=>slices_IndexFunc_Deal__impl_stateOn_1_b1_ok a1 a2 s r h e M hs) O ⟨h7,h8,h9,Y⟩ fun x af ah J=>?_
  obtain ⟨rfl,ab⟩:=J
  refine bR (sR ?_)
  obtain rfl:=si h
  exact eR (resT ab res0) E
 refine Ev.loop (RS:=slices_IndexFunc_Deal__impl_stateOn_1_b1_RS a1 a2) (RR:=slices_IndexFunc_Deal__impl_stateOn_1_b1_RR a1 a2) (fun s r h e M hs=>slices_IndexFunc_Deal__impl_stateOn_1_b1_ok a1 a2 s r h e M hs) O ⟨h7,h8,h9,Y⟩ fun x ai ao J=>?_
 obtain ⟨rfl,_⟩:=J
 refine bE (sN (sq (Rg (kx (mvO E) (Rn (hV (.int .i64 (-1)) E hZ) fun aq ac=>sN (xx ?_))))))
 obtain rfl:=si h
 exact eR (resT ac res0) E
noncomputable def impl_stateOn (a1:Book) (a2:List Deal) (a3:Int):Option ((Int×Int)⊕(Int×(List Int)×(List Tally))):=
 if (decide (a3 < a1.Day))=true then
  some (.inl (0,4))
 else
  (slices_IndexFunc_Deal__impl_stateOn_1 a2 a3).bind fun O=>
  if (decide (O < 0))=true then
   (slc a2 0 (a2.length:Int)).bind fun ah=>
   (impl_behind a1 ah).bind fun r=>match r with
   | (.inl Y)=>
    if (Y != 0)=true then
     some (.inl (0,Y))
    else
     some (.inl (a3,0))
   | (.inr (ai,aa,ab))=>
    some (.inr (a3,aa,ab))
  else
   (slc a2 0 O).bind fun ac=>
   (impl_behind a1 ac).bind fun r=>match r with
   | (.inl J)=>
    if (J != 0)=true then
     some (.inl (0,J))
    else
     some (.inl (a3,0))
   | (.inr (ao,ae,af))=>
    some (.inr (a3,ae,af))
def impl_stateOn_enc (r:(Int×Int)⊕(Int×(List Int)×(List Tally))):AV:=
  match r with
  | (.inl g)=>.tup [.agg [.int .i64 g.1,.nils,.nils],.int .i64 g.2]
  | (.inr g)=>.tup [.agg [.int .i64 g.1,.sl none (g.2.1.map (cI .i64)),.sl none (g.2.2.map Tally.c)],.int .i64 0]
theorem impl_stateOn_ok (a1:Book) (a2:List Deal) (a3:Int) (r:(Int×Int)⊕(Int×(List Int)×(List Tally))) (h:impl_stateOn a1 a2 a3=some r):Ev (fun k=>CN k 54 [.agg [.int .i64 a1.Day,.sl none (a1.Cash.map (cI .i64)),.sl none (a1.Tallies.map Tally.c)],.sl none (a2.map Deal.c),.int .i64 a3] []) (fun p=>rRes p.2 p.1=impl_stateOn_enc r):=by
 unfold impl_stateOn at h
 refine Ev.enter (F:=fun k=>f54 (CN k) k) (fun k=>callN_eq E Try.func54 E E E (by decide +kernel) (f54_eq _ _)) (sq (Rg (kx (bxI E E ⟨E,E,by decide⟩) (kx (bxI E E ⟨E,E,by decide⟩) (ku (alO zero27) fun M2 dS=>?_)))))
 have o4:M2[([]:Mem).length]? = some (.live ⟨.box,27,3,[[.int .i64 0,.nils,.nils]]⟩):=push_new dS
 refine kx (mvO E) (Rn (hN E (hN E (hN E (hV (.loc ([]:Mem).length 1 0 0) E hZ)))) fun e5 h7 h8 h9 dT=>sN (sq (sq (Rg (kx (ldP h9 E) (kx (faP h8 ⟨ble E,blt E⟩ E) (kx (ldP E E) (kx (bLss E E) (Rn (hA h7 (hA h8 (hA h9 (hA dT (hN E hZ))))) fun fj bU dU bV aR bW=>sN ?_)))))))))
 rcases ite_some h with ⟨ax,h⟩ | ⟨ax,h⟩
 ·refine cT bW ax (sq (Rg (kx (bldT zero27 E (fill0 E)) (kw (stO aR E o4 E E ⟨E,ble E⟩ E E) fun dV cq=>?_))))
  have dW:dV[([]:Mem).length]? = some (.live ⟨.box,27,3,[[.int .i64 0,.nils,.nils]]⟩):=set_same cq o4
  refine kx (mvO E) (Rn (hA aR (hV (.int .i64 4) E hZ)) fun fk dX dY=>sN (xx (sR ?_)))
  obtain rfl:=si h
  exact eR (resC (ag:=true) (sz:=3) ⟨by kernel_rfl,by kernel_rfl,by kernel_rfl⟩ (ldOA dX dW E E (ble E) E) (resT dY res0)) E
 obtain ⟨dZ,cr,h⟩:=bind_some h
 refine cF bW ax (xx (sN (sq (Rg (kx (mvO bU) (kx (mvO (congrArg (AV.fn 108) (cns bV E))) (kc (cl (v:=.int .i64 dZ) E E (cns E (cns E E)) E (slices_IndexFunc_Deal__impl_stateOn_1_ok a2 a3 _ cr) nm) (kx (mvO E) (Rn (hA bU (hA dU (hA bV (hA aR (hN E hZ))))) fun fm d5 d6 d7 d8 bX=>sN (sq (sq (Rg (kx (mvO bX) (kx (bLss E E) (Rn (hA d5 (hA d6 (hA d7 (hA d8 (hA bX (hN E hZ)))))) fun fo aS bY aT aU d9 bZ=>sN ?_)))))))))))))))
 rcases ite_some h with ⟨ay,h⟩ | ⟨ay,h⟩
 ·obtain ⟨b7,ct,h⟩:=bind_some h
  obtain ⟨cw,aV,h⟩:=bind_some h
  refine cT bZ ay (Rg (kx (mvO aS) (kx (lnS Try.underlying28 E) (kx (mvO E) (Rn (hA aS (hA bY (hA aT (hA aU (hN E hZ))))) fun fq ea ed b8 b9 ee=>sN (sq (Rd (kf (ldPA ed E E) (kf (mvO ea) (kf (mvO ee) (kf (slS E E (bnd1 E) ct Deal.fl) ?_)))))))))))
  rcases cw with eo | ⟨aZ,ab,ac⟩
  ·refine fc (cl (v:=.tup [.agg [.int .i64 0,.nils,.nils],.int .i64 eo]) E E (cns E (cns E E)) E (impl_behind_ok a1 b7 _ aV) nm) (kf (mvO E) (kf (exT E E) (kf (exT E E) (Ev.nfpushE (alO zero27) (Ev.fend1 fun ep ae=>?_)))))
   have ae:=fendM ae [⟨.box,27,3,[[.int .i64 0,.nils,.nils]]⟩] E
   have eu:=push_old ae o4
   have af:([]:Mem).length≠M2.length:=by have:=lt_of_get (M:=M2) o4; omega
   have cb:ep[M2.length]? = some (.live ⟨.box,27,3,[[.int .i64 0,.nils,.nils]]⟩):=push_at ae 0 E
   refine kw (stO E E cb E E ⟨E,ble E⟩ E E) fun ew a8=>?_
   have ba:=set_ne a8 af eu
   have aE:ew[M2.length]? = some (.live ⟨.box,27,3,[[.int .i64 0,.nils,.nils]]⟩):=set_same a8 cb
   refine kx (mvO E) (Rn (hA b8 (hA b9 (hV (.loc M2.length 1 0 0) E (hN E hZ)))) fun ft ex ey ez cd=>sN (sq (sq (Rg (kx (mvO cd) (kx (bNeq E E) (Rn (hA ex (hA ey (hA ez (hA cd (hN E hZ))))) fun fu eA bb cf eB cg=>sN ?_)))))))
   rcases ite_some h with ⟨az,h⟩ | ⟨az,h⟩
   ·refine cT cg az (sq (Rg (kx (bldT zero27 E (fill0 E)) (kx (mvO eB) (kw (stO bb E ba E E ⟨E,ble E⟩ E E) fun eC bf=>?_)))))
    have eD:eC[([]:Mem).length]? = some (.live ⟨.box,27,3,[[.int .i64 0,.nils,.nils]]⟩):=set_same bf ba
    have fw:=set_ne bf (Ne.symm af) aE
    refine kx (mvO E) (Rn (hA bb (hN E hZ)) fun fA eE eF=>sN (xx (sR ?_)))
    obtain rfl:=si h
    exact eR (resC (ag:=true) (sz:=3) ⟨by kernel_rfl,by kernel_rfl,by kernel_rfl⟩ (ldOA eE eD E E (ble E) E) (resT eF res0)) E
   refine cF cg az (xx (sN (sq (Rg (kx (ldP eA E) (kx (faO cf aE E) (kw (stO E E aE E E ⟨E,ble E⟩ E E) fun eG bi=>?_)))))))
   have ci:=set_ne bi af ba
   have cj:eG[M2.length]? = some (.live ⟨.box,27,3,[[.int .i64 a3,.nils,.nils]]⟩):=set_same bi aE
   refine Rn (hA bb (hA cf hZ)) fun fB cm eH=>sN (sq (Rg (kx (ldOA eH cj E E (ble E) E) (kw (stO cm E ci E E ⟨E,ble E⟩ E E) fun eJ bj=>?_))))
   have eK:eJ[([]:Mem).length]? = some (.live ⟨.box,27,3,[[.int .i64 a3,.nils,.nils]]⟩):=set_same bj ci
   have fC:=set_ne bj (Ne.symm af) cj
   refine kx (mvO E) (Rn (hA cm (hV (.int .i64 0) E hZ)) fun fD cC cD=>sN (xx ?_))
   obtain rfl:=si h
   exact eR (resC (ag:=true) (sz:=3) ⟨by kernel_rfl,by kernel_rfl,by kernel_rfl⟩ (ldOA cC eK E E (ble E) E) (resT cD res0)) E
  refine fc (cl (v:=.tup [.agg [.int .i64 aZ,.sl none (ab.map (cI .i64)),.sl none (ac.map Tally.c)],.int .i64 0]) E E (cns E (cns E E)) E (impl_behind_ok a1 b7 _ aV) nm) (kf (mvO E) (kf (exT E E) (kf (exT E E) (Ev.nfpushE (alO zero27) (Ev.fend1 fun cE J=>?_)))))
  have J:=fendM J [⟨.box,27,3,[[.int .i64 0,.nils,.nils]]⟩] E
  have cG:=push_old J o4
  have ah:([]:Mem).length≠M2.length:=by have:=lt_of_get (M:=M2) o4; omega
  have bm:cE[M2.length]? = some (.live ⟨.box,27,3,[[.int .i64 0,.nils,.nils]]⟩):=push_at J 0 E
  refine kw (stO E E bm E E ⟨E,ble E⟩ E E) fun cH aF=>?_
  have cJ:=set_ne aF ah cG
  have aA:cH[M2.length]? = some (.live ⟨.box,27,3,[[.int .i64 aZ,.sl none (ab.map (cI .i64)),.sl none (ac.map Tally.c)]]⟩):=set_same aF bm
  refine kx (mvO E) (Rn (hA b8 (hA b9 (hV (.loc M2.length 1 0 0) E (hV (.int .i64 0) E hZ)))) fun eL cK cM cN bo=>sN (sq (sq (Rg (kx (mvO bo) (kx (bNeq E E) (Rn (hA cK (hA cM (hA cN (hA bo (hV (.bool false) E hZ))))) fun eM cO cQ bq eO cR=>sN (cF cR E (xx (sN (sq (Rg (kx (ldP cO E) (kx (faO bq aA E) (kw (stO E E aA E E ⟨E,ble E⟩ E E) fun cU aG=>?_)))))))))))))))
  have bu:=set_ne aG ah cJ
  have bv:cU[M2.length]? = some (.live ⟨.box,27,3,[[.int .i64 a3,.sl none (ab.map (cI .i64)),.sl none (ac.map Tally.c)]]⟩):=set_same aG aA
  refine Rn (hA cQ (hA bq hZ)) fun eP bw cV=>sN (sq (Rg (kx (ldOA cV bv E E (ble E) E) (kw (stO bw E bu E E ⟨E,ble E⟩ E E) fun cW aH=>?_))))
  have cX:cW[([]:Mem).length]? = some (.live ⟨.box,27,3,[[.int .i64 a3,.sl none (ab.map (cI .i64)),.sl none (ac.map Tally.c)]]⟩):=set_same aH bu
  have eQ:=set_ne aH (Ne.symm ah) bv
  refine kx (mvO E) (Rn (hA bw (hV (.int .i64 0) E hZ)) fun eS cY cZ=>sN (xx ?_))
  obtain rfl:=si h
  exact eR (resC (ag:=true) (sz:=3) ⟨by kernel_rfl,by kernel_rfl,by kernel_rfl⟩ (ldOA cY cX E E (ble E) E) (resT cZ res0)) E
 obtain ⟨bz,bT,h⟩:=bind_some h
 obtain ⟨da,aI,h⟩:=bind_some h
 refine cF bZ ay (xx (sN (sq (Rd (kf (ldPA bY E E) (kf (mvO aS) (kf (mvO d9) (kf (slS E E (bnd1 E) bT Deal.fl) ?_))))))))
 rcases da with db | ⟨bA,ai,ao⟩
 ·refine fc (cl (v:=.tup [.agg [.int .i64 0,.nils,.nils],.int .i64 db]) E E (cns E (cns E E)) E (impl_behind_ok a1 bz _ aI) nm) (kf (mvO E) (kf (exT E E) (kf (exT E E) (Ev.nfpushE (alO zero27) (Ev.fend1 fun dc O=>?_)))))
  have O:=fendM O [⟨.box,27,3,[[.int .i64 0,.nils,.nils]]⟩] E
  have de:=push_old O o4
  have Y:([]:Mem).length≠M2.length:=by have:=lt_of_get (M:=M2) o4; omega
  have bB:dc[M2.length]? = some (.live ⟨.box,27,3,[[.int .i64 0,.nils,.nils]]⟩):=push_at O 0 E
  refine kw (stO E E bB E E ⟨E,ble E⟩ E E) fun df aJ=>?_
  have aB:=set_ne aJ Y de
  have aq:df[M2.length]? = some (.live ⟨.box,27,3,[[.int .i64 0,.nils,.nils]]⟩):=set_same aJ bB
  refine kx (mvO E) (Rn (hA aT (hA aU (hV (.loc M2.length 1 0 0) E (hN E hZ)))) fun eT dg di dj bC=>sN (sq (sq (Rg (kx (mvO bC) (kx (bNeq E E) (Rn (hA dg (hA di (hA dj (hA bC (hN E hZ))))) fun eU dk aC bD dl bF=>sN ?_)))))))
  rcases ite_some h with ⟨au,h⟩ | ⟨au,h⟩
  ·refine cT bF au (sq (Rg (kx (bldT zero27 E (fill0 E)) (kx (mvO dl) (kw (stO aC E aB E E ⟨E,ble E⟩ E E) fun dm aK=>?_)))))
   have dn:dm[([]:Mem).length]? = some (.live ⟨.box,27,3,[[.int .i64 0,.nils,.nils]]⟩):=set_same aK aB
   have eV:=set_ne aK (Ne.symm Y) aq
   refine kx (mvO E) (Rn (hA aC (hN E hZ)) fun eW dp dq=>sN (xx (sR ?_)))
   obtain rfl:=si h
   exact eR (resC (ag:=true) (sz:=3) ⟨by kernel_rfl,by kernel_rfl,by kernel_rfl⟩ (ldOA dp dn E E (ble E) E) (resT dq res0)) E
  refine cF bF au (xx (sN (sq (Rg (kx (ldP dk E) (kx (faO bD aq E) (kw (stO E E aq E E ⟨E,ble E⟩ E E) fun dt aL=>?_)))))))
  have bG:=set_ne aL Y aB
  have bH:dt[M2.length]? = some (.live ⟨.box,27,3,[[.int .i64 a3,.nils,.nils]]⟩):=set_same aL aq
  refine Rn (hA aC (hA bD hZ)) fun eX bI du=>sN (sq (Rg (kx (ldOA du bH E E (ble E) E) (kw (stO bI E bG E E ⟨E,ble E⟩ E E) fun dw aM=>?_))))
  have dx:dw[([]:Mem).length]? = some (.live ⟨.box,27,3,[[.int .i64 a3,.nils,.nils]]⟩):=set_same aM bG
  have eY:=set_ne aM (Ne.symm Y) bH
  refine kx (mvO E) (Rn (hA bI (hV (.int .i64 0) E hZ)) fun eZ dz dA=>sN (xx ?_))
  obtain rfl:=si h
  exact eR (resC (ag:=true) (sz:=3) ⟨by kernel_rfl,by kernel_rfl,by kernel_rfl⟩ (ldOA dz dx E E (ble E) E) (resT dA res0)) E
 refine fc (cl (v:=.tup [.agg [.int .i64 bA,.sl none (ai.map (cI .i64)),.sl none (ao.map Tally.c)],.int .i64 0]) E E (cns E (cns E E)) E (impl_behind_ok a1 bz _ aI) nm) (kf (mvO E) (kf (exT E E) (kf (exT E E) (Ev.nfpushE (alO zero27) (Ev.fend1 fun dC aa=>?_)))))
 have aa:=fendM aa [⟨.box,27,3,[[.int .i64 0,.nils,.nils]]⟩] E
 have dD:=push_old aa o4
 have aw:([]:Mem).length≠M2.length:=by have:=lt_of_get (M:=M2) o4; omega
 have bJ:dC[M2.length]? = some (.live ⟨.box,27,3,[[.int .i64 0,.nils,.nils]]⟩):=push_at aa 0 E
 refine kw (stO E E bJ E E ⟨E,ble E⟩ E E) fun dE aN=>?_
 have dF:=set_ne aN aw dD
 have aD:dE[M2.length]? = some (.live ⟨.box,27,3,[[.int .i64 bA,.sl none (ai.map (cI .i64)),.sl none (ao.map Tally.c)]]⟩):=set_same aN bJ
 refine kx (mvO E) (Rn (hA aT (hA aU (hV (.loc M2.length 1 0 0) E (hV (.int .i64 0) E hZ)))) fun fa dG dH dI bK=>sN (sq (sq (Rg (kx (mvO bK) (kx (bNeq E E) (Rn (hA dG (hA dH (hA dI (hA bK (hV (.bool false) E hZ))))) fun fd dJ dK bL ff dL=>sN (cF dL E (xx (sN (sq (Rg (kx (ldP dJ E) (kx (faO bL aD E) (kw (stO E E aD E E ⟨E,ble E⟩ E E) fun dM aO=>?_)))))))))))))))
 have bM:=set_ne aO aw dF
 have bP:dM[M2.length]? = some (.live ⟨.box,27,3,[[.int .i64 a3,.sl none (ai.map (cI .i64)),.sl none (ao.map Tally.c)]]⟩):=set_same aO aD
 refine Rn (hA dK (hA bL hZ)) fun fg bS dN=>sN (sq (Rg (kx (ldOA dN bP E E (ble E) E) (kw (stO bS E bM E E ⟨E,ble E⟩ E E) fun dO aP=>?_))))
 have dP:dO[([]:Mem).length]? = some (.live ⟨.box,27,3,[[.int .i64 a3,.sl none (ai.map (cI .i64)),.sl none (ao.map Tally.c)]]⟩):=set_same aP bM
 have fh:=set_ne aP (Ne.symm aw) bP
 refine kx (mvO E) (Rn (hA bS (hV (.int .i64 0) E hZ)) fun fi dQ dR=>sN (xx ?_))
 obtain rfl:=si h
 exact eR (resC (ag:=true) (sz:=3) ⟨by kernel_rfl,by kernel_rfl,by kernel_rfl⟩ (ldOA dQ dP E E (ble E) E) (resT dR res0)) E
abbrev spec_A2Has_b1_S:=Int
abbrev spec_A2Has_b1_R:=Unit⊕Unit
def spec_A2Has_b1_RS (a1:List Int) (a2:Int) (s:spec_A2Has_b1_S) (e:Env) (M:Mem):Prop:=eget e 0 = .sl none (a1.map (cI .i64))∧eget e 1 = .int .i64 a2∧eget e 5 = .int .i64 s
def spec_A2Has_b1_RR (a1:List Int) (a2:Int) (r:spec_A2Has_b1_R) (x:Ex) (e:Env) (M:Mem):Prop:=
  match r with
  | (.inl g)=>x = .ret∧eget e 4 = .bool true
  | (.inr g)=>x = .ext 0∧True
noncomputable def spec_A2Has_b1 (a1:List Int) (a2:Int):spec_A2Has_b1_S→Option (spec_A2Has_b1_S⊕spec_A2Has_b1_R):=fun J=>
 if (decide (J < (a1.length:Int)))=true then
  (rd a1 J).bind fun O=>
  if (O==a2)=true then
   some (.inr (.inl ()))
  else
   some (.inl (IntKind.i64.wrap (J + 1)))
 else
  some (.inr (.inr ()))
theorem spec_A2Has_b1_ok (a1:List Int) (a2:Int) (s:spec_A2Has_b1_S) (r:spec_A2Has_b1_S⊕spec_A2Has_b1_R) (h:spec_A2Has_b1 a1 a2 s=some r) (e:Env) (M:Mem) (hs:spec_A2Has_b1_RS a1 a2 s e M):Ev (fun k=>(f23_l2 (CN k) k (prune [0,1,5] e) M).bind fun q=>some q) (bQ (spec_A2Has_b1_RS a1 a2) (spec_A2Has_b1_RR a1 a2) r):=by
 revert h hs
 revert s
 intro ao h hs
 unfold spec_A2Has_b1 at h
 obtain ⟨au,aw,ax⟩:=hs
 generalize J:prune [0,1,5] e=aG
 have aa:=envp J.symm E au
 have ay:=envp J.symm E aw
 have ab:=envp J.symm E ax
 refine sq (sq (Rg (kx (mvO ab) (kx (mvO aa) (kx (lnS Try.underlying24 E) (kx (bLss E E) (Rn (hV (.sl none (a1.map (cI .i64))) aa (hV (.int .i64 a2) ay (hV (.int .i64 ao) ab (hN E hZ)))) fun aH ac ae af ah=>sN ?_)))))))
 rcases ite_some h with ⟨O,h⟩ | ⟨O,h⟩
 ·obtain ⟨aI,aq,h⟩:=bind_some h
  refine cT ah O (xx (sN (sq (bl (sq (Rg (kx (mvO ac) (kx (mvO af) (kx (ixS E E aq (cI_fl _)) (kx (ldP E E) (kx (mvO ae) (kx (bEql E E) (Rn (hA ac (hA ae (hA af (hN E hZ)))) fun aJ az aA aB ai=>sN ?_)))))))))))))
  rcases ite_some h with ⟨Y,h⟩ | ⟨Y,h⟩
  ·refine cT ai Y (sq (Rg (kx (mvO E) (Rn (hV (.bool true) E hZ) fun aK aC=>sN (xx (bR (sR ?_)))))))
   obtain rfl:=si h
   exact qR ⟨E,aC⟩
  refine cF ai Y (xx (bN (sN (Rg (kx (mvO aB) (kx (bAdd E E) (kx (mvO E) (Rn (hA az (hA aA (hN E hZ))) fun aL aD aE aF=>?_))))))))
  obtain rfl:=si h
  exact qN ⟨aD,aE,aF⟩
 refine cF ah O (xx (sE ?_))
 obtain rfl:=si h
 exact qE ⟨E,trivial⟩
noncomputable def spec_A2Has (a1:List Int) (a2:Int):Option Bool:=
 (Lw (spec_A2Has_b1 a1 a2) 0).bind fun r=>match r with
 | (.inl _)=>
  some true
 | (.inr _)=>
  some false
def spec_A2Has_enc (r:Bool):AV:=.bool r
theorem spec_A2Has_ok (a1:List Int) (a2:Int) (r:Bool) (h:spec_A2Has a1 a2=some r):Ev (fun k=>CN k 23 [.sl none (a1.map (cI .i64)),.int .i64 a2] []) (fun p=>rRes p.2 p.1=spec_A2Has_enc r):=by
 unfold spec_A2Has at h
 obtain ⟨Y,O,h⟩:=bind_some h
 refine Ev.enter (F:=fun k=>f23 (CN k) k) (fun k=>callN_eq E Try.func23 E E E (by decide +kernel) (f23_eq _ _)) (sq (Rg (kx (mvO E) (Rn (hN E (hN E hZ)) fun e1 h3 h4=>sN (sq (sq (Rg (kx (mvO E) (Rn (hA h3 (hA h4 (hV (.int .i64 0) E hZ))) fun e5 h7 h8 h9=>sN (bl ?_))))))))))
 rcases Y with _ | _
 ·refine Ev.loop (RS:=spec_A2Has_b1_RS a1 a2) (RR:=spec_A2Has_b1_RR a1 a2) (fun s r h e M hs=>spec_A2Has_b1_ok a1 a2 s r h e M hs) O ⟨h7,h8,h9⟩ fun x ac ae J=>?_
  obtain ⟨rfl,aa⟩:=J
  refine bR (sR ?_)
  obtain rfl:=si h
  exact eR (resT aa res0) E
 refine Ev.loop (RS:=spec_A2Has_b1_RS a1 a2) (RR:=spec_A2Has_b1_RR a1 a2) (fun s r h e M hs=>spec_A2Has_b1_ok a1 a2 s r h e M hs) O ⟨h7,h8,h9⟩ fun x af ah J=>?_
 obtain ⟨rfl,_⟩:=J
 refine bE (sN (sq (Rg (kx (mvO E) (Rn (hV (.bool false) E hZ) fun ai ab=>sN (xx ?_))))))
 obtain rfl:=si h
 exact eR (resT ab res0) E
abbrev impl_HoldsNow_b1_S:=Int×(List Int)
abbrev impl_HoldsNow_b1_R:=(List Int)
def impl_HoldsNow_b1_RS (a1:Book) (a2:Int) (J:Nat) (s:impl_HoldsNow_b1_S) (e:Env) (M:Mem):Prop:=eget e 1 = .int .i64 a2∧eget e 7 = .lsl J s.2.length 0 s.2.length∧eget e 18 = .sl none (a1.Tallies.map Tally.c)∧eget e 19 = .int .i64 (a1.Tallies.length:Int)∧eget e 20 = .int .i64 s.1∧M[J]? = some (.live ⟨.grow,2,1,s.2.map (cI .i64)⟩)
def impl_HoldsNow_b1_RR (a1:Book) (a2:Int) (J:Nat) (g:impl_HoldsNow_b1_R) (x:Ex) (e:Env) (M:Mem):Prop:=x = .ext 0∧eget e 7 = .lsl J g.length 0 g.length∧M[J]? = some (.live ⟨.grow,2,1,g.map (cI .i64)⟩)
noncomputable def impl_HoldsNow_b1 (a1:Book) (a2:Int):impl_HoldsNow_b1_S→Option (impl_HoldsNow_b1_S⊕impl_HoldsNow_b1_R):=fun (J,O)=>
 if (decide (J < (a1.Tallies.length:Int)))=true then
  (rd a1.Tallies J).bind fun Y=>
  if (Y.Holder==a2)=true then
   if (decide (Y.Left > 0))=true then
    (app 8 O [J]).bind fun aa=>
    some (.inl ((IntKind.i64.wrap (J + 1)),aa))
   else
    some (.inl ((IntKind.i64.wrap (J + 1)),O))
  else
   some (.inl ((IntKind.i64.wrap (J + 1)),O))
 else
  some (.inr O)
theorem impl_HoldsNow_b1_ok (a1:Book) (a2:Int) (O:Nat) (s:impl_HoldsNow_b1_S) (r:impl_HoldsNow_b1_S⊕impl_HoldsNow_b1_R) (h:impl_HoldsNow_b1 a1 a2 s=some r) (e:Env) (M:Mem) (hs:impl_HoldsNow_b1_RS a1 a2 O s e M):Ev (fun k=>(f22_l6 (CN k) k (prune [1,7,18,19,20] e) M).bind fun q=>some q) (bQ (impl_HoldsNow_b1_RS a1 a2 O) (impl_HoldsNow_b1_RR a1 a2 O) r):=by
 obtain ⟨ai,ao⟩:=s
 unfold impl_HoldsNow_b1 at h
 obtain ⟨bU,bV,bW,bX,bY,aq⟩:=hs
 generalize Y:prune [1,7,18,19,20] e=cw
 have bZ:=envp Y.symm E bU
 have b7:=envp Y.symm E bV
 have b8:=envp Y.symm E bW
 have aF:=envp Y.symm E bX
 have aG:=envp Y.symm E bY
 refine sq (Rg (kx (bLss aG aF) (Rn (hV (.int .i64 a2) bZ (hV (.lsl O ao.length 0 ao.length) b7 (hV (.sl none (a1.Tallies.map Tally.c)) b8 (hV (.int .i64 (a1.Tallies.length:Int)) aF (hV (.int .i64 ai) aG (hN E hZ)))))) fun cC b9 aH aI cb au aJ=>sN (sq ?_))))
 rcases ite_some h with ⟨ac,h⟩ | ⟨ac,h⟩
 ·obtain ⟨ab,aU,h⟩:=bind_some h
  refine cT aJ ac (xx (sN (sq (bl (sq (Rg (kx (mvO au) (kx (ixS aI au aU Tally.fl) (kx (ldPA E E E) (ku (alO zero49) fun cd aw=>?_))))))))))
  have cf:=push_old aw aq
  have aV:=ne_new aq
  have aK:cd[M.length]? = some (.live ⟨.box,49,5,[[.int .i64 0,.int .i64 0,.int .i64 0,.int .i64 0,.int .i64 0]]⟩):=push_new aw
  refine kx (mvO E) (kw (stO E E aK E E ⟨E,ble E⟩ E E) fun cg ax=>?_)
  have af:=set_ne ax aV cf
  have ah:cg[M.length]? = some (.live ⟨.box,49,5,[[.int .i64 ab.Debtor,.int .i64 ab.Holder,.int .i64 ab.Cut,.int .i64 ab.Amount,.int .i64 ab.Left]]⟩):=set_same ax aK
  refine Rn (hA b9 (hA aH (hN E (hV (.loc M.length 1 0 0) E (hA aI (hA cb (hA au hZ))))))) fun cD ay aL aM aN aO aP aR=>sN (sq (Rg (kx (faO aN ah E) (kx (ldO E ah E E E) (kx (mvO ay) (kx (bEql E E) (kx (mvO E) ?_)))))))
  rcases ite_some h with ⟨J,h⟩ | ⟨J,h⟩
  ·refine kx (guT E J (faO aN ah E)) (kx (guT E J (ldO E ah E E E)) (kx (guT E J (bGtr E E)) (kx (pkT E J E) (Rn (hA ay (hA aL (hA aM (hA aO (hA aP (hA aR (hN E hZ))))))) fun cE aS aT aZ az aA aB aC=>sN ?_))))
   rcases ite_some h with ⟨aa,h⟩ | ⟨aa,h⟩
   ·obtain ⟨ae,aD,h⟩:=bind_some h
    refine cT aC aa (Rg (kx (mvO aT) (kx (mvO aZ) (kx (litI (cns E E) E ⟨E,by decide⟩) (kw (apO E af E (elT (c:=(cI .i64)) (xs:=[ai]) E) aD (cI_fl _) (by decide)) fun a8 aE=>?_)))))
    have ba:a8[O]? = some (.live ⟨.grow,2,1,ae.map (cI .i64)⟩):=set_same aE af
    refine kx (mvO E) (Rn (hA aS (hV (.lsl O ae.length 0 ae.length) E (hA az (hA aA (hA aB hZ))))) fun ci bb bf bi bj bm=>bN (sN (Rg (kx (bAdd bm E) (kx (mvO E) (Rn (hA bb (hA bf (hA bi (hA bj (hN E hZ))))) fun cj bo bq bu bv bw=>?_))))))
    obtain rfl:=si h
    exact qN ⟨bo,bq,bu,bv,bw,ba⟩
   refine cF aC aa (xx (bN (sN (Rg (kx (bAdd aB E) (kx (mvO E) (Rn (hA aS (hA aT (hA az (hA aA (hN E hZ))))) fun cm bz bA bB bC bD=>?_)))))))
   obtain rfl:=si h
   exact qN ⟨bz,bA,bB,bC,bD,af⟩
  refine kx (gsT E J) (kx (gsT E J) (kx (gsT E J) (kx (pkF E J E) (Rn (hA ay (hA aL (hA aM (hA aO (hA aP (hA aR (hV (.bool false) E hZ))))))) fun cq bF bG cr bH bI bJ bK=>sN (cF bK E (xx (bN (sN (Rg (kx (bAdd bJ E) (kx (mvO E) (Rn (hA bF (hA bG (hA bH (hA bI (hN E hZ))))) fun ct bL bM bP bS bT=>?_))))))))))))
  obtain rfl:=si h
  exact qN ⟨bL,bM,bP,bS,bT,af⟩
 refine cF aJ ac (xx (sE ?_))
 obtain rfl:=si h
 exact qE ⟨E,aH,aq⟩
noncomputable def impl_HoldsNow (a1:Book) (a2:Int):Option ((List Int)×Int):=
 (impl_personCode a1 a2).bind fun r6=>
 if (r6 != 0)=true then
  some (([]:List Int),r6)
 else
  (Lw (impl_HoldsNow_b1 a1 a2) (0,([]:List Int))).bind fun J=>
  some (J,0)
def impl_HoldsNow_enc (r:(List Int)×Int):AV:=.tup [.sl none (r.1.map (cI .i64)),.int .i64 r.2]
theorem impl_HoldsNow_ok (a1:Book) (a2:Int) (r:(List Int)×Int) (h:impl_HoldsNow a1 a2=some r):Ev (fun k=>CN k 22 [.agg [.int .i64 a1.Day,.sl none (a1.Cash.map (cI .i64)),.sl none (a1.Tallies.map Tally.c)],.int .i64 a2] []) (fun p=>wkR (rRes p.2 p.1)=impl_HoldsNow_enc r∧ownAll (rRes p.2 p.1)=true):=by
 unfold impl_HoldsNow at h
 obtain ⟨r6,aq,h⟩:=bind_some h
 refine Ev.enter (F:=fun k=>f22 (CN k) k) (fun k=>callN_eq E Try.func22 E E E (by decide +kernel) (f22_eq _ _)) (sq (Rg (kx (bxI E E ⟨E,E,by decide⟩) (kx (mvO E) (kx (mvO E) (Rn (hN E (hN E hZ)) fun e1 h3 h4=>sN (sq (sq (Rg (kx (ldPA h4 E E) (kx (mvO h3) (kc (cl (v:=.int .i64 r6) E E (cns E (cns E E)) E (impl_personCode_ok a1 a2 _ aq) nm) (kx (mvO E) (Rn (hA h3 (hA h4 (hN E hZ))) fun e7 h9 au ab=>sN (sq (Rg (kx (mvO ab) (kx (bNeq E E) (Rn (hA h9 (hA au (hA ab (hN E hZ)))) fun aO aw ax ay ac=>sN ?_)))))))))))))))))))
 rcases ite_some h with ⟨J,h⟩ | ⟨J,h⟩
 ·refine cT ac J (sq (Rg (kx (mvO ay) (kx (mvO E) (kx (mvO E) (Rn (hV .nils E (hN E hZ)) fun aP az aA=>sN (xx (sR ?_))))))))
  obtain rfl:=si h
  exact eR (resT az (resT aA res0)) (wkO (y:=.tup [.nils,.int .i64 r6]) E E (own_tup (oa1 E (oa1 E oa0))))
 refine cF ac J (xx (sN (sq (Rg (ku (litO (xs:=([]:List Int)) (c:=(cI .i64)) E E (by decide)) fun aB ae=>?_)))))
 have aC:aB[([]:Mem).length]? = some (.live ⟨.grow,2,1,([]:List Int).map (cI .i64)⟩):=push_new ae
 obtain ⟨O,Y,h⟩:=bind_some h
 refine kx (mvO E) (Rn (hA aw (hA ax (hV (.lsl ([]:Mem).length ([]:List Int).length 0 ([]:List Int).length) E hZ))) fun aR aD aE aF=>sN (sq (sq (Rg (kx (faP aE ⟨ble E,blt E⟩ E) (kx (ldP E E) (kx (lnS Try.underlying25 E) (kx (mvO E) (Rn (hA aD (hA aF (hN E (hN E (hV (.int .i64 0) E hZ))))) fun aS aG aH aI aJ aK=>sN (bl (Ev.loop (RS:=impl_HoldsNow_b1_RS a1 a2 (([]:Mem).length)) (RR:=impl_HoldsNow_b1_RR a1 a2 (([]:Mem).length)) (fun s r h e M hs=>impl_HoldsNow_b1_ok a1 a2 (([]:Mem).length) s r h e M hs) Y ⟨aG,aH,aI,aJ,aK,aC⟩ fun x aL aM aa=>?_)))))))))))
 obtain ⟨rfl,af,ah⟩:=aa
 refine bE (sN (sq (Rg (kx (mvO af) (kx (mvO E) (kx (mvO E) (Rn (hV (.lsl ([]:Mem).length O.length 0 O.length) E (hV (.int .i64 0) E hZ)) fun aN ai ao=>sN (xx ?_))))))))
 obtain rfl:=si h
 exact eR (resT ai (resT ao res0)) (wkO (y:=.tup [.sl (some 2) (O.map (cI .i64)),.int .i64 0]) (rr_tup (mp1 (rr_row ah E (cI_fl _)) (mp1 E mp0))) E (own_tup (oa1 (own2_row (c:=(cI .i64)) (fun _=>E)) (oa1 E oa0))))
abbrev spec_LongestHeld_b1_S:=Int×(List Int)
abbrev spec_LongestHeld_b1_R:=(List Int)
def spec_LongestHeld_b1_RS (a3:Int) (r7:List Book) (O:List Int) (J:Nat) (s:spec_LongestHeld_b1_S) (e:Env) (M:Mem):Prop:=eget e 2 = .int .i64 a3∧eget e 9 = .sl (some 27) (r7.map Book.c)∧eget e 11 = .lsl J s.2.length 0 s.2.length∧eget e 12 = .int .i64 s.1∧M[J]? = some (.live ⟨.grow,2,1,s.2.map (cI .i64)⟩)∧s.2.length=O.length
def spec_LongestHeld_b1_RR (a3:Int) (r7:List Book) (O:List Int) (J:Nat) (g:spec_LongestHeld_b1_R) (x:Ex) (e:Env) (M:Mem):Prop:=x = .ext 0∧eget e 2 = .int .i64 a3∧eget e 9 = .sl (some 27) (r7.map Book.c)∧eget e 11 = .lsl J g.length 0 g.length∧M[J]? = some (.live ⟨.grow,2,1,g.map (cI .i64)⟩)∧g.length=O.length
noncomputable def spec_LongestHeld_b1 (a3:Int) (r7:List Book):spec_LongestHeld_b1_S→Option (spec_LongestHeld_b1_S⊕spec_LongestHeld_b1_R):=fun (J,O)=>
 if (decide (J < (r7.length:Int)))=true then
  (rd r7 (IntKind.i64.wrap (J - 1))).bind fun Y=>
  if (decide (a3 < (Y.Tallies.length:Int)))=true then
   (rd Y.Tallies a3).bind fun aa=>
   (rd O aa.Holder).bind fun ab=>
   (rd r7 J).bind fun ac=>
   (rd O aa.Holder).bind fun ae=>
   some (.inl ((IntKind.i64.wrap (J + 1)),(O.set aa.Holder.toNat (IntKind.i64.wrap (ab + (IntKind.i64.wrap (ac.Day - Y.Day)))))))
  else
   some (.inl ((IntKind.i64.wrap (J + 1)),O))
 else
  some (.inr O)
theorem spec_LongestHeld_b1_ok (a3:Int) (r7:List Book) (aw:List Int) (O:Nat) (s:spec_LongestHeld_b1_S) (r:spec_LongestHeld_b1_S⊕spec_LongestHeld_b1_R) (h:spec_LongestHeld_b1 a3 r7 s=some r) (e:Env) (M:Mem) (hs:spec_LongestHeld_b1_RS a3 r7 aw O s e M):Ev (fun k=>(f21_l6 (CN k) k (prune [2,9,11,12] e) M).bind fun q=>some q) (bQ (spec_LongestHeld_b1_RS a3 r7 aw O) (spec_LongestHeld_b1_RR a3 r7 aw O) r):=by
 obtain ⟨aN,ab⟩:=s
 unfold spec_LongestHeld_b1 at h
 obtain ⟨bv,bw,bz,bA,Y,aa⟩:=hs
 generalize ac:prune [2,9,11,12] e=bL
 have bB:=envp ac.symm E bv
 have aC:=envp ac.symm E bw
 have bC:=envp ac.symm E bz
 have aD:=envp ac.symm E bA
 refine sq (sq (Rg (kx (mvO aD) (kx (mvO aC) (kx (lnS Try.underlying94 E) (kx (bLss E E) (Rn (hV (.int .i64 a3) bB (hV (.sl (some 27) (r7.map Book.c)) aC (hV (.lsl O ab.length 0 ab.length) bC (hV (.int .i64 aN) aD (hN E hZ))))) fun bM aE ax aF aG aH=>sN ?_)))))))
 rcases ite_some h with ⟨ae,h⟩ | ⟨ae,h⟩
 ·obtain ⟨ai,aO,h⟩:=bind_some h
  refine cT aH ae (xx (sN (sq (bl (sq (Rg (kx (mvO ax) (kx (mvO aG) (kx (bSub E E) (kx (ixS E E aO Book.fl) (kx (mvO E) (Rn (hA aE (hA ax (hA aF (hA aG (hN E hZ))))) fun bP aI bD bF bG aJ=>sN (sq (Rg (kx (mvO aI) (kx (mvO aJ) (kx (ncP E) (kx (faP E ⟨ble E,blt E⟩ E) (kx (ldP E E) (kx (lnS Try.underlying25 E) (kx (bLss E E) (Rn (hA aI (hA bD (hA bF (hA bG (hA aJ (hN E hZ)))))) fun bS ay az aA aB aK aL=>sN ?_))))))))))))))))))))))
  rcases ite_some h with ⟨af,h⟩ | ⟨af,h⟩
  ·obtain ⟨aM,aP,h⟩:=bind_some h
   obtain ⟨ao,ah,h⟩:=bind_some h
   obtain ⟨aq,aR,h⟩:=bind_some h
   obtain ⟨aS,J,h⟩:=bind_some h
   refine cT aL af (Rd (kf (mvO aA) (kf (mvO aK) (kf (ncP E) (kf (faP E ⟨ble E,blt E⟩ E) (kf (ldP E E) (kf (mvO ay) (kf (ixS E E aP Tally.fl) (kf (faP E ⟨ble E,blt E⟩ E) (kf (ldP E E) (kf (ixO E Y E E (rd_get ah).1 (rd_lt ah).2) (kf (ldO E Y (by simp [aa]) (rz ah) E) (kf (mvO az) (kf (mvO aB) (kf (ixS E E aR Book.fl) (kf (faP E ⟨ble E,blt E⟩ E) (kf (ldP E E) (kf (mvO aK) (kf (ncP E) (kf (faP E ⟨ble E,blt E⟩ E) (kf (ldP E E) (kf (bSub E E) (kf (bAdd E E) (kf (ixO E Y E E (rd_get J).1 (rd_lt J).2) (fZ (kw (stR (u:=aS) (u':=(IntKind.i64.wrap (ao + (IntKind.i64.wrap (aq.Day - ai.Day))))) E E Y E (rz2 J) ⟨E,ble E⟩ E E) fun aT au=>?_))))))))))))))))))))))))))
   rw [Nat.zero_add] at au
   have aU:aT[O]? = some (.live ⟨.grow,2,1,(ab.set aM.Holder.toNat (IntKind.i64.wrap (ao + (IntKind.i64.wrap (aq.Day - ai.Day))))).map (cI .i64)⟩):=set_same au Y
   have bH:=rd_set (u':=(IntKind.i64.wrap (ao + (IntKind.i64.wrap (aq.Day - ai.Day))))) J
   refine Rn (hA ay (hA az (hA aA (hA aB hZ)))) fun bI aV aZ a8 ba=>bN (sN (Rg (kx (mvO ba) (kx (bAdd E E) (kx (mvO E) (Rn (hA aV (hA aZ (hA a8 (hN E hZ)))) fun bJ bb bf bi bj=>?_))))))
   obtain rfl:=si h
   exact qN ⟨bb,bf,(lslL (L':=(ab.set aM.Holder.toNat (IntKind.i64.wrap (ao + (IntKind.i64.wrap (aq.Day - ai.Day))))).length) bi (by simp [aa])),bj,aU,(by first | rfl | simp [aa])⟩
  refine cF aL af (xx (bN (sN (Rg (kx (mvO aB) (kx (bAdd E E) (kx (mvO E) (Rn (hA ay (hA az (hA aA (hN E hZ)))) fun bK bm bo bq bu=>?_))))))))
  obtain rfl:=si h
  exact qN ⟨bm,bo,bq,bu,Y,(by first | rfl | simp [aa])⟩
 refine cF aH ae (xx (sE ?_))
 obtain rfl:=si h
 exact qE ⟨E,aE,ax,aF,Y,(by first | rfl | simp [aa])⟩
abbrev spec_LongestHeld_b2_S:=Int×Bool×Int
abbrev spec_LongestHeld_b2_R:=Int×Bool
def spec_LongestHeld_b2_RS (a3:Int) (r7:List Book) (J:List Int) (O:Book) (Y:Nat) (s:spec_LongestHeld_b2_S) (e:Env) (M:Mem):Prop:=eget e 2 = .int .i64 a3∧eget e 9 = .sl (some 27) (r7.map Book.c)∧eget e 11 = .lsl Y J.length 0 J.length∧eget e 14 = .int .i64 s.1∧eget e 15 = .pt none [.int .i64 O.Day,.sl none (O.Cash.map (cI .i64)),.sl none (O.Tallies.map Tally.c)]∧eget e 16 = .bool s.2.1∧eget e 17 = .int .i64 s.2.2∧M[Y]? = some (.live ⟨.grow,2,1,J.map (cI .i64)⟩)
def spec_LongestHeld_b2_RR (a3:Int) (r7:List Book) (J:List Int) (O:Book) (Y:Nat) (g:spec_LongestHeld_b2_R) (x:Ex) (e:Env) (M:Mem):Prop:=x = .ext 2∧eget e 2 = .int .i64 a3∧eget e 9 = .sl (some 27) (r7.map Book.c)∧eget e 11 = .lsl Y J.length 0 J.length∧eget e 14 = .int .i64 g.1∧eget e 15 = .pt none [.int .i64 O.Day,.sl none (O.Cash.map (cI .i64)),.sl none (O.Tallies.map Tally.c)]∧eget e 16 = .bool g.2∧M[Y]? = some (.live ⟨.grow,2,1,J.map (cI .i64)⟩)
noncomputable def spec_LongestHeld_b2 (O:List Int):spec_LongestHeld_b2_S→Option (spec_LongestHeld_b2_S⊕spec_LongestHeld_b2_R):=fun (Y,aa,J)=>
 if (decide (J < (O.length:Int)))=true then
  (rd O J).bind fun ab=>
  (rd O Y).bind fun ac=>
  if (decide (ab > ac))=true then
   if aa=true then
    some (.inl (J,true,(IntKind.i64.wrap (J + 1))))
   else
    (rd O J).bind fun ae=>
    some (.inl (J,(decide (ae > 0)),(IntKind.i64.wrap (J + 1))))
  else
   if aa=true then
    some (.inl (Y,true,(IntKind.i64.wrap (J + 1))))
   else
    (rd O J).bind fun af=>
    some (.inl (Y,(decide (af > 0)),(IntKind.i64.wrap (J + 1))))
 else
  some (.inr (Y,aa))
theorem spec_LongestHeld_b2_ok (a3:Int) (r7:List Book) (ab:List Int) (ac:Book) (af:Nat) (s:spec_LongestHeld_b2_S) (r:spec_LongestHeld_b2_S⊕spec_LongestHeld_b2_R) (h:spec_LongestHeld_b2 ab s=some r) (e:Env) (M:Mem) (hs:spec_LongestHeld_b2_RS a3 r7 ab ac af s e M):Ev (fun k=>(f21_l15 (CN k) k (prune [2,9,11,14,15,16,17] e) M).bind fun q=>some q) (bQ (spec_LongestHeld_b2_RS a3 r7 ab ac af) (spec_LongestHeld_b2_RR a3 r7 ab ac af) r):=by
 obtain ⟨aV,aZ,a8⟩:=s
 unfold spec_LongestHeld_b2 at h
 obtain ⟨ba,bb,bf,bi,bj,bm,bo,Y⟩:=hs
 generalize aa:prune [2,9,11,14,15,16,17] e=df
 have bq:=envp aa.symm E ba
 have bu:=envp aa.symm E bb
 have aF:=envp aa.symm E bf
 have bv:=envp aa.symm E bi
 have bw:=envp aa.symm E bj
 have bz:=envp aa.symm E bm
 have aG:=envp aa.symm E bo
 refine sq (sq (Rg (kx (mvO aG) (kx (mvO aF) (kx (lnL Try.underlying24 E Y (by simp)) (kx (bLss E E) (Rn (hV (.int .i64 a3) bq (hV (.sl (some 27) (r7.map Book.c)) bu (hV (.lsl af ab.length 0 ab.length) aF (hV (.int .i64 aV) bv (hV (.pt none [.int .i64 ac.Day,.sl none (ac.Cash.map (cI .i64)),.sl none (ac.Tallies.map Tally.c)]) bw (hV (.bool aZ) bz (hV (.int .i64 a8) aG (hN E hZ)))))))) fun dg aH aI ah az aJ aK aL aM=>sN ?_)))))))
 rcases ite_some h with ⟨ai,h⟩ | ⟨ai,h⟩
 ·obtain ⟨di,ao,h⟩:=bind_some h
  obtain ⟨dj,aq,h⟩:=bind_some h
  refine cT aM ai (xx (sN (sq (bl (sq (sq (Rd (kf (mvO ah) (kf (mvO aL) (kf (ixO E Y E E (rd_get ao).1 (rd_lt ao).2) (kf (ldO E Y (by simp) (rz ao) E) (kf (mvO ah) (kf (mvO az) (kf (ixO E Y E E (rd_get aq).1 (rd_lt aq).2) (kf (ldO E Y (by simp) (rz aq) E) (kf (bGtr E E) (fZ (Rn (hA aH (hA aI (hA ah (hA az (hA aJ (hA aK (hA aL (hN E hZ)))))))) fun dk aA aB au aN aC aO ae aP=>sN ?_))))))))))))))))))
  rcases ite_some h with ⟨aw,h⟩ | ⟨aw,h⟩
  ·refine cT aP aw (Rg (kx (mvO ae) (kx (mvO E) (Rn (hA aA (hA aB (hA au (hN E (hA aC (hA aO (hA ae hZ))))))) fun dl aR aS aD aT aU bA aE=>sN (Rg (kx (mvO bA) (kx (mvO E) ?_)))))))
   rcases ite_some h with ⟨J,h⟩ | ⟨J,h⟩
   ·refine kx (gsF E J) (kx (gsF E J) (kx (gsF E J) (kx (gsF E J) (kx (gsF E J) (kx (pkT E J E) (kx (mvO E) (Rn (hA aR (hA aS (hA aD (hA aT (hA aU (hV (.bool true) E (hA aE hZ))))))) fun dm bB bC bD bF bG bH bI=>bN (sN (Rg (kx (mvO bI) (kx (bAdd E E) (kx (mvO E) (Rn (hA bB (hA bC (hA bD (hA bF (hA bG (hA bH (hN E hZ))))))) fun dn bJ bK bL bM bP bS bT=>?_)))))))))))))
    obtain rfl:=si h
    exact qN ⟨bJ,bK,bL,bM,bP,bS,bT,Y⟩
   obtain ⟨dp,ax,h⟩:=bind_some h
   refine kx (guF E J (mvO aD)) (kx (guF E J (mvO aE)) (kx (guF E J (ixO E Y E E (rd_get ax).1 (rd_lt ax).2)) (kx (guF E J (ldO E Y (by simp) (rz ax) E)) (kx (guF E J (bGtr E E)) (kx (pkF E J E) (kx (mvO E) (Rn (hA aR (hA aS (hA aD (hA aT (hA aU (hN E (hA aE hZ))))))) fun dq bU bV bW bX bY bZ b7=>bN (sN (Rg (kx (mvO b7) (kx (bAdd E E) (kx (mvO E) (Rn (hA bU (hA bV (hA bW (hA bX (hA bY (hA bZ (hN E hZ))))))) fun dt b8 b9 cb cd cf cg ci=>?_)))))))))))))
   obtain rfl:=si h
   exact qN ⟨b8,b9,cb,cd,cf,cg,ci,Y⟩
  refine cF aP aw (xx (sN (Rg (kx (mvO aO) (kx (mvO E) ?_)))))
  rcases ite_some h with ⟨O,h⟩ | ⟨O,h⟩
  ·refine kx (gsF E O) (kx (gsF E O) (kx (gsF E O) (kx (gsF E O) (kx (gsF E O) (kx (pkT E O E) (kx (mvO E) (Rn (hA aA (hA aB (hA au (hA aN (hA aC (hV (.bool true) E (hA ae hZ))))))) fun du cj cm cq cr ct cw cC=>bN (sN (Rg (kx (mvO cC) (kx (bAdd E E) (kx (mvO E) (Rn (hA cj (hA cm (hA cq (hA cr (hA ct (hA cw (hN E hZ))))))) fun dw cD cE cG cH cJ cK cM=>?_)))))))))))))
   obtain rfl:=si h
   exact qN ⟨cD,cE,cG,cH,cJ,cK,cM,Y⟩
  obtain ⟨dx,ay,h⟩:=bind_some h
  refine kx (guF E O (mvO au)) (kx (guF E O (mvO ae)) (kx (guF E O (ixO E Y E E (rd_get ay).1 (rd_lt ay).2)) (kx (guF E O (ldO E Y (by simp) (rz ay) E)) (kx (guF E O (bGtr E E)) (kx (pkF E O E) (kx (mvO E) (Rn (hA aA (hA aB (hA au (hA aN (hA aC (hN E (hA ae hZ))))))) fun dz cN cO cQ cR cU cV cW=>bN (sN (Rg (kx (mvO cW) (kx (bAdd E E) (kx (mvO E) (Rn (hA cN (hA cO (hA cQ (hA cR (hA cU (hA cV (hN E hZ))))))) fun dA cX cY cZ da db dc de=>?_)))))))))))))
  obtain rfl:=si h
  exact qN ⟨cX,cY,cZ,da,db,dc,de,Y⟩
 refine cF aM ai (xx (sE ?_))
 obtain rfl:=si h
 exact qE ⟨E,aH,aI,ah,az,aJ,aK,Y⟩
noncomputable def spec_LongestHeld (a1:Book) (a2:List Deal) (a3:Int):Option (Int×Int×Int):=
 (spec_l07Known a1 a2 a3).bind fun (r7,r8)=>
 if (r8 != 0)=true then
  some (0,0,r8)
 else
  (mkS 8 0 (a1.Cash.length:Int)).bind fun ah=>
  (Lw (spec_LongestHeld_b1 a3 r7) (1,ah)).bind fun J=>
  (rd r7 (IntKind.i64.wrap ((r7.length:Int) - 1))).bind fun aa=>
  (Lw (spec_LongestHeld_b2 J) (0,false,0)).bind fun (O,ab)=>
  if ab=true then
   (rd J O).bind fun ac=>
   some (O,ac,0)
  else
   (rd aa.Tallies a3).bind fun ae=>
   (spec_l07Least r7 a3 ae.Holder).bind fun Y=>
   (rd J Y).bind fun af=>
   some (Y,af,0)
def spec_LongestHeld_enc (r:Int×Int×Int):AV:=.tup [.int .i64 r.1,.int .i64 r.2.1,.int .i64 r.2.2]
theorem spec_LongestHeld_ok (a1:Book) (a2:List Deal) (a3:Int) (r:Int×Int×Int) (h:spec_LongestHeld a1 a2 a3=some r):Ev (fun k=>CN k 21 [.agg [.int .i64 a1.Day,.sl none (a1.Cash.map (cI .i64)),.sl none (a1.Tallies.map Tally.c)],.sl none (a2.map Deal.c),.int .i64 a3] []) (fun p=>rRes p.2 p.1=spec_LongestHeld_enc r):=by
 unfold spec_LongestHeld at h
 obtain ⟨⟨r7,r8⟩,bW,h⟩:=bind_some h
 refine Ev.enter (F:=fun k=>f21 (CN k) k) (fun k=>callN_eq E Try.func21 E E E (by decide +kernel) (f21_eq _ _)) (sq (Rg (kx (bxI E E ⟨E,E,by decide⟩) (kx (mvO E) (kx (mvO E) (kx (mvO E) (Rn (hN E (hN E (hN E hZ))) fun e1 h3 h4 h5=>sN (sq (Rg (kx (mvO h3) (kx (mvO h4) (kc (cl (v:=.tup [.sl (some 27) (r7.map Book.c),.int .i64 r8]) E E (cns h5 (cns E (cns E E))) E (spec_l07Known_ok a1 a2 a3 _ bW) nm) (kx (mvO E) (kx (exT E E) (kx (exT E E) (kx (mvO E) (kx (mvO E) (Rn (hA h4 (hA h5 (hN E (hN E hZ)))) fun e9 bX bY bZ aF=>sN (sq (sq (Rg (kx (mvO aF) (kx (bNeq E E) (Rn (hA bX (hA bY (hA bZ (hA aF (hN E hZ))))) fun cZ b7 b8 b9 cb aG=>sN ?_))))))))))))))))))))))))
 rcases ite_some h with ⟨af,h⟩ | ⟨af,h⟩
 ·refine cT aG af (sq (Rg (kx (mvO cb) (kx (mvO E) (kx (mvO E) (kx (mvO E) (Rn (hV (.int .i64 0) E (hV (.int .i64 0) E (hN E hZ))) fun da cd cf cg=>sN (xx (sR ?_)))))))))
  obtain rfl:=si h
  exact eR (resT cd (resT cf (resT cg res0))) E
 obtain ⟨Y,aH,h⟩:=bind_some h
 refine cF aG af (xx (sN (sq (Rg (kx (faP b8 ⟨ble E,blt E⟩ E) (kx (ldP E E) (kx (lnS Try.underlying24 E) (ku (mkO E E aH (c:=(cI .i64)) zero2 (cI_fl _) (by decide)) fun ci aI=>?_))))))))
 have cj:ci[([]:Mem).length]? = some (.live ⟨.grow,2,1,Y.map (cI .i64)⟩):=push_new aI
 obtain ⟨J,ay,h⟩:=bind_some h
 refine kx (mvO E) (Rn (hA b7 (hA b9 (hV (.lsl ([]:Mem).length Y.length 0 Y.length) E hZ))) fun db cm cq cr=>sN (sq (sq (Rg (kx (mvO E) (Rn (hA cm (hA cq (hA cr (hV (.int .i64 1) E hZ)))) fun dc ct cw cC cD=>sN (bl (Ev.loop (RS:=spec_LongestHeld_b1_RS a3 r7 Y (([]:Mem).length)) (RR:=spec_LongestHeld_b1_RR a3 r7 Y (([]:Mem).length)) (fun s r h e M hs=>spec_LongestHeld_b1_ok a3 r7 Y (([]:Mem).length) s r h e M hs) ay ⟨ct,cw,cC,cD,cj,E⟩ fun x cE cG az=>?_))))))))
 obtain ⟨rfl,aJ,aK,aL,aM,ai⟩:=az
 obtain ⟨O,aA,h⟩:=bind_some h
 obtain ⟨⟨aN,cH⟩,aB,h⟩:=bind_some h
 refine bE (sN (sq (Rg (kx (mvO E) (Rn (hV (.int .i64 a3) aJ (hV (.sl (some 27) (r7.map Book.c)) aK (hV (.lsl ([]:Mem).length J.length 0 J.length) aL (hV (.int .i64 0) E hZ)))) fun cJ aO ah aP aR=>sN (sq (Rg (kx (mvO ah) (kx (mvO ah) (kx (lnS Try.underlying94 E) (kx (bSub E E) (kx (ixS E E aA Book.fl) (kx (mvO E) (Rn (hA aO (hA ah (hA aP (hA aR (hN E hZ))))) fun cK aS aT aU aV aZ=>sN (sq (Rg (kx (mvO E) (Rn (hA aS (hA aT (hA aU (hA aV (hA aZ (hV (.bool false) E hZ)))))) fun cM a8 ba bb bf bi bj=>sN (sq (sq (Rg (kx (mvO E) (Rn (hA a8 (hA ba (hA bb (hA bf (hA bi (hA bj (hV (.int .i64 0) E hZ))))))) fun cN bm bo bq bu bv bw bz=>sN (bl (Ev.loop (RS:=spec_LongestHeld_b2_RS a3 r7 J O (([]:Mem).length)) (RR:=spec_LongestHeld_b2_RR a3 r7 J O (([]:Mem).length)) (fun s r h e M hs=>spec_LongestHeld_b2_ok a3 r7 J O (([]:Mem).length) s r h e M hs) aB ⟨bm,bo,bq,bu,bv,bw,bz,aM⟩ fun x cO cQ aC=>?_)))))))))))))))))))))))))
 obtain ⟨rfl,bA,bB,bC,bD,bF,bG,aa⟩:=aC
 refine bE (sN (sq (sq (Rg (kx (mvO bG) (kx (uNot E) (Rn (hV (.int .i64 a3) bA (hV (.sl (some 27) (r7.map Book.c)) bB (hV (.lsl ([]:Mem).length J.length 0 J.length) bC (hV (.int .i64 aN) bD (hV (.pt none [.int .i64 O.Day,.sl none (O.Cash.map (cI .i64)),.sl none (O.Tallies.map Tally.c)]) bF (hN E hZ)))))) fun cR ao bH aq au bI aw=>sN ?_)))))))
 rcases ite_some h with ⟨ab,h⟩ | ⟨ab,h⟩
 ·obtain ⟨cU,ac,h⟩:=bind_some h
  refine cF aw (congrArg Bool.not ab) (xx (sN (sq (Rd (kf (mvO au) (kf (mvO aq) (kf (mvO au) (kf (ixO E aa E E (rd_get ac).1 (rd_lt ac).2) (kf (ldO E aa (by simp [ai]) (rz ac) E) (kf (mvO E) (kf (mvO E) (kf (mvO E) (fZ (Rn (hN E (hN E (hV (.int .i64 0) E hZ))) fun cV bJ bK bL=>sN (xx ?_)))))))))))))))
  obtain rfl:=si h
  exact eR (resT bJ (resT bK (resT bL res0))) E
 obtain ⟨bM,aD,h⟩:=bind_some h
 obtain ⟨bP,aE,h⟩:=bind_some h
 obtain ⟨cW,ae,h⟩:=bind_some h
 refine cT aw (congrArg Bool.not ab) (Rg (kx (mvO bH) (kx (mvO ao) (kx (mvO bI) (kx (ncP E) (kx (faP E ⟨ble E,blt E⟩ E) (kx (ldP E E) (kx (mvO ao) (kx (ixS E E aD Tally.fl) (kx (faP E ⟨ble E,blt E⟩ E) (kx (ldP E E) (kc (cl (v:=.int .i64 bP) E E (cns E (cns E (cns E E))) E (spec_l07Least_ok r7 a3 bM.Holder _ aE) nm) (kx (mvO E) (Rn (hA aq (hN E hZ)) fun cX bS ax=>sN (sq (Rd (kf (mvO ax) (kf (mvO bS) (kf (mvO ax) (kf (ixO E aa E E (rd_get ae).1 (rd_lt ae).2) (kf (ldO E aa (by simp [ai]) (rz ae) E) (kf (mvO E) (kf (mvO E) (kf (mvO E) (fZ (Rn (hN E (hN E (hV (.int .i64 0) E hZ))) fun cY bT bU bV=>sN (xx ?_)))))))))))))))))))))))))))
 obtain rfl:=si h
 exact eR (resT bT (resT bU (resT bV res0))) E
noncomputable def impl_LongestHeld_1_pppp (a1:Int) (a2:Int) (a3:Int) (a4:List Int) (a5:Int) (a6:List Bool):Option (Int×(List Int)×Int×(List Bool)):=
 if (decide (a3≥0))=true then
  (rd a4 a3).bind fun J=>
  (rd a4 a3).bind fun O=>
  (rd a6 a3).bind fun Y=>
  some (a1,(a4.set a3.toNat (IntKind.i64.wrap (J + (IntKind.i64.wrap (a2 - a5))))),a2,(a6.set a3.toNat true))
 else
  some (a1,a4,a2,a6)
def impl_LongestHeld_1_pppp_Q (a1:Int) (a2:Int) (a3:Int) (a4:List Int) (a5:Int) (a6:List Bool) (j1:Nat) (j2:Nat) (j3:Nat) (j4:Nat) (j5:Nat) (j6:Nat) (M0:Mem) (r:Int×(List Int)×Int×(List Bool)) (p:AV×Mem):Prop:=p.1 = .tup []∧p.2[j1]? = some (.live ⟨.box,2,1,[[.int .i64 r.1]]⟩)∧p.2[j2]? = some (.live ⟨.box,24,1,[[.lsl j3 r.2.1.length 0 r.2.1.length]]⟩)∧p.2[j3]? = some (.live ⟨.grow,2,1,r.2.1.map (cI .i64)⟩)∧p.2[j4]? = some (.live ⟨.box,2,1,[[.int .i64 r.2.2.1]]⟩)∧p.2[j5]? = some (.live ⟨.box,101,1,[[.lsl j6 r.2.2.2.length 0 r.2.2.2.length]]⟩)∧p.2[j6]? = some (.live ⟨.grow,4,1,r.2.2.2.map cB⟩)∧Fr [j1,j2,j3,j4,j5,j6] M0 p.2∧r.2.1.length=a4.length∧r.2.2.2.length=a6.length
theorem impl_LongestHeld_1_pppp_ok (a1:Int) (a2:Int) (a3:Int) (a4:List Int) (a5:Int) (a6:List Bool) (j1:Nat) (j2:Nat) (j3:Nat) (j4:Nat) (j5:Nat) (j6:Nat) (ay:j1≠j2) (ai:j1≠j3) (ae:j1≠j4) (az:j1≠j5) (ao:j1≠j6) (aM:j2≠j3) (aA:j2≠j4) (cE:j2≠j5) (aN:j2≠j6) (aq:j3≠j4) (aO:j3≠j5) (aB:j3≠j6) (aC:j4≠j5) (au:j4≠j6) (aP:j5≠j6) (M0:Mem) (oP1:M0[j1]? = some (.live ⟨.box,2,1,[[.int .i64 a3]]⟩)) (oP2:M0[j2]? = some (.live ⟨.box,24,1,[[.lsl j3 a4.length 0 a4.length]]⟩)) (oP3:M0[j3]? = some (.live ⟨.grow,2,1,a4.map (cI .i64)⟩)) (oP4:M0[j4]? = some (.live ⟨.box,2,1,[[.int .i64 a5]]⟩)) (oP5:M0[j5]? = some (.live ⟨.box,101,1,[[.lsl j6 a6.length 0 a6.length]]⟩)) (oP6:M0[j6]? = some (.live ⟨.grow,4,1,a6.map cB⟩)) (r:Int×(List Int)×Int×(List Bool)) (h:impl_LongestHeld_1_pppp a1 a2 a3 a4 a5 a6=some r):Ev (fun k=>CN k 69 [.int .i64 a1,.int .i64 a2,.loc j1 1 0 0,.loc j2 1 0 0,.loc j4 1 0 0,.loc j5 1 0 0] M0) (impl_LongestHeld_1_pppp_Q a1 a2 a3 a4 a5 a6 j1 j2 j3 j4 j5 j6 M0 r):=by
 unfold impl_LongestHeld_1_pppp at h
 have aF:Fr [j1,j2,j3,j4,j5,j6] M0 M0:=Fr.refl
 refine Ev.enter (F:=fun k=>f69 (CN k) k) (fun k=>callN_eq E Try.func69 E E E (by decide +kernel) (f69_eq _ _)) (sq (sq (Rg (kx (ldO E oP1 E E E) (kx (bGeq E E) (Rn (hN E (hN E (hV (.loc j1 1 0 0) E (hV (.loc j2 1 0 0) E (hV (.loc j4 1 0 0) E (hV (.loc j5 1 0 0) E (hN E hZ))))))) fun e1 h3 h4 h5 h6 h7 h8 h9=>sN ?_))))))
 rcases ite_some h with ⟨aw,h⟩ | ⟨aw,h⟩
 ·obtain ⟨aD,ax,h⟩:=bind_some h
  obtain ⟨a8,af,h⟩:=bind_some h
  refine cT h9 aw (sq (Rd (kf (ldO h6 oP2 E E E) (kf (ldO h5 oP1 E E E) (kf (ixO E oP3 E E (rd_get ax).1 (rd_lt ax).2) (kf (ldO E oP3 (by simp) (rz ax) E) (kf (mvO h4) (kf (ldO h7 oP4 E E E) (kf (bSub E E) (kf (bAdd E E) (kf (ixO E oP3 E E (rd_get af).1 (rd_lt af).2) (fZ (kw (stR (u:=a8) (u':=(IntKind.i64.wrap (aD + (IntKind.i64.wrap (a2 - a5))))) E E oP3 E (rz2 af) ⟨E,ble E⟩ E E) fun ba J=>?_)))))))))))))
  rw [Nat.zero_add] at J
  have aG:=set_ne J ai oP1
  have bb:=set_ne J aM oP2
  have bf:ba[j3]? = some (.live ⟨.grow,2,1,(a4.set a3.toNat (IntKind.i64.wrap (aD + (IntKind.i64.wrap (a2 - a5))))).map (cI .i64)⟩):=set_same J oP3
  have bi:=set_ne J (Ne.symm aq) oP4
  have aH:=set_ne J (Ne.symm aO) oP5
  have aE:=set_ne J (Ne.symm aB) oP6
  have aR:=Fr.setIn aF J (by simp)
  have cG:=rd_set (u':=(IntKind.i64.wrap (aD + (IntKind.i64.wrap (a2 - a5))))) af
  obtain ⟨bj,ah,h⟩:=bind_some h
  refine Rn (hA h3 (hA h4 (hA h5 (hA h7 (hA h8 hZ))))) fun cJ bm bo aI bq bu=>sN (Rg (kx (ldO bu aH E E E) (kx (ldO aI aG E E E) (kx (ixO E aE E E (rd_get ah).1 (rd_lt ah).2) (kw (stR (u:=bj) (u':=true) E E aE E (rz2 ah) ⟨E,ble E⟩ E E) fun bv O=>?_)))))
  rw [Nat.zero_add] at O
  have aJ:=set_ne O ao aG
  have bw:=set_ne O aN bb
  have bz:=set_ne O aB bf
  have bA:=set_ne O au bi
  have bB:=set_ne O aP aH
  have bC:bv[j6]? = some (.live ⟨.grow,4,1,(a6.set a3.toNat true).map cB⟩):=set_same O aE
  have aS:=Fr.setIn aR O (by simp)
  have cH:=rd_set (u':=true) ah
  refine Rn (hA bm (hA bo (hA aI (hA bq hZ)))) fun cK bD bF bG bH=>sN (sq (Rg (kx (mvO bD) (kw (stO bG E aJ E E ⟨E,ble E⟩ E E) fun bI Y=>?_))))
  have bJ:bI[j1]? = some (.live ⟨.box,2,1,[[.int .i64 a1]]⟩):=set_same Y aJ
  have bK:=set_ne Y (Ne.symm ay) bw
  have bL:=set_ne Y (Ne.symm ai) bz
  have aK:=set_ne Y (Ne.symm ae) bA
  have bM:=set_ne Y (Ne.symm az) bB
  have bP:=set_ne Y (Ne.symm ao) bC
  have aT:=Fr.setIn aS Y (by simp)
  refine Rn (hA bF (hA bH hZ)) fun cM bS bT=>sN (Rg (kx (mvO bS) (kw (stO bT E aK E E ⟨E,ble E⟩ E E) fun bU aa=>?_)))
  have bV:=set_ne aa ae bJ
  have bW:=set_ne aa aA bK
  have bX:=set_ne aa aq bL
  have bY:bU[j4]? = some (.live ⟨.box,2,1,[[.int .i64 a2]]⟩):=set_same aa aK
  have bZ:=set_ne aa (Ne.symm aC) bM
  have b7:=set_ne aa (Ne.symm au) bP
  have aU:=Fr.setIn aT aa (by simp)
  refine Rn hZ fun cN=>?_
  obtain rfl:=si h
  exact eN res0 ⟨E,bV,(by simpa using bW),bX,bY,(by simpa using bZ),b7,aU,(by first | rfl | simp),(by first | rfl | simp)⟩
 refine cF h9 aw (xx (sN (sq (Rg (kx (mvO h3) (kw (stO h5 E oP1 E E ⟨E,ble E⟩ E E) fun b8 ab=>?_))))))
 have b9:b8[j1]? = some (.live ⟨.box,2,1,[[.int .i64 a1]]⟩):=set_same ab oP1
 have cb:=set_ne ab (Ne.symm ay) oP2
 have cd:=set_ne ab (Ne.symm ai) oP3
 have aL:=set_ne ab (Ne.symm ae) oP4
 have cf:=set_ne ab (Ne.symm az) oP5
 have cg:=set_ne ab (Ne.symm ao) oP6
 have aV:=Fr.setIn aF ab (by simp)
 refine Rn (hA h4 (hA h7 hZ)) fun cO ci cj=>sN (Rg (kx (mvO ci) (kw (stO cj E aL E E ⟨E,ble E⟩ E E) fun cm ac=>?_)))
 have cq:=set_ne ac ae b9
 have cr:=set_ne ac aA cb
 have ct:=set_ne ac aq cd
 have cw:cm[j4]? = some (.live ⟨.box,2,1,[[.int .i64 a2]]⟩):=set_same ac aL
 have cC:=set_ne ac (Ne.symm aC) cf
 have cD:=set_ne ac (Ne.symm au) cg
 have aZ:=Fr.setIn aV ac (by simp)
 refine Rn hZ fun cQ=>?_
 obtain rfl:=si h
 exact eN res0 ⟨E,cq,cr,ct,cw,cC,cD,aZ,(by first | rfl | simp),(by first | rfl | simp)⟩
end Go.Proofs.Ytjlalepbhcekoaa
