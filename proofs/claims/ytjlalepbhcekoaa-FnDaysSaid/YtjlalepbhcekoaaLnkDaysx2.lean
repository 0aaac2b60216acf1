/- Printed by a program of ours (ext.py). -/
import Derived.Test.YtjlalepbhcekoaaLnkDaysx1
set_option linter.unusedVariables false
set_option linter.unusedSimpArgs false
set_option maxRecDepth 100000
set_option maxHeartbeats 20000000
namespace Go.Proofs.Ytjlalepbhcekoaa
open Go Go.Ab
def impl_LongestHeld_c1_Q (a1:Book) (a2:List Deal) (a3:Int) (g:Int) (q:Out):Prop:=q.1 = .nrm∧eget q.2.1 1 = .sl none (a2.map Deal.c)∧eget q.2.1 2 = .int .i64 a3∧eget q.2.1 3 = .pt none [.int .i64 a1.Day,.sl none (a1.Cash.map (cI .i64)),.sl none (a1.Tallies.map Tally.c)]∧eget q.2.1 9 = .nils∧eget q.2.1 11 = .int .i64 g
def impl_LongestHeld_c2_Q (a1:Book) (a2:List Deal) (af:Int) (ac:List Int) (ae:List Bool) (O:Nat) (Y:Nat) (aa:Nat) (ab:Nat) (J:Nat) (ah:Nat) (g:Int) (q:Out):Prop:=q.1 = .nrm∧eget q.2.1 1 = .sl none (a2.map Deal.c)∧eget q.2.1 9 = .nils∧eget q.2.1 11 = .int .i64 af∧eget q.2.1 12 = .loc Y 1 0 0∧eget q.2.1 13 = .loc ab 1 0 0∧eget q.2.1 14 = .loc J 1 0 0∧eget q.2.1 15 = .loc (J + 1) 1 0 0∧q.2.2[J]? = some (.live ⟨.box,2,1,[[.int .i64 g]]⟩)∧q.2.2[(J + 1)]? = some (.live ⟨.box,2,1,[[.int .i64 a1.Day]]⟩)∧q.2.2[O]? = some (.live ⟨.grow,2,1,ac.map (cI .i64)⟩)∧q.2.2[Y]? = some (.live ⟨.box,24,1,[[.lsl O ac.length 0 ac.length]]⟩)∧q.2.2[aa]? = some (.live ⟨.grow,4,1,ae.map cB⟩)∧q.2.2[ab]? = some (.live ⟨.box,101,1,[[.lsl aa ae.length 0 ae.length]]⟩)
abbrev impl_LongestHeld_b1_S:=Int
abbrev impl_LongestHeld_b1_R:=Unit
def impl_LongestHeld_b1_RS (a1:Book) (a2:List Deal) (ai:Int) (Y:List Int) (aa:List Bool) (ah:Int) (ab:Nat) (ac:Nat) (ae:Nat) (J:Nat) (af:Nat) (O:Nat) (s:impl_LongestHeld_b1_S) (e:Env) (M:Mem):Prop:=eget e 1 = .sl none (a2.map Deal.c)∧eget e 11 = .int .i64 ai∧eget e 12 = .loc J 1 0 0∧eget e 13 = .loc O 1 0 0∧eget e 16 = .fn 69 [.loc ac 1 0 0,.loc J 1 0 0,.loc ab 1 0 0,.loc O 1 0 0]∧eget e 67 = .nils∧eget e 68 = .int .i64 0∧eget e 69 = .int .i64 s∧M[ac]? = some (.live ⟨.box,2,1,[[.int .i64 ah]]⟩)∧M[ab]? = some (.live ⟨.box,2,1,[[.int .i64 a1.Day]]⟩)∧M[ae]? = some (.live ⟨.grow,2,1,Y.map (cI .i64)⟩)∧M[J]? = some (.live ⟨.box,24,1,[[.lsl ae Y.length 0 Y.length]]⟩)∧M[af]? = some (.live ⟨.grow,4,1,aa.map cB⟩)∧M[O]? = some (.live ⟨.box,101,1,[[.lsl af aa.length 0 aa.length]]⟩)
def impl_LongestHeld_b1_RR (a1:Book) (a2:List Deal) (ai:Int) (Y:List Int) (aa:List Bool) (ah:Int) (ab:Nat) (ac:Nat) (ae:Nat) (J:Nat) (af:Nat) (O:Nat) (g:impl_LongestHeld_b1_R) (x:Ex) (e:Env) (M:Mem):Prop:=x = .ext 0∧eget e 11 = .int .i64 ai∧eget e 12 = .loc J 1 0 0∧eget e 13 = .loc O 1 0 0∧eget e 16 = .fn 69 [.loc ac 1 0 0,.loc J 1 0 0,.loc ab 1 0 0,.loc O 1 0 0]∧M[ac]? = some (.live ⟨.box,2,1,[[.int .i64 ah]]⟩)∧M[ab]? = some (.live ⟨.box,2,1,[[.int .i64 a1.Day]]⟩)∧M[ae]? = some (.live ⟨.grow,2,1,Y.map (cI .i64)⟩)∧M[J]? = some (.live ⟨.box,24,1,[[.lsl ae Y.length 0 Y.length]]⟩)∧M[af]? = some (.live ⟨.grow,4,1,aa.map cB⟩)∧M[O]? = some (.live ⟨.box,101,1,[[.lsl af aa.length 0 aa.length]]⟩)
noncomputable def impl_LongestHeld_b1:impl_LongestHeld_b1_S→Option (impl_LongestHeld_b1_S⊕impl_LongestHeld_b1_R):=fun J=>
 if (decide (J < 0))=true then
  none
 else
  some (.inr ())
theorem impl_LongestHeld_b1_ok (a1:Book) (a2:List Deal) (ai:Int) (ao:List Int) (aq:List Bool) (ah:Int) (aa:Nat) (ab:Nat) (ac:Nat) (O:Nat) (ae:Nat) (Y:Nat) (ba:ab≠aa) (bb:ac≠ab) (bf:ac≠aa) (bA:ac≠O) (bB:ac≠ae) (bi:ac≠Y) (bj:O≠ab) (bm:O≠aa) (bC:O≠ae) (bo:O≠Y) (bq:ae≠ab) (bu:ae≠aa) (bv:ae≠Y) (bw:Y≠ab) (bz:Y≠aa) (s:impl_LongestHeld_b1_S) (r:impl_LongestHeld_b1_S⊕impl_LongestHeld_b1_R) (h:impl_LongestHeld_b1 s=some r) (e:Env) (M:Mem) (hs:impl_LongestHeld_b1_RS a1 a2 ai ao aq ah aa ab ac O ae Y s e M):Ev (fun k=>(f20_l14 (CN k) k (prune [1,11,12,13,16,67,68,69] e) M).bind fun q=>some q) (bQ (impl_LongestHeld_b1_RS a1 a2 ai ao aq ah aa ab ac O ae Y) (impl_LongestHeld_b1_RR a1 a2 ai ao aq ah aa ab ac O ae Y) r):=by
 revert h hs
 revert s
 intro ay h hs
 unfold impl_LongestHeld_b1 at h
 obtain ⟨az,aA,aB,aC,aD,aE,aF,aG,aH,aI,aJ,aK,aL,aM⟩:=hs
 generalize J:prune [1,11,12,13,16,67,68,69] e=bD
 have aN:=envp J.symm E az
 have aO:=envp J.symm E aA
 have aP:=envp J.symm E aB
 have aR:=envp J.symm E aC
 have aS:=envp J.symm E aD
 have aT:=envp J.symm E aE
 have au:=envp J.symm E aF
 have aw:=envp J.symm E aG
 refine sq (Rg (kx (bLss aw au) (Rn (hV (.sl none (a2.map Deal.c)) aN (hV (.int .i64 ai) aO (hV (.loc O 1 0 0) aP (hV (.loc Y 1 0 0) aR (hV (.fn 69 [.loc ab 1 0 0,.loc O 1 0 0,.loc aa 1 0 0,.loc Y 1 0 0]) aS (hV .nils aT (hV (.int .i64 0) au (hV (.int .i64 ay) aw (hN E hZ))))))))) fun bF bG aU aV aZ a8 bH bI bJ ax=>sN (sq ?_))))
 rcases ite_some h with ⟨af,h⟩ | ⟨af,h⟩
 ·refine cT ax af (xx (sN (sq (bl (sq (Rg ?_))))))
  cases h
 refine cF ax af (xx (sE ?_))
 obtain rfl:=si h
 exact qE ⟨E,aU,aV,aZ,a8,aH,aI,aJ,aK,aL,aM⟩
abbrev impl_LongestHeld_b2_S:=Int×Int
abbrev impl_LongestHeld_b2_R:=Int
def impl_LongestHeld_b2_RS (J:List Int) (O:List Bool) (Y:Nat) (aa:Nat) (ab:Nat) (ac:Nat) (s:impl_LongestHeld_b2_S) (e:Env) (M:Mem):Prop:=eget e 12 = .loc aa 1 0 0∧eget e 13 = .loc ac 1 0 0∧eget e 20 = .int .i64 s.1∧eget e 95 = .lsl Y J.length 0 J.length∧eget e 96 = .int .i64 (J.length:Int)∧eget e 97 = .int .i64 s.2∧M[Y]? = some (.live ⟨.grow,2,1,J.map (cI .i64)⟩)∧M[aa]? = some (.live ⟨.box,24,1,[[.lsl Y J.length 0 J.length]]⟩)∧M[ab]? = some (.live ⟨.grow,4,1,O.map cB⟩)∧M[ac]? = some (.live ⟨.box,101,1,[[.lsl ab O.length 0 O.length]]⟩)
def impl_LongestHeld_b2_RR (J:List Int) (O:List Bool) (Y:Nat) (aa:Nat) (ab:Nat) (ac:Nat) (g:impl_LongestHeld_b2_R) (x:Ex) (e:Env) (M:Mem):Prop:=x = .ext 2∧eget e 12 = .loc aa 1 0 0∧eget e 20 = .int .i64 g∧M[Y]? = some (.live ⟨.grow,2,1,J.map (cI .i64)⟩)∧M[aa]? = some (.live ⟨.box,24,1,[[.lsl Y J.length 0 J.length]]⟩)∧M[ab]? = some (.live ⟨.grow,4,1,O.map cB⟩)∧M[ac]? = some (.live ⟨.box,101,1,[[.lsl ab O.length 0 O.length]]⟩)
noncomputable def impl_LongestHeld_b2 (Y:List Int) (aa:List Bool):impl_LongestHeld_b2_S→Option (impl_LongestHeld_b2_S⊕impl_LongestHeld_b2_R):=fun (O,J)=>
 if (decide (J < (Y.length:Int)))=true then
  (rd Y J).bind fun ab=>
  (rd aa J).bind fun ac=>
  if ac=true then
   if (decide (O < 0))=true then
    some (.inl (J,(IntKind.i64.wrap (J + 1))))
   else
    (rd Y O).bind fun ae=>
    if (decide (ab > ae))=true then
     some (.inl (J,(IntKind.i64.wrap (J + 1))))
    else
     some (.inl (O,(IntKind.i64.wrap (J + 1))))
  else
   some (.inl (O,(IntKind.i64.wrap (J + 1))))
 else
  some (.inr O)
theorem impl_LongestHeld_b2_ok (ab:List Int) (aw:List Bool) (ac:Nat) (ae:Nat) (ai:Nat) (af:Nat) (de:ac≠ae) (df:ac≠ai) (da:ac≠af) (dg:ae≠ai) (db:ae≠af) (dc:ai≠af) (s:impl_LongestHeld_b2_S) (r:impl_LongestHeld_b2_S⊕impl_LongestHeld_b2_R) (h:impl_LongestHeld_b2 ab aw s=some r) (e:Env) (M:Mem) (hs:impl_LongestHeld_b2_RS ab aw ac ae ai af s e M):Ev (fun k=>(f20_l23 (CN k) k (prune [12,13,20,95,96,97] e) M).bind fun q=>some q) (bQ (impl_LongestHeld_b2_RS ab aw ac ae ai af) (impl_LongestHeld_b2_RR ab aw ac ae ai af) r):=by
 obtain ⟨aZ,a8⟩:=s
 unfold impl_LongestHeld_b2 at h
 obtain ⟨ba,bb,bf,bi,bj,bm,Y,ao,ah,aq⟩:=hs
 generalize aa:prune [12,13,20,95,96,97] e=di
 have bo:=envp aa.symm E ba
 have bq:=envp aa.symm E bb
 have bu:=envp aa.symm E bf
 have bv:=envp aa.symm E bi
 have aJ:=envp aa.symm E bj
 have aK:=envp aa.symm E bm
 refine sq (Rg (kx (bLss aK aJ) (Rn (hV (.loc ae 1 0 0) bo (hV (.loc af 1 0 0) bq (hV (.int .i64 aZ) bu (hV (.lsl ac ab.length 0 ab.length) bv (hV (.int .i64 (ab.length:Int)) aJ (hV (.int .i64 a8) aK (hN E hZ))))))) fun dj aL bw aM aN bz aF aO=>sN (sq ?_))))
 rcases ite_some h with ⟨ax,h⟩ | ⟨ax,h⟩
 ·obtain ⟨dk,ay,h⟩:=bind_some h
  obtain ⟨dl,az,h⟩:=bind_some h
  refine cT aO ax (xx (sN (sq (bl (sq (Rg (kx (mvO aF) (kx (ixO aN Y E aF (rd_get ay).1 (rd_lt ay).2) (kx (ldO E Y (by simp) (rz ay) E) (kx (mvO E) (kx (mvO E) (Rn (hA aL (hA bw (hA aM (hN E (hN E (hA aN (hA bz (hA aF hZ)))))))) fun dm aA aB au aC bA aG aH aI=>sN (sq (Rg (kx (ldO aB aq E E E) (kx (mvO aC) (kx (ixO E ah E E (rd_get az).1 (rd_lt az).2) (kx (ldO E ah (by simp) (rz az) E) (kx (mvO E) ?_)))))))))))))))))))
  rcases ite_some h with ⟨O,h⟩ | ⟨O,h⟩
  ·refine kx (guT E O (mvO au)) (kx (guT E O (bLss E E)) (kx (guT E O (mvO E)) ?_))
   rcases ite_some h with ⟨J,h⟩ | ⟨J,h⟩
   ·refine kx (gsF E J) (kx (gsF E J) (kx (gsF E J) (kx (gsF E J) (kx (gsF E J) (kx (gsF E J) (kx (guT E O (pkT E J E)) (kx (pkT E O E) (Rn (hA aA (hA aB (hA au (hA aC (hA aG (hA aH (hA aI (hV (.bool true) E hZ)))))))) fun dn bB bC dp bD bF bG bH bI=>sN (cT bI E (Rg (kx (mvO bD) (kx (mvO E) (Rn (hA bB (hA bC (hN E (hA bF (hA bG (hA bH hZ)))))) fun dq bJ bK bL bM bP bS=>bN (sN (Rg (kx (bAdd bS E) (kx (mvO E) (Rn (hA bJ (hA bK (hA bL (hA bM (hA bP (hN E hZ)))))) fun dt bT bU bV bW bX bY=>?_))))))))))))))))))
    obtain rfl:=si h
    exact qN ⟨bT,bU,bV,bW,bX,bY,Y,ao,ah,aq⟩
   obtain ⟨du,aD,h⟩:=bind_some h
   refine kx (guF E J (mvO bA)) (kx (guF E J (ldO aA ao E E E)) (kx (guF E J (mvO au)) (kx (guF E J (ixO E Y E E (rd_get aD).1 (rd_lt aD).2)) (kx (guF E J (ldO E Y (by simp) (rz aD) E)) (kx (guF E J (bGtr E E)) (kx (guT E O (pkF E J E)) (kx (pkT E O E) (Rn (hA aA (hA aB (hA au (hA aC (hA aG (hA aH (hA aI (hN E hZ)))))))) fun dw aP aR bZ b7 aS aT aU aV=>sN ?_))))))))
   rcases ite_some h with ⟨aE,h⟩ | ⟨aE,h⟩
   ·refine cT aV aE (Rg (kx (mvO b7) (kx (mvO E) (Rn (hA aP (hA aR (hN E (hA aS (hA aT (hA aU hZ)))))) fun dx b8 b9 cb cd cf cg=>bN (sN (Rg (kx (bAdd cg E) (kx (mvO E) (Rn (hA b8 (hA b9 (hA cb (hA cd (hA cf (hN E hZ)))))) fun dz ci cj cm cq cr ct=>?_)))))))))
    obtain rfl:=si h
    exact qN ⟨ci,cj,cm,cq,cr,ct,Y,ao,ah,aq⟩
   refine cF aV aE (xx (bN (sN (Rg (kx (bAdd aU E) (kx (mvO E) (Rn (hA aP (hA aR (hA bZ (hA aS (hA aT (hN E hZ)))))) fun dA cw cC cD cE cG cH=>?_)))))))
   obtain rfl:=si h
   exact qN ⟨cw,cC,cD,cE,cG,cH,Y,ao,ah,aq⟩
  refine kx (gsT E O) (kx (gsT E O) (kx (gsT E O) (kx (gsU E) (kx (gsU E) (kx (gsU E) (kx (gsU E) (kx (gsU E) (kx (gsU E) (kx (gsT E O) (kx (pkF E O E) (Rn (hA aA (hA aB (hA au (hA aC (hA aG (hA aH (hA aI (hV (.bool false) E hZ)))))))) fun dC cJ cK cM dD cN cO cQ cR=>sN (cF cR E (xx (bN (sN (Rg (kx (bAdd cQ E) (kx (mvO E) (Rn (hA cJ (hA cK (hA cM (hA cN (hA cO (hN E hZ)))))) fun dE cU cV cW cX cY cZ=>?_)))))))))))))))))))
  obtain rfl:=si h
  exact qN ⟨cU,cV,cW,cX,cY,cZ,Y,ao,ah,aq⟩
 refine cF aO ax (xx (sE ?_))
 obtain rfl:=si h
 exact qE ⟨E,aL,aM,Y,ao,ah,aq⟩
def impl_LongestHeld_c3_Q (a1:Book) (a2:List Deal) (a3:Int) (J:List Int) (g:Int) (q:Out):Prop:=q.1 = .nrm∧eget q.2.1 1 = .sl none (a2.map Deal.c)∧eget q.2.1 2 = .int .i64 a3∧eget q.2.1 3 = .pt none [.int .i64 a1.Day,.sl none (a1.Cash.map (cI .i64)),.sl none (a1.Tallies.map Tally.c)]∧eget q.2.1 9 = .sl (some 2) (J.map (cI .i64))∧eget q.2.1 11 = .int .i64 g
def impl_LongestHeld_c4_Q (a1:Book) (a2:List Deal) (af:List Int) (ah:Int) (ac:List Int) (ae:List Bool) (O:Nat) (Y:Nat) (aa:Nat) (ab:Nat) (J:Nat) (ai:Nat) (g:Int) (q:Out):Prop:=q.1 = .nrm∧eget q.2.1 1 = .sl none (a2.map Deal.c)∧eget q.2.1 9 = .sl (some 2) (af.map (cI .i64))∧eget q.2.1 11 = .int .i64 ah∧eget q.2.1 12 = .loc Y 1 0 0∧eget q.2.1 13 = .loc ab 1 0 0∧eget q.2.1 14 = .loc J 1 0 0∧eget q.2.1 15 = .loc (J + 1) 1 0 0∧q.2.2[O]? = some (.live ⟨.grow,2,1,ac.map (cI .i64)⟩)∧q.2.2[Y]? = some (.live ⟨.box,24,1,[[.lsl O ac.length 0 ac.length]]⟩)∧q.2.2[aa]? = some (.live ⟨.grow,4,1,ae.map cB⟩)∧q.2.2[ab]? = some (.live ⟨.box,101,1,[[.lsl aa ae.length 0 ae.length]]⟩)∧q.2.2[J]? = some (.live ⟨.box,2,1,[[.int .i64 g]]⟩)∧q.2.2[(J + 1)]? = some (.live ⟨.box,2,1,[[.int .i64 a1.Day]]⟩)
abbrev impl_LongestHeld_b3_S:=Int×(List Int)×(List Bool)×Int×Int
abbrev impl_LongestHeld_b3_R:=(List Int)×(List Bool)×Int×Int
def impl_LongestHeld_b3_RS (a2:List Deal) (ab:List Int) (ai:Int) (J:List Int) (O:List Bool) (ac:Nat) (ae:Nat) (Y:Nat) (af:Nat) (aa:Nat) (ah:Nat) (s:impl_LongestHeld_b3_S) (e:Env) (M:Mem):Prop:=eget e 1 = .sl none (a2.map Deal.c)∧eget e 11 = .int .i64 ai∧eget e 12 = .loc Y 1 0 0∧eget e 13 = .loc aa 1 0 0∧eget e 16 = .fn 69 [.loc ah 1 0 0,.loc Y 1 0 0,.loc ac 1 0 0,.loc aa 1 0 0]∧eget e 67 = .sl (some 2) (ab.map (cI .i64))∧eget e 68 = .int .i64 (ab.length:Int)∧eget e 69 = .int .i64 s.1∧M[ae]? = some (.live ⟨.grow,2,1,s.2.1.map (cI .i64)⟩)∧M[Y]? = some (.live ⟨.box,24,1,[[.lsl ae J.length 0 J.length]]⟩)∧M[af]? = some (.live ⟨.grow,4,1,s.2.2.1.map cB⟩)∧M[aa]? = some (.live ⟨.box,101,1,[[.lsl af O.length 0 O.length]]⟩)∧M[ah]? = some (.live ⟨.box,2,1,[[.int .i64 s.2.2.2.1]]⟩)∧M[ac]? = some (.live ⟨.box,2,1,[[.int .i64 s.2.2.2.2]]⟩)∧s.2.1.length=J.length∧s.2.2.1.length=O.length
def impl_LongestHeld_b3_RR (a2:List Deal) (ai:List Int) (ah:Int) (J:List Int) (O:List Bool) (ab:Nat) (ac:Nat) (Y:Nat) (ae:Nat) (aa:Nat) (af:Nat) (g:impl_LongestHeld_b3_R) (x:Ex) (e:Env) (M:Mem):Prop:=x = .ext 0∧eget e 11 = .int .i64 ah∧eget e 12 = .loc Y 1 0 0∧eget e 13 = .loc aa 1 0 0∧eget e 16 = .fn 69 [.loc af 1 0 0,.loc Y 1 0 0,.loc ab 1 0 0,.loc aa 1 0 0]∧M[ac]? = some (.live ⟨.grow,2,1,g.1.map (cI .i64)⟩)∧M[Y]? = some (.live ⟨.box,24,1,[[.lsl ac J.length 0 J.length]]⟩)∧M[ae]? = some (.live ⟨.grow,4,1,g.2.1.map cB⟩)∧M[aa]? = some (.live ⟨.box,101,1,[[.lsl ae O.length 0 O.length]]⟩)∧M[af]? = some (.live ⟨.box,2,1,[[.int .i64 g.2.2.1]]⟩)∧M[ab]? = some (.live ⟨.box,2,1,[[.int .i64 g.2.2.2]]⟩)∧g.1.length=J.length∧g.2.1.length=O.length
noncomputable def impl_LongestHeld_b3 (a2:List Deal) (ae:List Int):impl_LongestHeld_b3_S→Option (impl_LongestHeld_b3_S⊕impl_LongestHeld_b3_R):=fun (O,Y,aa,ab,ac)=>
 if (decide (O < (ae.length:Int)))=true then
  (rd ae O).bind fun af=>
  (rd a2 af).bind fun J=>
  if (J.Kind==1)=true then
   (impl_LongestHeld_1_pppp J.To J.Day ab Y ac aa).bind fun (ah,ai,ao,aq)=>
   some (.inl ((IntKind.i64.wrap (O + 1)),ai,aq,ah,ao))
  else
   if (J.Kind==2)=true then
    (impl_LongestHeld_1_pppp J.To J.Day ab Y ac aa).bind fun (au,aw,ax,ay)=>
    some (.inl ((IntKind.i64.wrap (O + 1)),aw,ay,au,ax))
   else
    some (.inl ((IntKind.i64.wrap (O + 1)),Y,aa,ab,ac))
 else
  some (.inr (Y,aa,ab,ac))
theorem impl_LongestHeld_b3_ok (a2:List Deal) (aG:List Int) (aH:Int) (bf:List Int) (bi:List Bool) (ae:Nat) (Y:Nat) (aa:Nat) (ab:Nat) (ac:Nat) (af:Nat) (bG:Y≠aa) (bH:Y≠ab) (bI:Y≠ac) (bJ:Y≠af) (bK:Y≠ae) (bL:aa≠ab) (bM:aa≠ac) (bP:aa≠af) (bS:aa≠ae) (bT:ab≠ac) (bU:ab≠af) (bV:ab≠ae) (bW:ac≠af) (bX:ac≠ae) (bY:af≠ae) (s:impl_LongestHeld_b3_S) (r:impl_LongestHeld_b3_S⊕impl_LongestHeld_b3_R) (h:impl_LongestHeld_b3 a2 aG s=some r) (e:Env) (M:Mem) (hs:impl_LongestHeld_b3_RS a2 aG aH bf bi ae Y aa ab ac af s e M):Ev (fun k=>(f20_l14 (CN k) k (prune [1,11,12,13,16,67,68,69] e) M).bind fun q=>some q) (bQ (impl_LongestHeld_b3_RS a2 aG aH bf bi ae Y aa ab ac af) (impl_LongestHeld_b3_RR a2 aG aH bf bi ae Y aa ab ac af) r):=by
 obtain ⟨dg,ay,az,bZ,b7⟩:=s
 unfold impl_LongestHeld_b3 at h
 obtain ⟨di,dj,dk,dl,dm,dn,dp,dq,bj,bm,bo,bq,bu,bv,J,O⟩:=hs
 generalize ao:prune [1,11,12,13,16,67,68,69] e=fX
 have dt:=envp ao.symm E di
 have du:=envp ao.symm E dj
 have dw:=envp ao.symm E dk
 have dx:=envp ao.symm E dl
 have dz:=envp ao.symm E dm
 have dA:=envp ao.symm E dn
 have b8:=envp ao.symm E dp
 have b9:=envp ao.symm E dq
 refine sq (Rg (kx (bLss b9 b8) (Rn (hV (.sl none (a2.map Deal.c)) dt (hV (.int .i64 aH) du (hV (.loc aa 1 0 0) dw (hV (.loc ac 1 0 0) dx (hV (.fn 69 [.loc af 1 0 0,.loc aa 1 0 0,.loc ae 1 0 0,.loc ac 1 0 0]) dz (hV (.sl (some 2) (aG.map (cI .i64))) dA (hV (.int .i64 (aG.length:Int)) b8 (hV (.int .i64 dg) b9 (hN E hZ))))))))) fun fY dC cb cd cf cg ci dD cj cm=>sN (sq ?_))))
 rcases ite_some h with ⟨aI,h⟩ | ⟨aI,h⟩
 ·obtain ⟨ga,cZ,h⟩:=bind_some h
  obtain ⟨aq,da,h⟩:=bind_some h
  refine cT cm aI (xx (sN (sq (bl (sq (Rg (kx (ixS ci cj cZ (cI_fl _)) (kx (ldP E E) (kx (mvO E) (Rn (hA dC (hA cb (hA cd (hA cf (hA cg (hN E (hA ci (hA dD (hA cj hZ))))))))) fun gc cq dE dF dG dH dI dJ dK dL=>sN (sq (Rg (kx (mvO cq) (kx (mvO dI) (kx (ixS E E da Deal.fl) (kx (ldPA E E E) (ku (alO zero36) fun dM au=>?_)))))))))))))))))
  have dN:=push_old au bj
  have aJ:=ne_new bj
  have dO:=push_old au bm
  have aK:=ne_new bm
  have dP:=push_old au bo
  have aL:=ne_new bo
  have dQ:=push_old au bq
  have aM:=ne_new bq
  have dR:=push_old au bu
  have aN:=ne_new bu
  have dS:=push_old au bv
  have aO:=ne_new bv
  have cr:dM[M.length]? = some (.live ⟨.box,36,6,[[.int .i64 0,.int .i8 0,.int .i64 0,.int .i64 0,.int .i64 0,.int .i64 0]]⟩):=push_new au
  refine kw (stO E E cr E E ⟨E,ble E⟩ E E) fun aw ax=>?_
  have bw:=set_ne ax aJ dN
  have bz:=set_ne ax aK dO
  have bA:=set_ne ax aL dP
  have bB:=set_ne ax aM dQ
  have bC:=set_ne ax aN dR
  have bD:=set_ne ax aO dS
  have ah:aw[M.length]? = some (.live ⟨.box,36,6,[[.int .i64 aq.Day,.int .i8 aq.Kind,.int .i64 aq.Tally,.int .i64 aq.From,.int .i64 aq.To,.int .i64 aq.Amount]]⟩):=set_same ax cr
  refine Rn (hA cq (hA dE (hA dF (hA dG (hA dH (hV (.loc M.length 1 0 0) E (hA dJ (hA dK (hA dL hZ))))))))) fun gf ct cw cC cD cE aP cG cH cJ=>sN (sq (Rg (kx (faO aP ah E) (kx (ldO E ah E E E) (kx (bEql E E) (kx (mvO E) ?_))))))
  rcases ite_some h with ⟨ai,h⟩ | ⟨ai,h⟩
  ·refine kx (gsF E ai) (kx (gsF E ai) (kx (gsF E ai) (kx (pkT E ai E) (Rn (hA ct (hA cw (hA cC (hA cD (hA cE (hA aP (hA cG (hA cH (hA cJ (hV (.bool true) E hZ)))))))))) fun gg dT dU dV dW cK cM dX dY dZ d5=>sN (cT d5 E (Rg (kx (mvO cK) (kx (faO cM ah E) (kx (ldO E ah E E E) (kx (faO cM ah E) (kx (ldO E ah E E E) ?_)))))))))))
   have d6:aw[aa]? = some (.live ⟨.box,24,1,[[.lsl Y ay.length 0 ay.length]]⟩):=by simpa [J,O] using bz
   have d7:aw[ac]? = some (.live ⟨.box,101,1,[[.lsl ab az.length 0 az.length]]⟩):=by simpa [J,O] using bB
   obtain ⟨⟨d8,aR,d9,aS⟩,db,h⟩:=bind_some h
   refine Ev.nxw (Ev.callW E (cns E (cns E (cns E (cns E (cns E (cns E E)))))) (impl_LongestHeld_1_pppp_ok aq.To aq.Day bZ ay b7 az af aa Y ae ac ab (Ne.symm bP) (Ne.symm bJ) bY (Ne.symm bW) (Ne.symm bU) (Ne.symm bG) bS bM bL bK bI bH (Ne.symm bX) (Ne.symm bV) (Ne.symm bT) aw bC d6 bw bD d7 bA _ db)) fun ea aE dc=>?_
   obtain ⟨aT,ed,ee,eo,ep,eu,ew,aU,aA,aB⟩:=dc
   have aT:ea = .tup []:=aT
   subst aT
   have ex:aE[af]? = some (.live ⟨.box,2,1,[[.int .i64 d8]]⟩):=ed
   have ey:aE[aa]? = some (.live ⟨.box,24,1,[[.lsl Y aR.length 0 aR.length]]⟩):=ee
   have ez:aE[Y]? = some (.live ⟨.grow,2,1,aR.map (cI .i64)⟩):=eo
   have eA:aE[ae]? = some (.live ⟨.box,2,1,[[.int .i64 d9]]⟩):=ep
   have eB:aE[ac]? = some (.live ⟨.box,101,1,[[.lsl ab aS.length 0 aS.length]]⟩):=eu
   have eC:aE[ab]? = some (.live ⟨.grow,4,1,aS.map cB⟩):=ew
   have aA:aR.length=ay.length:=aA
   have aB:aS.length=az.length:=aB
   have aU:Fr [af,aa,Y,ae,ac,ab] aw aE:=aU
   have gh:=aU _ _ (niC (Ne.symm aN) (niC (Ne.symm aK) (niC (Ne.symm aJ) (niC (Ne.symm aO) (niC (Ne.symm aM) (niC (Ne.symm aL) niN)))))) ah
   refine Rn (hA dT (hA dU (hA dV (hA dW (hA cK (hA dX (hA dY (hA dZ hZ)))))))) fun gi eD eE eF eG eH eJ eK eL=>bN (sN (Rg (kx (bAdd eL E) (kx (mvO E) (Rn (hA eD (hA eE (hA eF (hA eG (hA eH (hA eJ (hA eK (hN E hZ)))))))) fun gj eM eO eP eQ eS eT eU eV=>?_)))))
   obtain rfl:=si h
   exact qN ⟨eM,eO,eP,eQ,eS,eT,eU,eV,ez,(by simpa [J,O,aA,aB] using ey),eC,(by simpa [J,O,aA,aB] using eB),ex,eA,(by first | rfl | simp [J,O,aA,aB]),(by first | rfl | simp [J,O,aA,aB])⟩
  refine kx (guF E ai (faO aP ah E)) (kx (guF E ai (ldO E ah E E E)) (kx (guF E ai (bEql E E)) (kx (pkF E ai E) (Rn (hA ct (hA cw (hA cC (hA cD (hA cE (hA aP (hA cG (hA cH (hA cJ (hN E hZ)))))))))) fun gk cN cO cQ cR bF cU cV cW cX cY=>sN ?_))))
  rcases ite_some h with ⟨aV,h⟩ | ⟨aV,h⟩
  ·refine cT cY aV (Rg (kx (mvO bF) (kx (faO cU ah E) (kx (ldO E ah E E E) (kx (faO cU ah E) (kx (ldO E ah E E E) ?_))))))
   have eW:aw[aa]? = some (.live ⟨.box,24,1,[[.lsl Y ay.length 0 ay.length]]⟩):=by simpa [J,O] using bz
   have eX:aw[ac]? = some (.live ⟨.box,101,1,[[.lsl ab az.length 0 az.length]]⟩):=by simpa [J,O] using bB
   obtain ⟨⟨eY,aZ,eZ,a8⟩,de,h⟩:=bind_some h
   refine Ev.nxw (Ev.callW E (cns E (cns E (cns E (cns E (cns E (cns E E)))))) (impl_LongestHeld_1_pppp_ok aq.To aq.Day bZ ay b7 az af aa Y ae ac ab (Ne.symm bP) (Ne.symm bJ) bY (Ne.symm bW) (Ne.symm bU) (Ne.symm bG) bS bM bL bK bI bH (Ne.symm bX) (Ne.symm bV) (Ne.symm bT) aw bC eW bw bD eX bA _ de)) fun fa aF df=>?_
   obtain ⟨ba,fd,ff,fg,fh,fi,fj,bb,aC,aD⟩:=df
   have ba:fa = .tup []:=ba
   subst ba
   have fk:aF[af]? = some (.live ⟨.box,2,1,[[.int .i64 eY]]⟩):=fd
   have fm:aF[aa]? = some (.live ⟨.box,24,1,[[.lsl Y aZ.length 0 aZ.length]]⟩):=ff
   have fo:aF[Y]? = some (.live ⟨.grow,2,1,aZ.map (cI .i64)⟩):=fg
   have fq:aF[ae]? = some (.live ⟨.box,2,1,[[.int .i64 eZ]]⟩):=fh
   have ft:aF[ac]? = some (.live ⟨.box,101,1,[[.lsl ab a8.length 0 a8.length]]⟩):=fi
   have fu:aF[ab]? = some (.live ⟨.grow,4,1,a8.map cB⟩):=fj
   have aC:aZ.length=ay.length:=aC
   have aD:a8.length=az.length:=aD
   have bb:Fr [af,aa,Y,ae,ac,ab] aw aF:=bb
   have gm:=bb _ _ (niC (Ne.symm aN) (niC (Ne.symm aK) (niC (Ne.symm aJ) (niC (Ne.symm aO) (niC (Ne.symm aM) (niC (Ne.symm aL) niN)))))) ah
   refine Rn (hA cN (hA cO (hA cQ (hA cR (hA bF (hA cV (hA cW (hA cX hZ)))))))) fun gn fw fA fB fC fD fE fF fG=>bN (sN (Rg (kx (bAdd fG E) (kx (mvO E) (Rn (hA fw (hA fA (hA fB (hA fC (hA fD (hA fE (hA fF (hN E hZ)))))))) fun gp fH fI fJ fK fL fM fN fO=>?_)))))
   obtain rfl:=si h
   exact qN ⟨fH,fI,fJ,fK,fL,fM,fN,fO,fo,(by simpa [J,O,aC,aD] using fm),fu,(by simpa [J,O,aC,aD] using ft),fk,fq,(by first | rfl | simp [J,O,aC,aD]),(by first | rfl | simp [J,O,aC,aD])⟩
  refine cF cY aV (xx (bN (sN (Rg (kx (bAdd cX E) (kx (mvO E) (Rn (hA cN (hA cO (hA cQ (hA cR (hA bF (hA cV (hA cW (hN E hZ)))))))) fun gq fP fQ fR fS fT fU fV fW=>?_)))))))
  obtain rfl:=si h
  exact qN ⟨fP,fQ,fR,fS,fT,fU,fV,fW,bw,bz,bA,bB,bC,bD,(by first | rfl | simp [J,O]),(by first | rfl | simp [J,O])⟩
 refine cF cm aI (xx (sE ?_))
 obtain rfl:=si h
 exact qE ⟨E,cb,cd,cf,cg,bj,bm,bo,bq,bu,bv,(by first | rfl | simp [J,O]),(by first | rfl | simp [J,O])⟩
abbrev impl_LongestHeld_b4_S:=Int×Int
abbrev impl_LongestHeld_b4_R:=Int
def impl_LongestHeld_b4_RS (J:List Int) (O:List Bool) (Y:Nat) (aa:Nat) (ab:Nat) (ac:Nat) (s:impl_LongestHeld_b4_S) (e:Env) (M:Mem):Prop:=eget e 12 = .loc aa 1 0 0∧eget e 13 = .loc ac 1 0 0∧eget e 20 = .int .i64 s.1∧eget e 95 = .lsl Y J.length 0 J.length∧eget e 96 = .int .i64 (J.length:Int)∧eget e 97 = .int .i64 s.2∧M[Y]? = some (.live ⟨.grow,2,1,J.map (cI .i64)⟩)∧M[aa]? = some (.live ⟨.box,24,1,[[.lsl Y J.length 0 J.length]]⟩)∧M[ab]? = some (.live ⟨.grow,4,1,O.map cB⟩)∧M[ac]? = some (.live ⟨.box,101,1,[[.lsl ab O.length 0 O.length]]⟩)
def impl_LongestHeld_b4_RR (J:List Int) (O:List Bool) (Y:Nat) (aa:Nat) (ab:Nat) (ac:Nat) (g:impl_LongestHeld_b4_R) (x:Ex) (e:Env) (M:Mem):Prop:=x = .ext 2∧eget e 12 = .loc aa 1 0 0∧eget e 20 = .int .i64 g∧M[Y]? = some (.live ⟨.grow,2,1,J.map (cI .i64)⟩)∧M[aa]? = some (.live ⟨.box,24,1,[[.lsl Y J.length 0 J.length]]⟩)∧M[ab]? = some (.live ⟨.grow,4,1,O.map cB⟩)∧M[ac]? = some (.live ⟨.box,101,1,[[.lsl ab O.length 0 O.length]]⟩)
noncomputable def impl_LongestHeld_b4 (Y:List Int) (aa:List Bool):impl_LongestHeld_b4_S→Option (impl_LongestHeld_b4_S⊕impl_LongestHeld_b4_R):=fun (O,J)=>
 if (decide (J < (Y.length:Int)))=true then
  (rd Y J).bind fun ab=>
  (rd aa J).bind fun ac=>
  if ac=true then
   if (decide (O < 0))=true then
    some (.inl (J,(IntKind.i64.wrap (J + 1))))
   else
    (rd Y O).bind fun ae=>
    if (decide (ab > ae))=true then
     some (.inl (J,(IntKind.i64.wrap (J + 1))))
    else
     some (.inl (O,(IntKind.i64.wrap (J + 1))))
  else
   some (.inl (O,(IntKind.i64.wrap (J + 1))))
 else
  some (.inr O)
theorem impl_LongestHeld_b4_ok (ab:List Int) (aw:List Bool) (ah:Nat) (ai:Nat) (au:Nat) (ao:Nat) (da:ah≠ai) (db:ah≠au) (dc:ah≠ao) (de:ai≠au) (df:ai≠ao) (dg:au≠ao) (s:impl_LongestHeld_b4_S) (r:impl_LongestHeld_b4_S⊕impl_LongestHeld_b4_R) (h:impl_LongestHeld_b4 ab aw s=some r) (e:Env) (M:Mem) (hs:impl_LongestHeld_b4_RS ab aw ah ai au ao s e M):Ev (fun k=>(f20_l23 (CN k) k (prune [12,13,20,95,96,97] e) M).bind fun q=>some q) (bQ (impl_LongestHeld_b4_RS ab aw ah ai au ao) (impl_LongestHeld_b4_RR ab aw ah ai au ao) r):=by
 obtain ⟨cY,cZ⟩:=s
 unfold impl_LongestHeld_b4 at h
 obtain ⟨aZ,a8,ba,bb,bf,bi,Y,ae,ac,af⟩:=hs
 generalize aa:prune [12,13,20,95,96,97] e=di
 have bj:=envp aa.symm E aZ
 have bm:=envp aa.symm E a8
 have bo:=envp aa.symm E ba
 have bq:=envp aa.symm E bb
 have aJ:=envp aa.symm E bf
 have aK:=envp aa.symm E bi
 refine sq (Rg (kx (bLss aK aJ) (Rn (hV (.loc ai 1 0 0) bj (hV (.loc ao 1 0 0) bm (hV (.int .i64 cY) bo (hV (.lsl ah ab.length 0 ab.length) bq (hV (.int .i64 (ab.length:Int)) aJ (hV (.int .i64 cZ) aK (hN E hZ))))))) fun dj aL bu aM aN bv aF aO=>sN (sq ?_))))
 rcases ite_some h with ⟨aA,h⟩ | ⟨aA,h⟩
 ·obtain ⟨dk,aB,h⟩:=bind_some h
  obtain ⟨dl,aC,h⟩:=bind_some h
  refine cT aO aA (xx (sN (sq (bl (sq (Rg (kx (mvO aF) (kx (ixO aN Y E aF (rd_get aB).1 (rd_lt aB).2) (kx (ldO E Y (by simp) (rz aB) E) (kx (mvO E) (kx (mvO E) (Rn (hA aL (hA bu (hA aM (hN E (hN E (hA aN (hA bv (hA aF hZ)))))))) fun dm ax ay aq az bw aG aH aI=>sN (sq (Rg (kx (ldO ay af E E E) (kx (mvO az) (kx (ixO E ac E E (rd_get aC).1 (rd_lt aC).2) (kx (ldO E ac (by simp) (rz aC) E) (kx (mvO E) ?_)))))))))))))))))))
  rcases ite_some h with ⟨O,h⟩ | ⟨O,h⟩
  ·refine kx (guT E O (mvO aq)) (kx (guT E O (bLss E E)) (kx (guT E O (mvO E)) ?_))
   rcases ite_some h with ⟨J,h⟩ | ⟨J,h⟩
   ·refine kx (gsF E J) (kx (gsF E J) (kx (gsF E J) (kx (gsF E J) (kx (gsF E J) (kx (gsF E J) (kx (guT E O (pkT E J E)) (kx (pkT E O E) (Rn (hA ax (hA ay (hA aq (hA az (hA aG (hA aH (hA aI (hV (.bool true) E hZ)))))))) fun dn bz bA dp bB bC bD bF bG=>sN (cT bG E (Rg (kx (mvO bB) (kx (mvO E) (Rn (hA bz (hA bA (hN E (hA bC (hA bD (hA bF hZ)))))) fun dq bH bI bJ bK bL bM=>bN (sN (Rg (kx (bAdd bM E) (kx (mvO E) (Rn (hA bH (hA bI (hA bJ (hA bK (hA bL (hN E hZ)))))) fun dt bP bS bT bU bV bW=>?_))))))))))))))))))
    obtain rfl:=si h
    exact qN ⟨bP,bS,bT,bU,bV,bW,Y,ae,ac,af⟩
   obtain ⟨du,aD,h⟩:=bind_some h
   refine kx (guF E J (mvO bw)) (kx (guF E J (ldO ax ae E E E)) (kx (guF E J (mvO aq)) (kx (guF E J (ixO E Y E E (rd_get aD).1 (rd_lt aD).2)) (kx (guF E J (ldO E Y (by simp) (rz aD) E)) (kx (guF E J (bGtr E E)) (kx (guT E O (pkF E J E)) (kx (pkT E O E) (Rn (hA ax (hA ay (hA aq (hA az (hA aG (hA aH (hA aI (hN E hZ)))))))) fun dw aP aR bX bY aS aT aU aV=>sN ?_))))))))
   rcases ite_some h with ⟨aE,h⟩ | ⟨aE,h⟩
   ·refine cT aV aE (Rg (kx (mvO bY) (kx (mvO E) (Rn (hA aP (hA aR (hN E (hA aS (hA aT (hA aU hZ)))))) fun dx bZ b7 b8 b9 cb cd=>bN (sN (Rg (kx (bAdd cd E) (kx (mvO E) (Rn (hA bZ (hA b7 (hA b8 (hA b9 (hA cb (hN E hZ)))))) fun dz cf cg ci cj cm cq=>?_)))))))))
    obtain rfl:=si h
    exact qN ⟨cf,cg,ci,cj,cm,cq,Y,ae,ac,af⟩
   refine cF aV aE (xx (bN (sN (Rg (kx (bAdd aU E) (kx (mvO E) (Rn (hA aP (hA aR (hA bX (hA aS (hA aT (hN E hZ)))))) fun dA cr ct cw cC cD cE=>?_)))))))
   obtain rfl:=si h
   exact qN ⟨cr,ct,cw,cC,cD,cE,Y,ae,ac,af⟩
  refine kx (gsT E O) (kx (gsT E O) (kx (gsT E O) (kx (gsU E) (kx (gsU E) (kx (gsU E) (kx (gsU E) (kx (gsU E) (kx (gsU E) (kx (gsT E O) (kx (pkF E O E) (Rn (hA ax (hA ay (hA aq (hA az (hA aG (hA aH (hA aI (hV (.bool false) E hZ)))))))) fun dC cG cH cJ dD cK cM cN cO=>sN (cF cO E (xx (bN (sN (Rg (kx (bAdd cN E) (kx (mvO E) (Rn (hA cG (hA cH (hA cJ (hA cK (hA cM (hN E hZ)))))) fun dE cQ cR cU cV cW cX=>?_)))))))))))))))))))
  obtain rfl:=si h
  exact qN ⟨cQ,cR,cU,cV,cW,cX,Y,ae,ac,af⟩
 refine cF aO aA (xx (sE ?_))
 obtain rfl:=si h
 exact qE ⟨E,aL,aM,Y,ae,ac,af⟩
noncomputable def impl_LongestHeld (a1:Book) (a2:List Deal) (a3:Int):Option (Int×Int×Int):=
 (impl_history a1 a2 a3).bind fun r=>match r with
 | (.inl r7)=>
  if (r7 != 0)=true then
   some (0,0,r7)
  else
   (if (decide ((a2.length:Int) > 0))=true then
    (rd a2 (IntKind.i64.wrap ((a2.length:Int) - 1))).bind fun aE=>
    some aE.Day
   else
    some a1.Day).bind fun aF=>
   (mkS 8 0 (a1.Cash.length:Int)).bind fun aG=>
   (mkS 1 false (a1.Cash.length:Int)).bind fun aH=>
   (if (decide (a3 < (a1.Tallies.length:Int)))=true then
    (rd a1.Tallies a3).bind fun ae=>
    some ae.Holder
   else
    some (-1)).bind fun af=>
   (Lw (impl_LongestHeld_b1) 0).bind fun _=>
   (impl_LongestHeld_1_pppp (-1) aF af aG a1.Day aH).bind fun (aK,Y,aL,ah)=>
   (Lw (impl_LongestHeld_b2 Y ah) ((-1),0)).bind fun aa=>
   (rd Y aa).bind fun ai=>
   some (aa,ai,0)
 | (.inr ao)=>
  (if (decide ((a2.length:Int) > 0))=true then
   (rd a2 (IntKind.i64.wrap ((a2.length:Int) - 1))).bind fun aq=>
   some aq.Day
  else
   some a1.Day).bind fun au=>
  (mkS 8 0 (a1.Cash.length:Int)).bind fun aw=>
  (mkS 1 false (a1.Cash.length:Int)).bind fun ax=>
  (if (decide (a3 < (a1.Tallies.length:Int)))=true then
   (rd a1.Tallies a3).bind fun ay=>
   some ay.Holder
  else
   some (-1)).bind fun az=>
  (Lw (impl_LongestHeld_b3 a2 ao) (0,aw,ax,az,a1.Day)).bind fun (aA,aB,aC,aD)=>
  (impl_LongestHeld_1_pppp (-1) au aC aA aD aB).bind fun (aI,J,aJ,ab)=>
  (Lw (impl_LongestHeld_b4 J ab) ((-1),0)).bind fun O=>
  (rd J O).bind fun ac=>
  some (O,ac,0)
def impl_LongestHeld_enc (r:Int×Int×Int):AV:=.tup [.int .i64 r.1,.int .i64 r.2.1,.int .i64 r.2.2]
theorem impl_LongestHeld_ok (a1:Book) (a2:List Deal) (a3:Int) (r:Int×Int×Int) (h:impl_LongestHeld a1 a2 a3=some r):Ev (fun k=>CN k 20 [.agg [.int .i64 a1.Day,.sl none (a1.Cash.map (cI .i64)),.sl none (a1.Tallies.map Tally.c)],.sl none (a2.map Deal.c),.int .i64 a3] []) (fun p=>rRes p.2 p.1=impl_LongestHeld_enc r):=by
 unfold impl_LongestHeld at h
 obtain ⟨ff,gj,h⟩:=bind_some h
 refine Ev.enter (F:=fun k=>f20 (CN k) k) (fun k=>callN_eq E Try.func20 E E E (by decide +kernel) (f20_eq _ _)) (sq (Rg (kx (bxI E E ⟨E,E,by decide⟩) (kx (mvO E) (kx (mvO E) (kx (mvO E) (Rn (hN E (hN E (hN E hZ))) fun e1 h3 h4 h5=>sN (sq (Rg (kx (ldPA h5 E E) (kx (mvO h3) (kx (mvO h4) ?_))))))))))))
 rcases ff with r7 | ao
 ·refine kc (cl (v:=.tup [.nils,.int .i64 r7]) E E (cns E (cns E (cns E E))) E (impl_history_ok a1 a2 a3 _ gj) nm) (kx (mvO E) (kx (exT E E) (kx (exT E E) (kx (mvO E) (kx (mvO E) (Rn (hA h3 (hA h4 (hA h5 (hV .nils E (hN E hZ))))) fun e8 mE mF mG mH gk=>sN (sq (sq (Rg (kx (mvO gk) (kx (bNeq E E) (Rn (hA mE (hA mF (hA mG (hA mH (hA gk (hN E hZ)))))) fun oI mI mJ gm mK mL gn=>sN ?_))))))))))))
  rcases ite_some h with ⟨ct,h⟩ | ⟨ct,h⟩
  ·refine cT gn ct (sq (Rg (kx (mvO mL) (kx (mvO E) (kx (mvO E) (kx (mvO E) (Rn (hV (.int .i64 0) E (hV (.int .i64 0) E (hN E hZ))) fun oJ mM mN mO=>sN (xx (sR ?_)))))))))
   obtain rfl:=si h
   exact eR (resT mM (resT mN (resT mO res0))) E
  obtain ⟨dk,bK,h⟩:=bind_some h
  refine cF gn ct (xx (sN (sq (Rg (kx (faP gm ⟨ble E,blt E⟩ E) (kx (ldP E E) (kx (mvO E) (Rn (hA mI (hA mJ (hA gm (hA mK (hN E hZ))))) fun oK gp mP mQ mR mS=>sN (sq ?_)))))))))
  refine Ev.cut (Q1:=impl_LongestHeld_c1_Q a1 a2 a3 dk) (by
      have h:=bK
      refine sq (Rg (kx (mvO gp) (kx (lnS Try.underlying28 E) (kx (bGtr E E) (Rn (hA gp (hA mP (hA mQ (hA mR (hA mS (hN E hZ)))))) fun oL cY gq gt gw mT gz=>sN ?_)))))
      rcases ite_some h with ⟨cw,h⟩ | ⟨cw,h⟩
      ·obtain ⟨oM,gK,h⟩:=bind_some h
       refine cT gz cw (Rg (kx (mvO cY) (kx (mvO cY) (kx (lnS Try.underlying28 E) (kx (bSub E E) (kx (ixS E E gK Deal.fl) (kx (faP E ⟨ble E,blt E⟩ E) (kx (ldP E E) (kx (mvO E) (Rn (hA cY (hA gq (hA gt (hA gw (hN E hZ))))) fun oN mU mV mW mX mY=>?_))))))))))
       obtain rfl:=si h
       exact kd (show impl_LongestHeld_c1_Q a1 a2 a3 _ _ from ⟨E,mU,mV,mW,mX,mY⟩)
      refine cF gz cw (xx ?_)
      obtain rfl:=si h
      exact kd (show impl_LongestHeld_c1_Q a1 a2 a3 _ _ from ⟨E,cY,gq,gt,gw,mT⟩)) ?_
  revert h bK
  revert dk
  intro aM bK h
  intro x oO ah fg
  obtain ⟨rfl,mZ,m7,gA,m8,m9⟩:=fg
  obtain ⟨aC,gL,h⟩:=bind_some h
  refine sN (sq (Rg (kx (faP gA ⟨ble E,blt E⟩ E) (kx (ldP E E) (kx (lnS Try.underlying24 E) (ku (mkO E E gL (c:=(cI .i64)) zero2 (cI_fl _) (by decide)) fun ae gM=>?_))))))
  have gB:ae[ah.length]? = some (.live ⟨.grow,2,1,aC.map (cI .i64)⟩):=push_new gM
  refine ku (alO zero24) fun na dl=>?_
  have gC:=push_old dl gB
  have bL:=ne_new gB
  have gD:na[ae.length]? = some (.live ⟨.box,24,1,[[.nils]]⟩):=push_new dl
  refine kw (stO E E gD E E ⟨E,ble E⟩ (all1 (okL gC (by simp)) all0) E) fun ai dm=>?_
  have gE:=set_ne dm bL gC
  have gF:ai[ae.length]? = some (.live ⟨.box,24,1,[[.lsl ah.length aC.length 0 aC.length]]⟩):=set_same dm gD
  obtain ⟨aD,gN,h⟩:=bind_some h
  refine Rn (hV (.sl none (a2.map Deal.c)) mZ (hA m7 (hV (.pt none [.int .i64 a1.Day,.sl none (a1.Cash.map (cI .i64)),.sl none (a1.Tallies.map Tally.c)]) gA (hV .nils m8 (hV (.int .i64 aM) m9 (hV (.loc ae.length 1 0 0) E hZ)))))) fun oP nb ng gG nh ni nj=>sN (sq (Rg (kx (faP gG ⟨ble E,blt E⟩ E) (kx (ldP E E) (kx (lnS Try.underlying24 E) (ku (mkO E E gN (c:=cB) zero4 cB_fl (by decide)) fun af cC=>?_))))))
  have gH:=push_old cC gE
  have cD:=ne_new gE
  have gI:=push_old cC gF
  have cE:=ne_new gF
  have gJ:af[ai.length]? = some (.live ⟨.grow,4,1,aD.map cB⟩):=push_new cC
  refine ku (alO zero101) fun nn bM=>?_
  have np:=push_old bM gH
  have aT:=ne_new gH
  have gO:=push_old bM gI
  have aU:=ne_new gI
  have dn:=push_old bM gJ
  have aV:=ne_new gJ
  have dp:nn[af.length]? = some (.live ⟨.box,101,1,[[.nils]]⟩):=push_new bM
  refine kw (stO E E dp E E ⟨E,ble E⟩ (all1 (okL dn (by simp)) all0) E) fun J aZ=>?_
  have cG:=set_ne aZ aT np
  have cH:=set_ne aZ aU gO
  have cJ:=set_ne aZ aV dn
  have cK:J[af.length]? = some (.live ⟨.box,101,1,[[.lsl ai.length aD.length 0 aD.length]]⟩):=set_same aZ dp
  refine Rn (hA nb (hA ng (hA gG (hA nh (hA ni (hA nj (hV (.loc af.length 1 0 0) E hZ))))))) fun nH gP gQ dq gR gS gT gU=>sN (sq (Rd (kf (faP dq ⟨ble E,blt E⟩ E) (kf (ldP E E) (Ev.nfpushE (alO zero2) (Ev.nfpushE (alO zero2) (Ev.fend1 fun dt au=>?_)))))))
  have au:=fendM au [⟨.box,2,1,[[.int .i64 0]]⟩,⟨.box,2,1,[[.int .i64 0]]⟩] E
  have gV:=push_old au cG
  have gW:=push_old au cH
  have gX:=push_old au cJ
  have gY:=push_old au cK
  have a8:ah.length≠J.length:=by have:=lt_of_get (M:=J) cG; omega
  have ba:ae.length≠J.length:=by have:=lt_of_get (M:=J) cH; omega
  have bb:ai.length≠J.length:=by have:=lt_of_get (M:=J) cJ; omega
  have bf:af.length≠J.length:=by have:=lt_of_get (M:=J) cK; omega
  have du:dt[J.length]? = some (.live ⟨.box,2,1,[[.int .i64 0]]⟩):=push_at au 0 E
  have bP:ah.length≠(J.length + 1):=by have:=lt_of_get (M:=J) cG; omega
  have bS:ae.length≠(J.length + 1):=by have:=lt_of_get (M:=J) cH; omega
  have bT:ai.length≠(J.length + 1):=by have:=lt_of_get (M:=J) cJ; omega
  have bU:af.length≠(J.length + 1):=by have:=lt_of_get (M:=J) cK; omega
  have aN:J.length≠(J.length + 1):=by omega
  have gZ:dt[(J.length + 1)]? = some (.live ⟨.box,2,1,[[.int .i64 0]]⟩):=push_at au 1 E
  refine kw (stO E E du E E ⟨E,ble E⟩ E E) fun hH aE=>?_
  have hO:=set_ne aE a8 gV
  have hP:=set_ne aE ba gW
  have hY:=set_ne aE bb gX
  have ib:=set_ne aE bf gY
  have ic:hH[J.length]? = some (.live ⟨.box,2,1,[[.int .i64 (-1)]]⟩):=set_same aE du
  have dw:=set_ne aE (Ne.symm aN) gZ
  refine kw (stO E E dw E E ⟨E,ble E⟩ E E) fun ie aF=>?_
  have dx:=set_ne aF bP hO
  have dz:=set_ne aF bS hP
  have dA:=set_ne aF bT hY
  have dC:=set_ne aF bU ib
  have cM:=set_ne aF aN ic
  have dD:ie[(J.length + 1)]? = some (.live ⟨.box,2,1,[[.int .i64 a1.Day]]⟩):=set_same aF dw
  obtain ⟨dE,bV,h⟩:=bind_some h
  refine Rn (hA gP (hA gQ (hA dq (hA gR (hA gS (hA gT (hA gU (hV (.loc J.length 1 0 0) E (hV (.loc (J.length + 1) 1 0 0) E hZ))))))))) fun nI ig dF dG ii ij ik il im io=>sN (sq ?_)
  refine Ev.cut (Q1:=impl_LongestHeld_c2_Q a1 a2 aM aC aD ah.length ae.length ai.length af.length J.length (J.length + 1) dE) (by
      have h:=bV
      refine sq (Rg (kx (mvO dF) (kx (faP dG ⟨ble E,blt E⟩ E) (kx (ldP E E) (kx (lnS Try.underlying25 E) (kx (bLss E E) (Rn (hA ig (hA dF (hA dG (hA ii (hA ij (hA ik (hA il (hA im (hA io (hN E hZ)))))))))) fun nJ dH ip iq dI dJ dK dL cN dM dN=>sN ?_)))))))
      rcases ite_some h with ⟨bW,h⟩ | ⟨bW,h⟩
      ·obtain ⟨ir,fh,h⟩:=bind_some h
       refine cT dN bW (Rg (kx (faP iq ⟨ble E,blt E⟩ E) (kx (ldP E E) (kx (mvO ip) (kx (ixS E E fh Tally.fl) (kx (faP E ⟨ble E,blt E⟩ E) (kx (ldP E E) (kw (stO cN E cM E E ⟨E,ble E⟩ E E) fun iu aG=>?_))))))))
       have iw:=set_ne aG a8 dx
       have ix:=set_ne aG ba dz
       have iy:=set_ne aG bb dA
       have iz:=set_ne aG bf dC
       have iA:iu[J.length]? = some (.live ⟨.box,2,1,[[.int .i64 ir.Holder]]⟩):=set_same aG cM
       have iB:=set_ne aG (Ne.symm aN) dD
       refine Rn (hA dH (hA dI (hA dJ (hA dK (hA dL (hA cN (hA dM hZ))))))) fun nK iC iD iE iF iG iH iI=>?_
       obtain rfl:=si h
       exact kd (show impl_LongestHeld_c2_Q a1 a2 aM aC aD ah.length ae.length ai.length af.length J.length (J.length + 1) _ _ from ⟨E,iC,iD,iE,iF,iG,iH,iI,iA,iB,iw,ix,iy,iz⟩)
      refine cF dN bW (xx ?_)
      obtain rfl:=si h
      exact kd (show impl_LongestHeld_c2_Q a1 a2 aM aC aD ah.length ae.length ai.length af.length J.length (J.length + 1) _ _ from ⟨E,dH,dI,dJ,dK,dL,cN,dM,cM,dD,dx,dz,dA,dC⟩)) ?_
  revert h bV
  revert dE
  intro bX bV h
  intro x nL nM fi
  obtain ⟨rfl,iJ,iK,iL,dO,dP,iM,iN,iO,iP,iQ,iR,iS,iT⟩:=fi
  obtain ⟨nN,fj,h⟩:=bind_some h
  refine sN (sq (Rg (kx (mvO (congrArg (AV.fn 69) (cns iM (cns dO (cns iN (cns dP E)))))) (kx (mvO E) (Rn (hV (.sl none (a2.map Deal.c)) iJ (hV .nils iK (hV (.int .i64 aM) iL (hV (.loc ae.length 1 0 0) dO (hV (.loc af.length 1 0 0) dP (hV (.fn 69 [.loc J.length 1 0 0,.loc ae.length 1 0 0,.loc (J.length + 1) 1 0 0,.loc af.length 1 0 0]) E hZ)))))) fun nO iU iV iW iX iY iZ=>sN (sq (sq (Rg (kx (mvO iV) (kx (lnN Try.underlying24 E) (kx (mvO E) (Rn (hA iU (hA iW (hA iX (hA iY (hA iZ (hV .nils E (hV (.int .i64 0) E (hV (.int .i64 0) E hZ)))))))) fun nP ja jb jc jd je jf jh ji=>sN (bl (Ev.loop (RS:=impl_LongestHeld_b1_RS a1 a2 aM aC aD bX (J.length + 1) J.length ah.length ae.length ai.length af.length) (RR:=impl_LongestHeld_b1_RR a1 a2 aM aC aD bX (J.length + 1) J.length ah.length ae.length ai.length af.length) (fun s r h e M hs=>impl_LongestHeld_b1_ok a1 a2 aM aC aD bX (J.length + 1) J.length ah.length ae.length ai.length af.length aN a8 bP bL cD aT ba bS cE aU bb bT aV bf bU s r h e M hs) fj ⟨ja,jb,jc,jd,je,jf,jh,ji,iO,iP,iQ,iR,iS,iT⟩ fun x nQ jj fk=>?_))))))))))))))
  obtain ⟨rfl,jk,jm,jo,jp,jq,jr,js,jt,ju,jv⟩:=fk
  obtain ⟨⟨jz,ax,jA,aL⟩,fm,h⟩:=bind_some h
  refine bE (sN (sq (Rg (kx (mvO jp) (kx (mvO jk) (Ev.nxw (Ev.callW E (cns E (cns E (cns E (cns E (cns E (cns E E)))))) (impl_LongestHeld_1_pppp_ok (-1) aM bX aC a1.Day aD J.length ae.length ah.length (J.length + 1) af.length ai.length (Ne.symm ba) (Ne.symm a8) aN (Ne.symm bf) (Ne.symm bb) (Ne.symm bL) bS aU cE bP aT cD (Ne.symm bU) (Ne.symm bT) (Ne.symm aV) jj jq jt js jr jv ju _ fm)) fun jB aS fo=>?_))))))
  obtain ⟨bY,jC,jD,jE,jF,jG,jH,nr,bi,bj⟩:=fo
  have bY:jB = .tup []:=bY
  subst bY
  have nS:aS[J.length]? = some (.live ⟨.box,2,1,[[.int .i64 jz]]⟩):=jC
  have dQ:aS[ae.length]? = some (.live ⟨.box,24,1,[[.lsl ah.length ax.length 0 ax.length]]⟩):=jD
  have dR:aS[ah.length]? = some (.live ⟨.grow,2,1,ax.map (cI .i64)⟩):=jE
  have nT:aS[(J.length + 1)]? = some (.live ⟨.box,2,1,[[.int .i64 jA]]⟩):=jF
  have jI:aS[af.length]? = some (.live ⟨.box,101,1,[[.lsl ai.length aL.length 0 aL.length]]⟩):=jG
  have jJ:aS[ai.length]? = some (.live ⟨.grow,4,1,aL.map cB⟩):=jH
  have bi:ax.length=aC.length:=bi
  have bj:aL.length=aD.length:=bj
  obtain ⟨nU,fq,h⟩:=bind_some h
  refine Rn (hV (.loc ae.length 1 0 0) jm (hV (.loc af.length 1 0 0) jo hZ)) fun nV jK jL=>sN (sq (Rg (kx (mvO E) (Rn (hA jK (hA jL (hV (.int .i64 (-1)) E hZ))) fun nW dS jM jN=>sN (sq (sq (Rg (kx (ldO dS dQ E E E) (kx (lnL Try.underlying24 E dR (by simp [bi,bj])) (kx (mvO E) (Rn (hA dS (hA jM (hA jN (hV (.lsl ah.length ax.length 0 ax.length) E (hN E (hV (.int .i64 0) E hZ)))))) fun nX jO jP jQ jR jS jT=>sN (bl (Ev.loop (RS:=impl_LongestHeld_b2_RS ax aL ah.length ae.length ai.length af.length) (RR:=impl_LongestHeld_b2_RR ax aL ah.length ae.length ai.length af.length) (fun s r h e M hs=>impl_LongestHeld_b2_ok ax aL ah.length ae.length ai.length af.length bL cD aT cE aU aV s r h e M hs) fq ⟨jO,jP,jQ,jR,jS,jT,dR,dQ,jJ,jI⟩ fun x nY nZ ft=>?_)))))))))))))
  obtain ⟨rfl,jU,dT,dU,jV,n5,n7⟩:=ft
  obtain ⟨oa,bZ,h⟩:=bind_some h
  refine bE (sN (sq (Rd (kf (mvO dT) (kf (ldO jU jV E E E) (kf (mvO dT) (kf (ixO E dU E E (rd_get bZ).1 (rd_lt bZ).2) (kf (ldO E dU (by simp [bi,bj]) (rz bZ) E) (kf (mvO E) (kf (mvO E) (kf (mvO E) (fZ (Rn (hN E (hN E (hV (.int .i64 0) E hZ))) fun oc jW jX jY=>sN (xx ?_))))))))))))))
  obtain rfl:=si h
  exact eR (resT jW (resT jX (resT jY res0))) E
 obtain ⟨cZ,bG,h⟩:=bind_some h
 refine kc (cl (v:=.tup [.sl (some 2) (ao.map (cI .i64)),.int .i64 0]) E E (cns E (cns E (cns E E))) E (impl_history_ok a1 a2 a3 _ gj) nm) (kx (mvO E) (kx (exT E E) (kx (exT E E) (kx (mvO E) (kx (mvO E) (Rn (hA h3 (hA h4 (hA h5 (hN E (hV (.int .i64 0) E hZ))))) fun od jZ j7 j8 j9 dV=>sN (sq (sq (Rg (kx (mvO dV) (kx (bNeq E E) (Rn (hA jZ (hA j7 (hA j8 (hA j9 (hA dV (hV (.bool false) E hZ)))))) fun oe ke kg dW kh og ki=>sN (cF ki E (xx (sN (sq (Rg (kx (faP dW ⟨ble E,blt E⟩ E) (kx (ldP E E) (kx (mvO E) (Rn (hA ke (hA kg (hA dW (hA kh (hN E hZ))))) fun oi dX kj kl km ko=>sN (sq ?_))))))))))))))))))))))
 refine Ev.cut (Q1:=impl_LongestHeld_c3_Q a1 a2 a3 ao cZ) (by
     have h:=bG
     refine sq (Rg (kx (mvO dX) (kx (lnS Try.underlying28 E) (kx (bGtr E E) (Rn (hA dX (hA kj (hA kl (hA km (hA ko (hN E hZ)))))) fun oj b7 dY dZ d5 kq d6=>sN ?_)))))
     rcases ite_some h with ⟨b8,h⟩ | ⟨b8,h⟩
     ·obtain ⟨om,fu,h⟩:=bind_some h
      refine cT d6 b8 (Rg (kx (mvO b7) (kx (mvO b7) (kx (lnS Try.underlying28 E) (kx (bSub E E) (kx (ixS E E fu Deal.fl) (kx (faP E ⟨ble E,blt E⟩ E) (kx (ldP E E) (kx (mvO E) (Rn (hA b7 (hA dY (hA dZ (hA d5 (hN E hZ))))) fun oq kr ks kv ky kz=>?_))))))))))
      obtain rfl:=si h
      exact kd (show impl_LongestHeld_c3_Q a1 a2 a3 ao _ _ from ⟨E,kr,ks,kv,ky,kz⟩)
     refine cF d6 b8 (xx ?_)
     obtain rfl:=si h
     exact kd (show impl_LongestHeld_c3_Q a1 a2 a3 ao _ _ from ⟨E,b7,dY,dZ,d5,kq⟩)) ?_
 revert h bG
 revert cZ
 intro ay bG h
 intro x ot ab d7
 obtain ⟨rfl,kA,kC,d8,kD,kE⟩:=d7
 obtain ⟨az,fw,h⟩:=bind_some h
 refine sN (sq (Rg (kx (faP d8 ⟨ble E,blt E⟩ E) (kx (ldP E E) (kx (lnS Try.underlying24 E) (ku (mkO E E fw (c:=(cI .i64)) zero2 (cI_fl _) (by decide)) fun Y fA=>?_))))))
 have d9:Y[ab.length]? = some (.live ⟨.grow,2,1,az.map (cI .i64)⟩):=push_new fA
 refine ku (alO zero24) fun kF da=>?_
 have ea:=push_old da d9
 have bm:=ne_new d9
 have ed:kF[Y.length]? = some (.live ⟨.box,24,1,[[.nils]]⟩):=push_new da
 refine kw (stO E E ed E E ⟨E,ble E⟩ (all1 (okL ea (by simp)) all0) E) fun ac db=>?_
 have ee:=set_ne db bm ea
 have eo:ac[Y.length]? = some (.live ⟨.box,24,1,[[.lsl ab.length az.length 0 az.length]]⟩):=set_same db ed
 obtain ⟨aA,fB,h⟩:=bind_some h
 refine Rn (hV (.sl none (a2.map Deal.c)) kA (hV (.int .i64 a3) kC (hV (.pt none [.int .i64 a1.Day,.sl none (a1.Cash.map (cI .i64)),.sl none (a1.Tallies.map Tally.c)]) d8 (hV (.sl (some 2) (ao.map (cI .i64))) kD (hV (.int .i64 ay) kE (hV (.loc Y.length 1 0 0) E hZ)))))) fun ou kG kH ep kJ kK kL=>sN (sq (Rg (kx (faP ep ⟨ble E,blt E⟩ E) (kx (ldP E E) (kx (lnS Try.underlying24 E) (ku (mkO E E fB (c:=cB) zero4 cB_fl (by decide)) fun aa b9=>?_))))))
 have eu:=push_old b9 ee
 have cb:=ne_new ee
 have ew:=push_old b9 eo
 have cd:=ne_new eo
 have ex:aa[ac.length]? = some (.live ⟨.grow,4,1,aA.map cB⟩):=push_new b9
 refine ku (alO zero101) fun kM bo=>?_
 have kN:=push_old bo eu
 have bq:=ne_new eu
 have kO:=push_old bo ew
 have bu:=ne_new ew
 have ey:=push_old bo ex
 have bv:=ne_new ex
 have ez:kM[aa.length]? = some (.live ⟨.box,101,1,[[.nils]]⟩):=push_new bo
 refine kw (stO E E ez E E ⟨E,ble E⟩ (all1 (okL ey (by simp)) all0) E) fun O bw=>?_
 have cO:=set_ne bw bq kN
 have cQ:=set_ne bw bu kO
 have cR:=set_ne bw bv ey
 have cU:O[aa.length]? = some (.live ⟨.box,101,1,[[.lsl ac.length aA.length 0 aA.length]]⟩):=set_same bw ez
 refine Rn (hA kG (hA kH (hA ep (hA kJ (hA kK (hA kL (hV (.loc aa.length 1 0 0) E hZ))))))) fun ov kP kQ eA kR kT kU kV=>sN (sq (Rd (kf (faP eA ⟨ble E,blt E⟩ E) (kf (ldP E E) (Ev.nfpushE (alO zero2) (Ev.nfpushE (alO zero2) (Ev.fend1 fun eB aw=>?_)))))))
 have aw:=fendM aw [⟨.box,2,1,[[.int .i64 0]]⟩,⟨.box,2,1,[[.int .i64 0]]⟩] E
 have kW:=push_old aw cO
 have kX:=push_old aw cQ
 have kY:=push_old aw cR
 have kZ:=push_old aw cU
 have bz:ab.length≠O.length:=by have:=lt_of_get (M:=O) cO; omega
 have bA:Y.length≠O.length:=by have:=lt_of_get (M:=O) cQ; omega
 have bB:ac.length≠O.length:=by have:=lt_of_get (M:=O) cR; omega
 have bC:aa.length≠O.length:=by have:=lt_of_get (M:=O) cU; omega
 have eC:eB[O.length]? = some (.live ⟨.box,2,1,[[.int .i64 0]]⟩):=push_at aw 0 E
 have cf:ab.length≠(O.length + 1):=by have:=lt_of_get (M:=O) cO; omega
 have cg:Y.length≠(O.length + 1):=by have:=lt_of_get (M:=O) cQ; omega
 have ci:ac.length≠(O.length + 1):=by have:=lt_of_get (M:=O) cR; omega
 have cj:aa.length≠(O.length + 1):=by have:=lt_of_get (M:=O) cU; omega
 have aO:O.length≠(O.length + 1):=by omega
 have k9:eB[(O.length + 1)]? = some (.live ⟨.box,2,1,[[.int .i64 0]]⟩):=push_at aw 1 E
 refine kw (stO E E eC E E ⟨E,ble E⟩ E E) fun la aH=>?_
 have lb:=set_ne aH bz kW
 have lc:=set_ne aH bA kX
 have ld:=set_ne aH bB kY
 have le:=set_ne aH bC kZ
 have lg:la[O.length]? = some (.live ⟨.box,2,1,[[.int .i64 (-1)]]⟩):=set_same aH eC
 have eD:=set_ne aH (Ne.symm aO) k9
 refine kw (stO E E eD E E ⟨E,ble E⟩ E E) fun lh aI=>?_
 have eE:=set_ne aI cf lb
 have eF:=set_ne aI cg lc
 have eG:=set_ne aI ci ld
 have eH:=set_ne aI cj le
 have cV:=set_ne aI aO lg
 have eJ:lh[(O.length + 1)]? = some (.live ⟨.box,2,1,[[.int .i64 a1.Day]]⟩):=set_same aI eD
 obtain ⟨dc,bH,h⟩:=bind_some h
 refine Rn (hA kP (hA kQ (hA eA (hA kR (hA kT (hA kU (hA kV (hV (.loc O.length 1 0 0) E (hV (.loc (O.length + 1) 1 0 0) E hZ))))))))) fun oz lj eK eL lm ln lq lr lu lv=>sN (sq ?_)
 refine Ev.cut (Q1:=impl_LongestHeld_c4_Q a1 a2 ao ay az aA ab.length Y.length ac.length aa.length O.length (O.length + 1) dc) (by
     have h:=bH
     refine sq (Rg (kx (mvO eK) (kx (faP eL ⟨ble E,blt E⟩ E) (kx (ldP E E) (kx (lnS Try.underlying25 E) (kx (bLss E E) (Rn (hA lj (hA eK (hA eL (hA lm (hA ln (hA lq (hA lr (hA lu (hA lv (hN E hZ)))))))))) fun oA eM lx ly eO eP eQ eS cW eT eU=>sN ?_)))))))
     rcases ite_some h with ⟨cm,h⟩ | ⟨cm,h⟩
     ·obtain ⟨lz,fC,h⟩:=bind_some h
      refine cT eU cm (Rg (kx (faP ly ⟨ble E,blt E⟩ E) (kx (ldP E E) (kx (mvO lx) (kx (ixS E E fC Tally.fl) (kx (faP E ⟨ble E,blt E⟩ E) (kx (ldP E E) (kw (stO cW E cV E E ⟨E,ble E⟩ E E) fun lA aJ=>?_))))))))
      have lB:=set_ne aJ bz eE
      have lC:=set_ne aJ bA eF
      have lD:=set_ne aJ bB eG
      have lE:=set_ne aJ bC eH
      have lF:lA[O.length]? = some (.live ⟨.box,2,1,[[.int .i64 lz.Holder]]⟩):=set_same aJ cV
      have lG:=set_ne aJ (Ne.symm aO) eJ
      refine Rn (hA eM (hA eO (hA eP (hA eQ (hA eS (hA cW (hA eT hZ))))))) fun oB lH lI lJ lK lL lM lN=>?_
      obtain rfl:=si h
      exact kd (show impl_LongestHeld_c4_Q a1 a2 ao ay az aA ab.length Y.length ac.length aa.length O.length (O.length + 1) _ _ from ⟨E,lH,lI,lJ,lK,lL,lM,lN,lB,lC,lD,lE,lF,lG⟩)
     refine cF eU cm (xx ?_)
     obtain rfl:=si h
     exact kd (show impl_LongestHeld_c4_Q a1 a2 ao ay az aA ab.length Y.length ac.length aa.length O.length (O.length + 1) _ _ from ⟨E,eM,eO,eP,eQ,eS,cW,eT,eE,eF,eG,eH,cV,eJ⟩)) ?_
 revert h bH
 revert dc
 intro oC bH h
 intro x oD oE eV
 obtain ⟨rfl,lO,lP,lQ,eW,eX,lR,lS,lT,lU,lV,lW,lX,lY⟩:=eV
 obtain ⟨⟨cq,cr,lZ,l5⟩,fD,h⟩:=bind_some h
 refine sN (sq (Rg (kx (mvO (congrArg (AV.fn 69) (cns lR (cns eW (cns lS (cns eX E)))))) (kx (mvO E) (Rn (hV (.sl none (a2.map Deal.c)) lO (hV (.sl (some 2) (ao.map (cI .i64))) lP (hV (.int .i64 ay) lQ (hV (.loc Y.length 1 0 0) eW (hV (.loc aa.length 1 0 0) eX (hV (.fn 69 [.loc O.length 1 0 0,.loc Y.length 1 0 0,.loc (O.length + 1) 1 0 0,.loc aa.length 1 0 0]) E hZ)))))) fun oF l6 l7 l8 l9 ma me=>sN (sq (sq (Rg (kx (mvO l7) (kx (lnS Try.underlying24 E) (kx (mvO E) (Rn (hA l6 (hA l8 (hA l9 (hA ma (hA me (hN E (hN E (hV (.int .i64 0) E hZ)))))))) fun oG mf mg mh mi mj ml mm mn=>sN (bl (Ev.loop (RS:=impl_LongestHeld_b3_RS a2 ao ay az aA (O.length + 1) ab.length Y.length ac.length aa.length O.length) (RR:=impl_LongestHeld_b3_RR a2 ao ay az aA (O.length + 1) ab.length Y.length ac.length aa.length O.length) (fun s r h e M hs=>impl_LongestHeld_b3_ok a2 ao ay az aA (O.length + 1) ab.length Y.length ac.length aa.length O.length bm cb bq bz cf cd bu bA cg bv bB ci bC cj aO s r h e M hs) fD ⟨mf,mg,mh,mi,mj,ml,mm,mn,lT,lU,lV,lW,lX,lY,E,E⟩ fun x oH cX fE=>?_))))))))))))))
 obtain ⟨rfl,mo,mp,mq,mu,mv,mw,my,mz,mA,mB,bD,bF⟩:=fE
 refine bE (sN (sq (Rg (kx (mvO mu) (kx (mvO mo) ?_)))))
 have mC:cX[Y.length]? = some (.live ⟨.box,24,1,[[.lsl ab.length cq.length 0 cq.length]]⟩):=by simpa [bD,bF] using mw
 have mD:cX[aa.length]? = some (.live ⟨.box,101,1,[[.lsl ac.length cr.length 0 cr.length]]⟩):=by simpa [bD,bF] using mz
 obtain ⟨⟨fF,aq,fG,aB⟩,eY,h⟩:=bind_some h
 refine Ev.nxw (Ev.callW E (cns E (cns E (cns E (cns E (cns E (cns E E)))))) (impl_LongestHeld_1_pppp_ok (-1) ay lZ cq l5 cr O.length Y.length ab.length (O.length + 1) aa.length ac.length (Ne.symm bA) (Ne.symm bz) aO (Ne.symm bC) (Ne.symm bB) (Ne.symm bm) cg bu cd cf bq cb (Ne.symm cj) (Ne.symm ci) (Ne.symm bv) cX mA mC mv mB mD my _ eY)) fun fH aK eZ=>?_
 obtain ⟨bI,fI,fJ,fK,fL,fM,fN,nq,aP,aR⟩:=eZ
 have bI:fH = .tup []:=bI
 subst bI
 have nu:aK[O.length]? = some (.live ⟨.box,2,1,[[.int .i64 fF]]⟩):=fI
 have de:aK[Y.length]? = some (.live ⟨.box,24,1,[[.lsl ab.length aq.length 0 aq.length]]⟩):=fJ
 have df:aK[ab.length]? = some (.live ⟨.grow,2,1,aq.map (cI .i64)⟩):=fK
 have nv:aK[(O.length + 1)]? = some (.live ⟨.box,2,1,[[.int .i64 fG]]⟩):=fL
 have fO:aK[aa.length]? = some (.live ⟨.box,101,1,[[.lsl ac.length aB.length 0 aB.length]]⟩):=fM
 have fP:aK[ac.length]? = some (.live ⟨.grow,4,1,aB.map cB⟩):=fN
 have aP:aq.length=cq.length:=aP
 have aR:aB.length=cr.length:=aR
 obtain ⟨nw,fa,h⟩:=bind_some h
 refine Rn (hV (.loc Y.length 1 0 0) mp (hV (.loc aa.length 1 0 0) mq hZ)) fun ny fQ fR=>sN (sq (Rg (kx (mvO E) (Rn (hA fQ (hA fR (hV (.int .i64 (-1)) E hZ))) fun nz dg fS fT=>sN (sq (sq (Rg (kx (ldO dg de E E E) (kx (lnL Try.underlying24 E df (by simp [bD,bF,aP,aR])) (kx (mvO E) (Rn (hA dg (hA fS (hA fT (hV (.lsl ab.length aq.length 0 aq.length) E (hN E (hV (.int .i64 0) E hZ)))))) fun nA fU fV fW fX fY ga=>sN (bl (Ev.loop (RS:=impl_LongestHeld_b4_RS aq aB ab.length Y.length ac.length aa.length) (RR:=impl_LongestHeld_b4_RR aq aB ab.length Y.length ac.length aa.length) (fun s r h e M hs=>impl_LongestHeld_b4_ok aq aB ab.length Y.length ac.length aa.length bm cb bq cd bu bv s r h e M hs) fa ⟨fU,fV,fW,fX,fY,ga,df,de,fP,fO⟩ fun x nB nC fd=>?_)))))))))))))
 obtain ⟨rfl,gc,di,dj,gf,nD,nE⟩:=fd
 obtain ⟨nF,bJ,h⟩:=bind_some h
 refine bE (sN (sq (Rd (kf (mvO di) (kf (ldO gc gf E E E) (kf (mvO di) (kf (ixO E dj E E (rd_get bJ).1 (rd_lt bJ).2) (kf (ldO E dj (by simp [bD,bF,aP,aR]) (rz bJ) E) (kf (mvO E) (kf (mvO E) (kf (mvO E) (fZ (Rn (hN E (hN E (hV (.int .i64 0) E hZ))) fun nG gg gh gi=>sN (xx ?_))))))))))))))
 obtain rfl:=si h
 exact eR (resT gg (resT gh (resT gi res0))) E
noncomputable def impl_StateOn (a1:Book) (a2:List Deal) (a3:Int):Option (Int×(List Int)×(List Tally)×Int):=
 (impl_dealsCode a1 a2).bind fun J=>
 if (J != 0)=true then
  some (0,([]:List Int),([]:List Tally),J)
 else
  (impl_isBookDay a3).bind fun O=>
  if O=true then
   (impl_stateOn a1 a2 a3).bind fun r=>match r with
   | (.inl (Y,aa))=>
    some (Y,([]:List Int),([]:List Tally),aa)
   | (.inr (ab,ac,ae))=>
    some (ab,ac,ae,0)
  else
   some (0,([]:List Int),([]:List Tally),2)
def impl_StateOn_enc (r:Int×(List Int)×(List Tally)×Int):AV:=.tup [.agg [.int .i64 r.1,.sl none (r.2.1.map (cI .i64)),.sl none (r.2.2.1.map Tally.c)],.int .i64 r.2.2.2]
theorem impl_StateOn_ok (a1:Book) (a2:List Deal) (a3:Int) (r:Int×(List Int)×(List Tally)×Int) (h:impl_StateOn a1 a2 a3=some r):Ev (fun k=>CN k 9 [.agg [.int .i64 a1.Day,.sl none (a1.Cash.map (cI .i64)),.sl none (a1.Tallies.map Tally.c)],.sl none (a2.map Deal.c),.int .i64 a3] []) (fun p=>wkR (rRes p.2 p.1)=impl_StateOn_enc r):=by
 unfold impl_StateOn at h
 refine Ev.enter (F:=fun k=>f9 (CN k) k) (fun k=>callN_eq E Try.func9 E E E (by decide +kernel) (f9_eq _ _)) (sq (Rg (kx (bxI E E ⟨E,E,by decide⟩) (ku (alO zero27) fun M2 aE=>?_))))
 have o4:M2[([]:Mem).length]? = some (.live ⟨.box,27,3,[[.int .i64 0,.nils,.nils]]⟩):=push_new aE
 obtain ⟨ai,ay,h⟩:=bind_some h
 refine kx (mvO E) (Rn (hN E (hN E (hN E (hV (.loc ([]:Mem).length 1 0 0) E hZ)))) fun e5 h7 h8 h9 aF=>sN (sq (sq (Rg (kx (ldPA h9 E E) (kx (mvO h7) (kc (cl (v:=.int .i64 ai) E E (cns E (cns E E)) E (impl_dealsCode_ok a1 a2 _ ay) nm) (kx (mvO E) (Rn (hA h7 (hA h8 (hA h9 (hA aF (hN E hZ))))) fun bz aG aH aI aJ ao=>sN (sq (Rg (kx (mvO ao) (kx (bNeq E E) (Rn (hA aG (hA aH (hA aI (hA aJ (hA ao (hN E hZ)))))) fun bA aK aq aL aa aM au=>sN ?_))))))))))))))
 rcases ite_some h with ⟨O,h⟩ | ⟨O,h⟩
 ·refine cT au O (sq (Rg (kx (bldT zero27 E (fill0 E)) (kx (mvO aM) (kw (stO aa E o4 E E ⟨E,ble E⟩ E E) fun aN az=>?_)))))
  have aO:aN[([]:Mem).length]? = some (.live ⟨.box,27,3,[[.int .i64 0,.nils,.nils]]⟩):=set_same az o4
  refine kx (mvO E) (Rn (hA aa (hN E hZ)) fun bB aP aR=>sN (xx (sR ?_)))
  obtain rfl:=si h
  exact eR (resC (ag:=true) (sz:=3) ⟨by kernel_rfl,by kernel_rfl,by kernel_rfl⟩ (ldOA aP aO E E (ble E) E) (resT aR res0)) (wkH (y:=.tup [.agg [.int .i64 0,.nils,.nils],.int .i64 ai]) E E)
 obtain ⟨aS,aA,h⟩:=bind_some h
 refine cF au O (xx (sN (sq (sq (Rg (kx (mvO aq) (kc (cl (v:=.bool aS) E E (cns E E) E (impl_isBookDay_ok a3 _ aA) nm) (kx (uNot E) (Rn (hA aK (hA aq (hA aL (hA aa (hN E hZ))))) fun bC aT aU aV J aw=>sN ?_)))))))))
 rcases ite_some h with ⟨Y,h⟩ | ⟨Y,h⟩
 ·obtain ⟨aZ,ab,h⟩:=bind_some h
  refine cF aw (congrArg Bool.not Y) (xx (sN (sq (Rg (kx (ldPA aV E E) (kx (mvO aT) (kx (mvO aU) ?_)))))))
  rcases aZ with ⟨ac,ax⟩ | ⟨ae,af,ah⟩
  ·refine kc (cl (v:=.tup [.agg [.int .i64 ac,.nils,.nils],.int .i64 ax]) E E (cns E (cns E (cns E E))) E (impl_stateOn_ok a1 a2 a3 _ ab) nm) (kx (exT E E) (kx (exT E E) (kw (stO J E o4 E E ⟨E,ble E⟩ E E) fun a8 aB=>?_)))
   have ba:a8[([]:Mem).length]? = some (.live ⟨.box,27,3,[[.int .i64 ac,.nils,.nils]]⟩):=set_same aB o4
   refine kx (mvO E) (Rn (hA J (hN E hZ)) fun bD bb bf=>sN (xx ?_))
   obtain rfl:=si h
   exact eR (resC (ag:=true) (sz:=3) ⟨by kernel_rfl,by kernel_rfl,by kernel_rfl⟩ (ldOA bb ba E E (ble E) E) (resT bf res0)) (wkH (y:=.tup [.agg [.int .i64 ac,.nils,.nils],.int .i64 ax]) E E)
  refine kc (cl (v:=.tup [.agg [.int .i64 ae,.sl none (af.map (cI .i64)),.sl none (ah.map Tally.c)],.int .i64 0]) E E (cns E (cns E (cns E E))) E (impl_stateOn_ok a1 a2 a3 _ ab) nm) (kx (exT E E) (kx (exT E E) (kw (stO J E o4 E E ⟨E,ble E⟩ E E) fun bi aC=>?_)))
  have bj:bi[([]:Mem).length]? = some (.live ⟨.box,27,3,[[.int .i64 ae,.sl none (af.map (cI .i64)),.sl none (ah.map Tally.c)]]⟩):=set_same aC o4
  refine kx (mvO E) (Rn (hA J (hV (.int .i64 0) E hZ)) fun bF bm bo=>sN (xx ?_))
  obtain rfl:=si h
  exact eR (resC (ag:=true) (sz:=3) ⟨by kernel_rfl,by kernel_rfl,by kernel_rfl⟩ (ldOA bm bj E E (ble E) E) (resT bo res0)) (wkH (y:=.tup [.agg [.int .i64 ae,.sl none (af.map (cI .i64)),.sl none (ah.map Tally.c)],.int .i64 0]) E E)
 refine cT aw (congrArg Bool.not Y) (sq (Rg (kx (bldT zero27 E (fill0 E)) (kw (stO J E o4 E E ⟨E,ble E⟩ E E) fun bq aD=>?_))))
 have bu:bq[([]:Mem).length]? = some (.live ⟨.box,27,3,[[.int .i64 0,.nils,.nils]]⟩):=set_same aD o4
 refine kx (mvO E) (Rn (hA J (hV (.int .i64 2) E hZ)) fun bG bv bw=>sN (xx (sR ?_)))
 obtain rfl:=si h
 exact eR (resC (ag:=true) (sz:=3) ⟨by kernel_rfl,by kernel_rfl,by kernel_rfl⟩ (ldOA bv bu E E (ble E) E) (resT bw res0)) (wkH (y:=.tup [.agg [.int .i64 0,.nils,.nils],.int .i64 2]) E E)
noncomputable def impl_HolderOn (a1:Book) (a2:List Deal) (a3:Int) (a4:Int):Option (Int×Int):=
 (impl_StateOn a1 a2 a4).bind fun (r8,r9,J,O)=>
 if (O != 0)=true then
  some (0,O)
 else
  if (decide (a3 < 0))=true then
   some (0,6)
  else
   if (decide (a3≥(J.length:Int)))=true then
    some (0,6)
   else
    (rd J a3).bind fun Y=>
    some (Y.Holder,0)
def impl_HolderOn_enc (r:Int×Int):AV:=.tup [.int .i64 r.1,.int .i64 r.2]
theorem impl_HolderOn_ok (a1:Book) (a2:List Deal) (a3:Int) (a4:Int) (r:Int×Int) (h:impl_HolderOn a1 a2 a3 a4=some r):Ev (fun k=>CN k 19 [.agg [.int .i64 a1.Day,.sl none (a1.Cash.map (cI .i64)),.sl none (a1.Tallies.map Tally.c)],.sl none (a2.map Deal.c),.int .i64 a3,.int .i64 a4] []) (fun p=>rRes p.2 p.1=impl_HolderOn_enc r):=by
 unfold impl_HolderOn at h
 obtain ⟨⟨r8,r9,ae,ax⟩,ay,h⟩:=bind_some h
 refine Ev.enter (F:=fun k=>f19 (CN k) k) (fun k=>callN_eq E Try.func19 E E E (by decide +kernel) (f19_eq _ _)) (sq (Rg (kx (bxI E E ⟨E,E,by decide⟩) (kx (mvO E) (kx (mvO E) (Rn (hN E (hN E (hN E (hN E hZ)))) fun e1 h3 h4 h5 h6=>sN (sq (Rg (kx (ldPA h6 E E) (kx (mvO h3) (kx (mvO h5) (kc (clW (v:=.tup [.agg [.int .i64 r8,.sl none (r9.map (cI .i64)),.sl none (ae.map Tally.c)],.int .i64 ax]) E E (cns E (cns E (cns E E))) E (impl_StateOn_ok a1 a2 a4 _ ay) E) (kx (mvO E) (kx (exT E E) (kx (exT E E) (ku (alO zero27) fun az aq=>?_))))))))))))))))
 have af:az[([]:Mem).length]? = some (.live ⟨.box,27,3,[[.int .i64 0,.nils,.nils]]⟩):=push_new aq
 refine kw (stO E E af E E ⟨E,ble E⟩ E E) fun aA au=>?_
 have aa:aA[([]:Mem).length]? = some (.live ⟨.box,27,3,[[.int .i64 r8,.sl none (r9.map (cI .i64)),.sl none (ae.map Tally.c)]]⟩):=set_same au af
 refine kx (mvO E) (Rn (hA h4 (hV (.loc ([]:Mem).length 1 0 0) E (hN E hZ))) fun aP aB aC ah=>sN (sq (sq (Rg (kx (mvO ah) (kx (bNeq E E) (Rn (hA aB (hA aC (hA ah (hN E hZ)))) fun aR ab ac aD ai=>sN ?_)))))))
 rcases ite_some h with ⟨O,h⟩ | ⟨O,h⟩
 ·refine cT ai O (sq (Rg (kx (mvO aD) (kx (mvO E) (kx (mvO E) (Rn (hV (.int .i64 0) E (hN E hZ)) fun aS aE aF=>sN (xx (sR ?_))))))))
  obtain rfl:=si h
  exact eR (resT aE (resT aF res0)) E
 refine cF ai O (xx (sN (sq (sq (Rg (kx (mvO ab) (kx (bLss E E) (kx (mvO E) ?_))))))))
 rcases ite_some h with ⟨J,h⟩ | ⟨J,h⟩
 ·refine kx (gsF E J) (kx (gsF E J) (kx (gsF E J) (kx (gsF E J) (kx (gsF E J) (kx (pkT E J E) (Rn (hA ab (hA ac (hV (.bool true) E hZ))) fun aT aU aV aG=>sN (cT aG E (sq (Rg (kx (mvO E) (kx (mvO E) (Rn (hV (.int .i64 0) E (hV (.int .i64 6) E hZ)) fun aZ aH aI=>sN (xx (sR ?_))))))))))))))
  obtain rfl:=si h
  exact eR (resT aH (resT aI res0)) E
 refine kx (guF E J (mvO ab)) (kx (guF E J (faO ac aa E)) (kx (guF E J (ldO E aa E E E)) (kx (guF E J (lnS Try.underlying25 E)) (kx (guF E J (bGeq E E)) (kx (pkF E J E) (Rn (hA ab (hA ac (hN E hZ))) fun a8 aJ aK ao=>sN ?_))))))
 rcases ite_some h with ⟨Y,h⟩ | ⟨Y,h⟩
 ·refine cT ao Y (sq (Rg (kx (mvO E) (kx (mvO E) (Rn (hV (.int .i64 0) E (hV (.int .i64 6) E hZ)) fun ba aL aM=>sN (xx (sR ?_)))))))
  obtain rfl:=si h
  exact eR (resT aL (resT aM res0)) E
 obtain ⟨bb,aw,h⟩:=bind_some h
 refine cF ao Y (xx (sN (sq (Rg (kx (faO aK aa E) (kx (ldO E aa E E E) (kx (mvO aJ) (kx (ixS E E aw Tally.fl) (kx (faP E ⟨ble E,blt E⟩ E) (kx (ldP E E) (kx (mvO E) (kx (mvO E) (Rn (hN E (hV (.int .i64 0) E hZ)) fun bf aN aO=>sN (xx ?_))))))))))))))
 obtain rfl:=si h
 exact eR (resT aN (resT aO res0)) E
noncomputable def spec_HistoryOf (a1:Book) (a2:List Deal) (a3:Int):Option ((List Int)×Int):=
 (spec_l07Known a1 a2 a3).bind fun (r7,r8)=>
 if (r8 != 0)=true then
  some (([]:List Int),r8)
 else
  (spec_l07History a1 a2 a3).bind fun J=>
  some (J,0)
def spec_HistoryOf_enc (r:(List Int)×Int):AV:=.tup [.sl none (r.1.map (cI .i64)),.int .i64 r.2]
theorem spec_HistoryOf_ok (a1:Book) (a2:List Deal) (a3:Int) (r:(List Int)×Int) (h:spec_HistoryOf a1 a2 a3=some r):Ev (fun k=>CN k 18 [.agg [.int .i64 a1.Day,.sl none (a1.Cash.map (cI .i64)),.sl none (a1.Tallies.map Tally.c)],.sl none (a2.map Deal.c),.int .i64 a3] []) (fun p=>wkR (rRes p.2 p.1)=spec_HistoryOf_enc r∧ownAll (rRes p.2 p.1)=true):=by
 unfold spec_HistoryOf at h
 obtain ⟨⟨r7,r8⟩,ac,h⟩:=bind_some h
 refine Ev.enter (F:=fun k=>f18 (CN k) k) (fun k=>callN_eq E Try.func18 E E E (by decide +kernel) (f18_eq _ _)) (sq (Rg (kx (bxI E E ⟨E,E,by decide⟩) (kx (mvO E) (kx (mvO E) (Rn (hN E (hN E (hN E hZ))) fun e1 h3 h4 h5=>sN (sq (sq (Rg (kx (mvO h3) (kx (mvO h4) (kc (cl (v:=.tup [.sl (some 27) (r7.map Book.c),.int .i64 r8]) E E (cns h5 (cns E (cns E E))) E (spec_l07Known_ok a1 a2 a3 _ ac) nm) (kx (mvO E) (kx (exT E E) (kx (exT E E) (kx (mvO E) (kx (mvO E) (Rn (hA h3 (hA h4 (hA h5 (hN E hZ)))) fun e9 ae af ah O=>sN (sq (Rg (kx (mvO O) (kx (bNeq E E) (Rn (hA ae (hA af (hA ah (hA O (hN E hZ))))) fun aA ai ao aq au Y=>sN ?_)))))))))))))))))))))))
 rcases ite_some h with ⟨J,h⟩ | ⟨J,h⟩
 ·refine cT Y J (sq (Rg (kx (litI E E ⟨E,by decide⟩) (kx (mvO au) (kx (mvO E) (kx (mvO E) (Rn (hN E (hN E hZ)) fun aB aw ax=>sN (xx (sR ?_)))))))))
  obtain rfl:=si h
  exact eR (resT aw (resT ax res0)) (wkO (y:=.tup [.sl (some 2) (([]:List Int).map (cI .i64)),.int .i64 r8]) E E (own_tup (oa1 (own2_row (c:=(cI .i64)) (fun _=>E)) (oa1 E oa0))))
 obtain ⟨aa,ab,h⟩:=bind_some h
 refine cF Y J (xx (sN (sq (Rg (kx (mvO ai) (kx (mvO ao) (kc (cl (v:=.sl (some 2) (aa.map (cI .i64))) E E (cns aq (cns E (cns E E))) E (spec_l07History_ok a1 a2 a3 _ ab) nm) (kx (mvO E) (kx (mvO E) (Rn (hN E (hV (.int .i64 0) E hZ)) fun aC ay az=>sN (xx ?_)))))))))))
 obtain rfl:=si h
 exact eR (resT ay (resT az res0)) (wkO (y:=.tup [.sl (some 2) (aa.map (cI .i64)),.int .i64 0]) E E (own_tup (oa1 (own2_row (c:=(cI .i64)) (fun _=>E)) (oa1 E oa0))))
noncomputable def impl_HistoryOf (a1:Book) (a2:List Deal) (a3:Int):Option ((List Int)×Int):=
 (impl_history a1 a2 a3).bind fun r=>match r with
 | (.inl r7)=>
  some (([]:List Int),r7)
 | (.inr J)=>
  some (J,0)
def impl_HistoryOf_enc (r:(List Int)×Int):AV:=.tup [.sl none (r.1.map (cI .i64)),.int .i64 r.2]
theorem impl_HistoryOf_ok (a1:Book) (a2:List Deal) (a3:Int) (r:(List Int)×Int) (h:impl_HistoryOf a1 a2 a3=some r):Ev (fun k=>CN k 17 [.agg [.int .i64 a1.Day,.sl none (a1.Cash.map (cI .i64)),.sl none (a1.Tallies.map Tally.c)],.sl none (a2.map Deal.c),.int .i64 a3] []) (fun p=>wkR (rRes p.2 p.1)=impl_HistoryOf_enc r∧ownAll (rRes p.2 p.1)=true):=by
 unfold impl_HistoryOf at h
 obtain ⟨Y,J,h⟩:=bind_some h
 refine Ev.enter (F:=fun k=>f17 (CN k) k) (fun k=>callN_eq E Try.func17 E E E (by decide +kernel) (f17_eq _ _)) (sq (Rg (kx (bxI E E ⟨E,E,by decide⟩) (kx (mvO E) (kx (mvO E) (Rn (hN E (hN E (hN E hZ))) fun e1 h3 h4 h5=>sN (sq (Rg (kx (ldPA h5 E E) (kx (mvO h3) (kx (mvO h4) ?_)))))))))))
 rcases Y with r7 | O
 ·refine kc (cl (v:=.tup [.nils,.int .i64 r7]) E E (cns E (cns E (cns E E))) E (impl_history_ok a1 a2 a3 _ J) nm) (kx (exT E E) (kx (exT E E) (kx (mvO E) (kx (mvO E) (Rn (hV .nils E (hN E hZ)) fun e8 aa ab=>sN (xx ?_))))))
  obtain rfl:=si h
  exact eR (resT aa (resT ab res0)) (wkO (y:=.tup [.nils,.int .i64 r7]) E E (own_tup (oa1 E (oa1 E oa0))))
 refine kc (cl (v:=.tup [.sl (some 2) (O.map (cI .i64)),.int .i64 0]) E E (cns E (cns E (cns E E))) E (impl_history_ok a1 a2 a3 _ J) nm) (kx (exT E E) (kx (exT E E) (kx (mvO E) (kx (mvO E) (Rn (hN E (hV (.int .i64 0) E hZ)) fun af ac ae=>sN (xx ?_))))))
 obtain rfl:=si h
 exact eR (resT ac (resT ae res0)) (wkO (y:=.tup [.sl (some 2) (O.map (cI .i64)),.int .i64 0]) E E (own_tup (oa1 (own2_row (c:=(cI .i64)) (fun _=>E)) (oa1 E oa0))))
noncomputable def spec_DoDeals (a1:Book) (a2:List Deal):Option (Int×(List Int)×(List Tally)×Int):=
 (spec_l07Asked a1 a2).bind fun O=>
 if (O != 0)=true then
  some (0,([]:List Int),([]:List Tally),O)
 else
  (spec_l07All a1 a2).bind fun (J,Y,ao)=>
  if (Y != 0)=true then
   some (0,([]:List Int),([]:List Tally),Y)
  else
   if ((J.length:Int)==0)=true then
    (spec_l07Copy a1).bind fun (aa,ab,ac)=>
    some (aa,ab,ac,0)
   else
    (rd J (IntKind.i64.wrap ((J.length:Int) - 1))).bind fun ae=>
    (spec_l07Copy ae).bind fun (af,ah,ai)=>
    some (af,ah,ai,0)
def spec_DoDeals_enc (r:Int×(List Int)×(List Tally)×Int):AV:=.tup [.agg [.int .i64 r.1,.sl none (r.2.1.map (cI .i64)),.sl none (r.2.2.1.map Tally.c)],.int .i64 r.2.2.2]
theorem spec_DoDeals_ok (a1:Book) (a2:List Deal) (r:Int×(List Int)×(List Tally)×Int) (h:spec_DoDeals a1 a2=some r):Ev (fun k=>CN k 16 [.agg [.int .i64 a1.Day,.sl none (a1.Cash.map (cI .i64)),.sl none (a1.Tallies.map Tally.c)],.sl none (a2.map Deal.c)] []) (fun p=>wkR (rRes p.2 p.1)=spec_DoDeals_enc r):=by
 unfold spec_DoDeals at h
 refine Ev.enter (F:=fun k=>f16 (CN k) k) (fun k=>callN_eq E Try.func16 E E E (by decide +kernel) (f16_eq _ _)) (sq (Rg (kx (bxI E E ⟨E,E,by decide⟩) (ku (alO zero27) fun M2 aO=>?_))))
 have o4:M2[([]:Mem).length]? = some (.live ⟨.box,27,3,[[.int .i64 0,.nils,.nils]]⟩):=push_new aO
 obtain ⟨au,aF,h⟩:=bind_some h
 refine kx (mvO E) (Rn (hN E (hN E (hV (.loc ([]:Mem).length 1 0 0) E hZ))) fun e5 h7 h8 h9=>sN (sq (sq (Rg (kx (mvO h7) (kc (cl (v:=.int .i64 au) E E (cns h8 (cns E E)) E (spec_l07Asked_ok a1 a2 _ aF) nm) (kx (mvO E) (Rn (hA h7 (hA h8 (hA h9 (hN E hZ)))) fun bL aP aR aS aw=>sN (sq (Rg (kx (mvO aw) (kx (bNeq E E) (Rn (hA aP (hA aR (hA aS (hA aw (hN E hZ))))) fun bM aT ax ab aU ay=>sN ?_)))))))))))))
 rcases ite_some h with ⟨J,h⟩ | ⟨J,h⟩
 ·refine cT ay J (sq (Rg (kx (bldT zero27 E (fill0 E)) (kx (mvO aU) (kw (stO ab E o4 E E ⟨E,ble E⟩ E E) fun aV aG=>?_)))))
  have aZ:aV[([]:Mem).length]? = some (.live ⟨.box,27,3,[[.int .i64 0,.nils,.nils]]⟩):=set_same aG o4
  refine kx (mvO E) (Rn (hA ab (hN E hZ)) fun bP a8 ba=>sN (xx (sR ?_)))
  obtain rfl:=si h
  exact eR (resC (ag:=true) (sz:=3) ⟨by kernel_rfl,by kernel_rfl,by kernel_rfl⟩ (ldOA a8 aZ E E (ble E) E) (resT ba res0)) (wkH (y:=.tup [.agg [.int .i64 0,.nils,.nils],.int .i64 au]) E E)
 obtain ⟨⟨bb,az,bf⟩,aH,h⟩:=bind_some h
 refine cF ay J (xx (sN (sq (Rg (kx (mvO aT) (kc (cl (v:=.tup [.sl (some 27) (bb.map Book.c),.int .i64 az,.int .i64 bf]) E E (cns ax (cns E E)) E (spec_l07All_ok a1 a2 _ aH) nm) (kx (mvO E) (kx (exT E E) (kx (exT E E) (kx (exT E E) (kx (mvO E) (kx (mvO E) (kx (mvO E) (Rn (hA ax (hA ab (hN E (hN E hZ)))) fun bS bi bj bm aA=>sN (sq (sq (Rg (kx (mvO aA) (kx (bNeq E E) (Rn (hA bi (hA bj (hA bm (hA aA (hN E hZ))))) fun bT bo ac aB bq aC=>sN ?_))))))))))))))))))))
 rcases ite_some h with ⟨O,h⟩ | ⟨O,h⟩
 ·refine cT aC O (sq (Rg (kx (bldT zero27 E (fill0 E)) (kx (mvO bq) (kw (stO ac E o4 E E ⟨E,ble E⟩ E E) fun bu aI=>?_)))))
  have bv:bu[([]:Mem).length]? = some (.live ⟨.box,27,3,[[.int .i64 0,.nils,.nils]]⟩):=set_same aI o4
  refine kx (mvO E) (Rn (hA ac (hN E hZ)) fun bU bw bz=>sN (xx (sR ?_)))
  obtain rfl:=si h
  exact eR (resC (ag:=true) (sz:=3) ⟨by kernel_rfl,by kernel_rfl,by kernel_rfl⟩ (ldOA bw bv E E (ble E) E) (resT bz res0)) (wkH (y:=.tup [.agg [.int .i64 0,.nils,.nils],.int .i64 az]) E E)
 refine cF aC O (xx (sN (sq (sq (Rg (kx (mvO aB) (kx (lnS Try.underlying94 E) (kx (bEql E E) (Rn (hA bo (hA ac (hA aB (hN E hZ)))) fun bV bA aa aD aE=>sN ?_)))))))))
 rcases ite_some h with ⟨Y,h⟩ | ⟨Y,h⟩
 ·obtain ⟨⟨ae,af,ah⟩,aJ,h⟩:=bind_some h
  refine cT aE Y (sq (Rg (kc (cl (v:=.agg [.int .i64 ae,.sl (some 2) (af.map (cI .i64)),.sl (some 49) (ah.map Tally.c)]) E E (cns bA E) E (spec_l07Copy_ok a1 _ aJ) nm) (kw (stO aa E o4 E E ⟨E,ble E⟩ E E) fun bB aK=>?_))))
  have bC:bB[([]:Mem).length]? = some (.live ⟨.box,27,3,[[.int .i64 ae,.sl none (af.map (cI .i64)),.sl none (ah.map Tally.c)]]⟩):=set_same aK o4
  refine kx (mvO E) (Rn (hA aa (hV (.int .i64 0) E hZ)) fun bW bD bF=>sN (xx (sR ?_)))
  obtain rfl:=si h
  exact eR (resC (ag:=true) (sz:=3) ⟨by kernel_rfl,by kernel_rfl,by kernel_rfl⟩ (ldOA bD bC E E (ble E) E) (resT bF res0)) (wkH (y:=.tup [.agg [.int .i64 ae,.sl none (af.map (cI .i64)),.sl none (ah.map Tally.c)],.int .i64 0]) E E)
 obtain ⟨bG,aL,h⟩:=bind_some h
 obtain ⟨⟨ai,ao,aq⟩,aM,h⟩:=bind_some h
 refine cF aE Y (xx (sN (sq (Rg (kx (mvO aD) (kx (mvO aD) (kx (lnS Try.underlying94 E) (kx (bSub E E) (kx (ixS E E aL Book.fl) (kc (cl (v:=.agg [.int .i64 ai,.sl (some 2) (ao.map (cI .i64)),.sl (some 49) (aq.map Tally.c)]) E E (cns E E) E (spec_l07Copy_ok bG _ aM) nm) (kw (stO aa E o4 E E ⟨E,ble E⟩ E E) fun bH aN=>?_)))))))))))
 have bI:bH[([]:Mem).length]? = some (.live ⟨.box,27,3,[[.int .i64 ai,.sl none (ao.map (cI .i64)),.sl none (aq.map Tally.c)]]⟩):=set_same aN o4
 refine kx (mvO E) (Rn (hA aa (hV (.int .i64 0) E hZ)) fun bX bJ bK=>sN (xx ?_))
 obtain rfl:=si h
 exact eR (resC (ag:=true) (sz:=3) ⟨by kernel_rfl,by kernel_rfl,by kernel_rfl⟩ (ldOA bJ bI E E (ble E) E) (resT bK res0)) (wkH (y:=.tup [.agg [.int .i64 ai,.sl none (ao.map (cI .i64)),.sl none (aq.map Tally.c)],.int .i64 0]) E E)
noncomputable def impl_WorthOfPerson (a1:Book) (a2:Int):Option (Int×Int):=
 (impl_personCode a1 a2).bind fun r6=>
 if (r6 != 0)=true then
  some (0,r6)
 else
  (impl_worthOf a1 a2).bind fun J=>
  some (J,0)
def impl_WorthOfPerson_enc (r:Int×Int):AV:=.tup [.int .i64 r.1,.int .i64 r.2]
theorem impl_WorthOfPerson_ok (a1:Book) (a2:Int) (r:Int×Int) (h:impl_WorthOfPerson a1 a2=some r):Ev (fun k=>CN k 15 [.agg [.int .i64 a1.Day,.sl none (a1.Cash.map (cI .i64)),.sl none (a1.Tallies.map Tally.c)],.int .i64 a2] []) (fun p=>rRes p.2 p.1=impl_WorthOfPerson_enc r):=by
 unfold impl_WorthOfPerson at h
 obtain ⟨r6,ab,h⟩:=bind_some h
 refine Ev.enter (F:=fun k=>f15 (CN k) k) (fun k=>callN_eq E Try.func15 E E E (by decide +kernel) (f15_eq _ _)) (sq (Rg (kx (bxI E E ⟨E,E,by decide⟩) (kx (mvO E) (kx (mvO E) (Rn (hN E (hN E hZ)) fun e1 h3 h4=>sN (sq (sq (Rg (kx (ldPA h4 E E) (kx (mvO h3) (kc (cl (v:=.int .i64 r6) E E (cns E (cns E E)) E (impl_personCode_ok a1 a2 _ ab) nm) (kx (mvO E) (Rn (hA h3 (hA h4 (hN E hZ))) fun e7 h9 ac O=>sN (sq (Rg (kx (mvO O) (kx (bNeq E E) (Rn (hA h9 (hA ac (hA O (hN E hZ)))) fun ax ae af ah Y=>sN ?_)))))))))))))))))))
 rcases ite_some h with ⟨J,h⟩ | ⟨J,h⟩
 ·refine cT Y J (sq (Rg (kx (mvO ah) (kx (mvO E) (kx (mvO E) (Rn (hV (.int .i64 0) E (hN E hZ)) fun ay ai ao=>sN (xx (sR ?_))))))))
  obtain rfl:=si h
  exact eR (resT ai (resT ao res0)) E
 obtain ⟨aq,aa,h⟩:=bind_some h
 refine cF Y J (xx (sN (sq (Rg (kx (ldPA af E E) (kx (mvO ae) (kc (cl (v:=.int .i64 aq) E E (cns E (cns E E)) E (impl_worthOf_ok a1 a2 _ aa) nm) (kx (mvO E) (kx (mvO E) (Rn (hN E (hV (.int .i64 0) E hZ)) fun az au aw=>sN (xx ?_)))))))))))
 obtain rfl:=si h
 exact eR (resT au (resT aw res0)) E
abbrev impl_WorthsOn_b1_S:=Int
abbrev impl_WorthsOn_b1_R:=Unit⊕Unit
def impl_WorthsOn_b1_RS (a1:Book) (a2:List Deal) (a3:Int) (a4:List Int) (s:impl_WorthsOn_b1_S) (e:Env) (M:Mem):Prop:=eget e 1 = .sl none (a2.map Deal.c)∧eget e 2 = .int .i64 a3∧eget e 3 = .sl none (a4.map (cI .i64))∧eget e 4 = .pt none [.int .i64 a1.Day,.sl none (a1.Cash.map (cI .i64)),.sl none (a1.Tallies.map Tally.c)]∧eget e 34 = .sl none (a4.map (cI .i64))∧eget e 35 = .int .i64 (a4.length:Int)∧eget e 36 = .int .i64 s
def impl_WorthsOn_b1_RR (a1:Book) (a2:List Deal) (a3:Int) (a4:List Int) (r:impl_WorthsOn_b1_R) (x:Ex) (e:Env) (M:Mem):Prop:=
  match r with
  | (.inl g)=>x = .ret∧eget e 8 = .nils∧eget e 9 = .int .i64 2
  | (.inr g)=>x = .ext 0∧eget e 1 = .sl none (a2.map Deal.c)∧eget e 2 = .int .i64 a3∧eget e 3 = .sl none (a4.map (cI .i64))∧eget e 4 = .pt none [.int .i64 a1.Day,.sl none (a1.Cash.map (cI .i64)),.sl none (a1.Tallies.map Tally.c)]
noncomputable def impl_WorthsOn_b1 (a4:List Int):impl_WorthsOn_b1_S→Option (impl_WorthsOn_b1_S⊕impl_WorthsOn_b1_R):=fun J=>
 if (decide (J < (a4.length:Int)))=true then
  (rd a4 J).bind fun O=>
  (impl_isBookDay O).bind fun Y=>
  if Y=true then
   some (.inl (IntKind.i64.wrap (J + 1)))
  else
   some (.inr (.inl ()))
 else
  some (.inr (.inr ()))
theorem impl_WorthsOn_b1_ok (a1:Book) (a2:List Deal) (a3:Int) (a4:List Int) (s:impl_WorthsOn_b1_S) (r:impl_WorthsOn_b1_S⊕impl_WorthsOn_b1_R) (h:impl_WorthsOn_b1 a4 s=some r) (e:Env) (M:Mem) (hs:impl_WorthsOn_b1_RS a1 a2 a3 a4 s e M):Ev (fun k=>(f14_l9 (CN k) k (prune [1,2,3,4,34,35,36] e) M).bind fun q=>some q) (bQ (impl_WorthsOn_b1_RS a1 a2 a3 a4) (impl_WorthsOn_b1_RR a1 a2 a3 a4) r):=by
 revert h hs
 revert s
 intro ay h hs
 unfold impl_WorthsOn_b1 at h
 obtain ⟨bf,bi,bj,bm,bo,bq,bu⟩:=hs
 generalize J:prune [1,2,3,4,34,35,36] e=bI
 have bv:=envp J.symm E bf
 have bw:=envp J.symm E bi
 have bz:=envp J.symm E bj
 have bA:=envp J.symm E bm
 have bB:=envp J.symm E bo
 have ah:=envp J.symm E bq
 have ai:=envp J.symm E bu
 refine sq (Rg (kx (bLss ai ah) (Rn (hV (.sl none (a2.map Deal.c)) bv (hV (.int .i64 a3) bw (hV (.sl none (a4.map (cI .i64))) bz (hV (.pt none [.int .i64 a1.Day,.sl none (a1.Cash.map (cI .i64)),.sl none (a1.Tallies.map Tally.c)]) bA (hV (.sl none (a4.map (cI .i64))) bB (hV (.int .i64 (a4.length:Int)) ah (hV (.int .i64 ay) ai (hN E hZ)))))))) fun bJ ao aq au aw ax bC aa ab=>sN (sq ?_))))
 rcases ite_some h with ⟨O,h⟩ | ⟨O,h⟩
 ·obtain ⟨az,ae,h⟩:=bind_some h
  obtain ⟨aA,af,h⟩:=bind_some h
  refine cT ab O (xx (sN (sq (bl (sq (Rg (kx (ixS ax aa ae (cI_fl _)) (kx (ldP E E) (kx (mvO E) (Rn (hA ao (hA aq (hA au (hA aw (hN E (hA ax (hA bC (hA aa hZ)))))))) fun bD aB aC aD aE aF aG aH aI=>sN (sq (Rg (kx (mvO aF) (kc (cl (v:=.bool aA) E E (cns E E) E (impl_isBookDay_ok az _ af) nm) (kx (uNot E) (Rn (hA aB (hA aC (hA aD (hA aE (hA aG (hA aH (hA aI (hN E hZ)))))))) fun bF aJ aK aL aM aN aO aP ac=>sN ?_))))))))))))))))
  rcases ite_some h with ⟨Y,h⟩ | ⟨Y,h⟩
  ·refine cF ac (congrArg Bool.not Y) (xx (bN (sN (Rg (kx (bAdd aP E) (kx (mvO E) (Rn (hA aJ (hA aK (hA aL (hA aM (hA aN (hA aO (hN E hZ))))))) fun bG aR aS aT aU aV aZ a8=>?_)))))))
   obtain rfl:=si h
   exact qN ⟨aR,aS,aT,aU,aV,aZ,a8⟩
  refine cT ac (congrArg Bool.not Y) (sq (Rg (kx (mvO E) (kx (mvO E) (Rn (hV .nils E (hV (.int .i64 2) E hZ)) fun bH ba bb=>sN (xx (bR (sR ?_))))))))
  obtain rfl:=si h
  exact qR ⟨E,ba,bb⟩
 refine cF ab O (xx (sE ?_))
 obtain rfl:=si h
 exact qE ⟨E,ao,aq,au,aw⟩
abbrev impl_WorthsOn_b2_S:=Int×(List Int)
abbrev impl_WorthsOn_b2_R:=Int⊕((List Int))
def impl_WorthsOn_b2_RS (a1:Book) (a2:List Deal) (a3:Int) (a4:List Int) (J:Nat) (s:impl_WorthsOn_b2_S) (e:Env) (M:Mem):Prop:=eget e 1 = .sl none (a2.map Deal.c)∧eget e 2 = .int .i64 a3∧eget e 4 = .pt none [.int .i64 a1.Day,.sl none (a1.Cash.map (cI .i64)),.sl none (a1.Tallies.map Tally.c)]∧eget e 13 = .lsl J s.2.length 0 s.2.length∧eget e 45 = .sl none (a4.map (cI .i64))∧eget e 46 = .int .i64 (a4.length:Int)∧eget e 47 = .int .i64 s.1∧M[J]? = some (.live ⟨.grow,2,1,s.2.map (cI .i64)⟩)
def impl_WorthsOn_b2_RR (a1:Book) (a2:List Deal) (a3:Int) (a4:List Int) (J:Nat) (r:impl_WorthsOn_b2_R) (x:Ex) (e:Env) (M:Mem):Prop:=
  match r with
  | (.inl g)=>x = .ret∧eget e 8 = .nils∧eget e 9 = .int .i64 g
  | (.inr g)=>x = .ext 2∧eget e 13 = .lsl J g.length 0 g.length∧M[J]? = some (.live ⟨.grow,2,1,g.map (cI .i64)⟩)
noncomputable def impl_WorthsOn_b2 (a1:Book) (a2:List Deal) (a3:Int) (a4:List Int):impl_WorthsOn_b2_S→Option (impl_WorthsOn_b2_S⊕impl_WorthsOn_b2_R):=fun (J,O)=>
 if (decide (J < (a4.length:Int)))=true then
  (rd a4 J).bind fun aa=>
  (impl_stateOn a1 a2 aa).bind fun r=>match r with
  | (.inl (ab,Y))=>
   if (Y != 0)=true then
    some (.inr (.inl Y))
   else
    (impl_worthOf (Book.mk ab ([]:List Int) ([]:List Tally)) a3).bind fun ac=>
    (app 8 O [ac]).bind fun ae=>
    some (.inl ((IntKind.i64.wrap (J + 1)),ae))
  | (.inr (af,ah,ai))=>
   (impl_worthOf (Book.mk af ah ai) a3).bind fun ao=>
   (app 8 O [ao]).bind fun aq=>
   some (.inl ((IntKind.i64.wrap (J + 1)),aq))
 else
  some (.inr (.inr O))
theorem impl_WorthsOn_b2_ok (a1:Book) (a2:List Deal) (a3:Int) (a4:List Int) (O:Nat) (s:impl_WorthsOn_b2_S) (r:impl_WorthsOn_b2_S⊕impl_WorthsOn_b2_R) (h:impl_WorthsOn_b2 a1 a2 a3 a4 s=some r) (e:Env) (M:Mem) (hs:impl_WorthsOn_b2_RS a1 a2 a3 a4 O s e M):Ev (fun k=>(f14_l16 (CN k) k (prune [1,2,4,13,45,46,47] e) M).bind fun q=>some q) (bQ (impl_WorthsOn_b2_RS a1 a2 a3 a4 O) (impl_WorthsOn_b2_RR a1 a2 a3 a4 O) r):=by
 obtain ⟨bB,aF⟩:=s
 unfold impl_WorthsOn_b2 at h
 obtain ⟨bC,bD,bF,bG,bH,bI,bJ,Y⟩:=hs
 generalize J:prune [1,2,4,13,45,46,47] e=dW
 have bK:=envp J.symm E bC
 have bL:=envp J.symm E bD
 have bM:=envp J.symm E bF
 have bP:=envp J.symm E bG
 have bS:=envp J.symm E bH
 have aG:=envp J.symm E bI
 have aH:=envp J.symm E bJ
 refine sq (Rg (kx (bLss aH aG) (Rn (hV (.sl none (a2.map Deal.c)) bK (hV (.int .i64 a3) bL (hV (.pt none [.int .i64 a1.Day,.sl none (a1.Cash.map (cI .i64)),.sl none (a1.Tallies.map Tally.c)]) bM (hV (.lsl O aF.length 0 aF.length) bP (hV (.sl none (a4.map (cI .i64))) bS (hV (.int .i64 (a4.length:Int)) aG (hV (.int .i64 bB) aH (hN E hZ)))))))) fun dX bT bU bV aI aJ bW aK aL=>sN (sq ?_))))
 rcases ite_some h with ⟨aa,h⟩ | ⟨aa,h⟩
 ·obtain ⟨aM,bu,h⟩:=bind_some h
  obtain ⟨bX,aw,h⟩:=bind_some h
  refine cT aL aa (xx (sN (sq (bl (sq (Rg (kx (ixS aJ aK bu (cI_fl _)) (kx (ldP E E) (kx (mvO E) (Rn (hA bT (hA bU (hA bV (hA aI (hN E (hA aJ (hA bW (hA aK hZ)))))))) fun dY ac aN ae aO bY aP aR aS=>sN (sq (Rg (kx (ldPA ae E E) (kx (mvO ac) (kx (mvO bY) ?_)))))))))))))))
  rcases bX with ⟨af,bZ⟩ | ⟨ah,ai,ao⟩
  ·refine kc (cl (v:=.tup [.agg [.int .i64 af,.nils,.nils],.int .i64 bZ]) E E (cns E (cns E (cns E E))) E (impl_stateOn_ok a1 a2 aM _ aw) nm) (kx (mvO E) (kx (exT E E) (kx (exT E E) (ku (alO zero27) fun b7 ax=>?_))))
   have b8:=push_old ax Y
   have ay:=ne_new Y
   have aT:b7[M.length]? = some (.live ⟨.box,27,3,[[.int .i64 0,.nils,.nils]]⟩):=push_new ax
   refine kw (stO E E aT E E ⟨E,ble E⟩ E E) fun b9 az=>?_
   have aU:=set_ne az ay b8
   have aV:b9[M.length]? = some (.live ⟨.box,27,3,[[.int .i64 af,.nils,.nils]]⟩):=set_same az aT
   refine kx (mvO E) (Rn (hA ac (hA aN (hA ae (hA aO (hV (.loc M.length 1 0 0) E (hN E (hA aP (hA aR (hA aS hZ))))))))) fun dZ cb cd cf cg ci aZ cj cm cq=>sN (sq (sq (Rg (kx (mvO aZ) (kx (bNeq E E) (Rn (hA cb (hA cd (hA cf (hA cg (hA ci (hA aZ (hA cj (hA cm (hA cq (hN E hZ)))))))))) fun d5 cr a8 ct cw cC cD cE cG cH ba=>sN ?_)))))))
   rcases ite_some h with ⟨ab,h⟩ | ⟨ab,h⟩
   ·refine cT ba ab (sq (Rg (kx (mvO cD) (kx (mvO E) (kx (mvO E) (Rn (hV .nils E (hN E hZ)) fun d6 cJ cK=>sN (xx (sR (bR (sR ?_))))))))))
    obtain rfl:=si h
    exact qR ⟨E,cJ,cK⟩
   obtain ⟨bb,bv,h⟩:=bind_some h
   obtain ⟨aq,bw,h⟩:=bind_some h
   refine cF ba ab (xx (sN (Rg (kx (mvO cw) (kx (ldOA cC aV E E (ble E) E) (kx (mvO a8) (kc (cl (v:=.int .i64 bb) E E (cns E (cns E E)) E (impl_worthOf_ok (Book.mk af ([]:List Int) ([]:List Tally)) a3 _ bv) nm) (kx (litI (cns E E) E ⟨E,by decide⟩) (kw (apO E aU E (elT (c:=(cI .i64)) (xs:=[bb]) E) bw (cI_fl _) (by decide)) fun cM aA=>?_)))))))))
   have cN:cM[O]? = some (.live ⟨.grow,2,1,aq.map (cI .i64)⟩):=set_same aA aU
   have d7:=set_ne aA (Ne.symm ay) aV
   refine kx (mvO E) (Rn (hA cr (hA a8 (hA ct (hV (.lsl O aq.length 0 aq.length) E (hA cE (hA cG (hA cH hZ))))))) fun d8 cO cQ cR cU cV cW cX=>bN (sN (Rg (kx (bAdd cX E) (kx (mvO E) (Rn (hA cO (hA cQ (hA cR (hA cU (hA cV (hA cW (hN E hZ))))))) fun d9 cY cZ da db dc de df=>?_))))))
   obtain rfl:=si h
   exact qN ⟨cY,cZ,da,db,dc,de,df,cN⟩
  refine kc (cl (v:=.tup [.agg [.int .i64 ah,.sl none (ai.map (cI .i64)),.sl none (ao.map Tally.c)],.int .i64 0]) E E (cns E (cns E (cns E E))) E (impl_stateOn_ok a1 a2 aM _ aw) nm) (kx (mvO E) (kx (exT E E) (kx (exT E E) (ku (alO zero27) fun dg aB=>?_))))
  have di:=push_old aB Y
  have aC:=ne_new Y
  have bf:dg[M.length]? = some (.live ⟨.box,27,3,[[.int .i64 0,.nils,.nils]]⟩):=push_new aB
  refine kw (stO E E bf E E ⟨E,ble E⟩ E E) fun dj aD=>?_
  have bi:=set_ne aD aC di
  have bj:dj[M.length]? = some (.live ⟨.box,27,3,[[.int .i64 ah,.sl none (ai.map (cI .i64)),.sl none (ao.map Tally.c)]]⟩):=set_same aD bf
  obtain ⟨bm,bz,h⟩:=bind_some h
  obtain ⟨au,bA,h⟩:=bind_some h
  refine kx (mvO E) (Rn (hA ac (hA aN (hA ae (hA aO (hV (.loc M.length 1 0 0) E (hV (.int .i64 0) E (hA aP (hA aR (hA aS hZ))))))))) fun ea dk dl dm dn dp bo dq dt du=>sN (sq (sq (Rg (kx (mvO bo) (kx (bNeq E E) (Rn (hA dk (hA dl (hA dm (hA dn (hA dp (hA bo (hA dq (hA dt (hA du (hV (.bool false) E hZ)))))))))) fun ed dw bq dx dz dA ee dC dD dE dF=>sN (cF dF E (xx (sN (Rg (kx (mvO dz) (kx (ldOA dA bj E E (ble E) E) (kx (mvO bq) (kc (cl (v:=.int .i64 bm) E E (cns E (cns E E)) E (impl_worthOf_ok (Book.mk ah ai ao) a3 _ bz) nm) (kx (litI (cns E E) E ⟨E,by decide⟩) (kw (apO E bi E (elT (c:=(cI .i64)) (xs:=[bm]) E) bA (cI_fl _) (by decide)) fun dG aE=>?_)))))))))))))))))
  have dH:dG[O]? = some (.live ⟨.grow,2,1,au.map (cI .i64)⟩):=set_same aE bi
  have eo:=set_ne aE (Ne.symm aC) bj
  refine kx (mvO E) (Rn (hA dw (hA bq (hA dx (hV (.lsl O au.length 0 au.length) E (hA dC (hA dD (hA dE hZ))))))) fun ep dI dJ dK dL dM dN dO=>bN (sN (Rg (kx (bAdd dO E) (kx (mvO E) (Rn (hA dI (hA dJ (hA dK (hA dL (hA dM (hA dN (hN E hZ))))))) fun eu dP dQ dR dS dT dU dV=>?_))))))
  obtain rfl:=si h
  exact qN ⟨dP,dQ,dR,dS,dT,dU,dV,dH⟩
 refine cF aL aa (xx (sE ?_))
 obtain rfl:=si h
 exact qE ⟨E,aI,Y⟩
noncomputable def impl_WorthsOn (a1:Book) (a2:List Deal) (a3:Int) (a4:List Int):Option ((List Int)×Int):=
 (impl_dealsCode a1 a2).bind fun r8=>
 if (r8 != 0)=true then
  some (([]:List Int),r8)
 else
  if (decide ((a4.length:Int) > 80))=true then
   some (([]:List Int),3)
  else
   (impl_arePeople (a1.Cash.length:Int) [a3]).bind fun Y=>
   if Y=true then
    (Lw (impl_WorthsOn_b1 a4) 0).bind fun r=>match r with
    | (.inl _)=>
     some (([]:List Int),2)
    | (.inr _)=>
     (Lw (impl_WorthsOn_b2 a1 a2 a3 a4) (0,([]:List Int))).bind fun r=>match r with
     | (.inl J)=>
      some (([]:List Int),J)
     | (.inr O)=>
      some (O,0)
   else
    some (([]:List Int),2)
def impl_WorthsOn_enc (r:(List Int)×Int):AV:=.tup [.sl none (r.1.map (cI .i64)),.int .i64 r.2]
theorem impl_WorthsOn_ok (a1:Book) (a2:List Deal) (a3:Int) (a4:List Int) (r:(List Int)×Int) (h:impl_WorthsOn a1 a2 a3 a4=some r):Ev (fun k=>CN k 14 [.agg [.int .i64 a1.Day,.sl none (a1.Cash.map (cI .i64)),.sl none (a1.Tallies.map Tally.c)],.sl none (a2.map Deal.c),.int .i64 a3,.sl none (a4.map (cI .i64))] []) (fun p=>wkR (rRes p.2 p.1)=impl_WorthsOn_enc r∧ownAll (rRes p.2 p.1)=true):=by
 unfold impl_WorthsOn at h
 obtain ⟨r8,bG,h⟩:=bind_some h
 refine Ev.enter (F:=fun k=>f14 (CN k) k) (fun k=>callN_eq E Try.func14 E E E (by decide +kernel) (f14_eq _ _)) (sq (Rg (kx (bxI E E ⟨E,E,by decide⟩) (kx (mvO E) (kx (mvO E) (Rn (hN E (hN E (hN E (hN E hZ)))) fun e1 h3 h4 h5 h6=>sN (sq (sq (Rg (kx (ldPA h6 E E) (kx (mvO h3) (kc (cl (v:=.int .i64 r8) E E (cns E (cns E E)) E (impl_dealsCode_ok a1 a2 _ bG) nm) (kx (mvO E) (Rn (hA h3 (hA h4 (hA h5 (hA h6 (hN E hZ))))) fun e9 bH bI bJ bK aB=>sN (sq (Rg (kx (mvO aB) (kx (bNeq E E) (Rn (hA bH (hA bI (hA bJ (hA bK (hA aB (hN E hZ)))))) fun cC bL bM aC bP bS aD=>sN ?_)))))))))))))))))))
 rcases ite_some h with ⟨aa,h⟩ | ⟨aa,h⟩
 ·refine cT aD aa (sq (Rg (kx (mvO bS) (kx (mvO E) (kx (mvO E) (Rn (hV .nils E (hN E hZ)) fun cD bT bU=>sN (xx (sR ?_))))))))
  obtain rfl:=si h
  exact eR (resT bT (resT bU res0)) (wkO (y:=.tup [.nils,.int .i64 r8]) E E (own_tup (oa1 E (oa1 E oa0))))
 refine cF aD aa (xx (sN (sq (sq (Rg (kx (mvO aC) (kx (lnS Try.underlying24 E) (kx (bGtr E E) (Rn (hA bL (hA bM (hA aC (hA bP (hN E hZ))))) fun cE bV aE bW aF aG=>sN ?_)))))))))
 rcases ite_some h with ⟨ab,h⟩ | ⟨ab,h⟩
 ·refine cT aG ab (sq (Rg (kx (mvO E) (kx (mvO E) (Rn (hV .nils E (hV (.int .i64 3) E hZ)) fun cG bX bY=>sN (xx (sR ?_)))))))
  obtain rfl:=si h
  exact eR (resT bX (resT bY res0)) (wkO (y:=.tup [.nils,.int .i64 3]) E E (own_tup (oa1 E (oa1 E oa0))))
 obtain ⟨bZ,aR,h⟩:=bind_some h
 refine cF aG ab (xx (sN (sq (sq (Rg (kx (faP aF ⟨ble E,blt E⟩ E) (kx (ldP E E) (kx (lnS Try.underlying24 E) (kx (mvO aE) (kx (litI (cns E E) E ⟨E,by decide⟩) (kc (cl (v:=.bool bZ) E E (cns E (cns E E)) E (impl_arePeople_ok (a1.Cash.length:Int) [a3] _ aR) nm) (kx (uNot E) (Rn (hA bV (hA aE (hA bW (hA aF (hN E hZ))))) fun cH b7 b8 aH b9 aI=>sN ?_)))))))))))))
 rcases ite_some h with ⟨ac,h⟩ | ⟨ac,h⟩
 ·obtain ⟨aS,af,h⟩:=bind_some h
  refine cF aI (congrArg Bool.not ac) (xx (sN (sq (sq (Rg (kx (mvO aH) (kx (lnS Try.underlying24 E) (kx (mvO E) (Rn (hA b7 (hA b8 (hA aH (hA b9 (hN E (hN E (hV (.int .i64 0) E hZ))))))) fun cJ aJ aK aL aM aN aO aP=>sN (bl ?_))))))))))
  rcases aS with _ | _
  ·refine Ev.loop (RS:=impl_WorthsOn_b1_RS a1 a2 a3 a4) (RR:=impl_WorthsOn_b1_RR a1 a2 a3 a4) (fun s r h e M hs=>impl_WorthsOn_b1_ok a1 a2 a3 a4 s r h e M hs) af ⟨aJ,aK,aL,aM,aN,aO,aP⟩ fun x cb cd O=>?_
   obtain ⟨rfl,aT,aU⟩:=O
   refine bR (sR ?_)
   obtain rfl:=si h
   exact eR (resT aT (resT aU res0)) (wkO (y:=.tup [.nils,.int .i64 2]) E E (own_tup (oa1 E (oa1 E oa0))))
  refine Ev.loop (RS:=impl_WorthsOn_b1_RS a1 a2 a3 a4) (RR:=impl_WorthsOn_b1_RR a1 a2 a3 a4) (fun s r h e M hs=>impl_WorthsOn_b1_ok a1 a2 a3 a4 s r h e M hs) af ⟨aJ,aK,aL,aM,aN,aO,aP⟩ fun x cf J O=>?_
  obtain ⟨rfl,aV,aZ,a8,ba⟩:=O
  refine bE (sN (sq (Rg (ku (litO (xs:=([]:List Int)) (c:=(cI .i64)) E E (by decide)) fun bb aA=>?_))))
  have ai:bb[J.length]? = some (.live ⟨.grow,2,1,([]:List Int).map (cI .i64)⟩):=push_new aA
  obtain ⟨bf,ah,h⟩:=bind_some h
  refine kx (mvO E) (Rn (hV (.sl none (a2.map Deal.c)) aV (hV (.int .i64 a3) aZ (hV (.sl none (a4.map (cI .i64))) a8 (hV (.pt none [.int .i64 a1.Day,.sl none (a1.Cash.map (cI .i64)),.sl none (a1.Tallies.map Tally.c)]) ba (hV (.lsl J.length ([]:List Int).length 0 ([]:List Int).length) E hZ))))) fun cg bi bj bm bo bq=>sN (sq (sq (Rg (kx (mvO bm) (kx (lnS Try.underlying24 E) (kx (mvO E) (Rn (hA bi (hA bj (hA bo (hA bq (hN E (hN E (hV (.int .i64 0) E hZ))))))) fun ci ao aq au aw ax ay az=>sN (bl ?_)))))))))
  rcases bf with bu | ae
  ·refine Ev.loop (RS:=impl_WorthsOn_b2_RS a1 a2 a3 a4 J.length) (RR:=impl_WorthsOn_b2_RR a1 a2 a3 a4 J.length) (fun s r h e M hs=>impl_WorthsOn_b2_ok a1 a2 a3 a4 J.length s r h e M hs) ah ⟨ao,aq,au,aw,ax,ay,az,ai⟩ fun x cj cm Y=>?_
   obtain ⟨rfl,bv,bw⟩:=Y
   refine bR (sR ?_)
   obtain rfl:=si h
   exact eR (resT bv (resT bw res0)) (wkO (y:=.tup [.nils,.int .i64 bu]) E E (own_tup (oa1 E (oa1 E oa0))))
  refine Ev.loop (RS:=impl_WorthsOn_b2_RS a1 a2 a3 a4 J.length) (RR:=impl_WorthsOn_b2_RR a1 a2 a3 a4 J.length) (fun s r h e M hs=>impl_WorthsOn_b2_ok a1 a2 a3 a4 J.length s r h e M hs) ah ⟨ao,aq,au,aw,ax,ay,az,ai⟩ fun x cq cr Y=>?_
  obtain ⟨rfl,bz,bA⟩:=Y
  refine bE (sN (sq (Rg (kx (mvO bz) (kx (mvO E) (kx (mvO E) (Rn (hV (.lsl J.length ae.length 0 ae.length) E (hV (.int .i64 0) E hZ)) fun ct bB bC=>sN (xx ?_))))))))
  obtain rfl:=si h
  exact eR (resT bB (resT bC res0)) (wkO (y:=.tup [.sl (some 2) (ae.map (cI .i64)),.int .i64 0]) (rr_tup (mp1 (rr_row bA E (cI_fl _)) (mp1 E mp0))) E (own_tup (oa1 (own2_row (c:=(cI .i64)) (fun _=>E)) (oa1 E oa0))))
 refine cT aI (congrArg Bool.not ac) (sq (Rg (kx (mvO E) (kx (mvO E) (Rn (hV .nils E (hV (.int .i64 2) E hZ)) fun cw bD bF=>sN (xx (sR ?_)))))))
 obtain rfl:=si h
 exact eR (resT bD (resT bF res0)) (wkO (y:=.tup [.nils,.int .i64 2]) E E (own_tup (oa1 E (oa1 E oa0))))
noncomputable def spec_A2Same (a1:List Int) (a2:List Int):Option Bool:=
 (spec_l00Same a1 a2).bind fun r6=>
 some r6
def spec_A2Same_enc (r:Bool):AV:=.bool r
theorem spec_A2Same_ok (a1:List Int) (a2:List Int) (r:Bool) (h:spec_A2Same a1 a2=some r):Ev (fun k=>CN k 13 [.sl none (a1.map (cI .i64)),.sl none (a2.map (cI .i64))] []) (fun p=>rRes p.2 p.1=spec_A2Same_enc r):=by
 unfold spec_A2Same at h
 obtain ⟨r6,J,h⟩:=bind_some h
 refine Ev.enter (F:=fun k=>f13 (CN k) k) (fun k=>callN_eq E Try.func13 E E E (by decide +kernel) (f13_eq _ _)) (sq (Rg (kx (mvO E) (Rn (hN E (hN E hZ)) fun e1 h3 h4=>sN (sq (Rg (kx (mvO h3) (kx (mvO h4) (kc (cl (v:=.bool r6) E E (cns E (cns E E)) E (spec_l00Same_ok a1 a2 _ J) nm) (kx (mvO E) (Rn (hN E hZ) fun e7 h9=>sN (xx ?_))))))))))))
 obtain rfl:=si h
 exact eR (resT h9 res0) E
noncomputable def spec_SameBook (a1:Book) (a2:Book):Option Bool:=
 (spec_l07Same a1 a2).bind fun r6=>
 some r6
def spec_SameBook_enc (r:Bool):AV:=.bool r
theorem spec_SameBook_ok (a1:Book) (a2:Book) (r:Bool) (h:spec_SameBook a1 a2=some r):Ev (fun k=>CN k 12 [.agg [.int .i64 a1.Day,.sl none (a1.Cash.map (cI .i64)),.sl none (a1.Tallies.map Tally.c)],.agg [.int .i64 a2.Day,.sl none (a2.Cash.map (cI .i64)),.sl none (a2.Tallies.map Tally.c)]] []) (fun p=>rRes p.2 p.1=spec_SameBook_enc r):=by
 unfold spec_SameBook at h
 obtain ⟨r6,J,h⟩:=bind_some h
 refine Ev.enter (F:=fun k=>f12 (CN k) k) (fun k=>callN_eq E Try.func12 E E E (by decide +kernel) (f12_eq _ _)) (sq (Rg (kx (bxI E E ⟨E,E,by decide⟩) (kx (bxI E E ⟨E,E,by decide⟩) (kx (mvO E) (Rn (hN E (hN E hZ)) fun e1 h3 h4=>sN (sq (Rg (kc (cl (v:=.bool r6) E E (cns h3 (cns h4 E)) E (spec_l07Same_ok a1 a2 _ J) nm) (kx (mvO E) (Rn (hN E hZ) fun e7 h9=>sN (xx ?_))))))))))))
 obtain rfl:=si h
 exact eR (resT h9 res0) E
noncomputable def impl_DoDeals (a1:Book) (a2:List Deal):Option (Int×(List Int)×(List Tally)×Int):=
 (impl_dealsCode a1 a2).bind fun J=>
 if (J != 0)=true then
  some (0,([]:List Int),([]:List Tally),J)
 else
  (impl_behind a1 a2).bind fun r=>match r with
  | (.inl O)=>
   some (0,([]:List Int),([]:List Tally),O)
  | (.inr (Y,aa,ab))=>
   some (Y,aa,ab,0)
def impl_DoDeals_enc (r:Int×(List Int)×(List Tally)×Int):AV:=.tup [.agg [.int .i64 r.1,.sl none (r.2.1.map (cI .i64)),.sl none (r.2.2.1.map Tally.c)],.int .i64 r.2.2.2]
theorem impl_DoDeals_ok (a1:Book) (a2:List Deal) (r:Int×(List Int)×(List Tally)×Int) (h:impl_DoDeals a1 a2=some r):Ev (fun k=>CN k 11 [.agg [.int .i64 a1.Day,.sl none (a1.Cash.map (cI .i64)),.sl none (a1.Tallies.map Tally.c)],.sl none (a2.map Deal.c)] []) (fun p=>wkR (rRes p.2 p.1)=impl_DoDeals_enc r):=by
 unfold impl_DoDeals at h
 refine Ev.enter (F:=fun k=>f11 (CN k) k) (fun k=>callN_eq E Try.func11 E E E (by decide +kernel) (f11_eq _ _)) (sq (Rg (kx (bxI E E ⟨E,E,by decide⟩) (ku (alO zero27) fun M2 ax=>?_))))
 have o4:M2[([]:Mem).length]? = some (.live ⟨.box,27,3,[[.int .i64 0,.nils,.nils]]⟩):=push_new ax
 obtain ⟨ae,ao,h⟩:=bind_some h
 refine kx (mvO E) (Rn (hN E (hN E (hV (.loc ([]:Mem).length 1 0 0) E hZ))) fun e5 h7 h8 h9=>sN (sq (sq (Rg (kx (ldPA h8 E E) (kx (mvO h7) (kc (cl (v:=.int .i64 ae) E E (cns E (cns E E)) E (impl_dealsCode_ok a1 a2 _ ao) nm) (kx (mvO E) (Rn (hA h7 (hA h8 (hA h9 (hN E hZ)))) fun aS ay az aA af=>sN (sq (Rg (kx (mvO af) (kx (bNeq E E) (Rn (hA ay (hA az (hA aA (hA af (hN E hZ))))) fun aT aB aC J aD ah=>sN ?_))))))))))))))
 rcases ite_some h with ⟨O,h⟩ | ⟨O,h⟩
 ·refine cT ah O (sq (Rg (kx (bldT zero27 E (fill0 E)) (kx (mvO aD) (kw (stO J E o4 E E ⟨E,ble E⟩ E E) fun aE aq=>?_)))))
  have aF:aE[([]:Mem).length]? = some (.live ⟨.box,27,3,[[.int .i64 0,.nils,.nils]]⟩):=set_same aq o4
  refine kx (mvO E) (Rn (hA J (hN E hZ)) fun aU aG aH=>sN (xx (sR ?_)))
  obtain rfl:=si h
  exact eR (resC (ag:=true) (sz:=3) ⟨by kernel_rfl,by kernel_rfl,by kernel_rfl⟩ (ldOA aG aF E E (ble E) E) (resT aH res0)) (wkH (y:=.tup [.agg [.int .i64 0,.nils,.nils],.int .i64 ae]) E E)
 obtain ⟨aI,Y,h⟩:=bind_some h
 refine cF ah O (xx (sN (sq (Rg (kx (ldPA aC E E) (kx (mvO aB) ?_))))))
 rcases aI with ai | ⟨aa,ab,ac⟩
 ·refine kc (cl (v:=.tup [.agg [.int .i64 0,.nils,.nils],.int .i64 ai]) E E (cns E (cns E E)) E (impl_behind_ok a1 a2 _ Y) nm) (kx (exT E E) (kx (exT E E) (kw (stO J E o4 E E ⟨E,ble E⟩ E E) fun aJ au=>?_)))
  have aK:aJ[([]:Mem).length]? = some (.live ⟨.box,27,3,[[.int .i64 0,.nils,.nils]]⟩):=set_same au o4
  refine kx (mvO E) (Rn (hA J (hN E hZ)) fun aV aL aM=>sN (xx ?_))
  obtain rfl:=si h
  exact eR (resC (ag:=true) (sz:=3) ⟨by kernel_rfl,by kernel_rfl,by kernel_rfl⟩ (ldOA aL aK E E (ble E) E) (resT aM res0)) (wkH (y:=.tup [.agg [.int .i64 0,.nils,.nils],.int .i64 ai]) E E)
 refine kc (cl (v:=.tup [.agg [.int .i64 aa,.sl none (ab.map (cI .i64)),.sl none (ac.map Tally.c)],.int .i64 0]) E E (cns E (cns E E)) E (impl_behind_ok a1 a2 _ Y) nm) (kx (exT E E) (kx (exT E E) (kw (stO J E o4 E E ⟨E,ble E⟩ E E) fun aN aw=>?_)))
 have aO:aN[([]:Mem).length]? = some (.live ⟨.box,27,3,[[.int .i64 aa,.sl none (ab.map (cI .i64)),.sl none (ac.map Tally.c)]]⟩):=set_same aw o4
 refine kx (mvO E) (Rn (hA J (hV (.int .i64 0) E hZ)) fun aZ aP aR=>sN (xx ?_))
 obtain rfl:=si h
 exact eR (resC (ag:=true) (sz:=3) ⟨by kernel_rfl,by kernel_rfl,by kernel_rfl⟩ (ldOA aP aO E E (ble E) E) (resT aR res0)) (wkH (y:=.tup [.agg [.int .i64 aa,.sl none (ab.map (cI .i64)),.sl none (ac.map Tally.c)],.int .i64 0]) E E)
noncomputable def spec_StateOn (a1:Book) (a2:List Deal) (a3:Int):Option (Int×(List Int)×(List Tally)×Int):=
 (spec_l07Asked a1 a2).bind fun J=>
 if (J != 0)=true then
  some (0,([]:List Int),([]:List Tally),J)
 else
  (spec_l07Day a3).bind fun O=>
  if O=true then
   (spec_l07State a1 a2 a3).bind fun r=>match r with
   | (.inl Y)=>
    some (0,([]:List Int),([]:List Tally),Y)
   | (.inr (aa,ab,ac))=>
    some (aa,ab,ac,0)
  else
   some (0,([]:List Int),([]:List Tally),2)
def spec_StateOn_enc (r:Int×(List Int)×(List Tally)×Int):AV:=.tup [.agg [.int .i64 r.1,.sl none (r.2.1.map (cI .i64)),.sl none (r.2.2.1.map Tally.c)],.int .i64 r.2.2.2]
theorem spec_StateOn_ok (a1:Book) (a2:List Deal) (a3:Int) (r:Int×(List Int)×(List Tally)×Int) (h:spec_StateOn a1 a2 a3=some r):Ev (fun k=>CN k 10 [.agg [.int .i64 a1.Day,.sl none (a1.Cash.map (cI .i64)),.sl none (a1.Tallies.map Tally.c)],.sl none (a2.map Deal.c),.int .i64 a3] []) (fun p=>wkR (rRes p.2 p.1)=spec_StateOn_enc r):=by
 unfold spec_StateOn at h
 refine Ev.enter (F:=fun k=>f10 (CN k) k) (fun k=>callN_eq E Try.func10 E E E (by decide +kernel) (f10_eq _ _)) (sq (Rg (kx (bxI E E ⟨E,E,by decide⟩) (ku (alO zero27) fun M2 aE=>?_))))
 have o4:M2[([]:Mem).length]? = some (.live ⟨.box,27,3,[[.int .i64 0,.nils,.nils]]⟩):=push_new aE
 obtain ⟨ah,ay,h⟩:=bind_some h
 refine kx (mvO E) (Rn (hN E (hN E (hN E (hV (.loc ([]:Mem).length 1 0 0) E hZ)))) fun e5 h7 h8 h9 aF=>sN (sq (sq (Rg (kx (mvO h7) (kc (cl (v:=.int .i64 ah) E E (cns h9 (cns E E)) E (spec_l07Asked_ok a1 a2 _ ay) nm) (kx (mvO E) (Rn (hA h7 (hA h8 (hA h9 (hA aF (hN E hZ))))) fun bw aG aH aI aJ ai=>sN (sq (Rg (kx (mvO ai) (kx (bNeq E E) (Rn (hA aG (hA aH (hA aI (hA aJ (hA ai (hN E hZ)))))) fun bz aK ao aL aa aM aq=>sN ?_)))))))))))))
 rcases ite_some h with ⟨O,h⟩ | ⟨O,h⟩
 ·refine cT aq O (sq (Rg (kx (bldT zero27 E (fill0 E)) (kx (mvO aM) (kw (stO aa E o4 E E ⟨E,ble E⟩ E E) fun aN az=>?_)))))
  have aO:aN[([]:Mem).length]? = some (.live ⟨.box,27,3,[[.int .i64 0,.nils,.nils]]⟩):=set_same az o4
  refine kx (mvO E) (Rn (hA aa (hN E hZ)) fun bA aP aR=>sN (xx (sR ?_)))
  obtain rfl:=si h
  exact eR (resC (ag:=true) (sz:=3) ⟨by kernel_rfl,by kernel_rfl,by kernel_rfl⟩ (ldOA aP aO E E (ble E) E) (resT aR res0)) (wkH (y:=.tup [.agg [.int .i64 0,.nils,.nils],.int .i64 ah]) E E)
 obtain ⟨aS,aA,h⟩:=bind_some h
 refine cF aq O (xx (sN (sq (sq (Rg (kx (mvO ao) (kc (cl (v:=.bool aS) E E (cns E E) E (spec_l07Day_ok a3 _ aA) nm) (kx (uNot E) (Rn (hA aK (hA ao (hA aL (hA aa (hN E hZ))))) fun bB aT aU au J aw=>sN ?_)))))))))
 rcases ite_some h with ⟨Y,h⟩ | ⟨Y,h⟩
 ·obtain ⟨aV,ab,h⟩:=bind_some h
  refine cF aw (congrArg Bool.not Y) (xx (sN (sq (Rg (kx (mvO aT) (kx (mvO aU) ?_))))))
  rcases aV with ax | ⟨ac,ae,af⟩
  ·refine kc (cl (v:=.tup [.agg [.int .i64 0,.nils,.nils],.int .i64 ax]) E E (cns au (cns E (cns E E))) E (spec_l07State_ok a1 a2 a3 _ ab) nm) (kx (exT E E) (kx (exT E E) (kw (stO J E o4 E E ⟨E,ble E⟩ E E) fun aZ aB=>?_)))
   have a8:aZ[([]:Mem).length]? = some (.live ⟨.box,27,3,[[.int .i64 0,.nils,.nils]]⟩):=set_same aB o4
   refine kx (mvO E) (Rn (hA J (hN E hZ)) fun bC ba bb=>sN (xx ?_))
   obtain rfl:=si h
   exact eR (resC (ag:=true) (sz:=3) ⟨by kernel_rfl,by kernel_rfl,by kernel_rfl⟩ (ldOA ba a8 E E (ble E) E) (resT bb res0)) (wkH (y:=.tup [.agg [.int .i64 0,.nils,.nils],.int .i64 ax]) E E)
  refine kc (cl (v:=.tup [.agg [.int .i64 ac,.sl none (ae.map (cI .i64)),.sl none (af.map Tally.c)],.int .i64 0]) E E (cns au (cns E (cns E E))) E (spec_l07State_ok a1 a2 a3 _ ab) nm) (kx (exT E E) (kx (exT E E) (kw (stO J E o4 E E ⟨E,ble E⟩ E E) fun bf aC=>?_)))
  have bi:bf[([]:Mem).length]? = some (.live ⟨.box,27,3,[[.int .i64 ac,.sl none (ae.map (cI .i64)),.sl none (af.map Tally.c)]]⟩):=set_same aC o4
  refine kx (mvO E) (Rn (hA J (hV (.int .i64 0) E hZ)) fun bD bj bm=>sN (xx ?_))
  obtain rfl:=si h
  exact eR (resC (ag:=true) (sz:=3) ⟨by kernel_rfl,by kernel_rfl,by kernel_rfl⟩ (ldOA bj bi E E (ble E) E) (resT bm res0)) (wkH (y:=.tup [.agg [.int .i64 ac,.sl none (ae.map (cI .i64)),.sl none (af.map Tally.c)],.int .i64 0]) E E)
 refine cT aw (congrArg Bool.not Y) (sq (Rg (kx (bldT zero27 E (fill0 E)) (kw (stO J E o4 E E ⟨E,ble E⟩ E E) fun bo aD=>?_))))
 have bq:bo[([]:Mem).length]? = some (.live ⟨.box,27,3,[[.int .i64 0,.nils,.nils]]⟩):=set_same aD o4
 refine kx (mvO E) (Rn (hA J (hV (.int .i64 2) E hZ)) fun bF bu bv=>sN (xx (sR ?_)))
 obtain rfl:=si h
 exact eR (resC (ag:=true) (sz:=3) ⟨by kernel_rfl,by kernel_rfl,by kernel_rfl⟩ (ldOA bu bq E E (ble E) E) (resT bv res0)) (wkH (y:=.tup [.agg [.int .i64 0,.nils,.nils],.int .i64 2]) E E)
noncomputable def laws_a2At (a1:List Int) (a2:Int) (a3:Int):Option Int:=
 if (decide (a2≥(a1.length:Int)))=true then
  some 0
 else
  if (decide (a3 < 1))=true then
   some 0
  else
   (rd a1 a2).bind fun J=>
   (rem .i64 (IntKind.i64.wrap J) a3).bind fun O=>
   some O
def laws_a2At_enc (r:Int):AV:=.int .i64 r
theorem laws_a2At_ok (a1:List Int) (a2:Int) (a3:Int) (r:Int) (h:laws_a2At a1 a2 a3=some r):Ev (fun k=>CN k 8 [.sl none (a1.map (cI .u8)),.int .i64 a2,.int .i64 a3] []) (fun p=>rRes p.2 p.1=laws_a2At_enc r):=by
 unfold laws_a2At at h
 refine Ev.enter (F:=fun k=>f8 (CN k) k) (fun k=>callN_eq E Try.func8 E E E (by decide +kernel) (f8_eq _ _)) (sq (Rg (kx (mvO E) (Rn (hN E (hN E (hN E hZ))) fun e1 h3 h4 h5=>sN (sq (sq (Rg (kx (mvO h4) (kx (mvO h3) (kx (lnS Try.underlying22 E) (kx (bGeq E E) (kx (mvO E) ?_))))))))))))
 rcases ite_some h with ⟨J,h⟩ | ⟨J,h⟩
 ·refine kx (gsF E J) (kx (gsF E J) (kx (pkT E J E) (Rn (hA h3 (hA h4 (hA h5 (hV (.bool true) E hZ)))) fun e7 h9 au aw ac=>sN (cT ac E (sq (Rg (kx (mvO E) (Rn (hV (.int .i64 0) E hZ) fun ax ae=>sN (xx (sR ?_))))))))))
  obtain rfl:=si h
  exact eR (resT ae res0) E
 refine kx (guF E J (mvO h5)) (kx (guF E J (bLss E E)) (kx (pkF E J E) (Rn (hA h3 (hA h4 (hA h5 (hN E hZ)))) fun ay af ah ai Y=>sN ?_)))
 rcases ite_some h with ⟨O,h⟩ | ⟨O,h⟩
 ·refine cT Y O (sq (Rg (kx (mvO E) (Rn (hV (.int .i64 0) E hZ) fun az ao=>sN (xx (sR ?_))))))
  obtain rfl:=si h
  exact eR (resT ao res0) E
 obtain ⟨aA,aa,h⟩:=bind_some h
 obtain ⟨aB,ab,h⟩:=bind_some h
 refine cF Y O (xx (sN (sq (Rg (kx (mvO af) (kx (mvO ah) (kx (ixS E E aa (cI_fl _)) (kx (ldP E E) (kx (cvI E) (kx (mvO ai) (kx (bRem E E ab) (kx (mvO E) (Rn (hN E hZ) fun aC aq=>sN (xx ?_))))))))))))))
 obtain rfl:=si h
 exact eR (resT aq res0) E
noncomputable def spec_l00From (a1:List Int):Option L00Src:=
 some (L00Src.mk a1 0 0)
def spec_l00From_Q (a1:List Int) (M0:Mem) (r:L00Src) (p:AV×Mem):Prop:=p.1 = .loc M0.length 1 0 0∧p.2[M0.length]? = some (.live ⟨.box,142,3,[[.sl none (r.Code.map (cI .u8)),.int .i64 r.At,.int .u64 r.Seed]]⟩)∧Fr [] M0 p.2
theorem spec_l00From_ok (a1:List Int) (M0:Mem) (r:L00Src) (h:spec_l00From a1=some r):Ev (fun k=>CN k 51 [.sl none (a1.map (cI .u8))] M0) (spec_l00From_Q a1 M0 r):=by
 unfold spec_l00From at h
 have J:Fr [] M0 M0:=Fr.refl
 refine Ev.enter (F:=fun k=>f51 (CN k) k) (fun k=>callN_eq E Try.func51 E E E (by decide +kernel) (f51_eq _ _)) (sq (Rg (kx (mvO E) (Rn (hN E hZ) fun e1 h3=>sN (sq (Rg (kx (mvO h3) (kx (bldT zero142 (cns (pr3 E) E) (fill1 ⟨E,ble E⟩ E E (fill0 E))) (ku (bxO E E ⟨E,E,by decide⟩) fun M5 O=>?_)))))))))
 have ab:=Nf.mk J
 have Y:=Fr.push J O
 have o9:M5[M0.length]? = some (.live ⟨.box,142,3,[[.sl none (a1.map (cI .u8)),.int .i64 0,.int .u64 0]]⟩):=push_new O
 refine kx (mvO E) (Rn (hV (.loc M0.length 1 0 0) E hZ) fun ac aa=>sN (xx ?_))
 obtain rfl:=si h
 exact eR (resT aa res0) ⟨E,o9,Y⟩
noncomputable def spec_l00Src_next_p (a1:List Int) (a2:Int) (a3:Int):Option (Int×(List Int)×Int×Int):=
 if (decide (a2 < (a1.length:Int)))=true then
  (rd a1 a2).bind fun J=>
  if (decide ((IntKind.i64.wrap (a2 + 1))≤(a1.length:Int)))=true then
   some ((IntKind.i64.wrap J),a1,(IntKind.i64.wrap (a2 + 1)),(IntKind.u64.wrap ((IntKind.u64.wrap ((IntKind.u64.wrap (a3 * 6364136223846793005)) + (IntKind.u64.wrap (IntKind.i64.wrap J)))) + 1442695040888963407)))
  else
   (shr .u64 (IntKind.u64.wrap ((IntKind.u64.wrap ((IntKind.u64.wrap (a3 * 6364136223846793005)) + (IntKind.u64.wrap (IntKind.i64.wrap J)))) + 1442695040888963407)) 40).bind fun O=>
   some ((IntKind.i64.wrap (iand .u64 O 255)),a1,(IntKind.i64.wrap (a2 + 1)),(IntKind.u64.wrap ((IntKind.u64.wrap ((IntKind.u64.wrap (a3 * 6364136223846793005)) + (IntKind.u64.wrap (IntKind.i64.wrap J)))) + 1442695040888963407)))
 else
  if (decide ((IntKind.i64.wrap (a2 + 1))≤(a1.length:Int)))=true then
   some (0,a1,(IntKind.i64.wrap (a2 + 1)),(IntKind.u64.wrap ((IntKind.u64.wrap ((IntKind.u64.wrap (a3 * 6364136223846793005)) + 0)) + 1442695040888963407)))
  else
   (shr .u64 (IntKind.u64.wrap ((IntKind.u64.wrap ((IntKind.u64.wrap (a3 * 6364136223846793005)) + 0)) + 1442695040888963407)) 40).bind fun Y=>
   some ((IntKind.i64.wrap (iand .u64 Y 255)),a1,(IntKind.i64.wrap (a2 + 1)),(IntKind.u64.wrap ((IntKind.u64.wrap ((IntKind.u64.wrap (a3 * 6364136223846793005)) + 0)) + 1442695040888963407)))
def spec_l00Src_next_p_Q (a1:List Int) (a2:Int) (a3:Int) (j1:Nat) (M0:Mem) (r:Int×(List Int)×Int×Int) (p:AV×Mem):Prop:=p.1 = .int .i64 r.1∧p.2[j1]? = some (.live ⟨.box,142,3,[[.sl none (r.2.1.map (cI .u8)),.int .i64 r.2.2.1,.int .u64 r.2.2.2]]⟩)∧Fr [j1] M0 p.2
theorem spec_l00Src_next_p_ok (a1:List Int) (a2:Int) (a3:Int) (j1:Nat) (M0:Mem) (oP1:M0[j1]? = some (.live ⟨.box,142,3,[[.sl none (a1.map (cI .u8)),.int .i64 a2,.int .u64 a3]]⟩)) (r:Int×(List Int)×Int×Int) (h:spec_l00Src_next_p a1 a2 a3=some r):Ev (fun k=>CN k 117 [.loc j1 1 0 0] M0) (spec_l00Src_next_p_Q a1 a2 a3 j1 M0 r):=by
 unfold spec_l00Src_next_p at h
 have aB:Fr [j1] M0 M0:=Fr.refl
 refine Ev.enter (F:=fun k=>f117 (CN k) k) (fun k=>callN_eq E Try.func117 E E E (by decide +kernel) (f117_eq _ _)) (sq (Rg (kx (mvO E) (Rn (hV (.loc j1 1 0 0) E hZ) fun e1 h3=>sN (sq (Rg (kx (mvO E) (Rn (hA h3 (hV (.int .i64 0) E hZ)) fun e4 h6 h7=>sN (sq (sq (Rd (kf (mvO h6) (kf (ncO E oP1 E) (kf (faO E oP1 E) (kf (ldO E oP1 E E E) (kf (mvO h6) (kf (ncO E oP1 E) (kf (faO E oP1 E) (kf (ldO E oP1 E E E) (kf (lnS Try.underlying22 E) (kf (bLss E E) (fZ (Rn (hA h6 (hA h7 (hN E hZ))) fun e8 ab aN aC=>sN ?_)))))))))))))))))))))))
 rcases ite_some h with ⟨ac,h⟩ | ⟨ac,h⟩
 ·obtain ⟨aO,aI,h⟩:=bind_some h
  refine cT aC ac (Rd (kf (mvO ab) (kf (ncO E oP1 E) (kf (faO E oP1 E) (kf (ldO E oP1 E E E) (kf (mvO ab) (kf (ncO E oP1 E) (kf (faO E oP1 E) (kf (ldO E oP1 E E E) (kf (ixS E E aI (cI_fl _)) (kf (ldP E E) (kf (cvI E) (kf (mvO E) (fZ (Rn (hA ab (hN E hZ)) fun bq aD aP=>sN (sq (Rg (kx (mvO aD) (kx (ncO E oP1 E) (kx (faO E oP1 E) (kx (ldO E oP1 E E E) (kx (bAdd E E) (kx (ncO E oP1 E) (kx (faO E oP1 E) (kw (stO E E oP1 E E ⟨E,ble E⟩ E E) fun aR ah=>?_)))))))))))))))))))))))))
  have Y:aR[j1]? = some (.live ⟨.box,142,3,[[.sl none (a1.map (cI .u8)),.int .i64 (IntKind.i64.wrap (a2 + 1)),.int .u64 a3]]⟩):=set_same ah oP1
  have aJ:=Fr.setIn aB ah (by simp)
  refine Rn (hA aD (hA aP hZ)) fun bu ai aE=>sN (sq (Rg (kx (mvO ai) (kx (mvO ai) (kx (ncO E Y E) (kx (faO E Y E) (kx (ldO E Y E E E) (kx (bMul E E) (kx (mvO aE) (kx (cvI E) (kx (bAdd E E) (kx (bAdd E E) (kx (ncO E Y E) (kx (faO E Y E) (kw (stO E E Y E E ⟨E,ble E⟩ E E) fun aS ao=>?_)))))))))))))))
  have J:aS[j1]? = some (.live ⟨.box,142,3,[[.sl none (a1.map (cI .u8)),.int .i64 (IntKind.i64.wrap (a2 + 1)),.int .u64 (IntKind.u64.wrap ((IntKind.u64.wrap ((IntKind.u64.wrap (a3 * 6364136223846793005)) + (IntKind.u64.wrap (IntKind.i64.wrap aO)))) + 1442695040888963407))]]⟩):=set_same ao Y
  have aq:=Fr.setIn aJ ao (by simp)
  refine Rn (hA ai (hA aE hZ)) fun bv au aT=>sN (sq (sq (Rd (kf (mvO au) (kf (ncO E J E) (kf (faO E J E) (kf (ldO E J E E E) (kf (mvO au) (kf (ncO E J E) (kf (faO E J E) (kf (ldO E J E E E) (kf (lnS Try.underlying22 E) (kf (bLeq E E) (fZ (Rn (hA au (hA aT (hN E hZ))) fun bw aU aV aF=>sN ?_)))))))))))))))
  rcases ite_some h with ⟨ae,h⟩ | ⟨ae,h⟩
  ·refine cT aF ae (sq (Rg (kx (mvO aV) (kx (mvO E) (Rn (hN E hZ) fun bz aZ=>sN (xx (sR ?_)))))))
   obtain rfl:=si h
   exact eR (resT aZ res0) ⟨E,J,aq⟩
  obtain ⟨bA,aK,h⟩:=bind_some h
  refine cF aF ae (xx (sN (sq (Rg (kx (mvO aU) (kx (ncO E J E) (kx (faO E J E) (kx (ldO E J E E E) (kx (bShr E E aK) (kx (bAnd E E) (kx (cvI E) (kx (mvO E) (Rn (hN E hZ) fun bB a8=>sN (xx ?_))))))))))))))
  obtain rfl:=si h
  exact eR (resT a8 res0) ⟨E,J,aq⟩
 refine cF aC ac (xx (sN (sq (Rg (kx (mvO ab) (kx (ncO E oP1 E) (kx (faO E oP1 E) (kx (ldO E oP1 E E E) (kx (bAdd E E) (kx (ncO E oP1 E) (kx (faO E oP1 E) (kw (stO E E oP1 E E ⟨E,ble E⟩ E E) fun ba aw=>?_))))))))))))
 have aa:ba[j1]? = some (.live ⟨.box,142,3,[[.sl none (a1.map (cI .u8)),.int .i64 (IntKind.i64.wrap (a2 + 1)),.int .u64 a3]]⟩):=set_same aw oP1
 have aL:=Fr.setIn aB aw (by simp)
 refine Rn (hA ab (hA aN hZ)) fun bC ax aG=>sN (sq (Rg (kx (mvO ax) (kx (mvO ax) (kx (ncO E aa E) (kx (faO E aa E) (kx (ldO E aa E E E) (kx (bMul E E) (kx (mvO aG) (kx (cvI E) (kx (bAdd E E) (kx (bAdd E E) (kx (ncO E aa E) (kx (faO E aa E) (kw (stO E E aa E E ⟨E,ble E⟩ E E) fun bb ay=>?_)))))))))))))))
 have O:bb[j1]? = some (.live ⟨.box,142,3,[[.sl none (a1.map (cI .u8)),.int .i64 (IntKind.i64.wrap (a2 + 1)),.int .u64 (IntKind.u64.wrap ((IntKind.u64.wrap ((IntKind.u64.wrap (a3 * 6364136223846793005)) + 0)) + 1442695040888963407))]]⟩):=set_same ay aa
 have az:=Fr.setIn aL ay (by simp)
 refine Rn (hA ax (hA aG hZ)) fun bD aA bf=>sN (sq (sq (Rd (kf (mvO aA) (kf (ncO E O E) (kf (faO E O E) (kf (ldO E O E E E) (kf (mvO aA) (kf (ncO E O E) (kf (faO E O E) (kf (ldO E O E E E) (kf (lnS Try.underlying22 E) (kf (bLeq E E) (fZ (Rn (hA aA (hA bf (hN E hZ))) fun bF bi bj aH=>sN ?_)))))))))))))))
 rcases ite_some h with ⟨af,h⟩ | ⟨af,h⟩
 ·refine cT aH af (sq (Rg (kx (mvO bj) (kx (mvO E) (Rn (hV (.int .i64 0) E hZ) fun bG bm=>sN (xx (sR ?_)))))))
  obtain rfl:=si h
  exact eR (resT bm res0) ⟨E,O,az⟩
 obtain ⟨bH,aM,h⟩:=bind_some h
 refine cF aH af (xx (sN (sq (Rg (kx (mvO bi) (kx (ncO E O E) (kx (faO E O E) (kx (ldO E O E E E) (kx (bShr E E aM) (kx (bAnd E E) (kx (cvI E) (kx (mvO E) (Rn (hN E hZ) fun bI bo=>sN (xx ?_))))))))))))))
 obtain rfl:=si h
 exact eR (resT bo res0) ⟨E,O,az⟩
noncomputable def spec_l00Src_pick_p (a1:List Int) (a2:Int) (a3:Int) (a4:Int):Option (Int×(List Int)×Int×Int):=
 if (decide (a4≤1))=true then
  some (0,a1,a2,a3)
 else
  (spec_l00Src_next_p a1 a2 a3).bind fun (J,O,Y,aa)=>
  if (decide (a4 > 200))=true then
   (spec_l00Src_next_p O Y aa).bind fun (ab,ac,ae,af)=>
   (rem .i64 (IntKind.i64.wrap ((IntKind.i64.wrap (J * 256)) + ab)) a4).bind fun ah=>
   some (ah,ac,ae,af)
  else
   (rem .i64 J a4).bind fun ai=>
   some (ai,O,Y,aa)
def spec_l00Src_pick_p_Q (a1:List Int) (a2:Int) (a3:Int) (a4:Int) (j1:Nat) (M0:Mem) (r:Int×(List Int)×Int×Int) (p:AV×Mem):Prop:=p.1 = .int .i64 r.1∧p.2[j1]? = some (.live ⟨.box,142,3,[[.sl none (r.2.1.map (cI .u8)),.int .i64 r.2.2.1,.int .u64 r.2.2.2]]⟩)∧Fr [j1] M0 p.2
theorem spec_l00Src_pick_p_ok (a1:List Int) (a2:Int) (a3:Int) (a4:Int) (j1:Nat) (M0:Mem) (oP1:M0[j1]? = some (.live ⟨.box,142,3,[[.sl none (a1.map (cI .u8)),.int .i64 a2,.int .u64 a3]]⟩)) (r:Int×(List Int)×Int×Int) (h:spec_l00Src_pick_p a1 a2 a3 a4=some r):Ev (fun k=>CN k 88 [.loc j1 1 0 0,.int .i64 a4] M0) (spec_l00Src_pick_p_Q a1 a2 a3 a4 j1 M0 r):=by
 unfold spec_l00Src_pick_p at h
 have ae:Fr [j1] M0 M0:=Fr.refl
 refine Ev.enter (F:=fun k=>f88 (CN k) k) (fun k=>callN_eq E Try.func88 E E E (by decide +kernel) (f88_eq _ _)) (sq (Rg (kx (mvO E) (Rn (hV (.loc j1 1 0 0) E (hN E hZ)) fun e1 h3 h4=>sN (sq (sq (Rg (kx (mvO h4) (kx (bLeq E E) (Rn (hA h3 (hA h4 (hN E hZ))) fun e5 h7 h8 h9=>sN ?_))))))))))
 rcases ite_some h with ⟨J,h⟩ | ⟨J,h⟩
 ·refine cT h9 J (sq (Rg (kx (mvO E) (Rn (hV (.int .i64 0) E hZ) fun bi aI=>sN (xx (sR ?_))))))
  obtain rfl:=si h
  exact eR (resT aI res0) ⟨E,oP1,ae⟩
 obtain ⟨⟨aJ,af,ah,ai⟩,az,h⟩:=bind_some h
 refine cF h9 J (xx (sN (sq (Rg (kx (mvO h7) (Ev.nxw (Ev.callW E (cns E E) (spec_l00Src_next_p_ok a1 a2 a3 j1 M0 oP1 _ az)) fun aK ab aA=>?_))))))
 obtain ⟨O,aL,aB⟩:=aA
 have O:aK = .int .i64 aJ:=O
 subst O
 have ao:ab[j1]? = some (.live ⟨.box,142,3,[[.sl none (af.map (cI .u8)),.int .i64 ah,.int .u64 ai]]⟩):=aL
 have ac:Fr [j1] M0 ab:=Fr.call ae aB (fwI (by simp) fwN)
 refine kx (mvO E) (Rn (hA h7 (hA h8 (hN E hZ))) fun bj aM aq aN=>sN (sq (sq (Rg (kx (mvO aq) (kx (bGtr E E) (Rn (hA aM (hA aq (hA aN (hN E hZ)))) fun bm aO au aw ax=>sN ?_)))))))
 rcases ite_some h with ⟨Y,h⟩ | ⟨Y,h⟩
 ·obtain ⟨⟨aP,aR,aS,aT⟩,aC,h⟩:=bind_some h
  refine cT ax Y (Rg (kx (mvO aw) (kx (bMul E E) (kx (mvO aO) (Ev.nxw (Ev.callW E (cns E E) (spec_l00Src_next_p_ok af ah ai j1 ab ao _ aC)) fun aU ay aD=>?_)))))
  obtain ⟨aa,aV,aE⟩:=aD
  have aa:aU = .int .i64 aP:=aa
  subst aa
  have aZ:ay[j1]? = some (.live ⟨.box,142,3,[[.sl none (aR.map (cI .u8)),.int .i64 aS,.int .u64 aT]]⟩):=aV
  have aF:Fr [j1] M0 ay:=Fr.call ac aE (fwI (by simp) fwN)
  obtain ⟨bo,aG,h⟩:=bind_some h
  refine kx (bAdd E E) (kx (mvO E) (Rn (hA au (hN E hZ)) fun bq a8 ba=>sN (sq (Rg (kx (mvO ba) (kx (mvO a8) (kx (bRem E E aG) (kx (mvO E) (Rn (hN E hZ) fun bu bb=>sN (xx ?_))))))))))
  obtain rfl:=si h
  exact eR (resT bb res0) ⟨E,aZ,aF⟩
 obtain ⟨bv,aH,h⟩:=bind_some h
 refine cF ax Y (xx (sN (sq (Rg (kx (mvO aw) (kx (mvO au) (kx (bRem E E aH) (kx (mvO E) (Rn (hN E hZ) fun bw bf=>sN (xx ?_))))))))))
 obtain rfl:=si h
 exact eR (resT bf res0) ⟨E,ao,ac⟩
noncomputable def spec_l00Src_one_p (a1:List Int) (a2:Int) (a3:Int) (a4:Int):Option (Bool×(List Int)×Int×Int):=
 (spec_l00Src_pick_p a1 a2 a3 a4).bind fun (r6,r7,r8,r9)=>
 some ((r6==0),r7,r8,r9)
def spec_l00Src_one_p_Q (a1:List Int) (a2:Int) (a3:Int) (a4:Int) (j1:Nat) (M0:Mem) (r:Bool×(List Int)×Int×Int) (p:AV×Mem):Prop:=p.1 = .bool r.1∧p.2[j1]? = some (.live ⟨.box,142,3,[[.sl none (r.2.1.map (cI .u8)),.int .i64 r.2.2.1,.int .u64 r.2.2.2]]⟩)∧Fr [j1] M0 p.2
theorem spec_l00Src_one_p_ok (a1:List Int) (a2:Int) (a3:Int) (a4:Int) (j1:Nat) (M0:Mem) (oP1:M0[j1]? = some (.live ⟨.box,142,3,[[.sl none (a1.map (cI .u8)),.int .i64 a2,.int .u64 a3]]⟩)) (r:Bool×(List Int)×Int×Int) (h:spec_l00Src_one_p a1 a2 a3 a4=some r):Ev (fun k=>CN k 141 [.loc j1 1 0 0,.int .i64 a4] M0) (spec_l00Src_one_p_Q a1 a2 a3 a4 j1 M0 r):=by
 unfold spec_l00Src_one_p at h
 have ac:Fr [j1] M0 M0:=Fr.refl
 obtain ⟨⟨r6,r7,r8,r9⟩,ae,h⟩:=bind_some h
 refine Ev.enter (F:=fun k=>f141 (CN k) k) (fun k=>callN_eq E Try.func141 E E E (by decide +kernel) (f141_eq _ _)) (sq (Rg (kx (mvO E) (Rn (hV (.loc j1 1 0 0) E (hN E hZ)) fun e1 h3 h4=>sN (sq (Rg (kx (mvO h3) (kx (mvO h4) (Ev.nxw (Ev.callW E (cns E (cns E E)) (spec_l00Src_pick_p_ok a1 a2 a3 a4 j1 M0 oP1 _ ae)) fun af O Y=>?_)))))))))
 obtain ⟨J,ah,aa⟩:=Y
 have J:af = .int .i64 r6:=J
 subst J
 have ai:O[j1]? = some (.live ⟨.box,142,3,[[.sl none (r7.map (cI .u8)),.int .i64 r8,.int .u64 r9]]⟩):=ah
 have ab:Fr [j1] M0 O:=Fr.call ac aa (fwI (by simp) fwN)
 refine kx (bEql E E) (kx (mvO E) (Rn (hN E hZ) fun aq ao=>sN (xx ?_)))
 obtain rfl:=si h
 exact eR (resT ao res0) ⟨E,ai,ab⟩
def spec_l07NextDeal_pp_c1_Q (a4:Int) (a5:List Int) (a6:List Tally) (Y:Int) (j1:Nat) (j2:Nat) (J:Nat) (O:Nat) (M0:Mem) (g:Bool×(List Int)×Int×Int) (q:Out):Prop:=q.1 = .nrm∧eget q.2.1 0 = .loc j1 1 0 0∧eget q.2.1 1 = .loc j2 1 0 0∧eget q.2.1 4 = .loc J 1 0 0∧eget q.2.1 5 = .int .i64 (a5.length:Int)∧eget q.2.1 6 = .loc O 1 0 0∧eget q.2.1 30 = .bool g.1∧q.2.2[J]? = some (.live ⟨.box,36,6,[[.int .i64 0,.int .i8 0,.int .i64 0,.int .i64 0,.int .i64 0,.int .i64 0]]⟩)∧q.2.2[O]? = some (.live ⟨.box,36,6,[[.int .i64 (IntKind.i64.wrap (a4 + Y)),.int .i8 0,.int .i64 0,.int .i64 0,.int .i64 0,.int .i64 0]]⟩)∧q.2.2[j1]? = some (.live ⟨.box,142,3,[[.sl none (g.2.1.map (cI .u8)),.int .i64 g.2.2.1,.int .u64 g.2.2.2]]⟩)∧q.2.2[j2]? = some (.live ⟨.box,27,3,[[.int .i64 a4,.sl none (a5.map (cI .i64)),.sl none (a6.map Tally.c)]]⟩)∧Fr [j1,j2] M0 q.2.2
def spec_l07NextDeal_pp_c2_Q (a4:Int) (a5:List Int) (a6:List Tally) (ah:Int) (aa:Int) (J:Tally) (ab:Int) (ac:List Int) (ae:Int) (af:Int) (O:Nat) (Y:Nat) (j1:Nat) (j2:Nat) (M0:Mem) (g:Bool) (q:Out):Prop:=q.1 = .nrm∧eget q.2.1 0 = .loc j1 1 0 0∧eget q.2.1 1 = .loc j2 1 0 0∧eget q.2.1 4 = .loc O 1 0 0∧eget q.2.1 5 = .int .i64 (a5.length:Int)∧eget q.2.1 6 = .loc Y 1 0 0∧eget q.2.1 7 = .pt none [.int .i64 J.Debtor,.int .i64 J.Holder,.int .i64 J.Cut,.int .i64 J.Amount,.int .i64 J.Left]∧eget q.2.1 68 = .int .i64 ab∧eget q.2.1 90 = .bool g∧q.2.2[O]? = some (.live ⟨.box,36,6,[[.int .i64 0,.int .i8 0,.int .i64 0,.int .i64 0,.int .i64 0,.int .i64 0]]⟩)∧q.2.2[Y]? = some (.live ⟨.box,36,6,[[.int .i64 (IntKind.i64.wrap (a4 + ah)),.int .i8 0,.int .i64 aa,.int .i64 0,.int .i64 0,.int .i64 0]]⟩)∧q.2.2[j1]? = some (.live ⟨.box,142,3,[[.sl none (ac.map (cI .u8)),.int .i64 ae,.int .u64 af]]⟩)∧q.2.2[j2]? = some (.live ⟨.box,27,3,[[.int .i64 a4,.sl none (a5.map (cI .i64)),.sl none (a6.map Tally.c)]]⟩)∧Fr [j1,j2] M0 q.2.2
noncomputable def spec_l07NextDeal_pp (a1:List Int) (a2:Int) (a3:Int) (a4:Int) (a5:List Int) (a6:List Tally):Option (Int×Int×Int×Int×Int×Int×(List Int)×Int×Int):=
 (spec_l00Src_pick_p a1 a2 a3 4).bind fun (ae,ai,ao,aq)=>
 (if ((a6.length:Int)==0)=true then
  some (true,ai,ao,aq)
 else
  (spec_l00Src_one_p ai ao aq 3).bind fun (bf,bi,bj,bm)=>
  some (bf,bi,bj,bm)).bind fun (bo,au,aw,af)=>
 if bo=true then
  (spec_l00Src_pick_p au aw af (a5.length:Int)).bind fun (ah,ax,ay,az)=>
  (spec_l00Src_pick_p ax ay az (IntKind.i64.wrap ((a5.length:Int) - 1))).bind fun (aA,aB,aC,aD)=>
  (rem .i64 (IntKind.i64.wrap ((IntKind.i64.wrap (ah + 1)) + aA)) (a5.length:Int)).bind fun aE=>
  (spec_l00Src_pick_p aB aC aD 60).bind fun (aF,aG,aH,aI)=>
  some ((IntKind.i64.wrap (a4 + ae)),1,0,ah,aE,(IntKind.i64.wrap (1 + aF)),aG,aH,aI)
 else
  (spec_l00Src_pick_p au aw af (a6.length:Int)).bind fun (O,aJ,aK,aL)=>
  (rd a6 O).bind fun J=>
  (spec_l00Src_pick_p aJ aK aL 5).bind fun (Y,aa,ab,ac)=>
  (if (Y==0)=true then
   some (Y==0)
  else
   some (Y==1)).bind fun aM=>
  if aM=true then
   (spec_l00Src_pick_p aa ab ac (IntKind.i64.wrap ((a5.length:Int) - 1))).bind fun (aN,aO,aP,aR)=>
   (rem .i64 (IntKind.i64.wrap ((IntKind.i64.wrap (J.Holder + 1)) + aN)) (a5.length:Int)).bind fun aS=>
   some ((IntKind.i64.wrap (a4 + ae)),2,O,J.Holder,aS,0,aO,aP,aR)
  else
   if (Y==2)=true then
    some ((IntKind.i64.wrap (a4 + ae)),4,O,J.Holder,0,0,aa,ab,ac)
   else
    (rd a5 J.Debtor).bind fun aT=>
    (spec_l00Min J.Left aT).bind fun aU=>
    (spec_l00Max aU 1).bind fun aV=>
    (spec_l00Src_pick_p aa ab ac aV).bind fun (aZ,a8,ba,bb)=>
    some ((IntKind.i64.wrap (a4 + ae)),3,O,0,0,(IntKind.i64.wrap (1 + aZ)),a8,ba,bb)
def spec_l07NextDeal_pp_Q (a1:List Int) (a2:Int) (a3:Int) (a4:Int) (a5:List Int) (a6:List Tally) (j1:Nat) (j2:Nat) (M0:Mem) (r:Int×Int×Int×Int×Int×Int×(List Int)×Int×Int) (p:AV×Mem):Prop:=p.1 = .agg [.int .i64 r.1,.int .i8 r.2.1,.int .i64 r.2.2.1,.int .i64 r.2.2.2.1,.int .i64 r.2.2.2.2.1,.int .i64 r.2.2.2.2.2.1]∧p.2[j1]? = some (.live ⟨.box,142,3,[[.sl none (r.2.2.2.2.2.2.1.map (cI .u8)),.int .i64 r.2.2.2.2.2.2.2.1,.int .u64 r.2.2.2.2.2.2.2.2]]⟩)∧p.2[j2]? = some (.live ⟨.box,27,3,[[.int .i64 a4,.sl none (a5.map (cI .i64)),.sl none (a6.map Tally.c)]]⟩)∧Fr [j1,j2] M0 p.2
theorem spec_l07NextDeal_pp_ok (a1:List Int) (a2:Int) (a3:Int) (a4:Int) (a5:List Int) (a6:List Tally) (j1:Nat) (j2:Nat) (ah:j1≠j2) (M0:Mem) (oP1:M0[j1]? = some (.live ⟨.box,142,3,[[.sl none (a1.map (cI .u8)),.int .i64 a2,.int .u64 a3]]⟩)) (oP2:M0[j2]? = some (.live ⟨.box,27,3,[[.int .i64 a4,.sl none (a5.map (cI .i64)),.sl none (a6.map Tally.c)]]⟩)) (r:Int×Int×Int×Int×Int×Int×(List Int)×Int×Int) (h:spec_l07NextDeal_pp a1 a2 a3 a4 a5 a6=some r):Ev (fun k=>CN k 105 [.loc j1 1 0 0,.loc j2 1 0 0] M0) (spec_l07NextDeal_pp_Q a1 a2 a3 a4 a5 a6 j1 j2 M0 r):=by
 unfold spec_l07NextDeal_pp at h
 have fY:Fr [j1,j2] M0 M0:=Fr.refl
 refine Ev.enter (F:=fun k=>f105 (CN k) k) (fun k=>callN_eq E Try.func105 E E E (by decide +kernel) (f105_eq _ _)) (sq (Rg (ku (alO zero36) fun M2 cX=>?_)))
 have cY:=Nf.mk fY
 have ga:=Fr.push fY cX
 have o6:=push_old cX oP1
 have af:=ne_new oP1
 have o8:=push_old cX oP2
 have cZ:=ne_new oP2
 have gc:M2[M0.length]? = some (.live ⟨.box,36,6,[[.int .i64 0,.int .i8 0,.int .i64 0,.int .i64 0,.int .i64 0,.int .i64 0]]⟩):=push_new cX
 refine Rn (hV (.loc j1 1 0 0) E (hV (.loc j2 1 0 0) E (hV (.loc M0.length 1 0 0) E hZ))) fun mp kY gf kZ=>sN (sq (Rg (kx (mvO gf) (kx (ncO E o8 E) (kx (faO E o8 E) (kx (ldO E o8 E E E) (kx (lnS Try.underlying24 E) (kx (mvO E) (Rn (hA kY (hA gf (hA kZ (hN E hZ)))) fun mq gg gh k9 la=>sN (sq (RdS (kfS (mvO gh) (kgS (ncO E o8 E) (kgS (faO E o8 E) (kgS (ldO E o8 E E E) (kfS (mvO gg) (klS (alO zero36) (feS fun de aA=>?_))))))))))))))))))
 have aA:=fendM aA [⟨.box,36,6,[[.int .i64 0,.int .i8 0,.int .i64 0,.int .i64 0,.int .i64 0,.int .i64 0]]⟩] E
 have lb:=push_old aA o6
 have lc:=push_old aA o8
 have ld:=push_old aA gc
 have J:j1≠M2.length:=by have:=lt_of_get (M:=M2) o6; omega
 have ac:j2≠M2.length:=by have:=lt_of_get (M:=M2) o8; omega
 have aa:M0.length≠M2.length:=by have:=lt_of_get (M:=M2) gc; omega
 have le:de[M2.length]? = some (.live ⟨.box,36,6,[[.int .i64 0,.int .i8 0,.int .i64 0,.int .i64 0,.int .i64 0,.int .i64 0]]⟩):=push_at aA 0 E
 have ae:=Nf.mk ga
 have gC:=Fr.push ga aA
 obtain ⟨⟨Y,gi,gj,gk⟩,gD,h⟩:=bind_some h
 refine Ev.nxw (Ev.callW E (cns E (cns E E)) (spec_l00Src_pick_p_ok a1 a2 a3 4 j1 de lb _ gD)) fun lg df gE=>?_
 obtain ⟨bV,lh,aT⟩:=gE
 have bV:lg = .int .i64 Y:=bV
 subst bV
 have lj:df[j1]? = some (.live ⟨.box,142,3,[[.sl none (gi.map (cI .u8)),.int .i64 gj,.int .u64 gk]]⟩):=lh
 have aT:Fr [j1] de df:=aT
 have da:=aT _ _ (niC (Ne.symm ah) niN) lc
 have lm:=aT _ _ (niC (Ne.symm af) niN) ld
 have bT:=aT _ _ (niC (Ne.symm J) niN) le
 have gF:Fr [j1,j2] M0 df:=Fr.call gC aT (fwI (by simp) fwN)
 refine ck (ckL bT (ckP (ldO E da E E E) (ckP (faO E da E) (ckP (ncO E da E) ck0)))) (kx (bAdd E E) (ck (ckL bT (ckD E (ckD E (ckD E ck0)))) (kx (bldT zero36 (cns (pr3 E) E) (fill1 ⟨E,ble E⟩ E E (fill0 E))) (ck (ckL bT (ckD E (ckD E (ckD E ck0)))) (kw (stO E E bT E E ⟨E,ble E⟩ E E) fun dg ba=>?_)))))
 have gm:=set_ne ba J lj
 have bU:=set_ne ba ac da
 have gn:=set_ne ba aa lm
 have gp:dg[M2.length]? = some (.live ⟨.box,36,6,[[.int .i64 (IntKind.i64.wrap (a4 + Y)),.int .i8 0,.int .i64 0,.int .i64 0,.int .i64 0,.int .i64 0]]⟩):=set_same ba bT
 have di:=Fr.setNew gF ba ae
 obtain ⟨dj,eT,h⟩:=bind_some h
 refine ck (ckD E (ckD E (ckD E (ckD E ck0)))) (Rn (hA gg (hA gh (hA k9 (hA la (hV (.loc M2.length 1 0 0) E hZ))))) fun mu dk dl gq gt gw=>sN (sq (sq ?_)))
 refine Ev.cut (Q1:=spec_l07NextDeal_pp_c1_Q a4 a5 a6 Y j1 j2 M0.length M2.length M0 dj) (by
     have h:=eT
     refine Rg (kx (mvO dl) (kx (ncO E bU E) (kx (faO E bU E) (kx (ldO E bU E E E) (kx (lnS Try.underlying25 E) (kx (bEql E E) (kx (mvO E) ?_)))))))
     rcases ite_some h with ⟨aB,h⟩ | ⟨aB,h⟩
     ·refine kx (gsF E aB) (kc (Ev.gsF E aB) (kx (pkT E aB E) (Rn (hA dk (hA dl (hA gq (hA gt (hA gw (hV (.bool true) E hZ)))))) fun mv ln lq lr lu lv lx=>?_)))
      obtain rfl:=si h
      exact kd (show spec_l07NextDeal_pp_c1_Q a4 a5 a6 Y j1 j2 M0.length M2.length M0 _ _ from ⟨E,ln,lq,lr,lu,lv,lx,gn,gp,gm,bU,di⟩)
     obtain ⟨⟨ly,lz,lA,lB⟩,gG,h⟩:=bind_some h
     refine kx (guF E aB (mvO dk)) (Ev.nxw (Ev.guF E aB (Ev.callW E (cns E (cns E E)) (spec_l00Src_one_p_ok gi gj gk 3 j1 dg gm _ gG))) fun lC dm gH=>?_)
     obtain ⟨bW,lD,aU⟩:=gH
     have bW:lC = .bool ly:=bW
     subst bW
     have lE:dm[j1]? = some (.live ⟨.box,142,3,[[.sl none (lz.map (cI .u8)),.int .i64 lA,.int .u64 lB]]⟩):=lD
     have aU:Fr [j1] dg dm:=aU
     have lF:=aU _ _ (niC (Ne.symm ah) niN) bU
     have lG:=aU _ _ (niC (Ne.symm af) niN) gn
     have lH:=aU _ _ (niC (Ne.symm J) niN) gp
     have gI:Fr [j1,j2] M0 dm:=Fr.call di aU (fwI (by simp) fwN)
     refine kx (pkF E aB E) (Rn (hA dk (hA dl (hA gq (hA gt (hA gw (hN E hZ)))))) fun mw lI lJ lK lL lM lN=>?_)
     obtain rfl:=si h
     exact kd (show spec_l07NextDeal_pp_c1_Q a4 a5 a6 Y j1 j2 M0.length M2.length M0 _ _ from ⟨E,lI,lJ,lK,lL,lM,lN,lG,lH,lE,lF,gI⟩)) ?_
 obtain ⟨my,gz,gA,dn⟩:=dj
 intro x mz gB eU
 obtain ⟨rfl,bX,dp,dq,dt,bm,du,dw,bo,dx,bb,db⟩:=eU
 refine sN ?_
 rcases ite_some h with ⟨bq,h⟩ | ⟨bq,h⟩
 ·refine cT du bq (sq (Rg (kx (faO bm bo E) (kw (stO E E bo E E ⟨E,ble E⟩ E E) fun bY aC=>?_))))
  have gJ:=set_ne aC aa dw
  have gK:bY[M2.length]? = some (.live ⟨.box,36,6,[[.int .i64 (IntKind.i64.wrap (a4 + Y)),.int .i8 1,.int .i64 0,.int .i64 0,.int .i64 0,.int .i64 0]]⟩):=set_same aC bo
  have gL:=set_ne aC J dx
  have gM:=set_ne aC ac bb
  have eV:=Fr.setNew db aC ae
  obtain ⟨⟨bf,dz,dA,dC⟩,eW,h⟩:=bind_some h
  refine Rn (hV (.loc j1 1 0 0) bX (hV (.loc M0.length 1 0 0) dq (hV (.int .i64 (a5.length:Int)) dt (hV (.loc M2.length 1 0 0) bm hZ)))) fun lO dD gN dE dF=>sN (sq (Rg (kx (mvO dD) (kx (mvO dE) (Ev.nxw (Ev.callW E (cns E (cns E E)) (spec_l00Src_pick_p_ok gz gA dn (a5.length:Int) j1 bY gL _ eW)) fun gO bZ eX=>?_)))))
  obtain ⟨bu,gP,ao⟩:=eX
  have bu:gO = .int .i64 bf:=bu
  subst bu
  have gQ:bZ[j1]? = some (.live ⟨.box,142,3,[[.sl none (dz.map (cI .u8)),.int .i64 dA,.int .u64 dC]]⟩):=gP
  have ao:Fr [j1] bY bZ:=ao
  have gR:=ao _ _ (niC (Ne.symm af) niN) gJ
  have b7:=ao _ _ (niC (Ne.symm J) niN) gK
  have gS:=ao _ _ (niC (Ne.symm ah) niN) gM
  have eY:Fr [j1,j2] M0 bZ:=Fr.call eV ao (fwI (by simp) fwN)
  refine kx (faO dF b7 E) (kw (stO E E b7 E E ⟨E,ble E⟩ E E) fun b8 aD=>?_)
  have gT:=set_ne aD aa gR
  have b9:b8[M2.length]? = some (.live ⟨.box,36,6,[[.int .i64 (IntKind.i64.wrap (a4 + Y)),.int .i8 1,.int .i64 0,.int .i64 bf,.int .i64 0,.int .i64 0]]⟩):=set_same aD b7
  have gU:=set_ne aD J gQ
  have gV:=set_ne aD ac gS
  have eZ:=Fr.setNew eY aD ae
  obtain ⟨⟨gW,dG,dH,dI⟩,fa,h⟩:=bind_some h
  refine Rn (hA dD (hA gN (hA dE (hA dF hZ)))) fun lP dJ gX dK bv=>sN (sq (RdS (kgS (faO bv b9 E) (kgS (ldO E b9 E E E) (kfS (bAdd E E) (kfS (mvO dJ) (kfS (mvO dK) (kfS (bSub E E) (kfS (mvO dK) (fZS (Ev.nxw (Ev.callW E (cns E (cns E E)) (spec_l00Src_pick_p_ok dz dA dC (IntKind.i64.wrap ((a5.length:Int) - 1)) j1 b8 gU _ fa)) fun gY cb fd=>?_)))))))))))
  obtain ⟨bw,gZ,aq⟩:=fd
  have bw:gY = .int .i64 gW:=bw
  subst bw
  have hH:cb[j1]? = some (.live ⟨.box,142,3,[[.sl none (dG.map (cI .u8)),.int .i64 dH,.int .u64 dI]]⟩):=gZ
  have aq:Fr [j1] b8 cb:=aq
  have hO:=aq _ _ (niC (Ne.symm af) niN) gT
  have bi:=aq _ _ (niC (Ne.symm J) niN) b9
  have hP:=aq _ _ (niC (Ne.symm ah) niN) gV
  have ff:Fr [j1,j2] M0 cb:=Fr.call eZ aq (fwI (by simp) fwN)
  obtain ⟨cd,fg,h⟩:=bind_some h
  refine ck (ckP (ldO E bi E E E) (ckP (faO bv bi E) ck0)) (kx (bAdd E E) (ck (ckD E (ckD E ck0)) (kx (bRem E E fg) (ck (ckD E (ckD E ck0)) (kx (faO bv bi E) (ck (ckD E (ckD E ck0)) (kw (stO E E bi E E ⟨E,ble E⟩ E E) fun cf aE=>?_)))))))
  have hY:=set_ne aE aa hO
  have ib:cf[M2.length]? = some (.live ⟨.box,36,6,[[.int .i64 (IntKind.i64.wrap (a4 + Y)),.int .i8 1,.int .i64 0,.int .i64 bf,.int .i64 cd,.int .i64 0]]⟩):=set_same aE bi
  have ic:=set_ne aE J hH
  have ie:=set_ne aE ac hP
  have fh:=Fr.setNew ff aE ae
  obtain ⟨⟨cg,ig,ii,ij⟩,fi,h⟩:=bind_some h
  refine ck (ckD E (ckD E ck0)) (Rn (hA dJ (hA gX (hA bv hZ))) fun lQ ik il dL=>sN (sq (Rg (kx (mvO ik) (Ev.nxw (Ev.callW E (cns E (cns E E)) (spec_l00Src_pick_p_ok dG dH dI 60 j1 cf ic _ fi)) fun im ci fj=>?_)))))
  obtain ⟨bz,io,au⟩:=fj
  have bz:im = .int .i64 cg:=bz
  subst bz
  have ip:ci[j1]? = some (.live ⟨.box,142,3,[[.sl none (ig.map (cI .u8)),.int .i64 ii,.int .u64 ij]]⟩):=io
  have au:Fr [j1] cf ci:=au
  have iq:=au _ _ (niC (Ne.symm af) niN) hY
  have cj:=au _ _ (niC (Ne.symm J) niN) ib
  have ir:=au _ _ (niC (Ne.symm ah) niN) ie
  have fk:Fr [j1,j2] M0 ci:=Fr.call fh au (fwI (by simp) fwN)
  refine kx (bAdd E E) (kx (faO dL cj E) (kw (stO E E cj E E ⟨E,ble E⟩ E E) fun iu aF=>?_))
  have dM:=set_ne aF aa iq
  have dN:iu[M2.length]? = some (.live ⟨.box,36,6,[[.int .i64 (IntKind.i64.wrap (a4 + Y)),.int .i8 1,.int .i64 0,.int .i64 bf,.int .i64 cd,.int .i64 (IntKind.i64.wrap (1 + cg))]]⟩):=set_same aF cj
  have iw:=set_ne aF J ip
  have ix:=set_ne aF ac ir
  have fm:=Fr.setNew fk aF ae
  refine Rn (hA il (hA dL hZ)) fun lR dO iy=>sN (sq (Rg (kx (ldOA iy dN E E (ble E) E) (kw (stO dO E dM E E ⟨E,ble E⟩ E E) fun iz aG=>?_))))
  have iA:iz[M0.length]? = some (.live ⟨.box,36,6,[[.int .i64 (IntKind.i64.wrap (a4 + Y)),.int .i8 1,.int .i64 0,.int .i64 bf,.int .i64 cd,.int .i64 (IntKind.i64.wrap (1 + cg))]]⟩):=set_same aG dM
  have lS:=set_ne aG (Ne.symm aa) dN
  have iB:=set_ne aG af iw
  have iC:=set_ne aG cZ ix
  have fo:=Fr.setNew fm aG cY
  refine Rn (hA dO hZ) fun lT iD=>sN (xx (sR ?_))
  obtain rfl:=si h
  exact eR (resC (ag:=true) (sz:=6) ⟨by kernel_rfl,by kernel_rfl,by kernel_rfl⟩ (ldOA iD iA E E (ble E) E) res0) ⟨E,iB,iC,fo⟩
 obtain ⟨⟨ab,dP,dQ,dR⟩,fq,h⟩:=bind_some h
 refine cF du bq (xx (sN (sq (Rg (kx (mvO bX) (kx (mvO dp) (kx (ncO E bb E) (kx (faO E bb E) (kx (ldO E bb E E E) (kx (lnS Try.underlying25 E) (Ev.nxw (Ev.callW E (cns E (cns E E)) (spec_l00Src_pick_p_ok gz gA dn (a6.length:Int) j1 gB dx _ fq)) fun iE cm ft=>?_)))))))))))
 obtain ⟨bA,iF,aw⟩:=ft
 have bA:iE = .int .i64 ab:=bA
 subst bA
 have iG:cm[j1]? = some (.live ⟨.box,142,3,[[.sl none (dP.map (cI .u8)),.int .i64 dQ,.int .u64 dR]]⟩):=iF
 have aw:Fr [j1] gB cm:=aw
 have iH:=aw _ _ (niC (Ne.symm af) niN) dw
 have cq:=aw _ _ (niC (Ne.symm J) niN) bo
 have iI:=aw _ _ (niC (Ne.symm ah) niN) bb
 have fu:Fr [j1,j2] M0 cm:=Fr.call db aw (fwI (by simp) fwN)
 refine kx (faO bm cq E) (kw (stO E E cq E E ⟨E,ble E⟩ E E) fun cr aH=>?_)
 have iJ:=set_ne aH aa iH
 have ct:cr[M2.length]? = some (.live ⟨.box,36,6,[[.int .i64 (IntKind.i64.wrap (a4 + Y)),.int .i8 0,.int .i64 ab,.int .i64 0,.int .i64 0,.int .i64 0]]⟩):=set_same aH cq
 have iK:=set_ne aH J iG
 have bB:=set_ne aH ac iI
 have fw:=Fr.setNew fu aH ae
 obtain ⟨O,fA,h⟩:=bind_some h
 obtain ⟨⟨bC,aV,aZ,a8⟩,fB,h⟩:=bind_some h
 refine Rn (hV (.loc j1 1 0 0) bX (hV (.loc j2 1 0 0) dp (hV (.loc M0.length 1 0 0) dq (hV (.int .i64 (a5.length:Int)) dt (hV (.loc M2.length 1 0 0) bm hZ))))) fun lU iL dS iM iN dT=>sN (sq (Rd (kf (mvO dS) (kf (ncO E bB E) (kf (faO E bB E) (kf (ldO E bB E E E) (kf (faO dT ct E) (kf (ldO E ct E E E) (kf (ixS E E fA Tally.fl) (kf (mvO E) (fZ (Rn (hA iL (hA dS (hA iM (hA iN (hA dT (hN E hZ)))))) fun lV dU iO iP iQ iR iS=>sN (sq (sq (Rg (kx (mvO dU) (Ev.nxw (Ev.callW E (cns E (cns E E)) (spec_l00Src_pick_p_ok dP dQ dR 5 j1 cr iK _ fB)) fun iT cw fC=>?_)))))))))))))))))
 obtain ⟨bD,iU,ax⟩:=fC
 have bD:iT = .int .i64 bC:=bD
 subst bD
 have dV:cw[j1]? = some (.live ⟨.box,142,3,[[.sl none (aV.map (cI .u8)),.int .i64 aZ,.int .u64 a8]]⟩):=iU
 have ax:Fr [j1] cr cw:=ax
 have dW:=ax _ _ (niC (Ne.symm af) niN) iJ
 have dX:=ax _ _ (niC (Ne.symm J) niN) ct
 have dY:=ax _ _ (niC (Ne.symm ah) niN) bB
 have dc:Fr [j1,j2] M0 cw:=Fr.call fw ax (fwI (by simp) fwN)
 obtain ⟨dZ,bF,h⟩:=bind_some h
 refine Rn (hA dU (hA iO (hA iP (hA iQ (hA iR (hA iS (hN E hZ))))))) fun lW iV iW iX iY iZ ja d5=>sN (bl (sq ?_))
 refine Ev.cut (Q1:=spec_l07NextDeal_pp_c2_Q a4 a5 a6 Y ab O bC aV aZ a8 M0.length M2.length j1 j2 M0 dZ) (by
     have h:=bF
     refine sq (Rg (kx (bEql d5 E) (kx (mvO E) (Rn (hA iV (hA iW (hA iX (hA iY (hA iZ (hA ja (hA d5 (hN E hZ)))))))) fun lX d6 d7 d8 d9 ea ed cC cD=>sN ?_))))
     rcases ite_some h with ⟨bG,h⟩ | ⟨bG,h⟩
     ·refine cT cD bG (xx ?_)
      obtain rfl:=si h
      exact kd (show spec_l07NextDeal_pp_c2_Q a4 a5 a6 Y ab O bC aV aZ a8 M0.length M2.length j1 j2 M0 _ _ from ⟨E,d6,d7,d8,d9,ea,ed,cC,cD,dW,dX,dV,dY,dc⟩)
     refine cF cD bG (Rg (kx (bEql cC E) (kx (mvO E) (Rn (hA d6 (hA d7 (hA d8 (hA d9 (hA ea (hA ed (hA cC (hN E hZ)))))))) fun lY jb jc jd je jf jh ji jj=>?_))))
     obtain rfl:=si h
     exact kd (show spec_l07NextDeal_pp_c2_Q a4 a5 a6 Y ab O bC aV aZ a8 M0.length M2.length j1 j2 M0 _ _ from ⟨E,jb,jc,jd,je,jf,jh,ji,jj,dW,dX,dV,dY,dc⟩)) ?_
 revert h bF
 revert dZ
 intro lZ bF h
 intro x l5 l6 fD
 obtain ⟨rfl,ee,jk,eo,jm,cE,ep,jo,eu,cG,ai,cH,cJ,bH⟩:=fD
 refine sN ?_
 rcases ite_some h with ⟨bI,h⟩ | ⟨bI,h⟩
 ·refine cT eu bI (sq (Rg (kx (faO cE ai E) (kw (stO E E ai E E ⟨E,ble E⟩ E E) fun jp aI=>?_))))
  have jq:=set_ne aI aa cG
  have cK:jp[M2.length]? = some (.live ⟨.box,36,6,[[.int .i64 (IntKind.i64.wrap (a4 + Y)),.int .i8 2,.int .i64 ab,.int .i64 0,.int .i64 0,.int .i64 0]]⟩):=set_same aI ai
  have jr:=set_ne aI J cH
  have js:=set_ne aI ac cJ
  have fE:=Fr.setNew bH aI ae
  refine Rn (hV (.loc j1 1 0 0) ee (hV (.loc M0.length 1 0 0) eo (hV (.int .i64 (a5.length:Int)) jm (hV (.loc M2.length 1 0 0) cE (hV (.pt none [.int .i64 O.Debtor,.int .i64 O.Holder,.int .i64 O.Cut,.int .i64 O.Amount,.int .i64 O.Left]) ep hZ))))) fun l7 jt ju jv ew jz=>sN (sq (Rg (kx (mvO jz) (kx (ncP E) (kx (faP E ⟨ble E,blt E⟩ E) (kx (ldP E E) (kx (faO ew cK E) (kw (stO E E cK E E ⟨E,ble E⟩ E E) fun cM aJ=>?_))))))))
  have jA:=set_ne aJ aa jq
  have cN:cM[M2.length]? = some (.live ⟨.box,36,6,[[.int .i64 (IntKind.i64.wrap (a4 + Y)),.int .i8 2,.int .i64 ab,.int .i64 O.Holder,.int .i64 0,.int .i64 0]]⟩):=set_same aJ cK
  have jB:=set_ne aJ J jr
  have jC:=set_ne aJ ac js
  have fF:=Fr.setNew fE aJ ae
  obtain ⟨⟨jD,jE,jF,jG⟩,fG,h⟩:=bind_some h
  refine Rn (hA jt (hA ju (hA jv (hA ew hZ)))) fun l8 jH jI ex bJ=>sN (RdS (kgS (faO bJ cN E) (kgS (ldO E cN E E E) (kfS (bAdd E E) (kfS (mvO jH) (kfS (mvO ex) (kfS (bSub E E) (kfS (mvO ex) (fZS (Ev.nxw (Ev.callW E (cns E (cns E E)) (spec_l00Src_pick_p_ok aV aZ a8 (IntKind.i64.wrap ((a5.length:Int) - 1)) j1 cM jB _ fG)) fun jJ cO fH=>?_))))))))))
  obtain ⟨bK,jK,ay⟩:=fH
  have bK:jJ = .int .i64 jD:=bK
  subst bK
  have jL:cO[j1]? = some (.live ⟨.box,142,3,[[.sl none (jE.map (cI .u8)),.int .i64 jF,.int .u64 jG]]⟩):=jK
  have ay:Fr [j1] cM cO:=ay
  have jM:=ay _ _ (niC (Ne.symm af) niN) jA
  have bj:=ay _ _ (niC (Ne.symm J) niN) cN
  have jN:=ay _ _ (niC (Ne.symm ah) niN) jC
  have fI:Fr [j1,j2] M0 cO:=Fr.call fF ay (fwI (by simp) fwN)
  obtain ⟨ey,fJ,h⟩:=bind_some h
  refine ck (ckP (ldO E bj E E E) (ckP (faO bJ bj E) ck0)) (kx (bAdd E E) (ck (ckD E (ckD E ck0)) (kx (bRem E E fJ) (ck (ckD E (ckD E ck0)) (kx (faO bJ bj E) (ck (ckD E (ckD E ck0)) (kw (stO E E bj E E ⟨E,ble E⟩ E E) fun jO aK=>?_)))))))
  have ez:=set_ne aK aa jM
  have eA:jO[M2.length]? = some (.live ⟨.box,36,6,[[.int .i64 (IntKind.i64.wrap (a4 + Y)),.int .i8 2,.int .i64 ab,.int .i64 O.Holder,.int .i64 ey,.int .i64 0]]⟩):=set_same aK bj
  have jP:=set_ne aK J jL
  have jQ:=set_ne aK ac jN
  have fK:=Fr.setNew fI aK ae
  refine ck (ckD E (ckD E ck0)) (Rn (hA jI (hA bJ hZ)) fun l9 eB jR=>bN (sN (sq (Rg (kx (ldOA jR eA E E (ble E) E) (kw (stO eB E ez E E ⟨E,ble E⟩ E E) fun jS aL=>?_))))))
  have jT:jS[M0.length]? = some (.live ⟨.box,36,6,[[.int .i64 (IntKind.i64.wrap (a4 + Y)),.int .i8 2,.int .i64 ab,.int .i64 O.Holder,.int .i64 ey,.int .i64 0]]⟩):=set_same aL ez
  have ma:=set_ne aL (Ne.symm aa) eA
  have jU:=set_ne aL af jP
  have jV:=set_ne aL cZ jQ
  have fL:=Fr.setNew fK aL cY
  refine Rn (hA eB hZ) fun me jW=>sN (xx ?_)
  obtain rfl:=si h
  exact eR (resC (ag:=true) (sz:=6) ⟨by kernel_rfl,by kernel_rfl,by kernel_rfl⟩ (ldOA jW jT E E (ble E) E) res0) ⟨E,jU,jV,fL⟩
 refine cF eu bI (sq (Rg (kx (bEql jo E) (kx (mvO E) (Rn (hV (.loc j1 1 0 0) ee (hV (.loc j2 1 0 0) jk (hV (.loc M0.length 1 0 0) eo (hV (.loc M2.length 1 0 0) cE (hV (.pt none [.int .i64 O.Debtor,.int .i64 O.Holder,.int .i64 O.Cut,.int .i64 O.Amount,.int .i64 O.Left]) ep (hN E hZ)))))) fun mf jX jY eC bL eD eE=>sN ?_)))))
 rcases ite_some h with ⟨bM,h⟩ | ⟨bM,h⟩
 ·refine cT eE bM (sq (Rg (kx (faO bL ai E) (kw (stO E E ai E E ⟨E,ble E⟩ E E) fun jZ aM=>?_))))
  have j7:=set_ne aM aa cG
  have cQ:jZ[M2.length]? = some (.live ⟨.box,36,6,[[.int .i64 (IntKind.i64.wrap (a4 + Y)),.int .i8 4,.int .i64 ab,.int .i64 0,.int .i64 0,.int .i64 0]]⟩):=set_same aM ai
  have j8:=set_ne aM J cH
  have j9:=set_ne aM ac cJ
  have fM:=Fr.setNew bH aM ae
  refine Rn (hA eC (hA bL (hA eD hZ))) fun mg ke eF kg=>sN (Rg (kx (mvO kg) (kx (ncP E) (kx (faP E ⟨ble E,blt E⟩ E) (kx (ldP E E) (kx (faO eF cQ E) (kw (stO E E cQ E E ⟨E,ble E⟩ E E) fun kh aN=>?_)))))))
  have eG:=set_ne aN aa j7
  have eH:kh[M2.length]? = some (.live ⟨.box,36,6,[[.int .i64 (IntKind.i64.wrap (a4 + Y)),.int .i8 4,.int .i64 ab,.int .i64 O.Holder,.int .i64 0,.int .i64 0]]⟩):=set_same aN cQ
  have ki:=set_ne aN J j8
  have kj:=set_ne aN ac j9
  have fN:=Fr.setNew fM aN ae
  refine Rn (hA ke (hA eF hZ)) fun mh eJ kl=>bN (sN (sq (Rg (kx (ldOA kl eH E E (ble E) E) (kw (stO eJ E eG E E ⟨E,ble E⟩ E E) fun km aO=>?_)))))
  have ko:km[M0.length]? = some (.live ⟨.box,36,6,[[.int .i64 (IntKind.i64.wrap (a4 + Y)),.int .i8 4,.int .i64 ab,.int .i64 O.Holder,.int .i64 0,.int .i64 0]]⟩):=set_same aO eG
  have mi:=set_ne aO (Ne.symm aa) eH
  have kq:=set_ne aO af ki
  have kr:=set_ne aO cZ kj
  have fO:=Fr.setNew fN aO cY
  refine Rn (hA eJ hZ) fun mj ks=>sN (xx ?_)
  obtain rfl:=si h
  exact eR (resC (ag:=true) (sz:=6) ⟨by kernel_rfl,by kernel_rfl,by kernel_rfl⟩ (ldOA ks ko E E (ble E) E) res0) ⟨E,kq,kr,fO⟩
 refine cF eE bM (sq (Rg (kx (faO bL ai E) (kw (stO E E ai E E ⟨E,ble E⟩ E E) fun cR aP=>?_))))
 have kv:=set_ne aP aa cG
 have ky:cR[M2.length]? = some (.live ⟨.box,36,6,[[.int .i64 (IntKind.i64.wrap (a4 + Y)),.int .i8 3,.int .i64 ab,.int .i64 0,.int .i64 0,.int .i64 0]]⟩):=set_same aP ai
 have kz:=set_ne aP J cH
 have bP:=set_ne aP ac cJ
 have fP:=Fr.setNew bH aP ae
 obtain ⟨kA,fQ,h⟩:=bind_some h
 obtain ⟨eK,fR,h⟩:=bind_some h
 obtain ⟨eL,fS,h⟩:=bind_some h
 obtain ⟨⟨cU,kC,kD,kE⟩,fT,h⟩:=bind_some h
 refine Rn (hA jX (hA jY (hA eC (hA bL (hA eD hZ))))) fun ml kF kG kH eM eO=>sN (Rd (kf (mvO kF) (kf (mvO eO) (kf (ncP E) (kf (faP E ⟨ble E,blt E⟩ E) (kf (ldP E E) (kf (mvO kG) (kf (ncO E bP E) (kf (faO E bP E) (kf (ldO E bP E E E) (kf (mvO eO) (kf (ncP E) (kf (faP E ⟨ble E,blt E⟩ E) (kf (ldP E E) (kf (ixS E E fQ (cI_fl _)) (kf (ldP E E) (fc (cl (v:=.int .i64 eK) E E (cns E (cns E E)) E (spec_l00Min_ok O.Left kA _ fR) nm) (fc (cl (v:=.int .i64 eL) E E (cns E (cns E E)) E (spec_l00Max_ok eK 1 _ fS) nm) (fZ (Ev.nxw (Ev.callW E (cns E (cns E E)) (spec_l00Src_pick_p_ok aV aZ a8 eL j1 cR kz _ fT)) fun kJ cV fU=>?_))))))))))))))))))))
 obtain ⟨bS,kK,az⟩:=fU
 have bS:kJ = .int .i64 cU:=bS
 subst bS
 have kL:cV[j1]? = some (.live ⟨.box,142,3,[[.sl none (kC.map (cI .u8)),.int .i64 kD,.int .u64 kE]]⟩):=kK
 have az:Fr [j1] cR cV:=az
 have kM:=az _ _ (niC (Ne.symm af) niN) kv
 have cW:=az _ _ (niC (Ne.symm J) niN) ky
 have kN:=az _ _ (niC (Ne.symm ah) niN) bP
 have fV:Fr [j1,j2] M0 cV:=Fr.call fP az (fwI (by simp) fwN)
 refine kx (bAdd E E) (kx (faO eM cW E) (kw (stO E E cW E E ⟨E,ble E⟩ E E) fun kO aR=>?_))
 have eP:=set_ne aR aa kM
 have eQ:kO[M2.length]? = some (.live ⟨.box,36,6,[[.int .i64 (IntKind.i64.wrap (a4 + Y)),.int .i8 3,.int .i64 ab,.int .i64 0,.int .i64 0,.int .i64 (IntKind.i64.wrap (1 + cU))]]⟩):=set_same aR cW
 have kP:=set_ne aR J kL
 have kQ:=set_ne aR ac kN
 have fW:=Fr.setNew fV aR ae
 refine Rn (hA kH (hA eM hZ)) fun mm eS kR=>bN (sN (sq (Rg (kx (ldOA kR eQ E E (ble E) E) (kw (stO eS E eP E E ⟨E,ble E⟩ E E) fun kT aS=>?_)))))
 have kU:kT[M0.length]? = some (.live ⟨.box,36,6,[[.int .i64 (IntKind.i64.wrap (a4 + Y)),.int .i8 3,.int .i64 ab,.int .i64 0,.int .i64 0,.int .i64 (IntKind.i64.wrap (1 + cU))]]⟩):=set_same aS eP
 have mn:=set_ne aS (Ne.symm aa) eQ
 have kV:=set_ne aS af kP
 have kW:=set_ne aS cZ kQ
 have fX:=Fr.setNew fW aS cY
 refine Rn (hA eS hZ) fun mo kX=>sN (xx ?_)
 obtain rfl:=si h
 exact eR (resC (ag:=true) (sz:=6) ⟨by kernel_rfl,by kernel_rfl,by kernel_rfl⟩ (ldOA kX kU E E (ble E) E) res0) ⟨E,kV,kW,fX⟩
abbrev spec_l07Drawn_p_b1_S:=Int×Int×(List Int)×(List Int)×Int×Int
abbrev spec_l07Drawn_p_b1_R:=Int×(List Int)×(List Int)×Int×Int
def spec_l07Drawn_p_b1_RS (J:Nat) (O:Nat) (Y:Nat) (aa:Nat) (j1:Nat) (M0:Mem) (s:spec_l07Drawn_p_b1_S) (e:Env) (M:Mem):Prop:=eget e 0 = .loc j1 1 0 0∧eget e 2 = .loc O 1 0 0∧eget e 4 = .loc aa 1 0 0∧eget e 5 = .int .i64 s.1∧M[O]? = some (.live ⟨.box,27,3,[[.int .i64 0,.nils,.nils]]⟩)∧M[aa]? = some (.live ⟨.box,27,3,[[.int .i64 s.2.1,.lsl Y s.2.2.1.length 0 s.2.2.1.length,.lsl J ([]:List Tally).length 0 ([]:List Tally).length]]⟩)∧M[Y]? = some (.live ⟨.grow,2,1,s.2.2.1.map (cI .i64)⟩)∧M[J]? = some (.live ⟨.grow,49,5,([]:List Tally).map Tally.c⟩)∧M[j1]? = some (.live ⟨.box,142,3,[[.sl none (s.2.2.2.1.map (cI .u8)),.int .i64 s.2.2.2.2.1,.int .u64 s.2.2.2.2.2]]⟩)∧Fr [j1] M0 M
def spec_l07Drawn_p_b1_RR (J:Nat) (O:Nat) (Y:Nat) (aa:Nat) (j1:Nat) (M0:Mem) (g:spec_l07Drawn_p_b1_R) (x:Ex) (e:Env) (M:Mem):Prop:=x = .ext 0∧eget e 0 = .loc j1 1 0 0∧eget e 2 = .loc O 1 0 0∧eget e 4 = .loc aa 1 0 0∧M[O]? = some (.live ⟨.box,27,3,[[.int .i64 0,.nils,.nils]]⟩)∧M[aa]? = some (.live ⟨.box,27,3,[[.int .i64 g.1,.lsl Y g.2.1.length 0 g.2.1.length,.lsl J ([]:List Tally).length 0 ([]:List Tally).length]]⟩)∧M[Y]? = some (.live ⟨.grow,2,1,g.2.1.map (cI .i64)⟩)∧M[J]? = some (.live ⟨.grow,49,5,([]:List Tally).map Tally.c⟩)∧M[j1]? = some (.live ⟨.box,142,3,[[.sl none (g.2.2.1.map (cI .u8)),.int .i64 g.2.2.2.1,.int .u64 g.2.2.2.2]]⟩)∧Fr [j1] M0 M
noncomputable def spec_l07Drawn_p_b1:spec_l07Drawn_p_b1_S→Option (spec_l07Drawn_p_b1_S⊕spec_l07Drawn_p_b1_R):=fun (J,O,Y,aa,ab,ac)=>
 if (decide (J > 0))=true then
  (spec_l00Src_pick_p aa ab ac 100).bind fun (ae,af,ah,ai)=>
  (app 8 Y [ae]).bind fun ao=>
  some (.inl ((IntKind.i64.wrap (J - 1)),O,ao,af,ah,ai))
 else
  some (.inr (O,Y,aa,ab,ac))
theorem spec_l07Drawn_p_b1_ok (Y:Nat) (aa:Nat) (J:Nat) (O:Nat) (j1:Nat) (M0:Mem) (aV:aa≠O) (aZ:aa≠J) (cr:aa≠Y) (aB:O≠J) (a8:O≠Y) (ba:J≠Y) (cq:j1≠aa) (aC:j1≠O) (aD:j1≠J) (bb:j1≠Y) (cH:Nf [j1] M0 aa) (bf:Nf [j1] M0 O) (bi:Nf [j1] M0 J) (ct:Nf [j1] M0 Y) (s:spec_l07Drawn_p_b1_S) (r:spec_l07Drawn_p_b1_S⊕spec_l07Drawn_p_b1_R) (h:spec_l07Drawn_p_b1 s=some r) (e:Env) (M:Mem) (hs:spec_l07Drawn_p_b1_RS Y aa J O j1 M0 s e M):Ev (fun k=>(f50_l3 (CN k) k (prune [0,2,4,5] e) M).bind fun q=>some q) (bQ (spec_l07Drawn_p_b1_RS Y aa J O j1 M0) (spec_l07Drawn_p_b1_RR Y aa J O j1 M0) r):=by
 obtain ⟨bj,bm,cw,bo,bq,bu⟩:=s
 unfold spec_l07Drawn_p_b1 at h
 obtain ⟨bv,bw,bz,bA,aE,ao,aF,aG,aH,aA⟩:=hs
 generalize ah:prune [0,2,4,5] e=cC
 have bB:=envp ah.symm E bv
 have bC:=envp ah.symm E bw
 have bD:=envp ah.symm E bz
 have aI:=envp ah.symm E bA
 refine sq (sq (Rg (kx (mvO aI) (kx (bGtr E E) (Rn (hV (.loc j1 1 0 0) bB (hV (.loc aa 1 0 0) bC (hV (.loc O 1 0 0) bD (hV (.int .i64 bj) aI (hN E hZ))))) fun cD aw aJ af bF aK=>sN ?_)))))
 rcases ite_some h with ⟨aq,h⟩ | ⟨aq,h⟩
 ·obtain ⟨⟨aL,bG,bH,bI⟩,aO,h⟩:=bind_some h
  refine cT aK aq (xx (sN (sq (bl (RdS (kgS (faO af ao E) (kgS (ldO E ao E E E) (kfS (mvO aw) (fZS (Ev.nxw (Ev.callW E (cns E (cns E E)) (spec_l00Src_pick_p_ok bo bq bu 100 j1 M aH _ aO)) fun bJ ax aP=>?_))))))))))
  obtain ⟨au,bK,ab⟩:=aP
  have au:bJ = .int .i64 aL:=au
  subst au
  have bL:ax[j1]? = some (.live ⟨.box,142,3,[[.sl none (bG.map (cI .u8)),.int .i64 bH,.int .u64 bI]]⟩):=bK
  have ab:Fr [j1] M ax:=ab
  have bM:=ab _ _ (niC (Ne.symm cq) niN) aE
  have ai:=ab _ _ (niC (Ne.symm aC) niN) ao
  have aM:=ab _ _ (niC (Ne.symm aD) niN) aF
  have bP:=ab _ _ (niC (Ne.symm bb) niN) aG
  have aR:Fr [j1] M0 ax:=Fr.call aA ab (fwI (by simp) fwN)
  obtain ⟨ay,aS,h⟩:=bind_some h
  refine ck (ckP (ldO E ai E E E) (ckP (faO af ai E) ck0)) (kx (litI (cns E E) E ⟨E,by decide⟩) (ck (ckP (ldO E ai E E E) (ckP (faO af ai E) ck0)) (kw (apO E aM E (elT (c:=(cI .i64)) (xs:=[aL]) E) aS (cI_fl _) (by decide)) fun bS ac=>?_)))
  have bT:=set_ne ac aD bL
  have bU:=set_ne ac aZ bM
  have az:=set_ne ac aB ai
  have aN:bS[J]? = some (.live ⟨.grow,2,1,ay.map (cI .i64)⟩):=set_same ac aM
  have bV:=set_ne ac (Ne.symm ba) bP
  have aT:=Fr.setNew aR ac bi
  refine ck (ckD E (ckD E ck0)) (kx (faO af az E) (ck (ckD E (ckD E ck0)) (kw (stO E E az E E ⟨E,ble E⟩ (all1 (okL aN (by simp)) all0) E) fun bW ae=>?_)))
  have bX:=set_ne ae aC bT
  have bY:=set_ne ae aV bU
  have bZ:bW[O]? = some (.live ⟨.box,27,3,[[.int .i64 bm,.lsl J ay.length 0 ay.length,.lsl Y ([]:List Tally).length 0 ([]:List Tally).length]]⟩):=set_same ae az
  have b7:=set_ne ae (Ne.symm aB) aN
  have b8:=set_ne ae (Ne.symm a8) bV
  have aU:=Fr.setNew aT ae bf
  refine ck (ckD E (ckD E ck0)) (Rn (hA aw (hA aJ (hA af (hA bF hZ)))) fun cE b9 cb cd cf=>bN (sN (Rg (kx (mvO cf) (kx (bSub E E) (kx (mvO E) (Rn (hA b9 (hA cb (hA cd (hN E hZ)))) fun cG cg ci cj cm=>?_)))))))
  obtain rfl:=si h
  exact qN ⟨cg,ci,cj,cm,bY,(by simpa using bZ),b7,b8,bX,aU⟩
 refine cF aK aq (xx (sE ?_))
 obtain rfl:=si h
 exact qE ⟨E,aw,aJ,af,aE,(by simpa using ao),aF,aG,aH,aA⟩
abbrev spec_l07Drawn_p_b2_S:=Int×Int×(List Int)×(List Tally)×(List Int)×Int×Int
abbrev spec_l07Drawn_p_b2_R:=Int×(List Int)×(List Tally)×(List Int)×Int×Int
def spec_l07Drawn_p_b2_RS (J:Nat) (O:Nat) (j1:Nat) (M0:Mem) (s:spec_l07Drawn_p_b2_S) (e:Env) (M:Mem):Prop:=eget e 0 = .loc j1 1 0 0∧eget e 2 = .loc J 1 0 0∧eget e 4 = .loc O 1 0 0∧eget e 6 = .int .i64 s.1∧M[J]? = some (.live ⟨.box,27,3,[[.int .i64 0,.nils,.nils]]⟩)∧M[O]? = some (.live ⟨.box,27,3,[[.int .i64 s.2.1,.sl none (s.2.2.1.map (cI .i64)),.sl none (s.2.2.2.1.map Tally.c)]]⟩)∧M[j1]? = some (.live ⟨.box,142,3,[[.sl none (s.2.2.2.2.1.map (cI .u8)),.int .i64 s.2.2.2.2.2.1,.int .u64 s.2.2.2.2.2.2]]⟩)∧Fr [j1] M0 M
def spec_l07Drawn_p_b2_RR (J:Nat) (O:Nat) (j1:Nat) (M0:Mem) (g:spec_l07Drawn_p_b2_R) (x:Ex) (e:Env) (M:Mem):Prop:=x = .ext 2∧eget e 0 = .loc j1 1 0 0∧eget e 2 = .loc J 1 0 0∧eget e 4 = .loc O 1 0 0∧M[J]? = some (.live ⟨.box,27,3,[[.int .i64 0,.nils,.nils]]⟩)∧M[O]? = some (.live ⟨.box,27,3,[[.int .i64 g.1,.sl none (g.2.1.map (cI .i64)),.sl none (g.2.2.1.map Tally.c)]]⟩)∧M[j1]? = some (.live ⟨.box,142,3,[[.sl none (g.2.2.2.1.map (cI .u8)),.int .i64 g.2.2.2.2.1,.int .u64 g.2.2.2.2.2]]⟩)∧Fr [j1] M0 M
noncomputable def spec_l07Drawn_p_b2:spec_l07Drawn_p_b2_S→Option (spec_l07Drawn_p_b2_S⊕spec_l07Drawn_p_b2_R):=fun (aa,J,O,Y,ab,ac,ae)=>
 if (decide (aa > 0))=true then
  (spec_l07NextDeal_pp ab ac ae J O Y).bind fun (ao,aq,au,aw,ax,ay,af,ah,ai)=>
  (spec_l07Do (Book.mk J O Y) (Deal.mk ao aq au aw ax ay)).bind fun r=>match r with
  | (.inl az)=>
   if (az==0)=true then
    none
   else
    some (.inl ((IntKind.i64.wrap (aa - 1)),J,O,Y,af,ah,ai))
  | (.inr (aA,aB,aC))=>
   some (.inl ((IntKind.i64.wrap (aa - 1)),aA,aB,aC,af,ah,ai))
 else
  some (.inr (J,O,Y,ab,ac,ae))
theorem spec_l07Drawn_p_b2_ok (ac:Nat) (J:Nat) (j1:Nat) (M0:Mem) (aP:ac≠J) (eG:j1≠ac) (aR:j1≠J) (fm:Nf [j1] M0 ac) (aS:Nf [j1] M0 J) (s:spec_l07Drawn_p_b2_S) (r:spec_l07Drawn_p_b2_S⊕spec_l07Drawn_p_b2_R) (h:spec_l07Drawn_p_b2 s=some r) (e:Env) (M:Mem) (hs:spec_l07Drawn_p_b2_RS ac J j1 M0 s e M):Ev (fun k=>(f50_l7 (CN k) k (prune [0,2,4,6] e) M).bind fun q=>some q) (bQ (spec_l07Drawn_p_b2_RS ac J j1 M0) (spec_l07Drawn_p_b2_RR ac J j1 M0) r):=by
 obtain ⟨cK,aA,aB,aC,cM,cN,cO⟩:=s
 unfold spec_l07Drawn_p_b2 at h
 obtain ⟨cQ,cR,cU,cV,bu,bv,bw,bf⟩:=hs
 generalize ax:prune [0,2,4,6] e=eJ
 have cW:=envp ax.symm E cQ
 have cX:=envp ax.symm E cR
 have cY:=envp ax.symm E cU
 have bz:=envp ax.symm E cV
 refine sq (sq (Rg (kx (mvO bz) (kx (bGtr E E) (Rn (hV (.loc j1 1 0 0) cW (hV (.loc ac 1 0 0) cX (hV (.loc J 1 0 0) cY (hV (.int .i64 cK) bz (hN E hZ))))) fun eK aT bA aU cZ bB=>sN ?_)))))
 rcases ite_some h with ⟨aD,h⟩ | ⟨aD,h⟩
 ·obtain ⟨⟨aE,aF,aG,aH,aI,aJ,da,db,dc⟩,b8,h⟩:=bind_some h
  refine cT bB aD (xx (sN (sq (bl (sq (Rg (kx (mvO aT) (Ev.nxw (Ev.callW E (cns E (cns aU E)) (spec_l07NextDeal_pp_ok cM cN cO aA aB aC j1 J aR M bw bv _ b8)) fun de ae b9=>?_))))))))
  obtain ⟨aK,df,dg,ay⟩:=b9
  have aK:de = .agg [.int .i64 aE,.int .i8 aF,.int .i64 aG,.int .i64 aH,.int .i64 aI,.int .i64 aJ]:=aK
  subst aK
  have bC:ae[j1]? = some (.live ⟨.box,142,3,[[.sl none (da.map (cI .u8)),.int .i64 db,.int .u64 dc]]⟩):=df
  have bD:ae[J]? = some (.live ⟨.box,27,3,[[.int .i64 aA,.sl none (aB.map (cI .i64)),.sl none (aC.map Tally.c)]]⟩):=dg
  have ay:Fr [j1,J] M ae:=ay
  have bF:=ay _ _ (niC (Ne.symm eG) (niC aP niN)) bu
  have bi:Fr [j1] M0 ae:=Fr.call bf ay (fwI (by simp) (fwO aS fwN))
  refine ku (alO zero36) fun di ah=>?_
  have cb:=Nf.mk bi
  have cd:=Fr.push bi ah
  have dj:=push_old ah bF
  have cf:=ne_new bF
  have dk:=push_old ah bD
  have cg:=ne_new bD
  have dl:=push_old ah bC
  have ci:=ne_new bC
  have bG:di[ae.length]? = some (.live ⟨.box,36,6,[[.int .i64 0,.int .i8 0,.int .i64 0,.int .i64 0,.int .i64 0,.int .i64 0]]⟩):=push_new ah
  refine kw (stO E E bG E E ⟨E,ble E⟩ E E) fun af ai=>?_
  have aL:=set_ne ai cf dj
  have au:=set_ne ai cg dk
  have aM:=set_ne ai ci dl
  have aw:af[ae.length]? = some (.live ⟨.box,36,6,[[.int .i64 aE,.int .i8 aF,.int .i64 aG,.int .i64 aH,.int .i64 aI,.int .i64 aJ]]⟩):=set_same ai bG
  have az:=Fr.setNew cd ai cb
  obtain ⟨dm,bj,h⟩:=bind_some h
  refine Rn (hA aT (hA bA (hA aU (hA cZ (hV (.loc ae.length 1 0 0) E hZ))))) fun eL bH bI aN bJ bK=>sN (sq (Rg ?_))
  rcases dm with dn | ⟨aV,aZ,a8⟩
  ·refine kc (cl (v:=.tup [.agg [.int .i64 0,.nils,.nils],.int .i64 dn]) E E (cns aN (cns bK E)) (ra1 (ra1_loc au E E E ⟨E,blt E⟩) (ra1 (ra1_loc aw E E E ⟨E,blt E⟩) ra0)) (spec_l07Do_ok (Book.mk aA aB aC) (Deal.mk aE aF aG aH aI aJ) _ bj) (fun _=>(own_tup (oa1 (own2_agg (oa1 E (oa1 E (oa1 E oa0)))) (oa1 E oa0))))) (kx (mvO E) (kx (exT E E) (kx (exT E E) (ku (alO zero27) fun dp O=>?_))))
   have cj:=Nf.mk az
   have cm:=Fr.push az O
   have dq:=push_old O aL
   have cq:=ne_new aL
   have dt:=push_old O au
   have bm:=ne_new au
   have du:=push_old O aM
   have cr:=ne_new aM
   have dw:=push_old O aw
   have ct:=ne_new aw
   have bL:dp[af.length]? = some (.live ⟨.box,27,3,[[.int .i64 0,.nils,.nils]]⟩):=push_new O
   refine kw (stO E E bL E E ⟨E,ble E⟩ E E) fun dx Y=>?_
   have bM:=set_ne Y cq dq
   have ba:=set_ne Y bm dt
   have bP:=set_ne Y cr du
   have eM:=set_ne Y ct dw
   have bS:dx[af.length]? = some (.live ⟨.box,27,3,[[.int .i64 0,.nils,.nils]]⟩):=set_same Y bL
   have bo:=Fr.setNew cm Y cj
   refine kx (mvO E) (Rn (hA bH (hA bI (hA aN (hA bJ (hV (.loc af.length 1 0 0) E (hN E hZ)))))) fun eO dz dA dC dD dE dF=>sN (sq (Rg (kx (mvO dF) (kx (bEql E E) (Rn (hA dz (hA dA (hA dC (hA dD (hA dE (hN E hZ)))))) fun eP bT bU bb bV dG bW=>sN ?_))))))
   rcases ite_some h with ⟨aO,h⟩ | ⟨aO,h⟩
   ·refine cT bW aO (Rg (kx (ldOA dG bS E E (ble E) E) (kw (stO bb E ba E E ⟨E,ble E⟩ E E) fun dH ao=>?_)))
    have eQ:=set_ne ao aP bM
    have eS:dH[J]? = some (.live ⟨.box,27,3,[[.int .i64 0,.nils,.nils]]⟩):=set_same ao ba
    have eT:=set_ne ao aR bP
    have eU:=set_ne ao (Ne.symm bm) bS
    have eH:=Fr.setNew bo ao aS
    refine Rn (hA bT (hA bU (hA bb (hA bV hZ)))) fun eV dI dJ dK dL=>bN (sN (Rg (kx (mvO dL) (kx (bSub E E) (kx (mvO E) (Rn (hA dI (hA dJ (hA dK (hN E hZ)))) fun eW eX eY eZ fa=>?_))))))
    cases h
   refine cF bW aO (xx (bN (sN (Rg (kx (mvO bV) (kx (bSub E E) (kx (mvO E) (Rn (hA bT (hA bU (hA bb (hN E hZ)))) fun fd dM dN dO dP=>?_))))))))
   obtain rfl:=si h
   exact qN ⟨dM,dN,dO,dP,bM,ba,bP,bo⟩
  refine kc (cl (v:=.tup [.agg [.int .i64 aV,.sl (some 2) (aZ.map (cI .i64)),.sl (some 49) (a8.map Tally.c)],.int .i64 0]) E E (cns aN (cns bK E)) (ra1 (ra1_loc au E E E ⟨E,blt E⟩) (ra1 (ra1_loc aw E E E ⟨E,blt E⟩) ra0)) (spec_l07Do_ok (Book.mk aA aB aC) (Deal.mk aE aF aG aH aI aJ) _ bj) (fun _=>(own_tup (oa1 (own2_agg (oa1 E (oa1 (own1_row' (c:=(cI .i64)) (fun _=>E)) (oa1 (own1_row' (c:=Tally.c) Tally.flF) oa0)))) (oa1 E oa0))))) (kx (mvO E) (kx (exT E E) (kx (exT E E) (ku (alO zero27) fun dQ aa=>?_))))
  have cw:=Nf.mk az
  have cC:=Fr.push az aa
  have dR:=push_old aa aL
  have cD:=ne_new aL
  have dS:=push_old aa au
  have bq:=ne_new au
  have dT:=push_old aa aM
  have cE:=ne_new aM
  have dU:=push_old aa aw
  have cG:=ne_new aw
  have bX:dQ[af.length]? = some (.live ⟨.box,27,3,[[.int .i64 0,.nils,.nils]]⟩):=push_new aa
  refine kw (stO E E bX E E ⟨E,ble E⟩ E E) fun dV ab=>?_
  have dW:=set_ne ab cD dR
  have bY:=set_ne ab bq dS
  have dX:=set_ne ab cE dT
  have ff:=set_ne ab cG dU
  have bZ:dV[af.length]? = some (.live ⟨.box,27,3,[[.int .i64 aV,.sl none (aZ.map (cI .i64)),.sl none (a8.map Tally.c)]]⟩):=set_same ab bX
  have cH:=Fr.setNew cC ab cw
  refine kx (mvO E) (Rn (hA bH (hA bI (hA aN (hA bJ (hV (.loc af.length 1 0 0) E (hV (.int .i64 0) E hZ)))))) fun fg dY dZ d5 d6 d7 d8=>sN (sq (Rg (kx (mvO d8) (kx (bEql E E) (Rn (hA dY (hA dZ (hA d5 (hA d6 (hA d7 (hV (.bool true) E hZ)))))) fun fh d9 ea b7 ed ee eo=>sN (cT eo E (Rg (kx (ldOA ee bZ E E (ble E) E) (kw (stO b7 E bY E E ⟨E,ble E⟩ E E) fun ep aq=>?_))))))))))
  have eu:=set_ne aq aP dW
  have ew:ep[J]? = some (.live ⟨.box,27,3,[[.int .i64 aV,.sl none (aZ.map (cI .i64)),.sl none (a8.map Tally.c)]]⟩):=set_same aq bY
  have ex:=set_ne aq aR dX
  have fi:=set_ne aq (Ne.symm bq) bZ
  have cJ:=Fr.setNew cH aq aS
  refine Rn (hA d9 (hA ea (hA b7 (hA ed hZ)))) fun fj ey ez eA eB=>bN (sN (Rg (kx (mvO eB) (kx (bSub E E) (kx (mvO E) (Rn (hA ey (hA ez (hA eA (hN E hZ)))) fun fk eC eD eE eF=>?_))))))
  obtain rfl:=si h
  exact qN ⟨eC,eD,eE,eF,eu,ew,ex,cJ⟩
 refine cF bB aD (xx (sE ?_))
 obtain rfl:=si h
 exact qE ⟨E,aT,bA,aU,bu,bv,bw,bf⟩
abbrev spec_l07Drawn_p_b3_S:=Int×(List Deal)×Int×(List Int)×(List Tally)×(List Int)×Int×Int
abbrev spec_l07Drawn_p_b3_R:=(List Deal)×Int×(List Int)×(List Tally)×(List Int)×Int×Int
def spec_l07Drawn_p_b3_RS (ab:Int) (ac:List Int) (ae:List Tally) (J:Nat) (O:Nat) (Y:Nat) (aa:Nat) (j1:Nat) (M0:Mem) (s:spec_l07Drawn_p_b3_S) (e:Env) (M:Mem):Prop:=eget e 0 = .loc j1 1 0 0∧eget e 2 = .loc J 1 0 0∧eget e 4 = .loc O 1 0 0∧eget e 10 = .lsl Y s.2.1.length 0 s.2.1.length∧eget e 11 = .loc aa 1 0 0∧eget e 12 = .int .i64 s.1∧M[J]? = some (.live ⟨.box,27,3,[[.int .i64 0,.nils,.nils]]⟩)∧M[O]? = some (.live ⟨.box,27,3,[[.int .i64 ab,.sl none (ac.map (cI .i64)),.sl none (ae.map Tally.c)]]⟩)∧M[Y]? = some (.live ⟨.grow,36,6,s.2.1.map Deal.c⟩)∧M[aa]? = some (.live ⟨.box,27,3,[[.int .i64 s.2.2.1,.sl none (s.2.2.2.1.map (cI .i64)),.sl none (s.2.2.2.2.1.map Tally.c)]]⟩)∧M[j1]? = some (.live ⟨.box,142,3,[[.sl none (s.2.2.2.2.2.1.map (cI .u8)),.int .i64 s.2.2.2.2.2.2.1,.int .u64 s.2.2.2.2.2.2.2]]⟩)∧Fr [j1] M0 M
def spec_l07Drawn_p_b3_RR (aa:Int) (ab:List Int) (ac:List Tally) (J:Nat) (O:Nat) (Y:Nat) (ae:Nat) (j1:Nat) (M0:Mem) (g:spec_l07Drawn_p_b3_R) (x:Ex) (e:Env) (M:Mem):Prop:=x = .ext 4∧eget e 2 = .loc J 1 0 0∧eget e 4 = .loc O 1 0 0∧eget e 10 = .lsl Y g.1.length 0 g.1.length∧M[J]? = some (.live ⟨.box,27,3,[[.int .i64 0,.nils,.nils]]⟩)∧M[O]? = some (.live ⟨.box,27,3,[[.int .i64 aa,.sl none (ab.map (cI .i64)),.sl none (ac.map Tally.c)]]⟩)∧M[Y]? = some (.live ⟨.grow,36,6,g.1.map Deal.c⟩)∧M[ae]? = some (.live ⟨.box,27,3,[[.int .i64 g.2.1,.sl none (g.2.2.1.map (cI .i64)),.sl none (g.2.2.2.1.map Tally.c)]]⟩)∧M[j1]? = some (.live ⟨.box,142,3,[[.sl none (g.2.2.2.2.1.map (cI .u8)),.int .i64 g.2.2.2.2.2.1,.int .u64 g.2.2.2.2.2.2]]⟩)∧Fr [j1] M0 M
noncomputable def spec_l07Drawn_p_b3:spec_l07Drawn_p_b3_S→Option (spec_l07Drawn_p_b3_S⊕spec_l07Drawn_p_b3_R):=fun (ab,J,O,Y,aa,aq,au,aw)=>
 if (decide (ab > 0))=true then
  (spec_l07NextDeal_pp aq au aw O Y aa).bind fun (ac,ae,af,ah,ai,ao,ax,ay,az)=>
  (spec_l07Do (Book.mk O Y aa) (Deal.mk ac ae af ah ai ao)).bind fun r=>match r with
  | (.inl aA)=>
   if (aA==0)=true then
    (app 48 J [(Deal.mk ac ae af ah ai ao)]).bind fun aF=>
    none
   else
    some (.inl ((IntKind.i64.wrap (ab - 1)),J,O,Y,aa,ax,ay,az))
  | (.inr (aB,aC,aD))=>
   (app 48 J [(Deal.mk ac ae af ah ai ao)]).bind fun aE=>
   some (.inl ((IntKind.i64.wrap (ab - 1)),aE,aB,aC,aD,ax,ay,az))
 else
  some (.inr (J,O,Y,aa,aq,au,aw))
theorem spec_l07Drawn_p_b3_ok (bq:Int) (bu:List Int) (bv:List Tally) (ah:Nat) (ai:Nat) (O:Nat) (J:Nat) (j1:Nat) (M0:Mem) (ii:ah≠ai) (bG:ah≠O) (aL:ah≠J) (bH:ai≠O) (aM:ai≠J) (aB:O≠J) (ie:j1≠ah) (dO:j1≠ai) (aN:j1≠O) (aO:j1≠J) (iR:Nf [j1] M0 ah) (ij:Nf [j1] M0 ai) (bI:Nf [j1] M0 O) (aP:Nf [j1] M0 J) (s:spec_l07Drawn_p_b3_S) (r:spec_l07Drawn_p_b3_S⊕spec_l07Drawn_p_b3_R) (h:spec_l07Drawn_p_b3 s=some r) (e:Env) (M:Mem) (hs:spec_l07Drawn_p_b3_RS bq bu bv ah ai O J j1 M0 s e M):Ev (fun k=>(f50_l16 (CN k) k (prune [0,2,4,10,11,12] e) M).bind fun q=>some q) (bQ (spec_l07Drawn_p_b3_RS bq bu bv ah ai O J j1 M0) (spec_l07Drawn_p_b3_RR bq bu bv ah ai O J j1 M0) r):=by
 obtain ⟨dP,bT,aR,aS,aT,dQ,dR,dS⟩:=s
 unfold spec_l07Drawn_p_b3 at h
 obtain ⟨dT,dU,dV,dW,dX,dY,bU,bV,bW,bX,bY,bJ⟩:=hs
 generalize ax:prune [0,2,4,10,11,12] e=ik
 have dZ:=envp ax.symm E dT
 have d5:=envp ax.symm E dU
 have d6:=envp ax.symm E dV
 have d7:=envp ax.symm E dW
 have d8:=envp ax.symm E dX
 have bZ:=envp ax.symm E dY
 refine sq (sq (Rg (kx (mvO bZ) (kx (bGtr E E) (Rn (hV (.loc j1 1 0 0) dZ (hV (.loc ah 1 0 0) d5 (hV (.loc ai 1 0 0) d6 (hV (.lsl O bT.length 0 bT.length) d7 (hV (.loc J 1 0 0) d8 (hV (.int .i64 dP) bZ (hN E hZ))))))) fun il b7 b8 b9 cb cd d9 cf=>sN ?_)))))
 rcases ite_some h with ⟨aU,h⟩ | ⟨aU,h⟩
 ·obtain ⟨⟨aC,aD,aE,aF,aG,aH,ea,ed,ee⟩,dg,h⟩:=bind_some h
  refine cT cf aU (xx (sN (sq (bl (sq (Rg (kx (mvO b7) (Ev.nxw (Ev.callW E (cns E (cns cd E)) (spec_l07NextDeal_pp_ok dQ dR dS aR aS aT j1 J aO M bY bX _ dg)) fun eo az di=>?_))))))))
  obtain ⟨aV,ep,eu,ay⟩:=di
  have aV:eo = .agg [.int .i64 aC,.int .i8 aD,.int .i64 aE,.int .i64 aF,.int .i64 aG,.int .i64 aH]:=aV
  subst aV
  have cg:az[j1]? = some (.live ⟨.box,142,3,[[.sl none (ea.map (cI .u8)),.int .i64 ed,.int .u64 ee]]⟩):=ep
  have ci:az[J]? = some (.live ⟨.box,27,3,[[.int .i64 aR,.sl none (aS.map (cI .i64)),.sl none (aT.map Tally.c)]]⟩):=eu
  have ay:Fr [j1,J] M az:=ay
  have cj:=ay _ _ (niC (Ne.symm ie) (niC aL niN)) bU
  have cm:=ay _ _ (niC (Ne.symm dO) (niC aM niN)) bV
  have cq:=ay _ _ (niC (Ne.symm aN) (niC aB niN)) bW
  have bK:Fr [j1] M0 az:=Fr.call bJ ay (fwI (by simp) (fwO aP fwN))
  refine ku (alO zero36) fun ew ao=>?_
  have dj:=Nf.mk bK
  have dk:=Fr.push bK ao
  have ex:=push_old ao cj
  have dl:=ne_new cj
  have ey:=push_old ao cm
  have dm:=ne_new cm
  have ez:=push_old ao cg
  have dn:=ne_new cg
  have eA:=push_old ao cq
  have aZ:=ne_new cq
  have eB:=push_old ao ci
  have a8:=ne_new ci
  have cr:ew[az.length]? = some (.live ⟨.box,36,6,[[.int .i64 0,.int .i8 0,.int .i64 0,.int .i64 0,.int .i64 0,.int .i64 0]]⟩):=push_new ao
  refine kw (stO E E cr E E ⟨E,ble E⟩ E E) fun aA aq=>?_
  have ba:=set_ne aq dl ex
  have bb:=set_ne aq dm ey
  have bf:=set_ne aq dn ez
  have bi:=set_ne aq aZ eA
  have aI:=set_ne aq a8 eB
  have aJ:aA[az.length]? = some (.live ⟨.box,36,6,[[.int .i64 aC,.int .i8 aD,.int .i64 aE,.int .i64 aF,.int .i64 aG,.int .i64 aH]]⟩):=set_same aq cr
  have aK:=Fr.setNew dk aq dj
  obtain ⟨eC,bL,h⟩:=bind_some h
  refine Rn (hA b7 (hA b8 (hA b9 (hA cb (hA cd (hA d9 (hV (.loc az.length 1 0 0) E hZ))))))) fun im ct cw cC cD bj cE bm=>sN (sq (Rg ?_))
  rcases eC with eD | ⟨bw,bz,bA⟩
  ·refine kc (cl (v:=.tup [.agg [.int .i64 0,.nils,.nils],.int .i64 eD]) E E (cns bj (cns bm E)) (ra1 (ra1_loc aI E E E ⟨E,blt E⟩) (ra1 (ra1_loc aJ E E E ⟨E,blt E⟩) ra0)) (spec_l07Do_ok (Book.mk aR aS aT) (Deal.mk aC aD aE aF aG aH) _ bL) (fun _=>(own_tup (oa1 (own2_agg (oa1 E (oa1 E (oa1 E oa0)))) (oa1 E oa0))))) (kx (mvO E) (kx (exT E E) (kx (exT E E) (ku (alO zero27) fun eE Y=>?_))))
   have dp:=Nf.mk aK
   have dq:=Fr.push aK Y
   have eF:=push_old Y ba
   have dt:=ne_new ba
   have eG:=push_old Y bb
   have du:=ne_new bb
   have eH:=push_old Y bf
   have dw:=ne_new bf
   have eJ:=push_old Y bi
   have dx:=ne_new bi
   have eK:=push_old Y aI
   have bM:=ne_new aI
   have eL:=push_old Y aJ
   have dz:=ne_new aJ
   have cG:eE[aA.length]? = some (.live ⟨.box,27,3,[[.int .i64 0,.nils,.nils]]⟩):=push_new Y
   refine kw (stO E E cG E E ⟨E,ble E⟩ E E) fun eM aa=>?_
   have cH:=set_ne aa dt eF
   have cJ:=set_ne aa du eG
   have cK:=set_ne aa dw eH
   have cM:=set_ne aa dx eJ
   have bB:=set_ne aa bM eK
   have eO:=set_ne aa dz eL
   have cN:eM[aA.length]? = some (.live ⟨.box,27,3,[[.int .i64 0,.nils,.nils]]⟩):=set_same aa cG
   have bP:=Fr.setNew dq aa dp
   refine kx (mvO E) (Rn (hA ct (hA cw (hA cC (hA cD (hA bj (hA cE (hA bm (hV (.loc aA.length 1 0 0) E (hN E hZ))))))))) fun io eP eQ eS eT eU eV eW eX eY=>sN (sq (Rg (kx (mvO eY) (kx (bEql E E) (Rn (hA eP (hA eQ (hA eS (hA eT (hA eU (hA eV (hA eW (hA eX (hN E hZ))))))))) fun ip cO cQ cR cU bC cV eZ fa cW=>sN ?_))))))
   rcases ite_some h with ⟨bo,h⟩ | ⟨bo,h⟩
   ·refine cT cW bo (sq (Rg (kx (ldOA fa cN E E (ble E) E) (kw (stO bC E bB E E ⟨E,ble E⟩ E E) fun fd ab=>?_))))
    have ff:=set_ne ab aL cH
    have fg:=set_ne ab aM cJ
    have fh:=set_ne ab aO cK
    have cX:=set_ne ab aB cM
    have fi:fd[J]? = some (.live ⟨.box,27,3,[[.int .i64 0,.nils,.nils]]⟩):=set_same ab bB
    have cY:=set_ne ab (Ne.symm a8) eO
    have iq:=set_ne ab (Ne.symm bM) cN
    have dA:=Fr.setNew bP ab aP
    obtain ⟨bD,dC,h⟩:=bind_some h
    refine Rn (hA cO (hA cQ (hA cR (hA cU (hA bC (hA cV (hA eZ hZ))))))) fun ir fj fk fm fo fq ft fu=>sN (Rg (kx (mvO fo) (kx (ldOA fu cY E E (ble E) E) (kx (litI (cns E E) E ⟨E,by decide⟩) (kw (apO E cX E (elT (c:=Deal.c) (xs:=[(Deal.mk aC aD aE aF aG aH)]) E) dC Deal.fl (by decide)) fun fw au=>?_)))))
    have iu:=set_ne au bG ff
    have iw:=set_ne au bH fg
    have ix:=set_ne au aN fh
    have iy:fw[O]? = some (.live ⟨.grow,36,6,bD.map Deal.c⟩):=set_same au cX
    have iz:=set_ne au (Ne.symm aB) fi
    have iA:=set_ne au (Ne.symm aZ) cY
    have ig:=Fr.setNew dA au bI
    refine kx (mvO E) (Rn (hA fj (hA fk (hA fm (hV (.lsl O bD.length 0 bD.length) E (hA fq (hA ft hZ)))))) fun iB fA fB fC fD fE fF=>bN (sN (Rg (kx (mvO fF) (kx (bSub E E) (kx (mvO E) (Rn (hA fA (hA fB (hA fC (hA fD (hA fE (hN E hZ)))))) fun iC iD iE iF iG iH iI=>?_)))))))
    cases h
   refine cF cW bo (xx (bN (sN (Rg (kx (mvO cV) (kx (bSub E E) (kx (mvO E) (Rn (hA cO (hA cQ (hA cR (hA cU (hA bC (hN E hZ)))))) fun iJ fG fH fI fJ fK fL=>?_))))))))
   obtain rfl:=si h
   exact qN ⟨fG,fH,fI,fJ,fK,fL,cH,cJ,cM,bB,cK,bP⟩
  refine kc (cl (v:=.tup [.agg [.int .i64 bw,.sl (some 2) (bz.map (cI .i64)),.sl (some 49) (bA.map Tally.c)],.int .i64 0]) E E (cns bj (cns bm E)) (ra1 (ra1_loc aI E E E ⟨E,blt E⟩) (ra1 (ra1_loc aJ E E E ⟨E,blt E⟩) ra0)) (spec_l07Do_ok (Book.mk aR aS aT) (Deal.mk aC aD aE aF aG aH) _ bL) (fun _=>(own_tup (oa1 (own2_agg (oa1 E (oa1 (own1_row' (c:=(cI .i64)) (fun _=>E)) (oa1 (own1_row' (c:=Tally.c) Tally.flF) oa0)))) (oa1 E oa0))))) (kx (mvO E) (kx (exT E E) (kx (exT E E) (ku (alO zero27) fun fM ac=>?_))))
  have dD:=Nf.mk aK
  have dE:=Fr.push aK ac
  have fN:=push_old ac ba
  have dF:=ne_new ba
  have fO:=push_old ac bb
  have dG:=ne_new bb
  have fP:=push_old ac bf
  have dH:=ne_new bf
  have fQ:=push_old ac bi
  have dI:=ne_new bi
  have fR:=push_old ac aI
  have bS:=ne_new aI
  have fS:=push_old ac aJ
  have dJ:=ne_new aJ
  have cZ:fM[aA.length]? = some (.live ⟨.box,27,3,[[.int .i64 0,.nils,.nils]]⟩):=push_new ac
  refine kw (stO E E cZ E E ⟨E,ble E⟩ E E) fun fT ae=>?_
  have fU:=set_ne ae dF fN
  have fV:=set_ne ae dG fO
  have fW:=set_ne ae dH fP
  have fX:=set_ne ae dI fQ
  have da:=set_ne ae bS fR
  have fY:=set_ne ae dJ fS
  have db:fT[aA.length]? = some (.live ⟨.box,27,3,[[.int .i64 bw,.sl none (bz.map (cI .i64)),.sl none (bA.map Tally.c)]]⟩):=set_same ae cZ
  have dK:=Fr.setNew dE ae dD
  refine kx (mvO E) (Rn (hA ct (hA cw (hA cC (hA cD (hA bj (hA cE (hA bm (hV (.loc aA.length 1 0 0) E (hV (.int .i64 0) E hZ))))))))) fun iK ga gc gf gg gh gi gj gk gm=>sN (sq (Rg (kx (mvO gm) (kx (bEql E E) (Rn (hA ga (hA gc (hA gf (hA gg (hA gh (hA gi (hA gj (hA gk (hV (.bool true) E hZ))))))))) fun iL gn gp gq gt dc gw gz gA gB=>sN (cT gB E (sq (Rg (kx (ldOA gA db E E (ble E) E) (kw (stO dc E da E E ⟨E,ble E⟩ E E) fun gC af=>?_)))))))))))
  have gD:=set_ne af aL fU
  have gE:=set_ne af aM fV
  have gF:=set_ne af aO fW
  have de:=set_ne af aB fX
  have gG:gC[J]? = some (.live ⟨.box,27,3,[[.int .i64 bw,.sl none (bz.map (cI .i64)),.sl none (bA.map Tally.c)]]⟩):=set_same af da
  have df:=set_ne af (Ne.symm a8) fY
  have iM:=set_ne af (Ne.symm bS) db
  have dL:=Fr.setNew dK af aP
  obtain ⟨bF,dM,h⟩:=bind_some h
  refine Rn (hA gn (hA gp (hA gq (hA gt (hA dc (hA gw (hA gz hZ))))))) fun iN gH gI gJ gK gL gM gN=>sN (Rg (kx (mvO gK) (kx (ldOA gN df E E (ble E) E) (kx (litI (cns E E) E ⟨E,by decide⟩) (kw (apO E de E (elT (c:=Deal.c) (xs:=[(Deal.mk aC aD aE aF aG aH)]) E) dM Deal.fl (by decide)) fun gO aw=>?_)))))
  have gP:=set_ne aw bG gD
  have gQ:=set_ne aw bH gE
  have gR:=set_ne aw aN gF
  have gS:gO[O]? = some (.live ⟨.grow,36,6,bF.map Deal.c⟩):=set_same aw de
  have gT:=set_ne aw (Ne.symm aB) gG
  have iO:=set_ne aw (Ne.symm aZ) df
  have dN:=Fr.setNew dL aw bI
  refine kx (mvO E) (Rn (hA gH (hA gI (hA gJ (hV (.lsl O bF.length 0 bF.length) E (hA gL (hA gM hZ)))))) fun iP gU gV gW gX gY gZ=>bN (sN (Rg (kx (mvO gZ) (kx (bSub E E) (kx (mvO E) (Rn (hA gU (hA gV (hA gW (hA gX (hA gY (hN E hZ)))))) fun iQ hH hO hP hY ib ic=>?_)))))))
  obtain rfl:=si h
  exact qN ⟨hH,hO,hP,hY,ib,ic,gP,gQ,gS,gT,gR,dN⟩
 refine cF cf aU (xx (sE ?_))
 obtain rfl:=si h
 exact qE ⟨E,b8,b9,cb,bU,bV,bW,bX,bY,bJ⟩
noncomputable def spec_l07Drawn_p (a1:List Int) (a2:Int) (a3:Int):Option (Int×(List Int)×(List Tally)×(List Int)×Int×Int×(List Deal)):=
 (spec_l00Src_pick_p a1 a2 a3 3).bind fun (aJ,aK,aL,aM)=>
 (Lw (spec_l07Drawn_p_b1) ((IntKind.i64.wrap (2 + aJ)),0,([]:List Int),aK,aL,aM)).bind fun (aa,ab,ac,ae,af)=>
 (spec_l00Src_pick_p ac ae af 4).bind fun (ah,ai,ao,aq)=>
 (Lw (spec_l07Drawn_p_b2) (ah,aa,ab,([]:List Tally),ai,ao,aq)).bind fun (J,O,Y,au,aw,ax)=>
 (spec_l07Copy (Book.mk J O Y)).bind fun (ay,az,aA)=>
 (spec_l00Src_pick_p au aw ax 9).bind fun (aB,aC,aD,aE)=>
 (Lw (spec_l07Drawn_p_b3) (aB,([]:List Deal),ay,az,aA,aC,aD,aE)).bind fun (aF,aN,aO,aP,aG,aH,aI)=>
 some (J,O,Y,aG,aH,aI,aF)
def spec_l07Drawn_p_Q (a1:List Int) (a2:Int) (a3:Int) (j1:Nat) (M0:Mem) (r:Int×(List Int)×(List Tally)×(List Int)×Int×Int×(List Deal)) (p:AV×Mem):Prop:=(∃ n1:Nat,p.1 = .tup [.agg [.int .i64 r.1,.sl none (r.2.1.map (cI .i64)),.sl none (r.2.2.1.map Tally.c)],.lsl n1 r.2.2.2.2.2.2.length 0 r.2.2.2.2.2.2.length]∧p.2[n1]? = some (.live ⟨.grow,36,6,r.2.2.2.2.2.2.map Deal.c⟩)∧p.2[j1]? = some (.live ⟨.box,142,3,[[.sl none (r.2.2.2.1.map (cI .u8)),.int .i64 r.2.2.2.2.1,.int .u64 r.2.2.2.2.2.1]]⟩)∧Fr [j1] M0 p.2∧Nf [j1] M0 n1∧j1≠n1)
theorem spec_l07Drawn_p_ok (a1:List Int) (a2:Int) (a3:Int) (j1:Nat) (M0:Mem) (oP1:M0[j1]? = some (.live ⟨.box,142,3,[[.sl none (a1.map (cI .u8)),.int .i64 a2,.int .u64 a3]]⟩)) (r:Int×(List Int)×(List Tally)×(List Int)×Int×Int×(List Deal)) (h:spec_l07Drawn_p a1 a2 a3=some r):Ev (fun k=>CN k 50 [.loc j1 1 0 0] M0) (spec_l07Drawn_p_Q a1 a2 a3 j1 M0 r):=by
 unfold spec_l07Drawn_p at h
 have de:Fr [j1] M0 M0:=Fr.refl
 refine Ev.enter (F:=fun k=>f50 (CN k) k) (fun k=>callN_eq E Try.func50 E E E (by decide +kernel) (f50_eq _ _)) (sq (Rg (ku (alO zero27) fun M2 bB=>?_)))
 have bi:=Nf.mk de
 have bj:=Fr.push de bB
 have o6:=push_old bB oP1
 have aB:=ne_new oP1
 have o8:M2[M0.length]? = some (.live ⟨.box,27,3,[[.int .i64 0,.nils,.nils]]⟩):=push_new bB
 refine kx (mvO E) (Rn (hV (.loc j1 1 0 0) E (hV (.loc M0.length 1 0 0) E hZ)) fun e9 fD fE=>sN (sq (Rg (kx (bldT zero27 E (fill0 E)) (Ev.nxpushL (gho_one (alO zero27) nty27 (ghc E (ghn (ghn ghz co49) co2)) (by decide)) fun J ay=>?_)))))
 have bC:=push_old ay o6
 have bD:=push_old ay o8
 have aa:j1≠M2.length:=by have:=lt_of_get (M:=M2) o6; omega
 have az:M0.length≠M2.length:=by have:=lt_of_get (M:=M2) o8; omega
 have bF:J[M2.length]? = some (.live ⟨.box,27,3,[[.int .i64 0,.lsl (M2.length + 1) ([]:List Int).length 0 ([]:List Int).length,.lsl (M2.length + 2) ([]:List Tally).length 0 ([]:List Tally).length]]⟩):=push_at ay 0 E
 have gj:j1≠(M2.length + 1):=by have:=lt_of_get (M:=M2) o6; omega
 have gk:M0.length≠(M2.length + 1):=by have:=lt_of_get (M:=M2) o8; omega
 have dl:M2.length≠(M2.length + 1):=by omega
 have bG:J[(M2.length + 1)]? = some (.live ⟨.grow,2,1,([]:List Int).map (cI .i64)⟩):=push_at ay 1 E
 have gm:j1≠(M2.length + 2):=by have:=lt_of_get (M:=M2) o6; omega
 have gn:M0.length≠(M2.length + 2):=by have:=lt_of_get (M:=M2) o8; omega
 have dm:M2.length≠(M2.length + 2):=by omega
 have gp:(M2.length + 1)≠(M2.length + 2):=by omega
 have bH:J[(M2.length + 2)]? = some (.live ⟨.grow,49,5,([]:List Tally).map Tally.c⟩):=push_at ay 2 E
 have aC:=Nf.mk bj
 have gq:=Nf.mkAt bj 1
 have gt:=Nf.mkAt bj 2
 have aM:=Fr.push bj ay
 obtain ⟨df,O⟩:∃ x,x=J++([⟨.grow,2,1,([]:List Int).map (cI .i64)⟩,⟨.grow,49,5,([]:List Tally).map Tally.c⟩]:List Ob).map Ent.live:=⟨_,E⟩
 have fF:=push_old O bC
 have fG:=push_old O bD
 have dg:=push_old O bF
 have fH:=push_old O bG
 have fI:=push_old O bH
 have aN:j1≠J.length:=by have:=lt_of_get (M:=J) bC; omega
 have bI:M0.length≠J.length:=by have:=lt_of_get (M:=J) bD; omega
 have aO:M2.length≠J.length:=by have:=lt_of_get (M:=J) bF; omega
 have gw:(M2.length + 1)≠J.length:=by have:=lt_of_get (M:=J) bG; omega
 have gz:(M2.length + 2)≠J.length:=by have:=lt_of_get (M:=J) bH; omega
 have di:df[J.length]? = some (.live ⟨.grow,2,1,([]:List Int).map (cI .i64)⟩):=push_at O 0 E
 have aP:j1≠(J.length + 1):=by have:=lt_of_get (M:=J) bC; omega
 have bJ:M0.length≠(J.length + 1):=by have:=lt_of_get (M:=J) bD; omega
 have aR:M2.length≠(J.length + 1):=by have:=lt_of_get (M:=J) bF; omega
 have gA:(M2.length + 1)≠(J.length + 1):=by have:=lt_of_get (M:=J) bG; omega
 have gB:(M2.length + 2)≠(J.length + 1):=by have:=lt_of_get (M:=J) bH; omega
 have aS:J.length≠(J.length + 1):=by omega
 have dj:df[(J.length + 1)]? = some (.live ⟨.grow,49,5,([]:List Tally).map Tally.c⟩):=push_at O 1 E
 have bK:=Nf.mk aM
 have bL:=Nf.mkAt aM 1
 have dn:=Fr.push aM O
 refine kw (stG (kp:=false) O E nty27 (ghc E (ghn (ghn ghz co49) co2)) (by decide) (stO E E dg E E ⟨E,ble E⟩ (all1 E (all1 (okL di (by simp)) (all1 (okL dj (by simp)) all0))) E)) fun bM ab=>?_
 have fJ:=set_ne ab aa fF
 have fK:=set_ne ab az fG
 have fL:bM[M2.length]? = some (.live ⟨.box,27,3,[[.int .i64 0,.lsl J.length ([]:List Int).length 0 ([]:List Int).length,.lsl (J.length + 1) ([]:List Tally).length 0 ([]:List Tally).length]]⟩):=set_same ab dg
 have gT:=set_ne ab (Ne.symm dl) fH
 have gU:=set_ne ab (Ne.symm dm) fI
 have fM:=set_ne ab (Ne.symm aO) di
 have fN:=set_ne ab (Ne.symm aR) dj
 have dp:=Fr.setNew dn ab aC
 obtain ⟨⟨fO,fP,fQ,fR⟩,dq,h⟩:=bind_some h
 refine Rn (hA fD (hA fE (hV (.loc M2.length 1 0 0) E hZ))) fun gV dk fS fT=>sN (sq (sq (Rg (kx (mvO dk) (Ev.nxw (Ev.callW E (cns E (cns E E)) (spec_l00Src_pick_p_ok a1 a2 a3 3 j1 bM fJ _ dq)) fun fU bP dt=>?_)))))
 obtain ⟨aT,fV,ai⟩:=dt
 have aT:fU = .int .i64 fO:=aT
 subst aT
 have fW:bP[j1]? = some (.live ⟨.box,142,3,[[.sl none (fP.map (cI .u8)),.int .i64 fQ,.int .u64 fR]]⟩):=fV
 have ai:Fr [j1] bM bP:=ai
 have fX:=ai _ _ (niC (Ne.symm aB) niN) fK
 have fY:=ai _ _ (niC (Ne.symm aa) niN) fL
 have ga:=ai _ _ (niC (Ne.symm aN) niN) fM
 have gc:=ai _ _ (niC (Ne.symm aP) niN) fN
 have du:Fr [j1] M0 bP:=Fr.call dp ai (fwI (by simp) fwN)
 obtain ⟨⟨aU,aG,dw,dx,dz⟩,ct,h⟩:=bind_some h
 refine kx (bAdd E E) (kx (mvO E) (Rn (hA dk (hA fS (hA fT (hN E hZ)))) fun gW gf gg gh gi=>sN (bl (Ev.loop (RS:=spec_l07Drawn_p_b1_RS (J.length + 1) M0.length J.length M2.length j1 M0) (RR:=spec_l07Drawn_p_b1_RR (J.length + 1) M0.length J.length M2.length j1 M0) (fun s r h e M hs=>spec_l07Drawn_p_b1_ok (J.length + 1) M0.length J.length M2.length j1 M0 az bI bJ aO aR aS aB aa aN aP bi aC bK bL s r h e M hs) ct ⟨gf,gg,gh,gi,fX,fY,ga,gc,fW,du⟩ fun x dA aV cw=>?_))))
 obtain ⟨rfl,bS,dC,bT,dD,bU,dE,bV,dF,cC⟩:=cw
 refine bE (sN (sq (sq ?_)))
 obtain ⟨aZ,bm⟩:∃ x,x=frzAll dA [4] aV:=⟨_,E⟩
 refine RFz bm.symm ?_
 obtain ⟨dG,ac⟩:∃ x,x=aV.set J.length .dead:=⟨_,E⟩
 obtain ⟨dH,au⟩:∃ x,x=dG.set (J.length + 1) .dead:=⟨_,E⟩
 have cD:frzL frz1 [.int .i64 aU,.lsl J.length aG.length 0 aG.length,.lsl (J.length + 1) ([]:List Tally).length 0 ([]:List Tally).length] aV=([.int .i64 aU,.sl (some 2) (aG.map (cI .i64)),.sl (some 49) (([]:List Tally).map Tally.c)],dH):=by
   subst au
   subst ac
   exact (fz1 E (fz1 (frz1_row dE E (cI_fl _)) (fz1 (frz1_row (set_ne E (Ne.symm aS) bV) E Tally.fl) fz0)))
 have aA:=bm.trans (frz_one bT bU cD)
 have dI:=set_ne ac bI dD
 have dJ:=set_ne ac aO bU
 have gC:=set_ne ac (Ne.symm aS) bV
 have dK:=set_ne ac aN dF
 have cE:=Fr.setNew cC ac bK
 have dL:=set_ne au bJ dI
 have dM:=set_ne au aR dJ
 have dN:=set_ne au aP dK
 have cG:=Fr.setNew cE au bL
 have dO:=set_ne aA az dL
 have dP:aZ[M2.length]? = some (.live ⟨.box,27,3,[[.int .i64 aU,.sl none (aG.map (cI .i64)),.sl none (([]:List Tally).map Tally.c)]]⟩):=set_same aA dM
 have dQ:=set_ne aA aa dN
 have cH:=Fr.setNew cG aA aC
 obtain ⟨⟨dR,dS,dT,dU⟩,cJ,h⟩:=bind_some h
 refine Rg (kx (mvO bS) (Ev.nxw (Ev.callW E (cns E (cns E E)) (spec_l00Src_pick_p_ok dw dx dz 4 j1 aZ dQ _ cJ)) fun dV a8 cK=>?_))
 obtain ⟨aH,dW,aw⟩:=cK
 have aH:dV = .int .i64 dR:=aH
 subst aH
 have dX:a8[j1]? = some (.live ⟨.box,142,3,[[.sl none (dS.map (cI .u8)),.int .i64 dT,.int .u64 dU]]⟩):=dW
 have aw:Fr [j1] aZ a8:=aw
 have dY:=aw _ _ (niC (Ne.symm aB) niN) dO
 have dZ:=aw _ _ (niC (Ne.symm aa) niN) dP
 have cM:Fr [j1] M0 a8:=Fr.call cH aw (fwI (by simp) fwN)
 obtain ⟨⟨aD,aE,aF,d5,d6,d7⟩,cN,h⟩:=bind_some h
 refine kx (mvO E) (Rn (hV (.loc j1 1 0 0) bS (hV (.loc M0.length 1 0 0) dC (hV (.loc M2.length 1 0 0) bT (hN E hZ)))) fun gD d8 d9 ea ed=>sN (bl (Ev.loop (RS:=spec_l07Drawn_p_b2_RS M0.length M2.length j1 M0) (RR:=spec_l07Drawn_p_b2_RR M0.length M2.length j1 M0) (fun s r h e M hs=>spec_l07Drawn_p_b2_ok M0.length M2.length j1 M0 az aB aa bi aC s r h e M hs) cN ⟨d8,d9,ea,ed,dY,dZ,dX,cM⟩ fun x gE ao cO=>?_)))
 obtain ⟨rfl,ee,eo,ep,bW,bX,bY,bo⟩:=cO
 refine bE (sN (sq (Rg (ku (litO (xs:=([]:List Deal)) (c:=Deal.c) E E (by decide)) fun aq ax=>?_))))
 have bq:=Nf.mk bo
 have bu:=Fr.push bo ax
 have bZ:=push_old ax bW
 have bv:=ne_new bW
 have ba:=push_old ax bX
 have cQ:=ne_new bX
 have b7:=push_old ax bY
 have aI:=ne_new bY
 have b8:aq[ao.length]? = some (.live ⟨.grow,36,6,([]:List Deal).map Deal.c⟩):=push_new ax
 obtain ⟨⟨b9,cb,cd⟩,cR,h⟩:=bind_some h
 refine kx (mvO E) (Rn (hV (.loc j1 1 0 0) ee (hV (.loc M0.length 1 0 0) eo (hV (.loc M2.length 1 0 0) ep (hV (.lsl ao.length ([]:List Deal).length 0 ([]:List Deal).length) E hZ)))) fun gF eu ew cf ex=>sN (sq (Rg (kc (cl (v:=.agg [.int .i64 b9,.sl (some 2) (cb.map (cI .i64)),.sl (some 49) (cd.map Tally.c)]) E E (cns cf E) (ra1 (ra1_loc ba E E E ⟨E,blt E⟩) ra0) (spec_l07Copy_ok (Book.mk aD aE aF) _ cR) (fun _=>(own_agg (oa1 E (oa1 (own1_row' (c:=(cI .i64)) (fun _=>E)) (oa1 (own1_row' (c:=Tally.c) Tally.flF) oa0)))))) (ku (alO zero27) fun ey ae=>?_)))))
 have bw:=Nf.mk bu
 have cU:=Fr.push bu ae
 have ez:=push_old ae bZ
 have aJ:=ne_new bZ
 have eA:=push_old ae ba
 have bz:=ne_new ba
 have eB:=push_old ae b7
 have aK:=ne_new b7
 have eC:=push_old ae b8
 have bA:=ne_new b8
 have cg:ey[aq.length]? = some (.live ⟨.box,27,3,[[.int .i64 0,.nils,.nils]]⟩):=push_new ae
 refine kw (stO E E cg E E ⟨E,ble E⟩ E E) fun bb af=>?_
 have eD:=set_ne af aJ ez
 have eE:=set_ne af bz eA
 have eF:=set_ne af aK eB
 have eG:=set_ne af bA eC
 have eH:bb[aq.length]? = some (.live ⟨.box,27,3,[[.int .i64 b9,.sl none (cb.map (cI .i64)),.sl none (cd.map Tally.c)]]⟩):=set_same af cg
 have cV:=Fr.setNew cU af bw
 obtain ⟨⟨eJ,eK,eL,eM⟩,cW,h⟩:=bind_some h
 refine Rn (hA eu (hA ew (hA cf (hA ex (hV (.loc aq.length 1 0 0) E hZ))))) fun gG ci eO eP eQ eS=>sN (sq (sq (Rg (kx (mvO ci) (Ev.nxw (Ev.callW E (cns E (cns E E)) (spec_l00Src_pick_p_ok d5 d6 d7 9 j1 bb eF _ cW)) fun eT bf cX=>?_)))))
 obtain ⟨aL,eU,Y⟩:=cX
 have aL:eT = .int .i64 eJ:=aL
 subst aL
 have eV:bf[j1]? = some (.live ⟨.box,142,3,[[.sl none (eK.map (cI .u8)),.int .i64 eL,.int .u64 eM]]⟩):=eU
 have Y:Fr [j1] bb bf:=Y
 have eW:=Y _ _ (niC (Ne.symm aB) niN) eD
 have eX:=Y _ _ (niC (Ne.symm aa) niN) eE
 have eY:=Y _ _ (niC (Ne.symm aI) niN) eG
 have eZ:=Y _ _ (niC (Ne.symm aK) niN) eH
 have cY:Fr [j1] M0 bf:=Fr.call cV Y (fwI (by simp) fwN)
 obtain ⟨⟨cj,gH,gI,gJ,gK,gL,gM⟩,cZ,h⟩:=bind_some h
 refine kx (mvO E) (Rn (hA ci (hA eO (hA eP (hA eQ (hA eS (hN E hZ)))))) fun gN fa fd ff fg fh fi=>sN (bl (Ev.loop (RS:=spec_l07Drawn_p_b3_RS aD aE aF M0.length M2.length ao.length aq.length j1 M0) (RR:=spec_l07Drawn_p_b3_RR aD aE aF M0.length M2.length ao.length aq.length j1 M0) (fun s r h e M hs=>spec_l07Drawn_p_b3_ok aD aE aF M0.length M2.length ao.length aq.length j1 M0 az bv aJ cQ bz bA aB aa aI aK bi aC bq bw s r h e M hs) cZ ⟨fa,fd,ff,fg,fh,fi,eW,eX,eY,eZ,eV,cY⟩ fun x gO gP da=>?_)))
 obtain ⟨rfl,cm,fj,fk,cq,cr,fm,fo,fq,db⟩:=da
 refine bE (sN (sq (Rg (kx (ldOA fj cr E E (ble E) E) (kx (mvO fk) (kw (stO cm E cq E E ⟨E,ble E⟩ E E) fun ft ah=>?_))))))
 have fu:ft[M0.length]? = some (.live ⟨.box,27,3,[[.int .i64 aD,.sl none (aE.map (cI .i64)),.sl none (aF.map Tally.c)]]⟩):=set_same ah cq
 have gQ:=set_ne ah (Ne.symm az) cr
 have fw:=set_ne ah (Ne.symm bv) fm
 have gR:=set_ne ah (Ne.symm aJ) fo
 have fA:=set_ne ah aB fq
 have dc:=Fr.setNew db ah bi
 refine kx (mvO E) (Rn (hV (.loc M0.length 1 0 0) cm (hV (.lsl ao.length cj.length 0 cj.length) E hZ)) fun gS fB fC=>sN (xx ?_))
 obtain rfl:=si h
 exact eR (resC (ag:=true) (sz:=3) ⟨by kernel_rfl,by kernel_rfl,by kernel_rfl⟩ (ldOA fB fu E E (ble E) E) (resT fC res0)) ⟨ao.length,E,fw,fA,dc,bq,aI⟩
noncomputable def spec_A2Days (a1:List Int):Option (Int×(List Int)×(List Tally)×(List Deal)):=
 (spec_l00From a1).bind fun J=>
 (spec_l07Drawn_p J.Code J.At J.Seed).bind fun (O,Y,aa,ac,ae,af,ab)=>
 some (O,Y,aa,ab)
def spec_A2Days_enc (r:Int×(List Int)×(List Tally)×(List Deal)):AV:=.tup [.agg [.int .i64 r.1,.sl none (r.2.1.map (cI .i64)),.sl none (r.2.2.1.map Tally.c)],.sl (some 36) (r.2.2.2.map Deal.c)]
theorem spec_A2Days_ok (a1:List Int) (r:Int×(List Int)×(List Tally)×(List Deal)) (h:spec_A2Days a1=some r):Ev (fun k=>CN k 7 [.sl none (a1.map (cI .u8))] []) (fun p=>rRes p.2 p.1=spec_A2Days_enc r):=by
 unfold spec_A2Days at h
 refine Ev.enter (F:=fun k=>f7 (CN k) k) (fun k=>callN_eq E Try.func7 E E E (by decide +kernel) (f7_eq _ _)) (sq (Rg (ku (alO zero27) fun M2 aE=>?_)))
 have o4:M2[([]:Mem).length]? = some (.live ⟨.box,27,3,[[.int .i64 0,.nils,.nils]]⟩):=push_new aE
 obtain ⟨af,aF,h⟩:=bind_some h
 refine kx (mvO E) (Rn (hN E (hV (.loc ([]:Mem).length 1 0 0) E hZ)) fun e5 h7 h8=>sN (sq (Rg (kx (mvO h7) (Ev.nxw (Ev.callW E (cns E E) (spec_l00From_ok a1 M2 _ aF)) fun aG ah az=>?_)))))
 obtain ⟨J,aH,O⟩:=az
 have J:aG = .loc M2.length 1 0 0:=J
 subst J
 have Y:=ne_new o4
 have O:Fr [] M2 ah:=O
 have ao:=O _ _ niN o4
 obtain ⟨⟨aq,au,aw,aI,aJ,aK,ae⟩,aA,h⟩:=bind_some h
 refine Ev.nxw (Ev.callW E (cns E E) (spec_l07Drawn_p_ok af.Code af.At af.Seed M2.length ah aH _ aA)) fun aL ax aB=>?_
 obtain ⟨ai,aa,aM,aN,ab,aC,aV⟩:=aB
 have aa:aL = .tup [.agg [.int .i64 aq,.sl none (au.map (cI .i64)),.sl none (aw.map Tally.c)],.lsl ai ae.length 0 ae.length]:=aa
 subst aa
 have aO:ax[M2.length]? = some (.live ⟨.box,142,3,[[.sl none (aI.map (cI .u8)),.int .i64 aJ,.int .u64 aK]]⟩):=aN
 have aD:=aC _ _ (niC Y niN) ao
 have ab:Fr [M2.length] ah ax:=ab
 have ay:=ab _ _ (niC Y niN) ao
 refine kx (exT E E) (kx (exT E E) (kw (stO h8 E ay E E ⟨E,ble E⟩ E E) fun aP ac=>?_))
 have aR:aP[([]:Mem).length]? = some (.live ⟨.box,27,3,[[.int .i64 aq,.sl none (au.map (cI .i64)),.sl none (aw.map Tally.c)]]⟩):=set_same ac ay
 have aZ:=set_ne ac (Ne.symm Y) aO
 have aS:=set_ne ac (Ne.symm aD) aM
 refine kx (mvO E) (Rn (hA h8 (hV (.lsl ai ae.length 0 ae.length) E hZ)) fun a8 aT aU=>sN (xx ?_))
 obtain rfl:=si h
 exact eR (resC (ag:=true) (sz:=3) ⟨by kernel_rfl,by kernel_rfl,by kernel_rfl⟩ (ldOA aT aR E E (ble E) E) (resT aU res0)) (rr_tup (mp1 E (mp1 (rr_row aS E Deal.fl) mp0)))
noncomputable def laws_a2Long (a1:List Int) (a2:List Int):Option Bool:=
 if (decide ((a1.length:Int) > 3000))=true then
  some true
 else
  some (decide ((a2.length:Int) > 3000))
def laws_a2Long_enc (r:Bool):AV:=.bool r
theorem laws_a2Long_ok (a1:List Int) (a2:List Int) (r:Bool) (h:laws_a2Long a1 a2=some r):Ev (fun k=>CN k 6 [.sl none (a1.map (cI .u8)),.sl none (a2.map (cI .u8))] []) (fun p=>rRes p.2 p.1=laws_a2Long_enc r):=by
 unfold laws_a2Long at h
 refine Ev.enter (F:=fun k=>f6 (CN k) k) (fun k=>callN_eq E Try.func6 E E E (by decide +kernel) (f6_eq _ _)) (sq (Rg (kx (mvO E) (Rn (hN E (hN E hZ)) fun e1 h3 h4=>sN (sq (Rg (kx (mvO h3) (kx (lnS Try.underlying22 E) (kx (bGtr E E) (kx (mvO E) ?_))))))))))
 rcases ite_some h with ⟨J,h⟩ | ⟨J,h⟩
 ·refine kx (gsF E J) (kx (gsF E J) (kx (gsF E J) (kx (pkT E J E) (kx (mvO E) (Rn (hV (.bool true) E hZ) fun e6 h8=>sN (xx ?_))))))
  obtain rfl:=si h
  exact eR (resT h8 res0) E
 refine kx (guF E J (mvO h4)) (kx (guF E J (lnS Try.underlying22 E)) (kx (guF E J (bGtr E E)) (kx (pkF E J E) (kx (mvO E) (Rn (hN E hZ) fun e9 O=>sN (xx ?_))))))
 obtain rfl:=si h
 exact eR (resT O res0) E
end Go.Proofs.Ytjlalepbhcekoaa
