/- The whole of a drawn book: its deals, its debts, and an amount on sticks and on a board. -/
import Derived.Test.YtkdinadmheomfaaGreatPsTop
set_option linter.unusedVariables false
set_option linter.unusedSimpArgs false
namespace Go.Proofs.YtkdinadmheomfaaGreat.Pure
open Go Go.Ab
theorem MM (b:Book) (D:BookP b) (p:Nat) (I:p < b.Cash.length):hU b p=some (b.Cash[p] + (gS b.Tallies p - oS b.Tallies p),0)/\-10000000000<=b.Cash[p] + (gS b.Tallies p - oS b.Tallies p)/\b.Cash[p] + (gS b.Tallies p - oS b.Tallies p)<=10000000000:=by
 have N:=rN.2 D
 have cn:=D.cn
 have tn:=D.tn
 have G:∀ t ∈ b.Tallies,0<=t.Left/\t.Left<=100000000:=fun t U=>(D.bk.ta t U).2.2.1
 have X:za b p=0:=by
  unfold za
  rw [if_pos N,if_pos (oH.2 ⟨by omega,by omega⟩)]
 have O:rd b.Cash (p:Int)=some b.Cash[p]:=by rw [cS,List.getElem?_eq_getElem I]
 obtain ⟨Y,Z⟩:=DN b D p
 have g:=N8 G p
 have o:=NP G p
 have c:=D.ca _ (List.getElem_mem I)
 have aa:IntKind.i64.wrap (b.Cash[p] + gS b.Tallies p)=b.Cash[p] + gS b.Tallies p:=lg (by omega)
 have ab:IntKind.i64.wrap (b.Cash[p] + gS b.Tallies p - oS b.Tallies p)=b.Cash[p] + (gS b.Tallies p - oS b.Tallies p):=by rw [lg (by omega)]; omega
 have F:=zz b p (by omega)
 have J:=Ag b p (by omega) (by omega)
 rw [X] at J
 rw [Y,Z] at F
 refine ⟨?_,by omega,by omega⟩
 unfold hU pn
 rw [J]
 simp [F,O,aa,ab]
theorem HB (b:Book) (G:BookP b) (F:List Int) (J:∀ p:Nat,p < b.Cash.length->F[p]? = some (gS b.Tallies p - oS b.Tallies p)) :
  Lw (i9 b.Day b.Cash b.Tallies F) 0=some (.inr ()):=by
 have cn:=G.cn
 have e0:(⟨b.Day,b.Cash,b.Tallies⟩:Book)=b:=rfl
 have U:=g7 (tb:=i9 b.Day b.Cash b.Tallies F) (fun i=>(i:Int)) b.Cash.length (r:=.inr ()) (fun p D=>by
  obtain ⟨Y,Z,aa⟩:=MM b G p D
  have N:rd b.Cash (p:Int)=some b.Cash[p]:=by rw [cS,List.getElem?_eq_getElem D]
  have O:rd F (p:Int)=some (gS b.Tallies p - oS b.Tallies p):=by rw [cS,J p D]
  have X:IntKind.i64.wrap (b.Cash[p] + (gS b.Tallies p - oS b.Tallies p))=b.Cash[p] + (gS b.Tallies p - oS b.Tallies p):=lg (by omega)
  have w:=kF D (show b.Cash.length<=4611686018427387904 by omega)
  have I:(p:Int) < (b.Cash.length:Int):=by omega
  simp only [i9,I,decide_true,if_true,e0,Y,Option.bind_some,N,O,X,w,bne_self_eq_false,Bool.false_eq_true,if_false]) (by simp [i9])
 exact U
theorem FnTop (G:List Int) (ar:(Hk 1 (Ly .u8)) G) (I:List Int) (au:(Hk 1 (Ly .u8)) I):sI G I=some true:=by
 have ab:=Hd ar
 have ax:=Hd au
 unfold sI
 by_cases b0:(G.length:Int) > 3000
 ·simp [kU,b0]
 by_cases b1:(I.length:Int) > 3000
 ·simp [kU,b0,b1]
 have az:kU G I=some false:=by simp [kU,b0,b1]
 obtain ⟨b,U,D,e,aw,hN,O,a4⟩:=Kl G ab
 have bk:=aw.ok
 have F:=hN.ok
 have a1:=bk.cn
 have a2:=bk.tn
 have aN:=F.cn
 have aO:=F.c1
 have nt:=F.tn
 have a6:=F.day
 have ask:=O.ask bk (by omega)
 have Y:=BX b U (by omega) (by omega) (by omega)
 have aa:=CQ b U (by omega) (by omega) (by omega)
 rw [ask] at Y aa
 obtain ⟨aQ,a7,o2,a8,aP⟩:=O.books bk (by omega)
 have e0:(⟨b.Day,b.Cash,b.Tallies⟩:Book)=b:=rfl
 have an:(⟨D.Day,D.Cash,D.Tallies⟩:Book)=D:=rfl
 have aD:m4 b U=some (D.Day,D.Cash,D.Tallies,0):=by
  unfold m4
  rw [Y]
  simp [O.behind bk (by omega)]
 have aE:mT b U=some (D.Day,D.Cash,D.Tallies,0):=by
  unfold mT
  rw [aa]
  rcases aP with ⟨rfl,rfl⟩ | h
  ·simp [o2,fo D bk.bk]
  ·have aM:aQ≠[]:=fun e=>by subst e; cases h
   have aB:=Fq h (by omega)
   simp [o2,aM,aB,fo D F.bk]
 have am:gP D.Day 0 100000=true:=cB.2 ⟨by omega,by omega⟩
 have aF:mX b U D.Day=some (D.Day,D.Cash,D.Tallies,0):=by
  unfold mX
  simp [Y,sr,am,Gc O bk (by omega) O.day]
 have aX:=Ao D (by omega) (by omega)
 obtain ⟨g,aG,aH,a5,aI,aJ,aK⟩:=C6 D F hN.p4 hN.lf
 obtain ⟨C,s,ad,c1,ah,a3,ai,aj,ak⟩:=F1 (n:=D.Cash.length) ⟨aO,aN⟩ (fun i k=>by have:=aJ i k; omega) (by omega) aI
 have aZ:=uh (eu g 16) (by omega)
 have aY:=uh C (by omega)
 have aL:=HB D F ad (fun p aA=>by
  rw [ak p aA]
  have:mK (eu g 16) p=mK (qu D.Tallies) p:=aK _
  rw [this,Fg p D.Tallies (fun t aC=>(F.bk.ta t aC).2.2.1.1)])
 have cl:((ad.length:Int) != (D.Cash.length:Int))=false:=by rw [aj]; simp
 obtain ⟨n,a,q,ao,Z,ac,_⟩:=jQ I ax 0 0 6000 (by omega) (by omega) (by omega)
 have ac:=ac (by omega)
 have ap:lS I=some n:=by
  unfold lS
  rw [By,Option.bind_some]
  simp only [ao,Option.bind_some]
 obtain ⟨x,a0,a9,f3,_⟩:=jQ G ab 0 0 1048576 (by omega) (by omega) (by omega)
 obtain ⟨J,z,aq,N⟩:=C9 (IntKind.u32.wrap x)
 have f5:mS G=some J:=by
  unfold mS
  rw [By,Option.bind_some]
  simp only [f3,aq,Option.bind_some]
 have f6:=D6 n J
 simp only [az,e,Option.bind_some,Bool.false_eq_true,if_false,e0,aD,aE,an,aF,bne_self_eq_false,aX,if_true,Bool.not_true,aG,aH,c1,ah,aZ,aY,ai,cl,aL,ap,f5,f6]
 have ay:gP n 0 100000000=true:=cB.2 ⟨Z,by omega⟩
 unfold Nz
 rw [if_pos N]
 by_cases hz:Hs n=0
 ·obtain ⟨_,X⟩:=CO hz
  obtain ⟨aR,aS,aT⟩:=Gd Z (show n<=100000000 by omega)
  have aU:=Nm (Bz n) J X N
  have aV:=Lv (Bz n) J X N
  have ae:=Dt ⟨false,Bz n,lw J⟩ X (zd N)
  have af:=Dy ⟨false,Bz n,lw J⟩ X (zd N)
  have aW:=IT Z
  simp only [aW] at ae af
  simp only [hz,if_true,bne_self_eq_false,Bool.false_eq_true,if_false,aR,aS,aT,aU,aV,ae,af,Option.bind_some,beq_self_eq_true]
 ·have av:Hs n=3:=by
   unfold Hs at hz ⊢
   rw [if_pos ay] at hz ⊢
   split at hz
   ·exact absurd rfl hz
   ·rename_i h; rw [if_neg h]
  simp [av]
end Go.Proofs.YtkdinadmheomfaaGreat.Pure
