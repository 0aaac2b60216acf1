/- Plain lemmas. -/
import Derived.Test.YtkdinadmheomfaaGreatOkTop
set_option linter.unusedVariables false
set_option linter.unusedSimpArgs false
namespace Go.Proofs.YtkdinadmheomfaaGreat
open Go Go.Ab
end Go.Proofs.YtkdinadmheomfaaGreat
namespace Go.Proofs.YtkdinadmheomfaaGreat
open Go Go.Ab
end Go.Proofs.YtkdinadmheomfaaGreat
namespace Go.Proofs.YtkdinadmheomfaaGreat
open Go Go.Ab
end Go.Proofs.YtkdinadmheomfaaGreat
namespace Go.Proofs.YtkdinadmheomfaaGreat
open Go Go.Ab
end Go.Proofs.YtkdinadmheomfaaGreat
namespace Go.Proofs.YtkdinadmheomfaaGreat
open Go Go.Ab
end Go.Proofs.YtkdinadmheomfaaGreat
namespace Go.Proofs.YtkdinadmheomfaaGreat
open Go Go.Ab
end Go.Proofs.YtkdinadmheomfaaGreat
namespace Go.Proofs.YtkdinadmheomfaaGreat
open Go Go.Ab
def gP (n F D:Int):Bool:=decide (F<=n) && decide (n<=D)
theorem cB {n F D:Int}:gP n F D=true↔F<=n/\n<=D:=by simp [gP]
theorem Fe {n F D:Int}:gP n F D=false↔n < F∨D < n:=by rw [<- Bool.not_eq_true,cB]; omega
theorem na (n D F:Int):dm n D F=some (gP n D F):=by
  unfold dm gP; by_cases h:D<=n <;> simp [h]
theorem CM {α:Type} (c:Bool) (a b:α):(if c=true then some a else some b)=some (if c=true then a else b):=by cases c <;> rfl
theorem yg (c b:Bool):(if c=true then b else false)=(c && b):=by cases c <;> simp
end Go.Proofs.YtkdinadmheomfaaGreat
namespace Go.Proofs.YtkdinadmheomfaaGreat
open Go Go.Ab
theorem AW (n:Int):mC n=some (gP n 0 100000):=by
  unfold mC; simp only [na,Option.bind_some]
theorem sr (n:Int):ie n=some (gP n 0 100000):=by
  unfold ie gP; by_cases h:0<=n <;> simp [h]
end Go.Proofs.YtkdinadmheomfaaGreat
namespace Go.Proofs.YtkdinadmheomfaaGreat
open Go Go.Ab
theorem B6 (n:Int):lb n=some (gP n 0 100000000):=by
  unfold lb; rw [na,Option.bind_some]
theorem yj (n:Int):gc n=some (gP n 0 100000000):=by
  unfold gc gP; by_cases h:0<=n <;> simp [h]
end Go.Proofs.YtkdinadmheomfaaGreat
namespace Go.Proofs.YtkdinadmheomfaaGreat
open Go Go.Ab
def ga (n x:Int):Bool:=decide (0<=x) && decide (x < n)
theorem oH {n x:Int}:ga n x=true↔0<=x/\x < n:=by simp [ga]
theorem sU (n x:Int) (h : -9223372036854775807<=n/\n<=9223372036854775807):d3 n x=some (ga n x):=by
  unfold d3
  rw [na,lg (by omega),Option.bind_some]
  congr 1
  rw [Bool.eq_iff_iff,cB,oH]; omega
theorem wF (n:Int) (xs:List Int) (F:xs.length<=4611686018427387904):jq n xs=some (xs.all (ga n)):=by
  unfold jq
  have G:=iK (tb:=gJ n xs) xs.length F (fun i=>(xs[i]?).all (ga n)) () ()
    (by
      intro i D
      simp only [gJ,cS,List.getElem?_eq_getElem D,Option.bind_some,Option.all_some]
      rw [if_pos (by simpa using D)]
      by_cases h1:xs[i] < 0
      · rw [if_pos (by simpa using h1),if_neg (by simp [ga]; omega)]
      · by_cases h2:xs[i]>=n
        · rw [if_neg (by simpa using h1),if_pos (by simpa using h2),if_neg (by simp [ga]; omega)]
        · rw [if_neg (by simpa using h1),if_neg (by simpa using h2),if_pos (by simp [ga]; omega)])
    (by simp [gJ])
  rw [G,sV]
  cases xs.all (ga n) <;> simp
end Go.Proofs.YtkdinadmheomfaaGreat
namespace Go.Proofs.YtkdinadmheomfaaGreat
open Go Go.Ab
def Gw (n:Int):Bool:=gP n 0 100000000
def ip (b:Book) (i:Nat):Int:=if i=0 then 0 else ((b.Tallies[i - 1]?).map (·.Cut)).getD 0
def rc (b:Book) (i:Nat) (t:Tally):Bool:=
  ga b.Cash.length t.Debtor && (ga b.Cash.length t.Holder && (gP t.Cut 0 b.Day && (gP t.Amount 1 100000000 && (gP t.Left 0 t.Amount && (!(t.Debtor==t.Holder && t.Left != 0) && decide (ip b i<=t.Cut))))))
def oN (b:Book):Bool:=(List.range b.Tallies.length).all fun i=>(b.Tallies[i]?).all (rc b i)
def p5 (b:Book):Bool:=gP b.Day 0 100000 && (b.Cash.all Gw && gP b.Cash.length 1 16 && (decide (b.Tallies.length<=40) && oN b))
theorem F2 (a:List Int) (F:a.length<=4611686018427387904):nj a=some (a.all Gw && gP a.length 1 16):=by
  unfold nj
  have G:=iK (tb:=iC a) a.length F (fun i=>(a[i]?).all Gw) () ()
    (by
      intro i D
      simp only [iC,cS,List.getElem?_eq_getElem D,Option.bind_some,B6,Option.all_some]
      rw [if_pos (by simpa using D)]
      cases h:Gw a[i] <;> simp [Gw] at h <;> simp [h])
    (by simp [iC])
  rw [G,sV]
  cases a.all Gw <;> simp [na]
theorem Gk (b:Book) (F:b.Cash.length<=4611686018427387904):Lw (fu b) 0=some (if b.Cash.all Gw=true then .inr () else .inl ()):=by
  have G:=iK (tb:=fu b) b.Cash.length F (fun i=>(b.Cash[i]?).all Gw) () ()
    (by
      intro i D
      simp only [fu,cS,List.getElem?_eq_getElem D,Option.bind_some,yj,Option.all_some]
      rw [if_pos (by simpa using D)]
      cases h:Gw b.Cash[i] <;> simp [Gw] at h <;> simp [h])
    (by simp [fu])
  rw [G,sV]
theorem BV (b:Book) (U:b.Cash.length<=4611686018427387904) (J:b.Tallies.length<=4611686018427387904):Lw (i3 b) 0=some (if oN b=true then .inr () else .inl ()):=by
  refine iK (tb:=i3 b) b.Tallies.length J (fun i=>(b.Tallies[i]?).all (rc b i)) () () (fun i F=>?_) (by simp [i3])
  simp only [i3,cS,List.getElem?_eq_getElem F,Option.bind_some,Option.all_some,sU _ _ (show -9223372036854775807<=(b.Cash.length:Int)/\(b.Cash.length:Int)<=9223372036854775807 by omega),na]
  rw [if_pos (by simpa using F)]
  unfold rc
  generalize b.Tallies[i]=t
  cases ga b.Cash.length t.Debtor with
  | false=>simp
  | true=>
  cases ga b.Cash.length t.Holder with
  | false=>simp
  | true=>
  cases hcut:gP t.Cut 0 b.Day with
  | false=>simp
  | true=>
  cases gP t.Amount 1 100000000 with
  | false=>simp
  | true=>
  cases gP t.Left 0 t.Amount with
  | false=>simp
  | true=>
  obtain ⟨I,_⟩:=cB.1 hcut
  have N:(if decide ((i:Int) > 0)=true then (rd b.Tallies (IntKind.i64.wrap ((i:Int) - 1))).bind fun O=>if decide (t.Cut < O.Cut)=true then some (Sum.inr (Sum.inl ())) else some (Sum.inl (IntKind.i64.wrap ((i:Int) + 1))) else some (Sum.inl (IntKind.i64.wrap ((i:Int) + 1))))=(some (if decide (ip b i<=t.Cut)=true then Sum.inl (IntKind.i64.wrap ((i:Int) + 1)) else Sum.inr (Sum.inl ())):Option (Int⊕(Unit⊕Unit))):=by
    by_cases h0:i=0
    · subst h0; simp [ip,I]
    · have D:i - 1 < b.Tallies.length:=by omega
      have e:IntKind.i64.wrap ((i:Int) - 1)=((i - 1:Nat):Int):=by rw [lg (by omega)]; omega
      rw [if_pos (by simp; omega),e,cS,List.getElem?_eq_getElem D,Option.bind_some]
      have G:ip b i=b.Tallies[i - 1].Cut:=by simp [ip,h0,D]
      rw [G]
      by_cases h2:t.Cut < b.Tallies[i - 1].Cut
      · rw [if_pos (by simpa using h2),if_neg (by simpa using h2)]
      · rw [if_neg (by simpa using h2),if_pos (by simpa using h2)]
  simp only [if_true,Bool.true_and,N]
  cases D:(t.Debtor==t.Holder) with
  | false=>simp
  | true=>cases h2:(t.Left != 0) <;> simp
theorem B2 (b:Book) (aa:b.Cash.length<=4611686018427387904) (Y:b.Tallies.length<=4611686018427387904):Lw (fq b) (0,0)=some (if oN b=true then .inr () else .inl ()):=by
  refine BQ (tb:=fq b) (fun i=>(ip b i,(i:Int))) b.Tallies.length (fun i=>(b.Tallies[i]?).all (rc b i)) (.inl ()) (.inr ()) (fun i D X=>?_) (fun _=>by simp [fq])
  have ab:0<=ip b i:=by
    by_cases h0:i=0
    · simp [ip,h0]
    · have F:i - 1 < b.Tallies.length:=by omega
      have:=X (i - 1) (by omega)
      rw [List.getElem?_eq_getElem F,Option.all_some] at this
      unfold rc at this
      simp only [Bool.and_eq_true] at this
      have U:=(cB.1 this.2.2.1).1
      simp [ip,h0,F,U]
  have Z:ip b (i + 1)=b.Tallies[i].Cut:=by simp [ip,D]
  simp only [fq,cS,List.getElem?_eq_getElem D,Option.bind_some,Option.all_some,wF _ _ (show ([b.Tallies[i].Debtor,b.Tallies[i].Holder]:List Int).length<=4611686018427387904 by simp),Z]
  rw [if_pos (by simpa using D),kF D Y]
  unfold rc
  generalize b.Tallies[i]=t
  simp only [List.all_cons,List.all_nil,Bool.and_true]
  cases ga b.Cash.length t.Debtor with
  | false=>simp
  | true=>
  cases ga b.Cash.length t.Holder with
  | false=>simp
  | true=>
  simp only [Bool.true_and,if_true]
  by_cases c1:t.Cut < ip b i
  · have:decide (ip b i<=t.Cut)=false:=by simpa using c1
    simp [c1,this]
  · have I:decide (ip b i<=t.Cut)=true:=by simpa using c1
    have G:0<=t.Cut:=by omega
    simp only [c1,decide_false,Bool.false_eq_true,if_false,I,Bool.and_true]
    by_cases c2:t.Cut > b.Day
    · simp [c2,gP]; omega
    · have J:gP t.Cut 0 b.Day=true:=cB.2 ⟨G,by omega⟩
      simp only [c2,decide_false,Bool.false_eq_true,if_false,J,Bool.true_and]
      by_cases c3:t.Amount < 1
      · simp [c3,gP]; omega
      · by_cases c4:t.Amount > 100000000
        · simp [c3,c4,gP]; omega
        · have N:gP t.Amount 1 100000000=true:=cB.2 ⟨by omega,by omega⟩
          simp only [c3,c4,decide_false,Bool.false_eq_true,if_false,N,Bool.true_and]
          by_cases c5:t.Left < 0
          · simp [c5,gP]; omega
          · by_cases c6:t.Left > t.Amount
            · simp [c5,c6,gP]; omega
            · have O:gP t.Left 0 t.Amount=true:=cB.2 ⟨by omega,by omega⟩
              simp only [c5,c6,decide_false,Bool.false_eq_true,if_false,O,Bool.true_and]
              cases F:(t.Debtor==t.Holder) with
              | false=>simp
              | true=>cases h2:(t.Left != 0) <;> simp
theorem sn (b:Book) (D:b.Cash.length<=4611686018427387904) (I:b.Tallies.length<=4611686018427387904):ia b=some (p5 b):=by
  unfold ia p5
  rw [sr,Gk b D,B2 b D I]
  simp only [Option.bind_some]
  cases gP b.Day 0 100000 with
  | false=>simp
  | true=>
    simp only [if_true,Bool.true_and]
    by_cases c1:(b.Cash.length:Int) < 1
    · have:gP b.Cash.length 1 16=false:=Fe.2 (.inl c1)
      simp [c1,this]
    · by_cases c2:(b.Cash.length:Int) > 16
      · have:gP b.Cash.length 1 16=false:=Fe.2 (.inr c2)
        simp [c1,c2,this]
      · have F:gP b.Cash.length 1 16=true:=cB.2 ⟨by omega,by omega⟩
        simp only [c1,c2,F,decide_false,Bool.false_eq_true,if_false,Bool.and_true]
        by_cases c3:(b.Tallies.length:Int) > 40
        · have:¬ b.Tallies.length<=40:=by omega
          simp [c3,this]
        · have G:b.Tallies.length<=40:=by omega
          simp only [c3,G,decide_false,decide_true,Bool.false_eq_true,if_false,Bool.true_and]
          cases b.Cash.all Gw <;> cases oN b <;> simp
theorem Cg (b:Book) (D:b.Cash.length<=4611686018427387904) (G:b.Tallies.length<=4611686018427387904):n9 b=some (p5 b):=by
  unfold n9 p5
  rw [AW,F2 _ D,BV b D G]
  simp only [Option.bind_some]
  cases gP b.Day 0 100000 with
  | false=>simp
  | true=>
    simp only [if_true,Bool.true_and]
    cases (b.Cash.all Gw && gP b.Cash.length 1 16) with
    | false=>simp
    | true=>
      by_cases c3:(b.Tallies.length:Int) > 40
      · have:¬ b.Tallies.length<=40:=by omega
        simp [c3,this]
      · have F:b.Tallies.length<=40:=by omega
        simp only [c3,F,decide_false,decide_true,Bool.false_eq_true,if_false,Bool.true_and,if_true]
        cases oN b <;> simp
end Go.Proofs.YtkdinadmheomfaaGreat
namespace Go.Proofs.YtkdinadmheomfaaGreat
open Go Go.Ab
def A4 (p:Int) (a:Int) (t:Tally):Int:=if (t.Holder==p)=true then IntKind.i64.wrap (a + t.Left) else a
def Bc (p:Int) (a:Int) (t:Tally):Int:=if (t.Debtor==p)=true then IntKind.i64.wrap (a + t.Left) else a
def Bq (b:Book) (p:Int):Int:=b.Tallies.foldl (A4 p) 0
def B1 (b:Book) (p:Int):Int:=b.Tallies.foldl (Bc p) 0
theorem D4 {α β τ:Type} (f:α->τ->α) (g:β->τ->β) (xs:List τ):∀ (a:α) (b:β),xs.foldl (fun p x=>(f p.1 x,g p.2 x)) (a,b)=(xs.foldl f a,xs.foldl g b):=by
  induction xs with
  | nil=>intro a b; rfl
  | cons x xs D=>intro a b; exact D _ _
theorem zz (b:Book) (p:Int) (G:b.Tallies.length<=4611686018427387904):jm b p=some (Bq b p,B1 b p):=by
  unfold jm Bq B1
  have F:=KW (tb:=fD b p) b.Tallies (fun q t=>(A4 p q.1 t,Bc p q.2 t)) (fun q i=>(q.1,q.2,(i:Int))) id
    (by
      intro i D a
      simp only [fD,cS,List.getElem?_eq_getElem D,Option.bind_some,A4,Bc]
      rw [if_pos (by simpa using D),kF D G]
      by_cases h1:(b.Tallies[i].Holder==p)=true <;> by_cases h2:(b.Tallies[i].Debtor==p)=true <;> simp [h1,h2])
    (by intro a; simp [fD]) (0,0)
  rw [D4] at F
  have e:((0:Int),(0:Int),((0:Nat):Int))=(0,0,0):=rfl
  simp only [e] at F
  rw [F]; rfl
def za (b:Book) (p:Int):Int:=if p5 b=true then (if ga b.Cash.length p=true then 0 else 2) else 1
theorem Ag (b:Book) (p:Int) (D:b.Cash.length<=4611686018427387904) (F:b.Tallies.length<=4611686018427387904):j5 b p=some (za b p):=by
  unfold j5 za
  rw [sn b D F,wF _ _ (by simp)]
  simp only [Option.bind_some,List.all_cons,List.all_nil,Bool.and_true]
  cases p5 b <;> cases ga b.Cash.length p <;> simp
end Go.Proofs.YtkdinadmheomfaaGreat
namespace Go.Proofs.YtkdinadmheomfaaGreat
open Go Go.Ab
def h9 (d:Deal):Bool:=
  gP d.Day 0 100000 &&
  ((d.Kind==1 && d.Tally==0 && gP d.From 0 15 && gP d.To 0 15 && gP d.Amount 1 100000000) ||
   (d.Kind==2 && gP d.Tally 0 39 && gP d.From 0 15 && gP d.To 0 15 && d.Amount==0) ||
   (d.Kind==3 && gP d.Tally 0 39 && d.From==0 && d.To==0 && gP d.Amount 1 100000000) ||
   (d.Kind==4 && gP d.Tally 0 39 && gP d.From 0 15 && d.To==0 && d.Amount==0))
theorem DA (d:Deal):mN d=some (h9 d):=by
  unfold mN h9
  simp only [na,AW,Option.bind_some,CM,yg]
  cases gP d.Day 0 100000 with
  | false=>simp
  | true=>
    by_cases h1:d.Kind=1
    · simp [h1,Bool.and_assoc]
    by_cases h2:d.Kind=2
    · simp [h2,Bool.and_assoc]
    by_cases h3:d.Kind=3
    · simp [h3,Bool.and_assoc]
    by_cases h4:d.Kind=4
    · simp [h4,Bool.and_assoc]
    have D:(d.Kind==1)=false:=by simpa using h1
    have F:(d.Kind==2)=false:=by simpa using h2
    have G:(d.Kind==3)=false:=by simpa using h3
    have I:(d.Kind==4)=false:=by simpa using h4
    simp [D,F,G,I]
theorem Ol (u:Bool) (n F D:Int):eQ u n F D=some (if u=true then gP n F D else n==0):=by
  unfold eQ gP; cases u <;> by_cases h:F<=n <;> by_cases h':n<=D <;> simp [h,h']
theorem BN (d:Deal):kQ d=some (h9 d):=by
  unfold kQ h9 hI
  simp only [sr,Ol,Option.bind_some,CM,yg]
  cases gP d.Day 0 100000 with
  | false=>simp
  | true=>
    by_cases h1:d.Kind=1
    · simp [h1,Bool.and_assoc]
    by_cases h2:d.Kind=2
    · simp [h2,Bool.and_assoc]
    by_cases h3:d.Kind=3
    · simp [h3,Bool.and_assoc]
    by_cases h4:d.Kind=4
    · simp [h4,Bool.and_assoc]
    have D:(d.Kind==1)=false:=by simpa using h1
    have F:(d.Kind==2)=false:=by simpa using h2
    have G:(d.Kind==3)=false:=by simpa using h3
    have I:(d.Kind==4)=false:=by simpa using h4
    have:d.Kind < 1∨d.Kind > 4:=by omega
    rcases this with h | h <;> simp [D,F,G,I,h]
end Go.Proofs.YtkdinadmheomfaaGreat
namespace Go.Proofs.YtkdinadmheomfaaGreat
open Go Go.Ab
theorem Dd (xs:List Deal) (F:xs.length<=4611686018427387904):l7 xs=some (xs.all h9):=by
  unfold l7
  have G:=iK (tb:=hH xs) xs.length F (fun i=>(xs[i]?).all h9) () ()
    (by
      intro i D
      simp only [hH,cS,List.getElem?_eq_getElem D,Option.bind_some,BN,Option.all_some]
      rw [if_pos (by simpa using D)]
      cases h9 xs[i] <;> simp)
    (by simp [hH])
  rw [G,sV]
  cases xs.all h9 <;> simp
theorem Dl (xs:List Deal) (F:xs.length<=4611686018427387904):lM xs=some (xs.all h9):=by
  unfold lM
  have G:=iK (tb:=hJ xs) xs.length F (fun i=>(xs[i]?).all h9) () ()
    (by
      intro i D
      simp only [hJ,cS,List.getElem?_eq_getElem D,Option.bind_some,DA,Option.all_some]
      rw [if_pos (by simpa using D)]
      cases h9 xs[i] <;> simp)
    (by simp [hJ])
  rw [G,sV]
  cases xs.all h9 <;> simp
end Go.Proofs.YtkdinadmheomfaaGreat
namespace Go.Proofs.YtkdinadmheomfaaGreat
open Go Go.Ab
def OO (n:Int) (t:Tally):Prop:=(0<=t.Debtor/\t.Debtor < n)/\(0<=t.Holder/\t.Holder < n)/\(0<=t.Left/\t.Left<=100000000)/\(t.Debtor=t.Holder->t.Left=0)
structure BkI (b:Book):Prop where
  c1:1<=b.Cash.length
  cn:b.Cash.length<=16
  tn:b.Tallies.length<=40
  ca:∀ c ∈ b.Cash,0<=c/\c<=100000000
  ta:∀ t ∈ b.Tallies,OO b.Cash.length t
theorem BkI.of {b:Book} (h:p5 b=true):BkI b:=by
  unfold p5 at h
  simp only [Bool.and_eq_true,decide_eq_true_eq,List.all_eq_true] at h
  obtain ⟨_,⟨O,U⟩,h3,h4⟩:=h
  obtain ⟨Z,aa⟩:=cB.1 U
  refine ⟨by omega,by omega,h3,fun c X=>cB.1 (O c X),fun t Y=>?_⟩
  unfold oN at h4
  rw [List.all_eq_true] at h4
  obtain ⟨i,N,rfl⟩:=List.getElem_of_mem Y
  have:=h4 i (List.mem_range.2 N)
  rw [List.getElem?_eq_getElem N,Option.all_some] at this
  unfold rc ga at this
  simp only [Bool.and_eq_true] at this
  obtain ⟨D,F,_,I,G,J,_⟩:=this
  have D:0<=b.Tallies[i].Debtor/\b.Tallies[i].Debtor < (b.Cash.length:Int):=by simpa using D
  have F:0<=b.Tallies[i].Holder/\b.Tallies[i].Holder < (b.Cash.length:Int):=by simpa using F
  have I:=cB.1 I
  have G:=cB.1 G
  refine ⟨⟨D.1,by omega⟩,⟨F.1,by omega⟩,⟨G.1,by omega⟩,fun e=>?_⟩
  simp [e] at J
  exact J
end Go.Proofs.YtkdinadmheomfaaGreat
namespace Go.Proofs.YtkdinadmheomfaaGreat
open Go Go.Ab
theorem oc (b:Book) (h:BkI b):ll b=some (b.Day,b.Cash,b.Tallies):=by
  have D:=h.cn
  have F:=h.tn
  unfold ll dZ hO
  rw [fL (by simp only [List.length_nil]; omega) (by decide),fL (by simp only [List.length_nil]; omega) (by decide)]
  simp
theorem fo (b:Book) (h:BkI b):hC b=some (b.Day,b.Cash,b.Tallies):=by
  have D:=h.cn
  have F:=h.tn
  unfold hC
  rw [fL (by simp only [List.length_nil]; omega) (by decide),fL (by simp only [List.length_nil]; omega) (by decide)]
  simp
theorem jh (n:Nat) (D:n<=16) (x:Int) (h:0<=x):d3 (n:Int) x=some (decide (x < n)):=by
  rw [sU _ _ (by omega)]
  unfold ga
  simp [h]
abbrev OS:=Int⊕(Int×(List Int)×(List Tally))
def NQ (n:Nat) (r:OS):Prop:=(∀ x,r = .inl x->x≠0)/\∀ d c t,r = .inr (d,c,t)->BkI ⟨d,c,t⟩/\c.length=n
theorem NQ.l {n:Nat} {x:Int} (h:x≠0:=by decide):NQ n (.inl x):=⟨fun _ e=>by cases e; exact h,fun _ _ _ h=>by cases h⟩
theorem NQ.r {n:Nat} {v:Int×(List Int)×(List Tally)} (h:∀ d c t,(.inr v:OS) = .inr (d,c,t)->BkI ⟨d,c,t⟩/\c.length=n):NQ n (.inr v):=⟨fun _ e=>(by cases e),h⟩
def N7 (b:Book) (d:Deal):Prop:=∃ r,dx b d=some r/\bT b d=some r/\NQ b.Cash.length r
theorem MW (b:Book) (d:Deal) (D:BkI b) (F:d.Kind=1) (Z:0<=d.From) (aa:0<=d.To) (ab:0<=d.Amount/\d.Amount<=100000000):N7 b d:=by
  have J:hI 1=some (false,true,true,true):=by simp [hI]
  have N:=jh b.Cash.length D.cn d.From Z
  have O:=jh b.Cash.length D.cn d.To aa
  by_cases c0:d.Day < b.Day
  · exact ⟨.inl 4,by simp [dx,c0],by simp [bT,bt,c0],.l⟩
  by_cases c1:d.From < b.Cash.length
  · have G:¬ (b.Cash.length:Int)<=d.From:=by omega
    by_cases c2:d.To < b.Cash.length
    · have I:¬ (b.Cash.length:Int)<=d.To:=by omega
      by_cases c3:d.From=d.To
      · have U:¬ (b.Cash.length:Int)<=d.To:=I
        exact ⟨.inl 4,by simp [dx,c0,J,F,G,I,c3],by simp [bT,bt,c0,N,O,c1,c2,c3,F],.l⟩
      · have U:(d.From==d.To)=false:=by simpa using c3
        by_cases c4:b.Tallies.length=40
        · exact ⟨.inl 3,by simp [dx,c0,J,F,G,I,U,oc b D,c4],by simp [bT,bt,c0,N,O,c1,c2,c3,F,c4],.l⟩
        · have ad:=D.tn
          have Y:¬ (b.Tallies.length:Int)=40:=by omega
          have X:qB 40 b.Tallies [⟨d.From,d.To,d.Day,d.Amount,d.Amount⟩]=some (b.Tallies++[⟨d.From,d.To,d.Day,d.Amount,d.Amount⟩]):=fL (by simp; omega) (by simp)
          refine ⟨.inr (d.Day,b.Cash,b.Tallies++[⟨d.From,d.To,d.Day,d.Amount,d.Amount⟩]),by simp [dx,c0,J,F,G,I,U,oc b D,Y,X],by simp [bT,bt,c0,N,O,c1,c2,c3,F,Y,fo b D,X],.r fun _ _ _ h=>?_⟩
          cases h
          refine ⟨⟨D.c1,D.cn,by simp; omega,D.ca,fun t ac=>?_⟩,rfl⟩
          rcases List.mem_append.1 ac with h | h
          · exact D.ta t h
          · obtain rfl:=List.mem_singleton.1 h
            exact ⟨⟨Z,c1⟩,⟨aa,c2⟩,ab,fun e=>absurd e c3⟩
    · have I:(b.Cash.length:Int)<=d.To:=by omega
      exact ⟨.inl 2,by simp [dx,c0,J,F,G,I],by simp [bT,bt,c0,N,O,c1,c2],.l⟩
  · have G:(b.Cash.length:Int)<=d.From:=by omega
    exact ⟨.inl 2,by simp [dx,c0,J,F,G],by simp [bT,bt,c0,N,O,c1],.l⟩
theorem BkI.set {b:Book} (D:BkI b) (G:Int) (c:List Int) (F:c.length=b.Cash.length) (I:∀ x ∈ c,0<=x/\x<=100000000) (i:Nat) (t:Tally) (J:OO b.Cash.length t):BkI ⟨G,c,b.Tallies.set i t⟩:=by
  refine ⟨by simpa [F] using D.c1,by simpa [F] using D.cn,by simpa using D.tn,I,fun x N=>?_⟩
  rcases List.mem_or_eq_of_mem_set N with h | rfl
  · simpa [F] using D.ta x h
  · simpa [F] using J
theorem KL (b:Book) (d:Deal) (J:BkI b) (D:d.Kind=2) (am:0<=d.From) (ab:0<=d.To) (ap:0<=d.Tally) (ao:d.Amount=0):N7 b d:=by
  have O:hI 2=some (true,true,true,false):=by simp [hI]
  have U:=jh b.Cash.length J.cn d.From am
  have X:=jh b.Cash.length J.cn d.To ab
  by_cases c0:d.Day < b.Day
  · exact ⟨.inl 4,by simp [dx,c0],by simp [bT,bt,c0],.l⟩
  by_cases c1:d.From < b.Cash.length
  · have I:¬ (b.Cash.length:Int)<=d.From:=by omega
    by_cases c2:d.To < b.Cash.length
    · have N:¬ (b.Cash.length:Int)<=d.To:=by omega
      by_cases c3:d.Tally < b.Tallies.length
      · have F:¬ (b.Tallies.length:Int)<=d.Tally:=by omega
        obtain ⟨i,an⟩:∃ i:Nat,d.Tally=i:=⟨d.Tally.toNat,by omega⟩
        have ai:i < b.Tallies.length:=by omega
        have G:rd b.Tallies d.Tally=some b.Tallies[i]:=by rw [an,cS,List.getElem?_eq_getElem ai]
        obtain ⟨aa,aj,ac,ak⟩:=J.ta _ (List.getElem_mem ai)
        have Z:=oc b J
        have ah:=fo b J
        revert G aa aj ac ak
        generalize b.Tallies[i]=t
        intro G aa aj ac ak
        by_cases c4:d.From=d.To
        · exact ⟨.inl 4,by simp [dx,c0,O,D,I,N,F,c4],by simp [bT,bt,c0,U,X,c1,c2,F,c4,D,G],.l⟩
        · have Y:(d.From==d.To)=false:=by simpa using c4
          by_cases c5:t.Holder=d.From
          · by_cases c6:t.Left=0
            · exact ⟨.inl 4,by simp [dx,c0,O,D,I,N,F,Y,Z,G,c5,c6],by simp [bT,bt,c0,U,X,c1,c2,F,c4,D,G,c5,c6],.l⟩
            · have ae:¬ d.Amount > t.Left:=by omega
              by_cases c8:t.Debtor=d.To
              · refine ⟨.inr (d.Day,b.Cash,b.Tallies.set d.Tally.toNat ⟨t.Debtor,d.To,t.Cut,t.Amount,0⟩),?_,?_,.r fun _ _ _ h=>?_⟩
                · simp [dx,c0,O,D,I,N,F,Y,Z,G,c5,c6,c8]
                · simp [bT,bt,c0,U,X,c1,c2,F,c4,D,G,c5,c6,ae,c8,ah]
                · cases h
                  exact ⟨J.set _ _ rfl J.ca _ _ ⟨aa,⟨ab,c2⟩,by simp,fun _=>rfl⟩,rfl⟩
              · have af:¬ d.To=t.Debtor:=fun h=>c8 h.symm
                refine ⟨.inr (d.Day,b.Cash,b.Tallies.set d.Tally.toNat ⟨t.Debtor,d.To,t.Cut,t.Amount,t.Left⟩),?_,?_,.r fun _ _ _ h=>?_⟩
                · simp [dx,c0,O,D,I,N,F,Y,Z,G,c5,c6,af]
                · simp [bT,bt,c0,U,X,c1,c2,F,c4,D,G,c5,c6,ae,af,ah]
                · cases h
                  exact ⟨J.set _ _ rfl J.ca _ _ ⟨aa,⟨ab,c2⟩,ac,fun e=>absurd e c8⟩,rfl⟩
          · have ad:¬ d.From=t.Holder:=fun h=>c5 h.symm
            exact ⟨.inl 4,by simp [dx,c0,O,D,I,N,F,Y,Z,G,ad],by simp [bT,bt,c0,U,X,c1,c2,F,c4,D,G,ad],.l⟩
      · have F:(b.Tallies.length:Int)<=d.Tally:=by omega
        exact ⟨.inl 2,by simp [dx,c0,O,D,I,N,F],by simp [bT,bt,c0,U,X,c1,c2,F,D],.l⟩
    · have N:(b.Cash.length:Int)<=d.To:=by omega
      exact ⟨.inl 2,by simp [dx,c0,O,D,I,N],by simp [bT,bt,c0,U,X,c1,c2],.l⟩
  · have I:(b.Cash.length:Int)<=d.From:=by omega
    exact ⟨.inl 2,by simp [dx,c0,O,D,I],by simp [bT,bt,c0,U,X,c1],.l⟩
theorem L3 (b:Book) (d:Deal) (G:BkI b) (F:d.Kind=4) (ai:0<=d.From) (ao:d.To=0) (an:0<=d.Tally) (ak:d.Amount=0):N7 b d:=by
  have N:hI 4=some (true,true,false,false):=by simp [hI]
  have O:=jh b.Cash.length G.cn d.From ai
  have U:=jh b.Cash.length G.cn d.To (by omega)
  have am:=G.c1
  have X:d.To < b.Cash.length:=by omega
  by_cases c0:d.Day < b.Day
  · exact ⟨.inl 4,by simp [dx,c0],by simp [bT,bt,c0],.l⟩
  by_cases c1:d.From < b.Cash.length
  · have J:¬ (b.Cash.length:Int)<=d.From:=by omega
    by_cases c3:d.Tally < b.Tallies.length
    · have D:¬ (b.Tallies.length:Int)<=d.Tally:=by omega
      obtain ⟨i,aj⟩:∃ i:Nat,d.Tally=i:=⟨d.Tally.toNat,by omega⟩
      have ac:i < b.Tallies.length:=by omega
      have I:rd b.Tallies d.Tally=some b.Tallies[i]:=by rw [aj,cS,List.getElem?_eq_getElem ac]
      obtain ⟨Z,aa,ad,ae⟩:=G.ta _ (List.getElem_mem ac)
      have Y:=oc b G
      have ah:=fo b G
      revert I Z aa ad ae
      generalize b.Tallies[i]=t
      intro I Z aa ad ae
      by_cases c5:t.Holder=d.From
      · by_cases c6:t.Left=0
        · exact ⟨.inl 4,by simp [dx,c0,N,F,J,D,Y,I,c5,c6],by simp [bT,bt,c0,O,U,c1,X,D,F,I,c5,c6],.l⟩
        · have af:¬ d.Amount > t.Left:=by omega
          refine ⟨.inr (d.Day,b.Cash,b.Tallies.set d.Tally.toNat ⟨t.Debtor,t.Holder,t.Cut,t.Amount,0⟩),?_,?_,.r fun _ _ _ h=>?_⟩
          · simp [dx,c0,N,F,J,D,Y,I,c5,c6]
          · simp [bT,bt,c0,O,U,c1,X,D,F,I,c5,c6,af,ah]
          · cases h
            exact ⟨G.set _ _ rfl G.ca _ _ ⟨Z,aa,by simp,fun _=>rfl⟩,rfl⟩
      · have ab:¬ d.From=t.Holder:=fun h=>c5 h.symm
        exact ⟨.inl 4,by simp [dx,c0,N,F,J,D,Y,I,ab],by simp [bT,bt,c0,O,U,c1,X,D,F,I,ab],.l⟩
    · have D:(b.Tallies.length:Int)<=d.Tally:=by omega
      exact ⟨.inl 2,by simp [dx,c0,N,F,J,D],by simp [bT,bt,c0,O,U,c1,X,D,F],.l⟩
  · have J:(b.Cash.length:Int)<=d.From:=by omega
    exact ⟨.inl 2,by simp [dx,c0,N,F,J],by simp [bT,bt,c0,O,U,c1],.l⟩
theorem MP (b:Book) (d:Deal) (I:BkI b) (F:d.Kind=3) (aD:d.From=0) (aF:d.To=0) (aE:0<=d.Tally) (aB:1<=d.Amount/\d.Amount<=100000000):N7 b d:=by
  have O:hI 3=some (true,false,false,true):=by simp [hI]
  have U:=jh b.Cash.length I.cn d.From (by omega)
  have X:=jh b.Cash.length I.cn d.To (by omega)
  have aC:=I.c1
  have c1:d.From < b.Cash.length:=by omega
  have N:d.To < b.Cash.length:=by omega
  by_cases c0:d.Day < b.Day
  · exact ⟨.inl 4,by simp [dx,c0],by simp [bT,bt,c0],.l⟩
  by_cases c3:d.Tally < b.Tallies.length
  · have D:¬ (b.Tallies.length:Int)<=d.Tally:=by omega
    obtain ⟨i,ax⟩:∃ i:Nat,d.Tally=i:=⟨d.Tally.toNat,by omega⟩
    have aq:i < b.Tallies.length:=by omega
    have G:rd b.Tallies d.Tally=some b.Tallies[i]:=by rw [ax,cS,List.getElem?_eq_getElem aq]
    obtain ⟨ai,aj,au,ac⟩:=I.ta _ (List.getElem_mem aq)
    have Y:=oc b I
    have aw:=fo b I
    revert G ai aj au ac
    generalize b.Tallies[i]=t
    intro G ai aj au ac
    by_cases c6:t.Left=0
    · exact ⟨.inl 4,by simp [dx,c0,O,F,D,Y,G,c6],by simp [bT,bt,c0,U,X,c1,N,D,F,G,c6],.l⟩
    by_cases c7:d.Amount > t.Left
    · exact ⟨.inl 4,by simp [dx,c0,O,F,D,Y,G,c6,c7],by simp [bT,bt,c0,U,X,c1,N,D,F,G,c6,c7],.l⟩
    obtain ⟨j,ao⟩:∃ j:Nat,t.Debtor=j:=⟨t.Debtor.toNat,by omega⟩
    obtain ⟨k,af⟩:∃ k:Nat,t.Holder=k:=⟨t.Holder.toNat,by omega⟩
    have ap:j < b.Cash.length:=by omega
    have aa:k < b.Cash.length:=by omega
    have ay:¬ j=k:=fun e=>c6 (ac (by omega))
    have J:rd b.Cash t.Debtor=some b.Cash[j]:=by rw [ao,cS,List.getElem?_eq_getElem ap]
    have ab:rd b.Cash t.Holder=some b.Cash[k]:=by rw [af,cS,List.getElem?_eq_getElem aa]
    have am:=I.ca _ (List.getElem_mem ap)
    have an:=I.ca _ (List.getElem_mem aa)
    have Z:∀ x,rd (b.Cash.set t.Debtor.toNat x) t.Holder=some b.Cash[k]:=fun x=>by
      rw [af,cS,ao,Int.toNat_natCast,List.getElem?_set_ne ay,List.getElem?_eq_getElem aa]
    have ar:∀ x y,rd ((b.Cash.set t.Debtor.toNat x).set t.Holder.toNat y) t.Holder=some y:=fun x y=>by
      rw [af,cS,Int.toNat_natCast,List.getElem?_set_self (by simpa using aa)]
    have ae:∀ x ∈ (b.Cash.set t.Debtor.toNat (b.Cash[j] - d.Amount)).set t.Holder.toNat (b.Cash[k] + d.Amount),¬ b.Cash[j] < d.Amount->¬ b.Cash[k] + d.Amount > 100000000->0<=x/\x<=100000000:=fun x ah az aA=>by
      rcases List.mem_or_eq_of_mem_set ah with h | rfl
      · rcases List.mem_or_eq_of_mem_set h with h | rfl
        · exact I.ca x h
        · omega
      · omega
    revert J ab am an Z ae
    generalize b.Cash[j]=u
    generalize b.Cash[k]=v
    intro J ab am an Z ae
    have ak:IntKind.i64.wrap (u - d.Amount)=u - d.Amount:=lg (by omega)
    have ad:IntKind.i64.wrap (v + d.Amount)=v + d.Amount:=lg (by omega)
    have av:IntKind.i64.wrap (t.Left - d.Amount)=t.Left - d.Amount:=lg (by omega)
    by_cases c8:u < d.Amount
    · exact ⟨.inl 8,by simp [dx,c0,O,F,D,Y,G,c6,c7,J,c8],by simp [bT,bt,c0,U,X,c1,N,D,F,G,c6,c7,J,c8],.l⟩
    by_cases c9:v + d.Amount > 100000000
    · exact ⟨.inl 3,by simp [dx,c0,O,F,D,Y,G,c6,c7,J,c8,Z,ar,ak,ad,c9],by simp [bT,bt,c0,U,X,c1,N,D,F,G,c6,c7,J,c8,ab,ad,c9],.l⟩
    refine ⟨.inr (d.Day,(b.Cash.set t.Debtor.toNat (u - d.Amount)).set t.Holder.toNat (v + d.Amount),b.Tallies.set d.Tally.toNat ⟨t.Debtor,t.Holder,t.Cut,t.Amount,t.Left - d.Amount⟩),?_,?_,.r fun _ _ _ h=>?_⟩
    · simp [dx,c0,O,F,D,Y,G,c6,c7,J,c8,Z,ar,ak,ad,av,c9]
    · simp [bT,bt,c0,U,X,c1,N,D,F,G,c6,c7,J,c8,ab,Z,ak,ad,av,c9,aw]
    · cases h
      exact ⟨I.set _ _ (by simp) (fun x ah=>ae x ah c8 c9) _ _ ⟨ai,aj,⟨by simp; omega,by simp; omega⟩,fun e=>absurd (ac e) c6⟩,by simp⟩
  · have D:(b.Tallies.length:Int)<=d.Tally:=by omega
    exact ⟨.inl 2,by simp [dx,c0,O,F,D],by simp [bT,bt,c0,U,X,c1,N,D,F],.l⟩
theorem Et (b:Book) (d:Deal) (G:BkI b) (I:h9 d=true):N7 b d:=by
  unfold h9 at I
  simp only [Bool.and_eq_true,Bool.or_eq_true,beq_iff_eq,cB] at I
  obtain ⟨_,((h | h) | h) | h⟩:=I
  · obtain ⟨⟨⟨⟨D,F⟩,h3⟩,h4⟩,h5⟩:=h
    exact MW b d G D h3.1 h4.1 ⟨by omega,h5.2⟩
  · obtain ⟨⟨⟨⟨D,F⟩,h3⟩,h4⟩,h5⟩:=h
    exact KL b d G D h3.1 h4.1 F.1 h5
  · obtain ⟨⟨⟨⟨D,F⟩,h3⟩,h4⟩,h5⟩:=h
    exact MP b d G D h3 h4 F.1 h5
  · obtain ⟨⟨⟨⟨D,F⟩,h3⟩,h4⟩,h5⟩:=h
    exact L3 b d G D h3.1 h4 F.1 h5
end Go.Proofs.YtkdinadmheomfaaGreat
namespace Go.Proofs.YtkdinadmheomfaaGreat
open Go Go.Ab
def Ij (n:Nat) (D:List Book):Prop:=∀ x ∈ D,BkI x/\x.Cash.length=n
def wQ (b:Book) (s:Book) (D:List Book):Prop:=(D=[]/\s=b)∨D.getLast? = some s
theorem DJ (xs:List Deal) (b:Book) (ai:BkI b) (aj:∀ d ∈ xs,h9 d=true) (ao:xs.length<=80) :
    ∃ r X,Lw (hF xs) (0,b.Day,b.Cash,b.Tallies,[])=some r/\Lw (dw xs) (0,b.Day,b.Cash,b.Tallies,[])=some X /\
      ((∃ c D,r = .inl (c,D)/\X = .inl (c,(D.length:Int))/\c≠0/\D.length<=80/\Ij b.Cash.length D) ∨
        ∃ d cs ts D,r = .inr (d,cs,ts,D)/\X = .inr (d,cs,ts,D)/\D.length=xs.length/\BkI ⟨d,cs,ts⟩/\cs.length=b.Cash.length/\Ij b.Cash.length D/\wQ b ⟨d,cs,ts⟩ D):=by
  refine BI (tb:=hF xs) (tb2:=dw xs) (fun s=>xs.length - s.1.toNat)
    (fun s ah=>s=ah/\∃ i:Nat,s.1=i/\i<=xs.length/\s.2.2.2.2.length=i/\BkI ⟨s.2.1,s.2.2.1,s.2.2.2.1⟩/\s.2.2.1.length=b.Cash.length/\Ij b.Cash.length s.2.2.2.2/\wQ b ⟨s.2.1,s.2.2.1,s.2.2.2.1⟩ s.2.2.2.2) _ ?_ _ _ _ rfl
    ⟨rfl,0,rfl,by omega,rfl,ai,rfl,fun x h=>(nomatch h),.inl ⟨rfl,rfl⟩⟩
  rintro ⟨j,d,cs,ts,D⟩ ah ⟨rfl,i,ae,an,U,O,I,G,af⟩
  simp only at ae U O I G af
  subst ae
  by_cases hlt:i < xs.length
  · obtain ⟨q,Z,aa,ab⟩:=Et ⟨d,cs,ts⟩ xs[i] O (aj _ (List.getElem_mem hlt))
    have J:rd xs (i:Int)=some xs[i]:=by rw [cS,List.getElem?_eq_getElem hlt]
    rcases q with q | ⟨F,cs',ts'⟩
    · have N:q≠0:=ab.1 q rfl
      exact .inr ⟨.inl (q,D),.inl (q,(i:Int)),by simp [hF,J,hlt,Z,N],by simp [dw,J,hlt,aa,N],.inl ⟨q,D,rfl,by rw [U],N,by omega,G⟩⟩
    · obtain ⟨ac,ad⟩:=ab.2 _ _ _ rfl
      have Y:qB 56 D [⟨F,cs',ts'⟩]=some (D++[⟨F,cs',ts'⟩]):=fL (by simp; omega) (by decide)
      have w:=kF hlt (by omega)
      refine .inl ⟨(((i + 1:Nat):Int),F,cs',ts',D++[⟨F,cs',ts'⟩]),_,by simp [hF,J,hlt,Z,Y,w],by simp [dw,J,hlt,aa,Y,w],⟨rfl,i + 1,rfl,by omega,by simp [U],ac,by simpa [I] using ad,fun x ak=>?_,.inr (by simp)⟩,by simp; omega⟩
      rcases List.mem_append.1 ak with h | h
      · exact G x h
      · obtain rfl:=List.mem_singleton.1 h
        exact ⟨ac,by simpa [I] using ad⟩
  · have am:i=xs.length:=by omega
    exact .inr ⟨.inr (d,cs,ts,D),.inr (d,cs,ts,D),by simp [hF,hlt],by simp [dw,hlt],.inr ⟨d,cs,ts,D,rfl,rfl,by omega,O,I,G,af⟩⟩
def Mg (b:Book) (xs:List Deal):Prop:=
  (∃ c D,kN b xs=some (D,c)/\hE b xs=some ([],c,(D.length:Int))/\c≠0/\D.length<=80/\Ij b.Cash.length D) ∨
    ∃ s D,kN b xs=some (D,0)/\hE b xs=some (D,0,0)/\D.length=xs.length/\BkI s/\s.Cash.length=b.Cash.length/\Ij b.Cash.length D/\wQ b s D
theorem DM (xs:List Deal) (b:Book) (D:BkI b) (N:∀ d ∈ xs,h9 d=true) (J:xs.length<=80):Mg b xs:=by
  obtain ⟨r,O,G,I,h⟩:=DJ xs b D N J
  rcases h with ⟨c,F,rfl,rfl,h⟩ | ⟨d,cs,ts,F,rfl,rfl,h⟩
  · exact .inl ⟨c,F,by unfold kN; rw [G]; rfl,by unfold hE; rw [fo b D,Option.bind_some]; simp only; rw [I]; rfl,h⟩
  · exact .inr ⟨⟨d,cs,ts⟩,F,by unfold kN; rw [G]; rfl,by unfold hE; rw [fo b D,Option.bind_some]; simp only; rw [I]; rfl,h⟩
def FJ (b:Book) (xs:List Deal):Int:=if p5 b && xs.all h9 then if (80:Int) < (xs.length:Int) then 3 else 0 else 1
theorem BX (b:Book) (xs:List Deal) (D:b.Cash.length<=4611686018427387904) (F:b.Tallies.length<=4611686018427387904) (G:xs.length<=4611686018427387904):jE b xs=some (FJ b xs):=by
  unfold jE FJ
  rw [sn b D F,Dd xs G]
  cases p5 b <;> cases xs.all h9 <;> simp <;> split <;> rfl
theorem CQ (b:Book) (xs:List Deal) (D:b.Cash.length<=4611686018427387904) (F:b.Tallies.length<=4611686018427387904) (G:xs.length<=4611686018427387904):l3 b xs=some (FJ b xs):=by
  unfold l3 FJ
  rw [Cg b D F,Dl xs G]
  cases p5 b <;> cases xs.all h9 <;> simp <;> split <;> rfl
end Go.Proofs.YtkdinadmheomfaaGreat
namespace Go.Proofs.YtkdinadmheomfaaGreat
open Go Go.Ab
theorem AK {τ R:Type} {tb:Int->Option (Int⊕R)} (p:τ->Bool) (xs:List τ) (D:Nat->R) (F:R)
    (I:∀ (i:Nat) (h:i < xs.length),p xs[i]=false->tb (i:Int)=some (.inl ((i + 1:Nat):Int))) (J:∀ (i:Nat) (h:i < xs.length),p xs[i]=true->tb (i:Int)=some (.inr (D i))) (N:tb (xs.length:Int)=some (.inr F)) :
    Lw tb 0=some (if xs.findIdx p < xs.length then D (xs.findIdx p) else F):=by
  have O:=g7 (tb:=tb) (fun i=>(i:Int)) (xs.findIdx p) (r:=if xs.findIdx p < xs.length then D (xs.findIdx p) else F)
    (fun i G=>I i (Nat.lt_of_lt_of_le G List.findIdx_le_length) (by simpa using List.not_of_lt_findIdx G))
    (by
      by_cases h:xs.findIdx p < xs.length
      · rw [if_pos h]; exact J _ h List.findIdx_getElem
      · rw [if_neg h]
        have:xs.findIdx p=xs.length:=Nat.le_antisymm List.findIdx_le_length (by omega)
        simp only [this]; exact N)
  exact O
theorem Kq (xs:List Deal) (D:Int) (G:xs.length<=4611686018427387904) :
    cK xs D=some (if xs.findIdx (fun d=>decide (d.Day > D)) < xs.length then ((xs.findIdx fun d=>decide (d.Day > D):Nat):Int) else -1):=by
  unfold cK
  have I:=AK (tb:=cd xs D) (fun d=>decide (d.Day > D)) xs (fun i=>.inl (i:Int)) (.inr ())
    (by
      intro i h F
      have w:=kF h G
      simp only [decide_eq_false_iff_not] at F
      simp [cd,kK,cS,h,F,w])
    (by
      intro i h F
      simp only [decide_eq_true_eq] at F
      simp [cd,kK,cS,h,F])
    (by simp [cd])
  rw [I,Option.bind_some]
  by_cases h:xs.findIdx (fun d=>decide (d.Day > D)) < xs.length
  · rw [if_pos h,if_pos h]
  · rw [if_neg h,if_neg h]
theorem OJ {τ:Type} (xs:List τ) (n:Nat) (h:n<=xs.length):NK xs 0 (n:Int)=some (xs.take n):=by
  unfold NK
  rw [if_pos ⟨by omega,by omega,by omega⟩]; simp
theorem Fq {D:List Book} {s:Book} (h:D.getLast? = some s) (G:D.length<=4611686018427387904):rd D (IntKind.i64.wrap ((D.length:Int) - 1))=some s:=by
  have F:D≠[]:=fun e=>by subst e; cases h
  have I:0 < D.length:=List.length_pos_iff.2 F
  rw [lg (by omega),show ((D.length:Int) - 1)=((D.length - 1:Nat):Int) by omega,cS,<- List.getLast?_eq_getElem?,h]
end Go.Proofs.YtkdinadmheomfaaGreat
namespace Go.Proofs.YtkdinadmheomfaaGreat
open Go Go.Ab
def Lo (c:List Int):Prop:=c.length<=4611686018427387904/\∀ x ∈ c,0<=x/\x<=255
theorem Ds (n:Int):0<=IntKind.i64.wrap (Cf .u64 n 255)/\IntKind.i64.wrap (Cf .u64 n 255)<=255:=by
  have F:(BitVec.ofInt IntKind.u64.bits n &&& BitVec.ofInt IntKind.u64.bits 255).toNat<=255:=by
    rw [BitVec.toNat_and]
    exact Nat.le_trans Nat.and_le_right (by decide)
  have D:Cf .u64 n 255=((BitVec.ofInt IntKind.u64.bits n &&& BitVec.ofInt IntKind.u64.bits 255).toNat:Int):=by
    unfold Cf
    exact IntWalk.u64_in _ ⟨by omega,by omega⟩
  rw [D,lg (by omega)]
  omega
theorem Oj (n:Int):∃ m,shr .u64 n 40=some m:=by
  unfold shr
  rw [if_neg (by decide)]
  exact ⟨_,rfl⟩
theorem Ez (c:List Int) (F:Lo c) (a s:Int) (D:0<=a) (O:a<=4611686018427387904):∃ x s',fP c a s=some (x,c,a + 1,s')/\0<=x/\x<=255:=by
  have w:IntKind.i64.wrap (a + 1)=a + 1:=lg (by omega)
  unfold fP
  by_cases c1:a < c.length
  · have I:=GO (xs:=c) D c1
    have J:=F.2 _ (List.getElem_mem (show a.toNat < c.length by omega))
    have N:IntKind.i64.wrap c[a.toNat]=c[a.toNat]:=lg (by omega)
    by_cases c2:a + 1<=c.length
    · exact ⟨c[a.toNat],_,by simp only [c1,decide_true,if_true,I,Option.bind_some,w,c2,N]; rfl,J⟩
    · omega
  · by_cases c2:a + 1<=c.length
    · exact ⟨0,_,by simp only [c1,decide_false,Bool.false_eq_true,if_false,w,c2,decide_true,if_true]; rfl,by omega,by omega⟩
    · obtain ⟨m,G⟩:=Oj (IntKind.u64.wrap ((IntKind.u64.wrap ((IntKind.u64.wrap (s * 6364136223846793005)) + 0)) + 1442695040888963407))
      exact ⟨_,_,by simp only [c1,decide_false,Bool.false_eq_true,if_false,w,c2,G,Option.bind_some]; rfl,Ds m⟩
theorem jQ (c:List Int) (X:Lo c) (a s n:Int) (aa:0<=a) (ai:a<=1000000000000) (aj:n<=9223372036854775807) :
    ∃ x F s',b7 c a s n=some (x,c,F,s')/\0<=x/\(1<=n->x < n)/\x<=65535/\a<=F/\F<=a + 2/\(n<=200->x<=255):=by
  unfold b7
  by_cases c1:n<=1
  · exact ⟨0,a,s,by simp [c1],by omega,by omega,by omega,by omega,by omega,by omega⟩
  · obtain ⟨x,Y,O,U,ah⟩:=Ez c X a s aa (by omega)
    have D:¬ n=0:=by omega
    by_cases c2:n > 200
    · obtain ⟨y,ad,Z,ak,am⟩:=Ez c X (a + 1) Y (by omega) (by omega)
      have ae:IntKind.i64.wrap (x * 256)=x * 256:=lg (by omega)
      have af:IntKind.i64.wrap (x * 256 + y)=x * 256 + y:=lg (by omega)
      have I:rem .i64 (x * 256 + y) n=some ((x * 256 + y).tmod n):=by unfold rem; rw [if_neg D]
      have G:(x * 256 + y).tmod n=(x * 256 + y) % n:=Int.tmod_eq_emod_of_nonneg (by omega)
      have J:=Int.emod_nonneg (x * 256 + y) D
      have N:=Int.emod_lt_of_pos (x * 256 + y) (show 0 < n by omega)
      have ac:(x * 256 + y) % n<=x * 256 + y:=by
        have:=Int.emod_add_mul_ediv (x * 256 + y) n
        have ab:0<=n * ((x * 256 + y) / n):=Int.mul_nonneg (by omega) (Int.ediv_nonneg (by omega) (by omega))
        omega
      exact ⟨_,a + 1 + 1,ad,by simp only [c1,decide_false,Bool.false_eq_true,if_false,O,Option.bind_some,c2,decide_true,if_true,Z,ae,af,I,G],J,fun _=>N,by omega,by omega,by omega,by omega⟩
    · have I:rem .i64 x n=some (x.tmod n):=by unfold rem; rw [if_neg D]
      have G:x.tmod n=x % n:=Int.tmod_eq_emod_of_nonneg U
      have J:=Int.emod_nonneg x D
      have N:=Int.emod_lt_of_pos x (show 0 < n by omega)
      have ac:x % n<=x:=by
        have:=Int.emod_add_mul_ediv x n
        have ab:0<=n * (x / n):=Int.mul_nonneg (by omega) (Int.ediv_nonneg U (by omega))
        omega
      exact ⟨_,a + 1,Y,by simp only [c1,decide_false,Bool.false_eq_true,if_false,O,Option.bind_some,c2,I,G],J,fun _=>N,by omega,by omega,by omega,by omega⟩
theorem M4 (c:List Int) (N:Lo c) (a s n:Int) (F:0<=a) (G:a<=1000000000000) (O:n<=9223372036854775807) :
    ∃ x D s',gE c a s n=some (x,c,D,s')/\a<=D/\D<=a + 2:=by
  obtain ⟨x,D,s',e,_,_,_,I,J,_⟩:=jQ c N a s n F G O
  exact ⟨x==0,D,s',by unfold gE; rw [e]; rfl,I,J⟩
theorem By (c:List Int):lh c=some ⟨c,0,0⟩:=rfl
theorem Hd {c:List Int} (h:(Hk 1 (Ly .u8)) c):Lo c:=by
  refine ⟨by have:=h.2.1; omega,fun x D=>?_⟩
  have:=h.2.2 x D
  simpa [Ly,Lit.wf,IntKind.min,IntKind.max,IntKind.signed,IntKind.bits] using this
end Go.Proofs.YtkdinadmheomfaaGreat
namespace Go.Proofs.YtkdinadmheomfaaGreat
open Go Go.Ab
structure DrI (b:Book):Prop where
  ok:p5 b=true
  p2:2<=b.Cash.length
  p4:b.Cash.length<=4
  day:b.Day<=1000
theorem Iq {x n:Int} (h:0<=x) (D:0 < n):∃ y,rem .i64 x n=some y/\0<=y/\y < n:=by
  refine ⟨x.tmod n,by unfold rem; rw [if_neg (by omega)],?_⟩
  rw [Int.tmod_eq_emod_of_nonneg h]
  exact ⟨Int.emod_nonneg x (by omega),Int.emod_lt_of_pos x D⟩
theorem Cm (c:List Int) (D:Lo c) (a s:Int) (aP:0<=a) (a3:a<=100000000000) (b:Book) (Y:DrI b) :
    ∃ d:Deal,∃ ak s',en c a s b.Day b.Cash b.Tallies=some (d.Day,d.Kind,d.Tally,d.From,d.To,d.Amount,c,ak,s')/\h9 d=true/\b.Day<=d.Day/\d.Day<=b.Day + 3/\(d.Kind=1->d.Amount<=60)/\a<=ak/\ak<=a + 10:=by
  have aq:=BkI.of Y.ok
  have p2:=Y.p2
  have p4:=Y.p4
  have tn:=aq.tn
  have a5:0<=b.Day:=by
    have:=Y.ok
    unfold p5 at this
    simp only [Bool.and_eq_true] at this
    exact (cB.1 this.1).1
  have a6:=Y.day
  obtain ⟨x,G,aj,aK,bc,aH,_,a1,a2,_⟩:=jQ c D a s 4 aP (by omega) (by omega)
  have aH:=aH (by omega)
  have aY:IntKind.i64.wrap (b.Day + x)=b.Day + x:=lg (by omega)
  have aZ:IntKind.i64.wrap ((b.Cash.length:Int) - 1)=(b.Cash.length:Int) - 1:=lg (by omega)
  have aR:∃ q F I,(if ((b.Tallies.length:Int)==0)=true then some (true,c,G,aj) else (gE c G aj 3).bind fun (r73,r74,r75,r76)=>some (r73,r74,r75,r76))=some (q,c,F,I)/\G<=F/\F<=G + 2/\(q=false->0 < b.Tallies.length):=by
    by_cases ah:b.Tallies.length=0
    · exact ⟨true,G,aj,by simp [ah],by omega,by omega,fun h=>by cases h⟩
    · obtain ⟨q,F,I,e,az,aA⟩:=M4 c D G aj 3 (by omega) (by omega) (by omega)
      exact ⟨q,F,I,by rw [if_neg (by simpa using ah),e]; rfl,az,aA,fun _=>by omega⟩
  obtain ⟨q,F,I,aL,az,aA,aB⟩:=aR
  unfold en
  rw [aK,Option.bind_some]
  simp only [aL,Option.bind_some,aY,aZ]
  cases q with
  | true=>
    simp only [if_true]
    obtain ⟨y,am,au,an,aI,N,_,aT,aU,_⟩:=jQ c D F I (b.Cash.length:Int) (by omega) (by omega) (by omega)
    have N:=N (by omega)
    obtain ⟨z,O,ac,ao,a0,af,_,aV,aW,_⟩:=jQ c D am au ((b.Cash.length:Int) - 1) (by omega) (by omega) (by omega)
    have af:=af (by omega)
    have aw:IntKind.i64.wrap (y + 1)=y + 1:=lg (by omega)
    have ax:IntKind.i64.wrap (y + 1 + z)=y + 1 + z:=lg (by omega)
    obtain ⟨t,X,ae,av⟩:=Iq (x:=y + 1 + z) (n:=(b.Cash.length:Int)) (by omega) (by omega)
    obtain ⟨u,U,ad,ap,aG,J,_,aC,aD,_⟩:=jQ c D O ac 60 (by omega) (by omega) (by omega)
    have J:=J (by omega)
    have ay:IntKind.i64.wrap (1 + u)=1 + u:=lg (by omega)
    refine ⟨⟨b.Day + x,1,0,y,t,1 + u⟩,U,ad,by simp only [an,ao,aw,ax,X,ap,ay,Option.bind_some],?_,by simp only; omega,by simp only; omega,fun _=>by simp only; omega,by omega,by omega⟩
    have Z:gP (b.Day + x) 0 100000=true:=cB.2 ⟨by omega,by omega⟩
    have aa:gP y 0 15=true:=cB.2 ⟨by omega,by omega⟩
    have ai:gP t 0 15=true:=cB.2 ⟨by omega,by omega⟩
    have ab:gP (1 + u) 1 100000000=true:=cB.2 ⟨by omega,by omega⟩
    simp [h9,Z,aa,ai,ab]
  | false=>
    have aB:=aB rfl
    simp only [Bool.false_eq_true,if_false]
    obtain ⟨y,am,au,an,aI,N,_,aT,aU,_⟩:=jQ c D F I (b.Tallies.length:Int) (by omega) (by omega) (by omega)
    have N:=N (by omega)
    have ar:=GO (xs:=b.Tallies) aI N
    obtain ⟨ae,av,aE,aF⟩:=aq.ta _ (List.getElem_mem (show y.toNat < b.Tallies.length by omega))
    revert ar ae av aE aF
    generalize b.Tallies[y.toNat]=t
    intro ar ae av aE aF
    have aS:=GO (xs:=b.Cash) ae.1 ae.2
    have a4:=aq.ca _ (List.getElem_mem (show t.Debtor.toNat < b.Cash.length by omega))
    obtain ⟨z,O,ac,ao,a0,af,_,aV,aW,_⟩:=jQ c D am au 5 (by omega) (by omega) (by omega)
    have af:=af (by omega)
    have Z:gP (b.Day + x) 0 100000=true:=cB.2 ⟨by omega,by omega⟩
    have aa:gP y 0 39=true:=cB.2 ⟨by omega,by omega⟩
    have ai:gP t.Holder 0 15=true:=cB.2 ⟨by omega,by omega⟩
    have ah:(if (z==0)=true then some (z==0) else some (z==1))=some (decide (z<=1)):=by
      by_cases h:z=0
      · simp [h]
      · by_cases h':z=1
        · simp [h']
        · have:¬ z<=1:=by omega
          simp [h,h',this]
    simp only [an,Option.bind_some,ar,ao,ah]
    by_cases cz:z<=1
    · simp only [cz,decide_true,if_true]
      obtain ⟨u,U,ad,X,aG,J,_,aC,aD,_⟩:=jQ c D O ac ((b.Cash.length:Int) - 1) (by omega) (by omega) (by omega)
      have J:=J (by omega)
      have aw:IntKind.i64.wrap (t.Holder + 1)=t.Holder + 1:=lg (by omega)
      have ax:IntKind.i64.wrap (t.Holder + 1 + u)=t.Holder + 1 + u:=lg (by omega)
      obtain ⟨v,ap,ba,bb⟩:=Iq (x:=t.Holder + 1 + u) (n:=(b.Cash.length:Int)) (by omega) (by omega)
      refine ⟨⟨b.Day + x,2,y,t.Holder,v,0⟩,U,ad,by simp only [X,aw,ax,ap,Option.bind_some],?_,by simp only; omega,by simp only; omega,fun h=>by simp at h,by omega,by omega⟩
      have ab:gP v 0 15=true:=cB.2 ⟨by omega,by omega⟩
      simp [h9,Z,aa,ai,ab]
    · simp only [cz,decide_false,Bool.false_eq_true,if_false]
      by_cases c2:z=2
      · refine ⟨⟨b.Day + x,4,y,t.Holder,0,0⟩,O,ac,by simp [c2],?_,by simp only; omega,by simp only; omega,fun h=>by simp at h,by omega,by omega⟩
        simp [h9,Z,aa,ai]
      · have aJ:(z==2)=false:=by simpa using c2
        have aQ:∃ m,(kI t.Left b.Cash[t.Debtor.toNat]).bind (fun aX=>jH aX 1)=some m/\1<=m/\m<=100000000:=by
          unfold kI
          by_cases g:t.Left < b.Cash[t.Debtor.toNat]
          · by_cases g':t.Left > 1
            · exact ⟨t.Left,by simp [g,jH,g'],by omega,by omega⟩
            · exact ⟨1,by simp [g,jH,g'],by omega,by omega⟩
          · by_cases g':b.Cash[t.Debtor.toNat] > 1
            · exact ⟨b.Cash[t.Debtor.toNat],by simp [g,jH,g'],by omega,by omega⟩
            · exact ⟨1,by simp [g,jH,g'],by omega,by omega⟩
        obtain ⟨m,aM,a7,a8⟩:=aQ
        obtain ⟨r,aO,aN⟩:=Option.bind_eq_some_iff.1 aM
        obtain ⟨u,U,ad,X,aG,J,a9,aC,aD,_⟩:=jQ c D O ac m (by omega) (by omega) (by omega)
        have ay:IntKind.i64.wrap (1 + u)=1 + u:=lg (by omega)
        refine ⟨⟨b.Day + x,3,y,0,0,1 + u⟩,U,ad,by simp only [aJ,Bool.false_eq_true,if_false,aS,Option.bind_some,aO,aN,X,ay],?_,by simp only; omega,by simp only; omega,fun h=>by simp at h,by omega,by omega⟩
        have ab:gP (1 + u) 1 100000000=true:=cB.2 ⟨by omega,by omega⟩
        simp [h9,Z,aa,ab]
end Go.Proofs.YtkdinadmheomfaaGreat
namespace Go.Proofs.YtkdinadmheomfaaGreat
open Go Go.Ab
inductive StpB (b:Book) (d:Deal):Book->Prop
  | cut (k:d.Kind=1) (dy:b.Day<=d.Day) (f:0<=d.From/\d.From < b.Cash.length) (t:0<=d.To/\d.To < b.Cash.length) (ne:d.From≠d.To) (tn:b.Tallies.length < 40) (am:1<=d.Amount/\d.Amount<=100000000):StpB b d ⟨d.Day,b.Cash,b.Tallies++[⟨d.From,d.To,d.Day,d.Amount,d.Amount⟩]⟩
  | pass (k:d.Kind=2) (dy:b.Day<=d.Day) (i:Nat) (x:Tally) (hi:b.Tallies[i]? = some x) (e:d.Tally=i) (hf:d.From=x.Holder) (l0:x.Left≠0) (t:0<=d.To/\d.To < b.Cash.length) (nl:Int) (hl:nl=if d.To=x.Debtor then 0 else x.Left):StpB b d ⟨d.Day,b.Cash,b.Tallies.set i ⟨x.Debtor,d.To,x.Cut,x.Amount,nl⟩⟩
  | pay (k:d.Kind=3) (dy:b.Day<=d.Day) (i:Nat) (x:Tally) (hi:b.Tallies[i]? = some x) (e:d.Tally=i) (am:1<=d.Amount/\d.Amount<=x.Left) (j m:Nat) (u v:Int) (hj:x.Debtor=j) (hm:x.Holder=m) (hjm:j≠m) (hu:b.Cash[j]? = some u) (hv:b.Cash[m]? = some v) (gu:d.Amount<=u) (gv:v + d.Amount<=100000000):StpB b d ⟨d.Day,(b.Cash.set j (u - d.Amount)).set m (v + d.Amount),b.Tallies.set i ⟨x.Debtor,x.Holder,x.Cut,x.Amount,x.Left - d.Amount⟩⟩
  | done (k:d.Kind=4) (dy:b.Day<=d.Day) (i:Nat) (x:Tally) (hi:b.Tallies[i]? = some x) (e:d.Tally=i) (hf:d.From=x.Holder) (l0:x.Left≠0):StpB b d ⟨d.Day,b.Cash,b.Tallies.set i ⟨x.Debtor,x.Holder,x.Cut,x.Amount,0⟩⟩
theorem Hw (b:Book) (d:Deal) (F:BkI b) (G:d.Kind=1) (J:0<=d.From) (N:0<=d.To) (X:1<=d.Amount/\d.Amount<=100000000) {r:Int×List Int×List Tally} (h:bT b d=some (.inr r)):StpB b d ⟨r.1,r.2.1,r.2.2⟩:=by
  have D:=jh b.Cash.length F.cn d.From J
  have I:=jh b.Cash.length F.cn d.To N
  have tn:=F.tn
  by_cases c0:d.Day < b.Day
  · simp [bT,bt,c0] at h
  by_cases c1:d.From < b.Cash.length
  case neg=>simp [bT,bt,c0,D,c1] at h
  by_cases c2:d.To < b.Cash.length
  case neg=>simp [bT,bt,c0,D,I,c1,c2] at h
  by_cases c3:d.From=d.To
  · simp [bT,bt,c0,D,I,c1,c2,c3,G] at h
  by_cases c4:b.Tallies.length=40
  · simp [bT,bt,c0,D,I,c1,c2,c3,G,c4] at h
  have U:¬ (b.Tallies.length:Int)=40:=by omega
  have O:qB 40 b.Tallies [⟨d.From,d.To,d.Day,d.Amount,d.Amount⟩]=some (b.Tallies++[⟨d.From,d.To,d.Day,d.Amount,d.Amount⟩]):=fL (by simp; omega) (by simp)
  simp [bT,bt,c0,D,I,c1,c2,c3,G,U,fo b F,O] at h
  subst h
  exact .cut G (by omega) ⟨J,c1⟩ ⟨N,c2⟩ c3 (by omega) X
theorem Gj (b:Book) (d:Deal) (U:BkI b) (F:d.Kind=2) (aj:0<=d.From) (Y:0<=d.To) (an:0<=d.Tally) (am:d.Amount=0) {r:Int×List Int×List Tally} (h:bT b d=some (.inr r)):StpB b d ⟨r.1,r.2.1,r.2.2⟩:=by
  have G:=jh b.Cash.length U.cn d.From aj
  have N:=jh b.Cash.length U.cn d.To Y
  by_cases c0:d.Day < b.Day
  · simp [bT,bt,c0] at h
  by_cases c1:d.From < b.Cash.length
  case neg=>simp [bT,bt,c0,G,c1] at h
  by_cases c2:d.To < b.Cash.length
  case neg=>simp [bT,bt,c0,G,N,c1,c2] at h
  by_cases c3:d.Tally < b.Tallies.length
  case neg=>
    have I:(b.Tallies.length:Int)<=d.Tally:=by omega
    simp [bT,bt,c0,G,N,c1,c2,I,F] at h
  have I:¬ (b.Tallies.length:Int)<=d.Tally:=by omega
  obtain ⟨i,X⟩:∃ i:Nat,d.Tally=i:=⟨d.Tally.toNat,by omega⟩
  have ad:i < b.Tallies.length:=by omega
  have O:b.Tallies[i]? = some b.Tallies[i]:=List.getElem?_eq_getElem ad
  have J:rd b.Tallies d.Tally=some b.Tallies[i]:=by rw [X,cS,O]
  obtain ⟨ae,af,ah,ai⟩:=U.ta _ (List.getElem_mem ad)
  have ab:=fo b U
  revert O J ae af ah ai
  generalize b.Tallies[i]=t
  intro O J ae af ah ai
  by_cases c4:d.From=d.To
  · simp [bT,bt,c0,G,N,c1,c2,I,c4,F,J] at h
  by_cases D:t.Holder=d.From
  case neg=>
    have D:¬ d.From=t.Holder:=fun h=>D h.symm
    simp [bT,bt,c0,G,N,c1,c2,I,c4,F,J,D] at h
  by_cases c6:t.Left=0
  · simp [bT,bt,c0,G,N,c1,c2,I,c4,F,J,D,c6] at h
  have Z:¬ d.Amount > t.Left:=by omega
  have ak:(Tally.mk t.Debtor d.To t.Cut t.Amount t.Left).Holder=d.To:=rfl
  have ac:d.Tally.toNat=i:=by omega
  by_cases c8:t.Debtor=d.To
  · simp [bT,bt,c0,G,N,c1,c2,I,c4,F,J,D,c6,Z,c8,ab] at h
    subst h
    simp only [ac]
    have:=StpB.pass (b:=b) F (by omega) i t O X D.symm c6 ⟨Y,c2⟩ 0 (by rw [if_pos c8.symm])
    rw [c8] at this
    exact this
  · have aa:¬ d.To=t.Debtor:=fun h=>c8 h.symm
    simp [bT,bt,c0,G,N,c1,c2,I,c4,F,J,D,c6,Z,aa,ab] at h
    subst h
    simp only [ac]
    exact .pass F (by omega) i t O X D.symm c6 ⟨Y,c2⟩ t.Left (by rw [if_neg aa])
theorem Ii (b:Book) (d:Deal) (G:BkI b) (I:d.Kind=4) (ai:0<=d.From) (an:d.To=0) (am:0<=d.Tally) (aj:d.Amount=0) {r:Int×List Int×List Tally} (h:bT b d=some (.inr r)):StpB b d ⟨r.1,r.2.1,r.2.2⟩:=by
  have N:=jh b.Cash.length G.cn d.From ai
  have X:=jh b.Cash.length G.cn d.To (by omega)
  have ak:=G.c1
  have O:d.To < b.Cash.length:=by omega
  by_cases c0:d.Day < b.Day
  · simp [bT,bt,c0] at h
  by_cases c1:d.From < b.Cash.length
  case neg=>simp [bT,bt,c0,N,c1] at h
  by_cases c3:d.Tally < b.Tallies.length
  case neg=>
    have F:(b.Tallies.length:Int)<=d.Tally:=by omega
    simp [bT,bt,c0,N,X,c1,O,F,I] at h
  have F:¬ (b.Tallies.length:Int)<=d.Tally:=by omega
  obtain ⟨i,Y⟩:∃ i:Nat,d.Tally=i:=⟨d.Tally.toNat,by omega⟩
  have Z:i < b.Tallies.length:=by omega
  have U:b.Tallies[i]? = some b.Tallies[i]:=List.getElem?_eq_getElem Z
  have J:rd b.Tallies d.Tally=some b.Tallies[i]:=by rw [Y,cS,U]
  obtain ⟨aa,ab,ac,ad⟩:=G.ta _ (List.getElem_mem Z)
  have af:=fo b G
  revert U J aa ab ac ad
  generalize b.Tallies[i]=t
  intro U J aa ab ac ad
  by_cases D:t.Holder=d.From
  case neg=>
    have D:¬ d.From=t.Holder:=fun h=>D h.symm
    simp [bT,bt,c0,N,X,c1,O,F,I,J,D] at h
  by_cases c6:t.Left=0
  · simp [bT,bt,c0,N,X,c1,O,F,I,J,D,c6] at h
  have ae:¬ d.Amount > t.Left:=by omega
  have ah:d.Tally.toNat=i:=by omega
  simp [bT,bt,c0,N,X,c1,O,F,I,J,D,c6,ae,af] at h
  subst h
  simp only [ah]
  have:=StpB.done (b:=b) I (by omega) i t U Y D.symm c6
  rw [D] at this
  exact this
theorem HZ (b:Book) (d:Deal) (F:BkI b) (G:d.Kind=3) (aC:d.From=0) (aE:d.To=0) (aD:0<=d.Tally) (ay:1<=d.Amount/\d.Amount<=100000000) {r:Int×List Int×List Tally} (h:bT b d=some (.inr r)):StpB b d ⟨r.1,r.2.1,r.2.2⟩:=by
  have N:=jh b.Cash.length F.cn d.From (by omega)
  have O:=jh b.Cash.length F.cn d.To (by omega)
  have aB:=F.c1
  have c1:d.From < b.Cash.length:=by omega
  have J:d.To < b.Cash.length:=by omega
  by_cases c0:d.Day < b.Day
  · simp [bT,bt,c0] at h
  by_cases c3:d.Tally < b.Tallies.length
  case neg=>
    have D:(b.Tallies.length:Int)<=d.Tally:=by omega
    simp [bT,bt,c0,N,O,c1,J,D,G] at h
  have D:¬ (b.Tallies.length:Int)<=d.Tally:=by omega
  obtain ⟨i,ai⟩:∃ i:Nat,d.Tally=i:=⟨d.Tally.toNat,by omega⟩
  have an:i < b.Tallies.length:=by omega
  have Z:b.Tallies[i]? = some b.Tallies[i]:=List.getElem?_eq_getElem an
  have I:rd b.Tallies d.Tally=some b.Tallies[i]:=by rw [ai,cS,Z]
  obtain ⟨ao,ap,aq,ae⟩:=F.ta _ (List.getElem_mem an)
  have au:=fo b F
  have av:d.Tally.toNat=i:=by omega
  revert Z I ao ap aq ae
  generalize b.Tallies[i]=t
  intro Z I ao ap aq ae
  by_cases c6:t.Left=0
  · simp [bT,bt,c0,N,O,c1,J,D,G,I,c6] at h
  by_cases c7:d.Amount > t.Left
  · simp [bT,bt,c0,N,O,c1,J,D,G,I,c6,c7] at h
  obtain ⟨j,ab⟩:∃ j:Nat,t.Debtor=j:=⟨t.Debtor.toNat,by omega⟩
  obtain ⟨k,ac⟩:∃ k:Nat,t.Holder=k:=⟨t.Holder.toNat,by omega⟩
  have ak:j < b.Cash.length:=by omega
  have am:k < b.Cash.length:=by omega
  have aj:¬ j=k:=fun e=>c6 (ae (by omega))
  have Y:b.Cash[j]? = some b.Cash[j]:=List.getElem?_eq_getElem ak
  have U:b.Cash[k]? = some b.Cash[k]:=List.getElem?_eq_getElem am
  have X:rd b.Cash t.Debtor=some b.Cash[j]:=by rw [ab,cS,Y]
  have aa:rd b.Cash t.Holder=some b.Cash[k]:=by rw [ac,cS,U]
  have af:=F.ca _ (List.getElem_mem ak)
  have ah:=F.ca _ (List.getElem_mem am)
  have ad:∀ x,rd (b.Cash.set t.Debtor.toNat x) t.Holder=some b.Cash[k]:=fun x=>by
    rw [ac,cS,ab,Int.toNat_natCast,List.getElem?_set_ne aj,U]
  have aw:t.Debtor.toNat=j:=by omega
  have ax:t.Holder.toNat=k:=by omega
  revert Y U X aa af ah ad
  generalize b.Cash[j]=u
  generalize b.Cash[k]=v
  intro Y U X aa af ah ad
  have az:IntKind.i64.wrap (u - d.Amount)=u - d.Amount:=lg (by omega)
  have ar:IntKind.i64.wrap (v + d.Amount)=v + d.Amount:=lg (by omega)
  have aA:IntKind.i64.wrap (t.Left - d.Amount)=t.Left - d.Amount:=lg (by omega)
  by_cases c8:u < d.Amount
  · simp [bT,bt,c0,N,O,c1,J,D,G,I,c6,c7,X,c8] at h
  by_cases c9:v + d.Amount > 100000000
  · simp [bT,bt,c0,N,O,c1,J,D,G,I,c6,c7,X,c8,aa,ar,c9] at h
  simp [bT,bt,c0,N,O,c1,J,D,G,I,c6,c7,X,c8,aa,ad,az,ar,aA,c9,au] at h
  subst h
  simp only [av,aw,ax]
  exact .pay G (by omega) i t Z ai ⟨ay.1,by omega⟩ j k u v ab ac aj Y U (by omega) (by omega)
theorem Kd (b:Book) (d:Deal) (I:BkI b) (J:h9 d=true) {r:Int×List Int×List Tally} (h:bT b d=some (.inr r)):StpB b d ⟨r.1,r.2.1,r.2.2⟩:=by
  unfold h9 at J
  simp only [Bool.and_eq_true,Bool.or_eq_true,beq_iff_eq,cB] at J
  obtain ⟨_,((D | D) | D) | D⟩:=J
  · obtain ⟨⟨⟨⟨F,G⟩,h3⟩,h4⟩,h5⟩:=D
    exact Hw b d I F h3.1 h4.1 h5 h
  · obtain ⟨⟨⟨⟨F,G⟩,h3⟩,h4⟩,h5⟩:=D
    exact Gj b d I F h3.1 h4.1 G.1 h5 h
  · obtain ⟨⟨⟨⟨F,G⟩,h3⟩,h4⟩,h5⟩:=D
    exact HZ b d I F h3 h4 G.1 h5 h
  · obtain ⟨⟨⟨⟨F,G⟩,h3⟩,h4⟩,h5⟩:=D
    exact Ii b d I F h3.1 h4 G.1 h5 h
structure BookP (b:Book):Prop where
  day:0<=b.Day/\b.Day<=100000
  c1:1<=b.Cash.length
  cn:b.Cash.length<=16
  ca:∀ c ∈ b.Cash,0<=c/\c<=100000000
  tn:b.Tallies.length<=40
  ta:∀ (i:Nat) t,b.Tallies[i]? = some t->(0<=t.Debtor/\t.Debtor < b.Cash.length)/\(0<=t.Holder/\t.Holder < b.Cash.length)/\(0<=t.Cut/\t.Cut<=b.Day)/\(1<=t.Amount/\t.Amount<=100000000)/\(0<=t.Left/\t.Left<=t.Amount)/\(t.Debtor=t.Holder->t.Left=0)
  srt:∀ (i:Nat) t t',b.Tallies[i]? = some t->b.Tallies[i + 1]? = some t'->t.Cut<=t'.Cut
theorem rN {b:Book}:p5 b=true↔BookP b:=by
  have ac:∀ i t,rc b i t=true↔(0<=t.Debtor/\t.Debtor < (b.Cash.length:Int))/\(0<=t.Holder/\t.Holder < (b.Cash.length:Int))/\(0<=t.Cut/\t.Cut<=b.Day)/\(1<=t.Amount/\t.Amount<=100000000)/\(0<=t.Left/\t.Left<=t.Amount)/\(t.Debtor=t.Holder->t.Left=0)/\ip b i<=t.Cut:=by
    intro i t
    unfold rc
    simp only [Bool.and_eq_true,oH,cB,decide_eq_true_eq]
    have:(!(t.Debtor==t.Holder && t.Left != 0))=true↔(t.Debtor=t.Holder->t.Left=0):=by
      by_cases h1:t.Debtor=t.Holder <;> by_cases U:t.Left=0 <;> simp [h1,U]
    rw [this]
  have ts:oN b=true↔∀ (i:Nat) t,b.Tallies[i]? = some t->rc b i t=true:=by
    unfold oN
    rw [List.all_eq_true]
    constructor
    · intro h i t D
      have:=h i (List.mem_range.2 (List.getElem?_eq_some_iff.1 D).1)
      rw [D] at this
      exact this
    · intro h i D
      have D:=List.mem_range.1 D
      rw [List.getElem?_eq_getElem D,Option.all_some]
      exact h i _ (List.getElem?_eq_getElem D)
  unfold p5
  simp only [Bool.and_eq_true,decide_eq_true_eq,List.all_eq_true,cB,ts,ac]
  constructor
  · rintro ⟨h1,⟨U,ad⟩,h4,h5⟩
    refine ⟨h1,by omega,by omega,fun c X=>cB.1 (U c X),h4,fun i t D=>?_,fun i t ab D aa=>?_⟩
    · obtain ⟨G,I,F,J,N,O,_⟩:=h5 i t D
      exact ⟨G,I,F,J,N,O⟩
    · obtain ⟨_,_,_,_,_,_,Z⟩:=h5 (i + 1) ab aa
      simpa [ip,D] using Z
  · intro h
    refine ⟨h.day,⟨fun c X=>cB.2 (h.ca c X),by have:=h.c1; have:=h.cn; omega⟩,h.tn,fun i t D=>?_⟩
    obtain ⟨G,I,F,J,N,O⟩:=h.ta i t D
    refine ⟨G,I,F,J,N,O,?_⟩
    cases i with
    | zero=>simpa [ip] using F.1
    | succ i=>
      have Y:i < b.Tallies.length:=by have:=(List.getElem?_eq_some_iff.1 D).1; omega
      have:=h.srt i _ t (List.getElem?_eq_getElem Y) D
      simpa [ip,Y] using this
theorem BookP.bk {b:Book} (h:BookP b):BkI b:=BkI.of (rN.2 h)
theorem BookP.set {b:Book} (h:BookP b) {day:Int} (az:b.Day<=day/\day<=100000) {c:List Int} (G:c.length=b.Cash.length) (af:∀ x ∈ c,0<=x/\x<=100000000) {i:Nat} {x y:Tally} (I:b.Tallies[i]? = some x)
    (ah:y.Debtor=x.Debtor) (ai:0<=y.Holder/\y.Holder < b.Cash.length) (N:y.Cut=x.Cut) (O:y.Amount=x.Amount) (aj:0<=y.Left/\y.Left<=x.Amount) (ak:y.Debtor=y.Holder->y.Left=0):BookP ⟨day,c,b.Tallies.set i y⟩:=by
  have an:=(List.getElem?_eq_some_iff.1 I).1
  have get:∀ (k:Nat) t,(b.Tallies.set i y)[k]? = some t->(k=i/\t=y)∨(k≠i/\b.Tallies[k]? = some t):=by
    intro k t D
    by_cases e:k=i
    · subst e
      rw [List.getElem?_set_self an] at D
      exact .inl ⟨rfl,(Option.some.inj D).symm⟩
    · rw [List.getElem?_set_ne (Ne.symm e)] at D
      exact .inr ⟨e,D⟩
  obtain ⟨U,aw,X,Y,ax,ay⟩:=h.ta i x I
  refine ⟨by have:=h.day; simp only; omega,by simp only [G]; exact h.c1,by simp only [G]; exact h.cn,af,by simpa using h.tn,fun k t D=>?_,fun k t au D am=>?_⟩
  · simp only [G]
    rcases get k t D with ⟨rfl,rfl⟩ | ⟨_,D⟩
    · exact ⟨by rw [ah]; exact U,ai,by rw [N]; exact ⟨X.1,by omega⟩,by rw [O]; exact Y,by rw [O]; exact aj,ak⟩
    · obtain ⟨Z,aa,ab,ac,ad,ae⟩:=h.ta k t D
      exact ⟨Z,aa,⟨ab.1,by omega⟩,ac,ad,ae⟩
  · have J:∀ (k:Nat) t,(b.Tallies.set i y)[k]? = some t->∃ F,b.Tallies[k]? = some F/\t.Cut=F.Cut:=by
      intro k t D
      rcases get k t D with ⟨rfl,rfl⟩ | ⟨_,D⟩
      · exact ⟨x,I,N⟩
      · exact ⟨t,D,rfl⟩
    obtain ⟨F,ao,ap⟩:=J k t D
    obtain ⟨av,aq,ar⟩:=J (k + 1) au am
    rw [ap,ar]
    exact h.srt k F av ao aq
theorem StpB.book {b ad:Book} {d:Deal} (s:StpB b d ad) (h:BookP b) (U:d.Day<=100000):BookP ad:=by
  cases s with
  | cut k G f t ne aC ac=>
    refine ⟨by have:=h.day; simp only; omega,h.c1,h.cn,h.ca,by simp; omega,fun i x D=>?_,fun i x x' D I=>?_⟩
    · by_cases e:i < b.Tallies.length
      · rw [List.getElem?_append_left e] at D
        obtain ⟨af,ah,ai,aj,ak,am⟩:=h.ta i x D
        exact ⟨af,ah,⟨ai.1,by simp only; omega⟩,aj,ak,am⟩
      · rw [List.getElem?_append_right (by omega)] at D
        obtain ⟨O,F⟩:=List.getElem?_eq_some_iff.1 D
        have:i - b.Tallies.length=0:=by simpa using O
        simp only [this,List.getElem_cons_zero] at F
        subst F
        have:=h.day
        exact ⟨f,t,⟨by simp only; omega,by simp only; omega⟩,ac,⟨by simp only; omega,by simp only; omega⟩,fun e=>absurd e ne⟩
    · have ao:i < b.Tallies.length:=by have:=(List.getElem?_eq_some_iff.1 I).1; simp at this; omega
      rw [List.getElem?_append_left ao] at D
      by_cases e:i + 1 < b.Tallies.length
      · rw [List.getElem?_append_left e] at I
        exact h.srt i x x' D I
      · rw [List.getElem?_append_right (by omega)] at I
        obtain ⟨O,F⟩:=List.getElem?_eq_some_iff.1 I
        have:i + 1 - b.Tallies.length=0:=by simpa using O
        simp only [this,List.getElem_cons_zero] at F
        subst F
        have:=(h.ta i x D).2.2.1.2
        simp only; omega
  | pass k G i x D e an ar t aB ae=>
    obtain ⟨X,N,Y,Z,aa,ab⟩:=h.ta i x D
    refine h.set ⟨G,U⟩ rfl h.ca D rfl t rfl rfl ?_ (fun F=>?_)
    · subst ae; split <;> simp only <;> omega
    · have F:x.Debtor=d.To:=F
      subst ae
      rw [if_pos F.symm]
  | pay k G i x D e ac j m u v ay aA az ap aq aw ax=>
    obtain ⟨X,N,Y,Z,aa,ab⟩:=h.ta i x D
    have au:=h.ca u (List.mem_of_getElem? ap)
    have av:=h.ca v (List.mem_of_getElem? aq)
    refine h.set ⟨G,U⟩ (by simp) (fun y J=>?_) D rfl N rfl rfl (by simp only; omega) (fun F=>by have F:x.Debtor=x.Holder:=F; omega)
    rcases List.mem_or_eq_of_mem_set J with J | rfl
    · rcases List.mem_or_eq_of_mem_set J with J | rfl
      · exact h.ca y J
      · omega
    · omega
  | done k G i x D e an ar=>
    obtain ⟨X,N,Y,Z,aa,ab⟩:=h.ta i x D
    exact h.set ⟨G,U⟩ rfl h.ca D rfl N rfl rfl (by simp only; omega) (fun _=>rfl)
theorem StpB.day {b D:Book} {d:Deal} (s:StpB b d D):D.Day=d.Day/\b.Day<=d.Day:=by cases s <;> exact ⟨rfl,by assumption⟩
theorem BM:∀ (xs:List Int) (i:Nat) (u v:Int),xs[i]? = some u->(xs.set i v).sum=xs.sum - u + v
  | [],i,u,v,h=>by simp at h
  | x::xs,0,u,v,h=>by simp at h; subst h; simp; omega
  | x::xs,i + 1,u,v,h=>by
    have:=BM xs i u v (by simpa using h)
    simp only [List.set_cons_succ,List.sum_cons]
    omega
theorem StpB.cash {b D:Book} {d:Deal} (s:StpB b d D):D.Cash.length=b.Cash.length/\D.Cash.sum=b.Cash.sum:=by
  cases s with
  | pay k N i x X e J j m u v Y Z F G I O U=>
    refine ⟨by simp,?_⟩
    simp only
    rw [BM _ m v _ (by rw [List.getElem?_set_ne F]; exact I),BM _ j u _ G]
    omega
  | _=>exact ⟨rfl,rfl⟩
theorem StpB.tall {b D:Book} {d:Deal} (s:StpB b d D):D.Tallies.length<=b.Tallies.length + 1:=by cases s <;> simp
theorem StpB.left {b J:Book} {d:Deal} (s:StpB b d J) (O:d.Kind=1->d.Amount<=60) (h:∀ t ∈ b.Tallies,t.Left<=60) (ab:BookP b):∀ t ∈ J.Tallies,t.Left<=60:=by
  cases s with
  | cut k I f t ne aj N=>
    intro x F
    rcases List.mem_append.1 F with F | F
    · exact h x F
    · rw [List.mem_singleton.1 F]; exact O k
  | pass k I i x G e U Y t ai X=>
    intro y D
    rcases List.mem_or_eq_of_mem_set D with D | rfl
    · exact h y D
    · have:=h x (List.mem_of_getElem? G)
      subst X; split <;> simp only <;> omega
  | pay k I i x G e N j m u v ac ae ad af ah Z aa=>
    intro y D
    rcases List.mem_or_eq_of_mem_set D with D | rfl
    · exact h y D
    · have:=h x (List.mem_of_getElem? G)
      simp only; omega
  | done k I i x G e U Y=>
    intro y D
    rcases List.mem_or_eq_of_mem_set D with D | rfl
    · exact h y D
    · simp
end Go.Proofs.YtkdinadmheomfaaGreat
namespace Go.Proofs.YtkdinadmheomfaaGreat
open Go Go.Ab
inductive Run:Book->List Deal->Book->Prop
  | nil (b:Book):Run b [] b
  | snoc {b:Book} {ds:List Deal} {m:Book} {d:Deal} {b':Book} (r:Run b ds m) (hm:BookP m) (hd:h9 d=true) (hs:bT m d=some (.inr (b'.Day,b'.Cash,b'.Tallies))) (st:StpB m d b'):Run b (ds++[d]) b'
theorem A6 {d:Deal} (h:h9 d=true):0<=d.Day/\d.Day<=100000:=by
  unfold h9 at h
  simp only [Bool.and_eq_true] at h
  exact cB.1 h.1
theorem Run.book {b D:Book} {F:List Deal} (r:Run b F D) (h:BookP b):BookP D:=by
  induction r with
  | nil=>exact h
  | snoc r I G N J O=>exact J.book I (A6 G).2
theorem Run.all {b F:Book} {D:List Deal} (r:Run b D F):∀ d ∈ D,h9 d=true:=by
  induction r with
  | nil=>intro d h; cases h
  | snoc r J G N O I=>
    intro d h
    rcases List.mem_append.1 h with h | h
    · exact I d h
    · rw [List.mem_singleton.1 h]; exact G
theorem Run.cash {b D:Book} {I:List Deal} (r:Run b I D):D.Cash.length=b.Cash.length/\D.Cash.sum=b.Cash.sum:=by
  induction r with
  | nil=>exact ⟨rfl,rfl⟩
  | snoc r N J O G F=>exact ⟨G.cash.1.trans F.1,G.cash.2.trans F.2⟩
theorem Run.day {b D:Book} {F:List Deal} (r:Run b F D):b.Day<=D.Day:=by
  induction r with
  | nil=>omega
  | snoc r J I N G O=>have:=G.day; omega
theorem Run.loop {b D:Book} {F:List Deal} (r:Run b F D):∀ I:List Deal,F.length<=1000 ->
    ∃ G:List Book,Lw (dw (F++I)) (0,b.Day,b.Cash,b.Tallies,[])=Lw (dw (F++I)) ((F.length:Int),D.Day,D.Cash,D.Tallies,G)/\G.length=F.length/\wQ b D G:=by
  induction r with
  | nil=>intro I _; exact ⟨[],rfl,rfl,.inl ⟨rfl,rfl⟩⟩
  | @snoc F m d D r ae ad aa af ab=>
    intro I X
    simp only [List.length_append,List.length_singleton] at X
    obtain ⟨G,O,U,ac⟩:=ab (d::I) (by omega)
    have e:F++[d]++I=F++d::I:=by simp
    have Z:rd (F++d::I) (F.length:Int)=some d:=by rw [cS]; simp
    have J:qB 56 G [D]=some (G++[D]):=fL (by simp; omega) (by decide)
    have w:IntKind.i64.wrap ((F.length:Int) + 1)=(F.length:Int) + 1:=lg (by omega)
    refine ⟨G++[D],?_,by simp [U],.inr (by simp)⟩
    rw [e,O]
    refine (e9 (s':=(((F.length:Int) + 1),D.Day,D.Cash,D.Tallies,G++[D])) ?_).trans ?_
    · have Y:(F.length:Int) < ((F++d::I).length:Int):=by simp; omega
      have N:qB 56 G [Book.mk D.Day D.Cash D.Tallies]=some (G++[D]):=J
      unfold dw
      simp only [Y,decide_true,if_true,Z,Option.bind_some,aa,N,w]
    · simp
theorem Run.l07All {b D:Book} {G:List Deal} (r:Run b G D) (O:BookP b) (X:G.length<=80):∃ F,hE b G=some (F,0,0)/\F.length=G.length/\wQ b D F:=by
  obtain ⟨F,I,J,N⟩:=r.loop [] (by omega)
  rw [List.append_nil] at I
  have U:Lw (dw G) ((G.length:Int),D.Day,D.Cash,D.Tallies,F)=some (.inr (D.Day,D.Cash,D.Tallies,F)):=fm (by unfold dw; simp)
  refine ⟨F,?_,J,N⟩
  unfold hE
  rw [fo b O.bk,Option.bind_some]
  simp only
  rw [I,U]
  rfl
theorem Run.ask {b F:Book} {D:List Deal} (r:Run b D F) (G:BookP b) (I:D.length<=80):FJ b D=0:=by
  unfold FJ
  rw [if_pos (by simp only [Bool.and_eq_true,List.all_eq_true]; exact ⟨rN.2 G,r.all⟩),if_neg (by omega)]
theorem wQ.eq {b s s':Book} {F:List Book} (h:wQ b s F) (D:wQ b s' F):s=s':=by
  rcases h with ⟨rfl,rfl⟩ | h <;> rcases D with ⟨G,rfl⟩ | D
  · rfl
  · cases D
  · subst G; cases h
  · rw [h] at D; exact Option.some.inj D
theorem Run.books {b J:Book} {F:List Deal} (r:Run b F J) (U:BookP b) (X:F.length<=80):∃ G,kN b F=some (G,0)/\hE b F=some (G,0,0)/\G.length=F.length/\wQ b J G:=by
  obtain ⟨G,I,Y,Z⟩:=r.l07All U X
  rcases DM F b U.bk r.all X with ⟨c,o,N,D,O,_⟩ | ⟨s,o,N,D,O,aa,ab,ac,ad⟩
  · rw [I] at D
    simp only [Option.some.injEq,Prod.mk.injEq] at D
    exact absurd D.2.1.symm O
  · rw [I] at D
    simp only [Option.some.injEq,Prod.mk.injEq] at D
    obtain ⟨rfl,_⟩:=D
    exact ⟨G,N,I,Y,Z⟩
theorem Run.behind {b D:Book} {F:List Deal} (r:Run b F D) (G:BookP b) (O:F.length<=80):kW b F=some (.inr (D.Day,D.Cash,D.Tallies)):=by
  obtain ⟨X,I,_,Y,N⟩:=r.books G O
  unfold kW
  rw [I]
  rcases N with ⟨rfl,rfl⟩ | h
  · simp [oc D G.bk]
  · have J:X≠[]:=fun e=>by subst e; cases h
    have U:=Fq h (by omega)
    simp [J,U]
end Go.Proofs.YtkdinadmheomfaaGreat
namespace Go.Proofs.YtkdinadmheomfaaGreat
open Go Go.Ab
structure DrN (m:Nat) (b:Book):Prop where
  ok:BookP b
  p2:2<=b.Cash.length
  p4:b.Cash.length<=4
  day:b.Day<=3 * m
  tl:b.Tallies.length<=m
  lf:∀ t ∈ b.Tallies,t.Left<=60
theorem DrN.dr {m:Nat} {b:Book} (h:DrN m b) (D:m<=300):DrI b:=⟨rN.2 h.ok,h.p2,h.p4,by have:=h.day; omega⟩
theorem DrN.mono {m D:Nat} {b:Book} (h:DrN m b) (F:m<=D):DrN D b:=⟨h.ok,h.p2,h.p4,by have:=h.day; omega,by have:=h.tl; omega,h.lf⟩
theorem De (c:List Int) (ab:Lo c) (a s:Int) (Z:0<=a) (aa:a<=100000000000) (m:Nat) (ac:m<=300) (b:Book) (D:DrN m b) :
    ∃ d:Deal,∃ G s',en c a s b.Day b.Cash b.Tallies=some (d.Day,d.Kind,d.Tally,d.From,d.To,d.Amount,c,G,s')/\h9 d=true/\a<=G/\G<=a + 10 /\
      ((∃ x,x≠0/\bT b d=some (.inl x))∨∃ I:Book,bT b d=some (.inr (I.Day,I.Cash,I.Tallies))/\StpB b d I/\DrN (m + 1) I):=by
  obtain ⟨d,G,s',e,J,ad,ae,O,X,Y⟩:=Cm c ab a s Z aa b (D.dr ac)
  refine ⟨d,G,s',e,J,X,Y,?_⟩
  obtain ⟨r,_,N,U⟩:=Et b d D.ok.bk J
  rcases r with x | r
  · exact .inl ⟨x,U.1 x rfl,N⟩
  · have F:=Kd b d D.ok.bk J N
    refine .inr ⟨⟨r.1,r.2.1,r.2.2⟩,N,F,F.book D.ok (A6 J).2,?_,?_,?_,?_,F.left O D.lf D.ok⟩
    · rw [F.cash.1]; exact D.p2
    · rw [F.cash.1]; exact D.p4
    · rw [F.day.1]; have:=D.day; omega
    · have:=F.tall; have:=D.tl; omega
theorem IZ (c:List Int) (aa:Lo c) (s:Int):∃ (b:Book) (O:List Deal) (N:Book) (aJ s':Int),j0 c 0 s=some (b.Day,b.Cash,b.Tallies,c,aJ,s',O)/\DrN 3 b/\DrN 11 N/\Run b O N/\O.length<=8:=by
  unfold j0
  obtain ⟨x,aA,aX,aK,a9,aD,_,a0,a1,_⟩:=jQ c aa 0 s 3 (by omega) (by omega) (by omega)
  have aD:=aD (by omega)
  have aY:IntKind.i64.wrap (2 + x)=2 + x:=lg (by omega)
  rw [aK,Option.bind_some]
  simp only [aY]
  have aG:∃ r,Lw (eK) (2 + x,0,([]:List Int),c,aA,aX)=some r/\∃ D ac ax,r=(0,D,c,ac,ax)/\2<=D.length/\D.length<=4/\(∀ y ∈ D,0<=y/\y<=100)/\0<=ac/\ac<=1000:=by
    refine sf (tb:=eK) (fun s=>s.1.toNat) (fun s=>s.2.1=0/\s.2.2.2.1=c/\0<=s.1/\s.1 + s.2.2.1.length=2 + x/\(∀ y ∈ s.2.2.1,0<=y/\y<=100)/\0<=s.2.2.2.2.1/\s.2.2.2.2.1<=aA + 2 * s.2.2.1.length) _ ?_ _ _ rfl ⟨rfl,rfl,by simp only; omega,by simp,fun y h=>(nomatch h),by simp only; omega,by simp⟩
    rintro ⟨k,Y,D,G,a,s⟩ ⟨rfl,rfl,ah,ai,av,J,af⟩
    simp only at ah ai av J af
    by_cases h0:k > 0
    · obtain ⟨z,an,ay,ap,aF,aj,_,aL,aM,_⟩:=jQ G aa a s 100 J (by omega) (by omega)
      have aj:=aj (by omega)
      have ao:qB 8 D [z]=some (D++[z]):=fL (by simp; omega) (by decide)
      have w:IntKind.i64.wrap (k - 1)=k - 1:=lg (by omega)
      refine .inl ⟨(k - 1,0,D++[z],G,an,ay),by simp only [eK,h0,decide_true,if_true,ap,Option.bind_some,ao,w],⟨rfl,rfl,by simp only; omega,by simp; omega,fun y h=>?_,by simp only; omega,by simp; omega⟩,by simp only; omega⟩
      rcases List.mem_append.1 h with h | h
      · exact av y h
      · rw [List.mem_singleton.1 h]; omega
    · exact .inr ⟨_,by simp only [eK,h0,decide_false,Bool.false_eq_true,if_false],D,a,s,rfl,by omega,by omega,av,J,by omega⟩
  obtain ⟨_,aR,D,ac,ax,rfl,aU,aV,aW,a4,a5⟩:=aG
  rw [aR,Option.bind_some]
  simp only
  have B0:DrN 0 ⟨0,D,[]⟩:=⟨⟨by simp,by simp only; omega,by simp only; omega,fun y h=>by have:=aW y h; omega,by simp,fun i t h=>by simp at h,fun i t a8 h=>by simp at h⟩,aU,aV,by simp,by simp,fun t h=>by cases h⟩
  obtain ⟨y,an,ay,ap,aZ,aE,_,aL,aM,_⟩:=jQ c aa ac ax 4 (by omega) (by omega) (by omega)
  have aE:=aE (by omega)
  rw [ap,Option.bind_some]
  simp only
  have aH:∃ r,Lw (d2) (y,0,D,([]:List Tally),c,an,ay)=some r/\∃ (b:Book) (ad az:Int),r=(b.Day,b.Cash,b.Tallies,c,ad,az)/\DrN 3 b/\0<=ad/\ad<=2000:=by
    refine sf (tb:=d2) (fun s=>s.1.toNat) (fun s=>s.2.2.2.2.1=c/\0<=s.1/\s.1<=3/\DrN (3 - s.1.toNat) ⟨s.2.1,s.2.2.1,s.2.2.2.1⟩/\0<=s.2.2.2.2.2.1/\s.2.2.2.2.2.1<=1010 + 10 * (3 - s.1)) _ ?_ _ _ rfl ⟨rfl,aZ,by simp only; omega,B0.mono (by omega),by simp only; omega,by simp only; omega⟩
    rintro ⟨k,Y,cs,ts,G,a,s⟩ ⟨rfl,ah,aP,I,J,af⟩
    simp only at ah aP I J af
    by_cases h0:k > 0
    · obtain ⟨d,ak,am,ae,aB,aN,aO,F⟩:=De G aa a s J (by omega) _ (by omega) _ I
      have w:IntKind.i64.wrap (k - 1)=k - 1:=lg (by omega)
      simp only at ae
      rcases F with ⟨q,aw,F⟩ | ⟨U,F,aC,au⟩
      · exact .inl ⟨(k - 1,Y,cs,ts,G,ak,am),by simp only [d2,h0,decide_true,if_true,ae,Option.bind_some,F,w,beq_iff_eq,aw,if_false],⟨rfl,by simp only; omega,by simp only; omega,I.mono (by simp only; omega),by simp only; omega,by simp only; omega⟩,by simp only; omega⟩
      · exact .inl ⟨(k - 1,U.Day,U.Cash,U.Tallies,G,ak,am),by simp only [d2,h0,decide_true,if_true,ae,Option.bind_some,F,w],⟨rfl,by simp only; omega,by simp only; omega,au.mono (by simp only; omega),by simp only; omega,by simp only; omega⟩,by simp only; omega⟩
    · exact .inr ⟨_,by simp only [d2,h0,decide_false,Bool.false_eq_true,if_false],⟨Y,cs,ts⟩,a,s,rfl,I.mono (by omega),J,by omega⟩
  obtain ⟨_,aS,b,ad,az,rfl,ar,a6,a7⟩:=aH
  rw [aS,Option.bind_some]
  simp only
  rw [fo b ar.ok.bk,Option.bind_some]
  simp only
  obtain ⟨z,ak,am,ae,aF,aj,_,aN,aO,_⟩:=jQ c aa ad az 9 (by omega) (by omega) (by omega)
  have aj:=aj (by omega)
  rw [ae,Option.bind_some]
  simp only
  have aI:∃ r,Lw (dX) (z,([]:List Deal),b.Day,b.Cash,b.Tallies,c,ak,am)=some r/\∃ (O:List Deal) (N:Book) (X ab:Int),r=(O,N.Day,N.Cash,N.Tallies,c,X,ab)/\DrN 11 N/\Run b O N/\O.length<=8:=by
    refine sf (tb:=dX) (fun s=>s.1.toNat) (fun s=>s.2.2.2.2.2.1=c/\0<=s.1/\s.1<=8/\s.2.1.length + s.1<=8/\Run b s.2.1 ⟨s.2.2.1,s.2.2.2.1,s.2.2.2.2.1⟩/\DrN (11 - s.1.toNat) ⟨s.2.2.1,s.2.2.2.1,s.2.2.2.2.1⟩/\0<=s.2.2.2.2.2.2.1/\s.2.2.2.2.2.2.1<=2010 + 10 * (8 - s.1)) _ ?_ _ _ rfl
      ⟨rfl,aF,by simp only; omega,by simp; omega,.nil b,ar.mono (by simp only; omega),by simp only; omega,by simp only; omega⟩
    rintro ⟨k,l,Y,cs,ts,G,a,s⟩ ⟨rfl,ah,aQ,ai,Z,I,J,af⟩
    simp only at ah aQ ai Z I J af
    by_cases h0:k > 0
    · obtain ⟨d,X,ab,aq,aB,a2,a3,F⟩:=De G aa a s J (by omega) _ (by omega) _ I
      have w:IntKind.i64.wrap (k - 1)=k - 1:=lg (by omega)
      simp only at aq
      have ao:qB 48 l [Deal.mk d.Day d.Kind d.Tally d.From d.To d.Amount]=some (l++[d]):=fL (by simp; omega) (by decide)
      rcases F with ⟨q,aw,F⟩ | ⟨U,F,aC,au⟩
      · exact .inl ⟨(k - 1,l,Y,cs,ts,G,X,ab),by simp only [dX,h0,decide_true,if_true,aq,Option.bind_some,F,w,beq_iff_eq,aw,if_false],⟨rfl,by simp only; omega,by simp only; omega,by simp only; omega,Z,I.mono (by simp only; omega),by simp only; omega,by simp only; omega⟩,by simp only; omega⟩
      · exact .inl ⟨(k - 1,l++[d],U.Day,U.Cash,U.Tallies,G,X,ab),by simp only [dX,h0,decide_true,if_true,aq,Option.bind_some,F,ao,w],⟨rfl,by simp only; omega,by simp only; omega,by simp; omega,Z.snoc I.ok aB F aC,au.mono (by simp only; omega),by simp only; omega,by simp only; omega⟩,by simp only; omega⟩
    · exact .inr ⟨_,by simp only [dX,h0,decide_false,Bool.false_eq_true,if_false],l,⟨Y,cs,ts⟩,a,s,rfl,I.mono (by omega),Z,by omega⟩
  obtain ⟨_,aT,O,N,X,ab,rfl,hN,Z,ai⟩:=aI
  rw [aT,Option.bind_some]
  exact ⟨b,O,N,X,ab,rfl,ar,hN,Z,ai⟩
theorem Kl (c:List Int) (G:Lo c):∃ (b:Book) (D:List Deal) (F:Book),oz c=some (b.Day,b.Cash,b.Tallies,D)/\DrN 3 b/\DrN 11 F/\Run b D F/\D.length<=8:=by
  obtain ⟨b,D,F,I,s',e,h⟩:=IZ c G 0
  exact ⟨b,D,F,by unfold oz; rw [By,Option.bind_some]; simp only; rw [e]; rfl,h⟩
end Go.Proofs.YtkdinadmheomfaaGreat
namespace Go.Proofs.YtkdinadmheomfaaGreat
open Go Go.Ab
theorem Im {τ:Type} [DecidableEq τ] {tb:Int->Option (Int⊕(Unit⊕Unit))} (a b:List τ) (h:a.length<=4611686018427387904) (I:a.length=b.length)
    (J:∀ (i:Nat) (O:i < a.length) (U:i < b.length),tb (i:Int)=some (if a[i]=b[i] then .inl (IntKind.i64.wrap ((i:Int) + 1)) else .inr (.inl ()))) (D:tb (a.length:Int)=some (.inr (.inr ()))) :
    Lw tb 0=some (if a=b then .inr () else .inl ()):=by
  have N:=iK (tb:=tb) a.length h (fun i=>decide (a[i]? = b[i]?)) () ()
    (by
      intro i F
      have G:i < b.length:=by omega
      rw [J i F G,List.getElem?_eq_getElem F,List.getElem?_eq_getElem G]
      by_cases D:a[i]=b[i] <;> simp [D])
    D
  rw [N,MH I]
  by_cases D:a=b <;> simp [D]
theorem f4 {n:Nat} {τ:Type} (g:Ar n τ) (i:Nat) (h:i < n):jF g (i:Int)=some (g.l[i]'(by rw [g.h]; exact h)):=by
  unfold jF
  rw [if_pos ⟨by omega,by omega⟩,Int.toNat_natCast,List.getElem?_eq_getElem]
theorem GX {n:Nat} {τ:Type} {a b:Ar n τ}:a=b↔a.l=b.l:=by cases a; cases b; simp
end Go.Proofs.YtkdinadmheomfaaGreat
namespace Go.Proofs.YtkdinadmheomfaaGreat
open Go Go.Ab
def Dx (n:Int) (d:Debt):Prop:=(0<=d.From/\d.From < n)/\(0<=d.To/\d.To < n)/\d.From≠d.To/\1<=d.Amount/\d.Amount<=100000000
theorem qY (n:Int) (xs:List Debt) (ah:1<=n/\n<=16) (af:xs.length<=60) (Z:∀ d ∈ xs,Dx n d):iw n xs=some true:=by
  unfold iw
  have aa:=iK (tb:=fO n xs) xs.length (by omega) (fun i=>true) () ()
    (by
      intro i D
      obtain ⟨⟨ab,ac⟩,⟨ad,ae⟩,a5,a6,a7⟩:=Z _ (List.getElem_mem D)
      have F:¬ xs[i].From < 0:=by omega
      have G:¬ n<=xs[i].From:=by omega
      have I:¬ xs[i].To < 0:=by omega
      have J:¬ n<=xs[i].To:=by omega
      have N:¬ xs[i].Amount < 1:=by omega
      have O:¬ 100000000 < xs[i].Amount:=by omega
      simp [fO,cS,D,F,G,I,J,a5,N,O])
    (by simp [fO])
  have U:¬ n < 1:=by omega
  have X:¬ n > 16:=by omega
  have Y:¬ (xs.length:Int) > 60:=by omega
  simp [U,X,Y,aa]
theorem uF {n:Nat} {τ:Type} (g:Ar n τ) (i:Nat) (h:i < n):∃ u,jF g (i:Int)=some u:=⟨_,f4 g i h⟩
theorem A8 (xs:List Debt) (af:xs.length<=60) (Z:∀ d ∈ xs,Dx 16 d):∃ g,mz xs=some g/\iZ xs=some g:=by
  have:∃ r J:Ar 16 (Ar 16 Int),Lw (ii xs) (0,(Ar.rep 16 (Ar.rep 16 0)))=some r/\Lw (dK xs) (0,(Ar.rep 16 (Ar.rep 16 0)))=some J/\r=J:=by
    refine BI (tb:=ii xs) (tb2:=dK xs) (fun s=>xs.length - s.1.toNat) (fun s N=>s=N/\∃ i:Nat,s.1=i/\i<=xs.length) _ ?_ _ _ _ rfl ⟨rfl,0,rfl,by omega⟩
    rintro ⟨j,g⟩ N ⟨rfl,i,G,ae⟩
    simp only at G
    subst G
    by_cases hlt:i < xs.length
    · have I:rd xs (i:Int)=some xs[i]:=by rw [cS,List.getElem?_eq_getElem hlt]
      have w:=kF hlt (by omega)
      obtain ⟨⟨aa,ab⟩,⟨ac,ad⟩,_⟩:=Z _ (List.getElem_mem hlt)
      obtain ⟨f,X⟩:∃ f:Nat,xs[i].From=f:=⟨xs[i].From.toNat,by omega⟩
      obtain ⟨t,Y⟩:∃ t:Nat,xs[i].To=t:=⟨xs[i].To.toNat,by omega⟩
      obtain ⟨u,D⟩:=uF g f (by omega)
      obtain ⟨v,F⟩:=uF u t (by omega)
      rw [<- X] at D
      rw [<- Y] at F
      exact .inl ⟨_,_,by simp [ii,hlt,I,D,F,w]; rfl,by simp [dK,hlt,I,D,F,w],⟨rfl,i + 1,rfl,by omega⟩,by simp; omega⟩
    · exact .inr ⟨g,g,by simp [ii,hlt],by simp [dK,hlt],rfl⟩
  obtain ⟨r,_,O,U,rfl⟩:=this
  exact ⟨r,by unfold mz; rw [O]; rfl,by unfold iZ; rw [U]; rfl⟩
theorem HV (g:Ar 16 (Ar 16 Int)) (i:Nat) (u:Ar 16 Int) (G:jF g (i:Int)=some u) (o:List Debt) (Y:o.length<=1000) :
    ∃ r N,Lw (dF (i:Int) u) (0,o)=some r/\Lw (cY g (i:Int)) (0,o)=some N/\r=N/\∀ z:List Debt,r = .inr z->z.length<=o.length + 16:=by
  refine BI (tb:=dF (i:Int) u) (tb2:=cY g (i:Int)) (fun s=>16 - s.1.toNat) (fun s O=>s=O/\∃ k:Nat,s.1=k/\k<=16/\s.2.length<=o.length + k) _ ?_ _ _ _ rfl ⟨rfl,0,rfl,by omega,by simp⟩
  rintro ⟨j,z⟩ O ⟨rfl,k,J,X,U⟩
  simp only at J U
  subst J
  by_cases hlt:k < 16
  · have D:(k:Int) < 16:=by omega
    obtain ⟨v,F⟩:=uF u k hlt
    have w:=kF hlt (by omega)
    by_cases c1:v > 100000000
    · exact .inr ⟨.inl (),.inl (),by simp [dF,D,F,c1],by simp [cY,D,G,F,c1],rfl,fun z h=>by cases h⟩
    · by_cases c2:v > 0
      · have I:qB 24 z [⟨(i:Int),(k:Int),v⟩]=some (z++[⟨(i:Int),(k:Int),v⟩]):=fL (by simp; omega) (by decide)
        exact .inl ⟨(((k + 1:Nat):Int),z++[⟨(i:Int),(k:Int),v⟩]),_,by simp [dF,D,F,c1,c2,I,w],by simp [cY,D,G,F,c1,c2,I,w],⟨rfl,k + 1,rfl,by omega,by simp; omega⟩,by simp; omega⟩
      · exact .inl ⟨(((k + 1:Nat):Int),z),_,by simp [dF,D,F,c1,c2,w],by simp [cY,D,G,F,c1,c2,w],⟨rfl,k + 1,rfl,by omega,by simp; omega⟩,by simp; omega⟩
  · have D:¬ (k:Int) < 16:=by omega
    exact .inr ⟨.inr z,.inr z,by simp [dF,D],by simp [cY,D],rfl,fun Z h=>by cases h; omega⟩
theorem A3 (g:Ar 16 (Ar 16 Int)):(eB g=some (.inl ())/\fi g=some ([],3))∨∃ o:List Debt,eB g=some (.inr o)/\fi g=some (o,0)/\o.length<=60:=by
  have:∃ r N,Lw (d5 g) (0,[])=some r/\Lw (dv g) (0,[])=some N/\r=N:=by
    refine BI (tb:=d5 g) (tb2:=dv g) (fun s=>16 - s.1.toNat) (fun s O=>s=O/\∃ k:Nat,s.1=k/\k<=16/\s.2.length<=16 * k) _ ?_ _ _ _ rfl ⟨rfl,0,rfl,by omega,by simp⟩
    rintro ⟨j,z⟩ O ⟨rfl,k,J,Y,X⟩
    simp only at J X
    subst J
    by_cases hlt:k < 16
    · have D:(k:Int) < 16:=by omega
      obtain ⟨u,I⟩:=uF g k hlt
      have w:=kF hlt (by omega)
      obtain ⟨r,_,F,G,rfl,U⟩:=HV g k u I z (by omega)
      rcases r with r | r
      · exact .inr ⟨.inl (),.inl (),by simp [d5,D,I,F],by simp [dv,D,G],rfl⟩
      · have:=U r rfl
        exact .inl ⟨(((k + 1:Nat):Int),r),_,by simp [d5,D,I,F,w],by simp [dv,D,G,w],⟨rfl,k + 1,rfl,by omega,by simp only; omega⟩,by simp; omega⟩
    · have D:¬ (k:Int) < 16:=by omega
      exact .inr ⟨.inr z,.inr z,by simp [d5,D],by simp [dv,D],rfl⟩
  obtain ⟨r,_,F,G,rfl⟩:=this
  unfold eB fi
  rw [F,G]
  rcases r with r | r
  · exact .inl ⟨by simp,by simp⟩
  · by_cases h:(r.length:Int) > 60
    · exact .inl ⟨by simp [h],by simp [h]⟩
    · exact .inr ⟨r,by simp [h],by simp [h],by omega⟩
end Go.Proofs.YtkdinadmheomfaaGreat
namespace Go.Proofs.YtkdinadmheomfaaGreat
open Go Go.Ab
def hG (n:Nat) (f:Nat->Int):Int:=((List.range n).map f).sum
theorem AY (f:Nat->Int):hG 0 f=0:=rfl
theorem er (n:Nat) (f:Nat->Int):hG (n + 1) f=hG n f + f n:=by
  unfold hG
  rw [List.range_succ,List.map_append,List.sum_append]
  simp
theorem il {n:Nat} {f g:Nat->Int} (h:∀ i,i < n->f i=g i):hG n f=hG n g:=by
  induction n with
  | zero=>rfl
  | succ n D=>rw [er,er,D (fun i F=>h i (by omega)),h n (by omega)]
theorem CU (n:Nat) (f g:Nat->Int):hG n (fun i=>f i + g i)=hG n f + hG n g:=by
  induction n with
  | zero=>rfl
  | succ n D=>rw [er,er,er,D]; omega
theorem zU (n:Nat) (f g:Nat->Int):hG n (fun i=>f i - g i)=hG n f - hG n g:=by
  induction n with
  | zero=>rfl
  | succ n D=>rw [er,er,er,D]; omega
theorem ut {n:Nat} {f:Nat->Int} (h:∀ i,i < n->f i=0):hG n f=0:=by
  induction n with
  | zero=>rfl
  | succ n D=>rw [er,D (fun i F=>h i (by omega)),h n (by omega)]; rfl
theorem rr (n t:Nat) (x:Int):hG n (fun i=>if i=t then x else 0)=if t < n then x else 0:=by
  induction n with
  | zero=>simp [hG]
  | succ n D=>
    rw [er,D]
    by_cases h1:t < n
    · rw [if_pos h1,if_neg (by omega),if_pos (by omega)]; omega
    · by_cases h2:n=t
      · rw [if_neg h1,if_pos h2,if_pos (by omega)]; omega
      · rw [if_neg h1,if_neg h2,if_neg (by omega)]; rfl
theorem vf {τ:Type} (f:τ->Int) (m:Int):∀ (xs:List τ),(∀ x ∈ xs,0<=f x/\f x<=m)->0<=(xs.map f).sum/\(xs.map f).sum<=m * xs.length
  | [],_=>by simp
  | x::xs,h=>by
    have F:=h x (List.mem_cons_self ..)
    have G:=vf f m xs (fun y D=>h y (List.mem_cons_of_mem _ D))
    simp only [List.map_cons,List.sum_cons,List.length_cons]
    have:m * ((xs.length + 1:Nat):Int)=m * xs.length + m:=by rw [Int.natCast_add,Int.mul_add]; simp
    omega
def eY (g:Ar 16 (Ar 16 Int)) (i k:Nat):Int:=((g.l[i]?).bind fun u=>u.l[k]?).getD 0
def ml (xs:List Debt) (i k:Nat):Int:=(xs.map fun (d:Debt)=>if d.From=(i:Int)/\d.To=(k:Int) then d.Amount else 0).sum
theorem KZ {xs:List Debt} (F:∀ d ∈ xs,Dx 16 d) (J:xs.length<=60) (i k:Nat):0<=ml xs i k/\ml xs i k<=6000000000:=by
  have:=vf (fun d:Debt=>if d.From=(i:Int)/\d.To=(k:Int) then d.Amount else 0) 100000000 xs (fun d D=>by
    obtain ⟨_,_,_,G,I⟩:=F d D
    split <;> omega)
  unfold ml
  omega
theorem La (i k:Nat):eY (Ar.rep 16 (Ar.rep 16 0)) i k=0:=by
  unfold eY Ar.rep
  simp only [List.getElem?_replicate]
  split
  · simp only [Option.bind_some,List.getElem?_replicate]
    split <;> rfl
  · rfl
theorem ud {g:Ar 16 (Ar 16 Int)} {i k:Nat} (J:i < 16) (N:k < 16):∃ u,jF g (i:Int)=some u/\jF u (k:Int)=some (eY g i k):=by
  obtain ⟨u,G⟩:=uF g i J
  obtain ⟨v,I⟩:=uF u k N
  refine ⟨u,G,?_⟩
  have D:=(m2 G).2.2
  have F:=(m2 I).2.2
  simp only [Int.toNat_natCast] at D F
  have:eY g i k=v:=by unfold eY; rw [D,Option.bind_some,F]; rfl
  rw [this,I]
theorem En {g:Ar 16 (Ar 16 Int)} {f t:Nat} {u:Ar 16 Int} (F:f < 16) (I:t < 16) (J:jF g (f:Int)=some u) (v:Int) (i k:Nat):eY (g.set f (u.set t v)) i k=if i=f/\k=t then v else eY g i k:=by
  have D:=(m2 J).2.2
  simp only [Int.toNat_natCast] at D
  have G:f < g.l.length:=by rw [g.h]; exact F
  have N:t < u.l.length:=by rw [u.h]; exact I
  unfold eY Ar.set
  simp only
  by_cases e1:i=f
  · subst e1
    rw [List.getElem?_set_self G,D]
    simp only [Option.bind_some]
    by_cases e2:k=t
    · subst e2
      rw [List.getElem?_set_self N]; simp
    · rw [List.getElem?_set_ne (Ne.symm e2)]; simp [e2]
  · rw [List.getElem?_set_ne (Ne.symm e1)]; simp [e1]
theorem CD (xs:List Debt) (am:xs.length<=60) (U:∀ d ∈ xs,Dx 16 d):∃ g,iZ xs=some g/\∀ i k,eY g i k=ml xs i k:=by
  have:∃ r,Lw (dK xs) (0,(Ar.rep 16 (Ar.rep 16 0)))=some r/\∀ i k,eY r i k=ml xs i k:=by
    refine sf (tb:=dK xs) (fun s=>xs.length - s.1.toNat) (fun s=>∃ j:Nat,s.1=j/\j<=xs.length/\∀ i k,eY s.2 i k=ml (xs.take j) i k) _ ?_ _ _ rfl ⟨0,rfl,by omega,fun i k=>by rw [La]; rfl⟩
    rintro ⟨j,g⟩ ⟨D,N,ak,F⟩
    simp only at N F
    subst N
    by_cases hlt:D < xs.length
    · have ac:rd xs (D:Int)=some xs[D]:=by rw [cS,List.getElem?_eq_getElem hlt]
      have w:=kF hlt (by omega)
      obtain ⟨⟨ae,af⟩,⟨ah,ai⟩,_,a5,a6⟩:=U _ (List.getElem_mem hlt)
      obtain ⟨f,I⟩:∃ f:Nat,xs[D].From=f:=⟨xs[D].From.toNat,by omega⟩
      obtain ⟨t,O⟩:∃ t:Nat,xs[D].To=t:=⟨xs[D].To.toNat,by omega⟩
      obtain ⟨u,G,J⟩:=ud (g:=g) (i:=f) (k:=t) (by omega) (by omega)
      have aj:=KZ (xs:=xs.take D) (fun d ab=>U d (List.mem_of_mem_take ab)) (by simp; omega) f t
      rw [F] at J
      have ad:IntKind.i64.wrap (ml (xs.take D) f t + xs[D].Amount)=ml (xs.take D) f t + xs[D].Amount:=lg (by omega)
      have X:xs[D].From.toNat=f:=by omega
      have Y:xs[D].To.toNat=t:=by omega
      rw [<- I] at G
      rw [<- O] at J
      refine .inl ⟨(((D + 1:Nat):Int),g.set f (u.set t (ml (xs.take D) f t + xs[D].Amount))),by simp [dK,hlt,ac,G,J,w,ad,X,Y],⟨D + 1,rfl,by omega,fun i k=>?_⟩,by simp; omega⟩
      rw [I] at G
      rw [En (by omega) (by omega) G,F,List.take_succ_eq_append_getElem hlt]
      unfold ml
      rw [List.map_append,List.sum_append]
      simp only [List.map_cons,List.map_nil,List.sum_cons,List.sum_nil]
      by_cases e:i=f/\k=t
      · obtain ⟨rfl,rfl⟩:=e
        rw [if_pos ⟨rfl,rfl⟩,if_pos ⟨I,O⟩]; omega
      · rw [if_neg e,if_neg (fun h=>e ⟨by omega,by omega⟩)]; omega
    · have:D=xs.length:=by omega
      subst this
      exact .inr ⟨g,by simp [dK],fun i k=>by rw [F,List.take_length]⟩
  obtain ⟨r,Z,aa⟩:=this
  exact ⟨r,by unfold iZ; rw [Z]; rfl,aa⟩
def qp (g:Ar 16 (Ar 16 Int)) (i n:Nat):List Debt:=(List.range n).filterMap fun k=>if eY g i k > 0 then some ⟨i,k,eY g i k⟩ else none
theorem mF (g:Ar 16 (Ar 16 Int)) (i n:Nat):qp g i (n + 1)=qp g i n++if eY g i n > 0 then [⟨i,n,eY g i n⟩] else []:=by
  unfold qp
  rw [List.range_succ,List.filterMap_append]
  congr 1
  by_cases h:eY g i n > 0 <;> simp [h]
def eu (g:Ar 16 (Ar 16 Int)) (m:Nat):List Debt:=(List.range m).flatMap fun i=>qp g i 16
theorem mE (g:Ar 16 (Ar 16 Int)) (m:Nat):eu g (m + 1)=eu g m++qp g m 16:=by
  unfold eu
  rw [List.range_succ,List.flatMap_append]
  simp
theorem zY {g:Ar 16 (Ar 16 Int)} {i p:Nat} (h:∀ k,p<=k->eY g i k=0) (n:Nat):(qp g i n).length<=n/\(qp g i n).length<=p:=by
  induction n with
  | zero=>simp [qp]
  | succ n D=>
    rw [mF,List.length_append]
    by_cases hn:p<=n
    · rw [if_neg (by rw [h n hn]; omega)]; simp; omega
    · split <;> simp <;> omega
theorem GF {g:Ar 16 (Ar 16 Int)} {p:Nat} (h:∀ i k,p<=i∨p<=k->eY g i k=0) (m:Nat):(eu g m).length<=p * m/\(eu g m).length<=p * p:=by
  induction m with
  | zero=>simp [eu]
  | succ m J=>
    rw [mE,List.length_append]
    have G:=(zY (g:=g) (i:=m) (p:=p) (fun k F=>h m k (.inr F)) 16).2
    by_cases hm:p<=m
    · have D:=(zY (g:=g) (i:=m) (p:=0) (fun k _=>h m k (.inl hm)) 16).2
      have:p * (m + 1)=p * m + p:=Nat.mul_succ p m
      omega
    · have D:p * (m + 1)=p * m + p:=Nat.mul_succ p m
      have I:p * (m + 1)<=p * p:=Nat.mul_le_mul_left p (by omega)
      omega
theorem K5 (g:Ar 16 (Ar 16 Int)) (i:Nat) (U:i < 16) (O:∀ k,eY g i k<=100000000) (z:List Debt) (aa:z.length<=1000):Lw (cY g (i:Int)) (0,z)=some (.inr (z++qp g i 16)):=by
  have Y:=g7 (tb:=cY g (i:Int)) (fun k=>((k:Int),z++qp g i k)) 16 (r:=.inr (z++qp g i 16)) (fun k I=>?_) (by simp [cY])
  · simpa [qp] using Y
  · obtain ⟨u,J,N⟩:=ud (g:=g) U I
    have F:(k:Int) < 16:=by omega
    have w:=kF I (show 16<=4611686018427387904 by omega)
    have G:¬ eY g i k > 100000000:=by have:=O k; omega
    have Z:=(zY (g:=g) (i:=i) (p:=16) (fun k' X=>by
      unfold eY
      cases h:g.l[i]? with
      | none=>rfl
      | some u=>simp only [Option.bind_some]; rw [List.getElem?_eq_none (by rw [u.h]; exact X)]; rfl) k).1
    by_cases h0:eY g i k > 0
    · have D:qB 24 (z++qp g i k) [⟨(i:Int),(k:Int),eY g i k⟩]=some (z++qp g i k++[⟨(i:Int),(k:Int),eY g i k⟩]):=fL (by simp; omega) (by decide)
      simp [cY,F,J,N,G,h0,w,mF] at D ⊢
      rw [D]
      simp
    · simp [cY,F,J,N,G,h0,w,mF]
theorem CW (g:Ar 16 (Ar 16 Int)) (I:∀ i k,eY g i k<=100000000) (N:(eu g 16).length<=60):fi g=some (eu g 16,0):=by
  have J:∀ m,m<=16->(eu g m).length<=(eu g 16).length:=by
    intro m O
    have:∀ k,(eu g m).length<=(eu g (m + k)).length:=by
      intro k
      induction k with
      | zero=>exact Nat.le_refl _
      | succ k U=>rw [<- Nat.add_assoc,mE,List.length_append]; omega
    have h:=this (16 - m)
    rwa [show m + (16 - m)=16 by omega] at h
  have D:=g7 (tb:=dv g) (fun i=>((i:Int),eu g i)) 16 (r:=.inr (eu g 16)) (fun i F=>by
    have G:(i:Int) < 16:=by omega
    have w:=kF F (show 16<=4611686018427387904 by omega)
    have:=J i (by omega)
    simp [dv,G,K5 g i F (I i) (eu g i) (by omega),w,mE]) (by simp [dv])
  have D:Lw (dv g) (0,([]:List Debt))=some (.inr (eu g 16)):=by simpa [eu] using D
  unfold fi
  rw [D,Option.bind_some]
  have:¬ ((eu g 16).length:Int) > 60:=by omega
  simp [this]
def WL (w:Int->Int->Int) (xs:List Debt):Int:=(xs.map fun (d:Debt)=>w d.From d.To * d.Amount).sum
theorem xf (w:Int->Int->Int) (xs ys:List Debt):WL w (xs++ys)=WL w xs + WL w ys:=by unfold WL; rw [List.map_append,List.sum_append]
theorem Nb {g:Ar 16 (Ar 16 Int)} {w:Int->Int->Int} {i:Nat} (D:∀ k,0<=eY g i k) (n:Nat):WL w (qp g i n)=hG n fun k=>w i k * eY g i k:=by
  induction n with
  | zero=>rfl
  | succ n F=>
    rw [mF,xf,F,er]
    by_cases h:eY g i n > 0
    · rw [if_pos h]; simp [WL]
    · have:eY g i n=0:=by have:=D n; omega
      rw [if_neg h,this]; simp [WL]
theorem DV {g:Ar 16 (Ar 16 Int)} {w:Int->Int->Int} (D:∀ i k,0<=eY g i k) (m:Nat):WL w (eu g m)=hG m fun i=>hG 16 fun k=>w i k * eY g i k:=by
  induction m with
  | zero=>rfl
  | succ m F=>rw [mE,xf,F,er,Nb (D m)]
theorem DE {w:Int->Int->Int}:∀ {xs:List Debt},(∀ d ∈ xs,Dx 16 d)->(hG 16 fun i=>hG 16 fun k=>w i k * ml xs i k)=WL w xs
  | [],_=>by
    refine (ut fun i _=>ut fun k _=>?_)
    simp [ml]
  | d::xs,h=>by
    obtain ⟨⟨N,O⟩,⟨U,X⟩,_⟩:=h d (List.mem_cons_self ..)
    obtain ⟨f,F⟩:∃ f:Nat,d.From=f:=⟨d.From.toNat,by omega⟩
    obtain ⟨t,G⟩:∃ t:Nat,d.To=t:=⟨d.To.toNat,by omega⟩
    have J:=DE (w:=w) (fun d I=>h d (List.mem_cons_of_mem _ I))
    have e:∀ i k:Nat,w i k * ml (d::xs) i k=(if i=f then (if k=t then w f t * d.Amount else 0) else 0) + w i k * ml xs i k:=by
      intro i k
      unfold ml
      simp only [List.map_cons,List.sum_cons,Int.mul_add]
      congr 1
      by_cases e1:i=f
      · by_cases D:k=t
        · subst e1 D
          rw [if_pos ⟨F,G⟩]; simp
        · rw [if_neg (fun h=>D (by omega))]; simp [D]
      · rw [if_neg (fun h=>e1 (by omega))]; simp [e1]
    have D:(hG 16 fun i=>hG 16 fun k=>w i k * ml (d::xs) i k)=(hG 16 fun i=>(if i=f then w f t * d.Amount else 0) + hG 16 fun k=>w i k * ml xs i k):=by
      refine il fun i _=>?_
      rw [il (fun k _=>e i k),CU]
      congr 1
      by_cases e1:i=f
      · simp only [e1,if_true]
        rw [rr,if_pos (by omega)]
      · simp only [e1,if_false]
        exact ut fun _ _=>rfl
    rw [D,CU,rr,if_pos (by omega),J]
    unfold WL
    simp only [List.map_cons,List.sum_cons,F,G]
def mK (xs:List Debt) (p:Int):Int:=WL (fun f t=>(if t=p then 1 else 0) - (if f=p then 1 else 0)) xs
end Go.Proofs.YtkdinadmheomfaaGreat
namespace Go.Proofs.YtkdinadmheomfaaGreat
open Go Go.Ab
theorem Cp (n:Nat):((List.range n).all fun _=>true)=true:=by simp
theorem BO (a:List Int) (h:a.length<=4611686018427387904):nw a a=some true:=by
  unfold nw
  have F:=iK (tb:=iz a a) a.length h (fun i=>true) () ()
    (by
      intro i D
      simp only [iz,cS,List.getElem?_eq_getElem D,Option.bind_some]
      simp [D])
    (by simp [iz])
  rw [if_neg (by simp),F,if_pos (Cp _)]
  rfl
theorem B4 (b:Book) (h:b.Cash.length<=4611686018427387904) (F:b.Tallies.length<=4611686018427387904):nc b b=some true:=by
  unfold nc
  have G:=iK (tb:=iE b b) b.Tallies.length F (fun i=>true) () ()
    (by
      intro i D
      simp only [iE,cS,List.getElem?_eq_getElem D,Option.bind_some]
      simp [D])
    (by simp [iE])
  simp [BO b.Cash h,G]
theorem Ao (b:Book) (h:b.Cash.length<=4611686018427387904) (D:b.Tallies.length<=4611686018427387904):kg b b=some true:=by
  unfold kg; rw [B4 b h D]; rfl
theorem B3 (a:List Debt) (h:a.length<=4611686018427387904):mO a a=some true:=by
  unfold mO
  have F:=iK (tb:=iD a a) a.length h (fun i=>true) () ()
    (by
      intro i D
      simp only [iD,cS,List.getElem?_eq_getElem D,Option.bind_some]
      simp [D])
    (by simp [iD])
  rw [if_neg (by simp),F,if_pos (Cp _)]
  rfl
theorem uh (a:List Debt) (h:a.length<=4611686018427387904):jA a a=some true:=by
  unfold jA; rw [B3 a h]; rfl
end Go.Proofs.YtkdinadmheomfaaGreat
namespace Go.Proofs.YtkdinadmheomfaaGreat
open Go Go.Ab
def qu (ts:List Tally):List Debt:=ts.filterMap fun (t:Tally)=>if t.Left > 0 then some (Debt.mk t.Debtor t.Holder t.Left) else none
theorem Ct (ts:List Tally):(qu ts).length<=ts.length:=List.length_filterMap_le _ _
theorem H2 {ts:List Tally} {d:Debt} (h:d ∈ qu ts):∃ t ∈ ts,t.Left > 0/\d=⟨t.Debtor,t.Holder,t.Left⟩:=by
  unfold qu at h
  obtain ⟨t,F,D⟩:=List.mem_filterMap.1 h
  split at D
  · rename_i G; exact ⟨t,F,G,(Option.some.inj D).symm⟩
  · cases D
theorem Cy (b:Book) (O:b.Tallies.length<=40):Lw (eA b) (0,[])=some (qu b.Tallies):=by
  have I:=g7 (tb:=eA b) (fun i=>((i:Int),qu (b.Tallies.take i))) b.Tallies.length (r:=qu b.Tallies) (fun i D=>?_) (by simp [eA])
  · simpa [qu] using I
  · have F:rd b.Tallies (i:Int)=some b.Tallies[i]:=by rw [cS,List.getElem?_eq_getElem D]
    have w:=kF D (by omega)
    have J:=Ct (b.Tallies.take i)
    have N:(b.Tallies.take i).length<=40:=by simp; omega
    have e:qu (b.Tallies.take (i + 1))=qu (b.Tallies.take i)++if b.Tallies[i].Left > 0 then [Debt.mk b.Tallies[i].Debtor b.Tallies[i].Holder b.Tallies[i].Left] else []:=by
      unfold qu
      rw [List.take_succ_eq_append_getElem D,List.filterMap_append]
      congr 1
      by_cases h:b.Tallies[i].Left > 0 <;> simp [h]
    rw [e]
    by_cases c1:b.Tallies[i].Left > 0
    · have G:qB 24 (qu (b.Tallies.take i)) [Debt.mk b.Tallies[i].Debtor b.Tallies[i].Holder b.Tallies[i].Left]=some (qu (b.Tallies.take i)++[Debt.mk b.Tallies[i].Debtor b.Tallies[i].Holder b.Tallies[i].Left]):=fL (by simp only [List.length_singleton]; omega) (by decide)
      rw [if_pos c1]
      simp only [eA,F,Option.bind_some,G,w,c1,decide_true,if_true]
      rw [if_pos (by simpa using D)]
    · rw [if_neg c1]
      simp only [eA,F,Option.bind_some,w,c1,decide_false,Bool.false_eq_true,if_false,List.append_nil]
      rw [if_pos (by simpa using D)]
theorem xd {xs:List Debt} {i k:Nat} (h:ml xs i k≠0):∃ d ∈ xs,d.From=i/\d.To=k:=by
  induction xs with
  | nil=>exact absurd rfl h
  | cons d xs I=>
    by_cases e:d.From=(i:Int)/\d.To=(k:Int)
    · exact ⟨d,List.mem_cons_self ..,e⟩
    · have:ml (d::xs) i k=ml xs i k:=by
        unfold ml
        simp only [List.map_cons,List.sum_cons,if_neg e]; omega
      rw [this] at h
      obtain ⟨D,F,G⟩:=I h
      exact ⟨D,List.mem_cons_of_mem _ F,G⟩
theorem Kc {xs:List Debt} {m:Int} (F:∀ d ∈ xs,0<=d.Amount/\d.Amount<=m) (G:0<=m) (i k:Nat):0<=ml xs i k/\ml xs i k<=m * xs.length:=
  vf (fun d:Debt=>if d.From=(i:Int)/\d.To=(k:Int) then d.Amount else 0) m xs (fun d D=>by
    have:=F d D
    split <;> omega)
theorem C6 (b:Book) (J:BookP b) (aG:b.Cash.length<=4) (ar:∀ t ∈ b.Tallies,t.Left<=60) :
    ∃ g,nE b=some (eu g 16,0)/\mR b=some (eu g 16,0)/\(eu g 16).length<=16/\(∀ d ∈ eu g 16,Dx b.Cash.length d)/\(∀ i k,0<=eY g i k/\eY g i k<=2400)/\∀ w,WL w (eu g 16)=WL w (qu b.Tallies):=by
  have af:=rN.2 J
  have ao:=J.bk
  have cn:=J.cn
  have c1:=J.c1
  have tn:=J.tn
  have Z:=Cy b tn
  have ah:Lw (j3 b) (0,[])=some (qu b.Tallies):=by
    have e:Lw (j3 b) (0,[])=Lw (eA b) (0,[]):=rfl
    rw [e,Z]
  have au:=Ct b.Tallies
  have I:∀ d ∈ qu b.Tallies,Dx b.Cash.length d/\d.Amount<=60:=by
    intro d D
    obtain ⟨t,G,an,rfl⟩:=H2 D
    obtain ⟨aw,ax,aJ,ay⟩:=ao.ta t G
    have:=ar t G
    exact ⟨⟨aw,ax,fun h=>by have:=ay h; omega,by simp only; omega,by simp only; omega⟩,this⟩
  have U:∀ d ∈ qu b.Tallies,Dx 16 d:=fun d D=>by
    obtain ⟨⟨X,Y,ab,ai⟩,_⟩:=I d D
    exact ⟨⟨X.1,by omega⟩,⟨Y.1,by omega⟩,ab,ai⟩
  generalize qu b.Tallies=L at ah Z au I U
  have ap:=qY (b.Cash.length:Int) L ⟨by omega,by omega⟩ (by omega) (fun d D=>(I d D).1)
  obtain ⟨g,ak,ad⟩:=A8 L (by omega) U
  obtain ⟨g',ae,O⟩:=CD L (by omega) U
  rw [ad] at ae
  obtain rfl:=Option.some.inj ae
  have N:∀ i k,0<=eY g i k/\eY g i k<=2400:=fun i k=>by
    have:=Kc (xs:=L) (m:=60) (fun d D=>by
      obtain ⟨⟨_,_,_,aD,_⟩,h6⟩:=I d D
      omega) (by omega) i k
    rw [O]; omega
  have aA:∀ i k,4<=i∨4<=k->eY g i k=0:=fun i k h=>by
    rw [O]
    by_cases e:ml L i k=0
    · exact e
    · obtain ⟨d,G,an,aC⟩:=xd e
      obtain ⟨⟨X,Y,_⟩,_⟩:=I d G
      omega
  have aq:=(GF aA 16).2
  have aa:=CW g (fun i k=>by have:=N i k; omega) (by omega)
  have az:∀ w,WL w (eu g 16)=WL w L:=fun w=>by
    rw [DV (fun i k=>(N i k).1),<- DE (w:=w) U]
    exact il fun i _=>il fun k _=>by rw [O]
  have kd:∀ d ∈ eu g 16,Dx b.Cash.length d:=by
    intro d D
    unfold eu at D
    obtain ⟨i,aE,D⟩:=List.mem_flatMap.1 D
    unfold qp at D
    obtain ⟨k,aF,D⟩:=List.mem_filterMap.1 D
    split at D
    · rename_i am
      obtain rfl:=(Option.some.inj D).symm
      have G:=am
      rw [O] at G
      obtain ⟨aj,av,aH,aI⟩:=xd (show ml L i k≠0 by omega)
      obtain ⟨⟨X,Y,ab,_⟩,_⟩:=I aj av
      have:=N i k
      exact ⟨⟨by simp only; omega,by simp only; omega⟩,⟨by simp only; omega,by simp only; omega⟩,by simp only; omega,by simp only; omega,by simp only; omega⟩
    · cases D
  refine ⟨g,?_,?_,aq,kd,N,az⟩
  · unfold nE
    rw [sn b (by omega) (by omega),af]
    rcases A3 g with ⟨ac,F⟩ | ⟨o,ac,F,aB⟩
    · rw [aa] at F; simp at F
    · rw [aa] at F
      simp only [Option.some.injEq,Prod.mk.injEq] at F
      obtain ⟨rfl,_⟩:=F
      simp [ah,h7,ap,ak,ac]
  · unfold mR
    rw [Cg b (by omega) (by omega),af]
    simp [Z,ad,aa]
theorem DX (n:Int) (xs:List Debt) (Z:1<=n/\n<=16) (ac:xs.length<=60) (aa:∀ d ∈ xs,Dx n d):qb n xs=some true:=by
  unfold qb
  have ab:=iK (tb:=kb n xs) xs.length (by omega) (fun i=>true) () ()
    (by
      intro i D
      obtain ⟨⟨F,G⟩,⟨I,J⟩,a5,a6,a7⟩:=aa _ (List.getElem_mem D)
      have N:ga n xs[i].From=true:=oH.2 ⟨F,G⟩
      have O:ga n xs[i].To=true:=oH.2 ⟨I,J⟩
      have U:gP xs[i].Amount 1 100000000=true:=cB.2 ⟨a6,a7⟩
      simp [kb,cS,D,sU _ _ (show -9223372036854775807<=n/\n<=9223372036854775807 by omega),N,O,a5,na,U])
    (by simp [kb])
  have X:gP n 1 16=true:=cB.2 Z
  have Y:¬ (xs.length:Int) > 60:=by omega
  simp [na,X,Y,ab]
theorem JR {xs:List Debt} {n:Int} (F:∀ d ∈ xs,Dx n d) (O:xs.length<=60) (p:Int) : -6000000000<=mK xs p/\mK xs p<=6000000000:=by
  have G:=vf (fun d:Debt=>(if d.To=p then d.Amount else 0)) 100000000 xs (fun d D=>by
    obtain ⟨_,_,_,J,N⟩:=F d D
    split <;> omega)
  have I:=vf (fun d:Debt=>(if d.From=p then d.Amount else 0)) 100000000 xs (fun d D=>by
    obtain ⟨_,_,_,J,N⟩:=F d D
    split <;> omega)
  have e:mK xs p=(xs.map fun (d:Debt)=>if d.To=p then d.Amount else 0).sum - (xs.map fun (d:Debt)=>if d.From=p then d.Amount else 0).sum:=by
    clear G I O
    unfold mK WL
    induction xs with
    | nil=>rfl
    | cons d xs U=>
      have:=U (fun d D=>F d (List.mem_cons_of_mem _ D))
      have D:((if d.To=p then 1 else 0) - (if d.From=p then 1 else 0):Int) * d.Amount=(if d.To=p then d.Amount else 0) - (if d.From=p then d.Amount else 0):=by
        rw [Int.sub_mul]
        by_cases c1:d.To=p <;> by_cases c2:d.From=p <;> simp [c1,c2]
      simp only [List.map_cons,List.sum_cons]
      rw [this,D]
      omega
  rw [e]
  omega
theorem FG (xs:List Debt) (d:Debt) (p:Int):mK (xs++[d]) p=mK xs p + ((if d.To=p then 1 else 0) - (if d.From=p then 1 else 0)) * d.Amount:=by
  unfold mK
  rw [xf]
  simp [WL]
def gS (ts:List Tally) (p:Int):Int:=(ts.map fun (t:Tally)=>if t.Holder=p then t.Left else 0).sum
def oS (ts:List Tally) (p:Int):Int:=(ts.map fun (t:Tally)=>if t.Debtor=p then t.Left else 0).sum
theorem Cs (p:Int):∀ (ts:List Tally) (a:Int),(∀ t ∈ ts,0<=t.Left/\t.Left<=100000000)->0<=a->a + 100000000 * ts.length<=1000000000000000000->ts.foldl (A4 p) a=a + gS ts p
  | [],a,_,_,_=>by simp [gS]
  | t::ts,a,h,h0,h1=>by
    have I:=h t (List.mem_cons_self ..)
    have F:a + (100000000 * (ts.length:Int) + 100000000)<=1000000000000000000:=by
      have:((t::ts).length:Int)=ts.length + 1:=by simp
      rw [this,Int.mul_add] at h1
      omega
    have e:A4 p a t=a + if t.Holder=p then t.Left else 0:=by
      unfold A4
      by_cases c:t.Holder=p
      · rw [if_pos (by simpa using c),if_pos c,lg (by omega)]
      · rw [if_neg (by simpa using c),if_neg c]; omega
    have G:0<=(if t.Holder=p then t.Left else 0)/\(if t.Holder=p then t.Left else 0)<=100000000:=by split <;> omega
    rw [List.foldl_cons,Cs p ts _ (fun x D=>h x (List.mem_cons_of_mem _ D)) (by rw [e]; omega) (by rw [e]; omega),e]
    unfold gS
    simp only [List.map_cons,List.sum_cons]
    omega
theorem Dj (p:Int):∀ (ts:List Tally) (a:Int),(∀ t ∈ ts,0<=t.Left/\t.Left<=100000000)->0<=a->a + 100000000 * ts.length<=1000000000000000000->ts.foldl (Bc p) a=a + oS ts p
  | [],a,_,_,_=>by simp [oS]
  | t::ts,a,h,h0,h1=>by
    have I:=h t (List.mem_cons_self ..)
    have F:a + (100000000 * (ts.length:Int) + 100000000)<=1000000000000000000:=by
      have:((t::ts).length:Int)=ts.length + 1:=by simp
      rw [this,Int.mul_add] at h1
      omega
    have e:Bc p a t=a + if t.Debtor=p then t.Left else 0:=by
      unfold Bc
      by_cases c:t.Debtor=p
      · rw [if_pos (by simpa using c),if_pos c,lg (by omega)]
      · rw [if_neg (by simpa using c),if_neg c]; omega
    have G:0<=(if t.Debtor=p then t.Left else 0)/\(if t.Debtor=p then t.Left else 0)<=100000000:=by split <;> omega
    rw [List.foldl_cons,Dj p ts _ (fun x D=>h x (List.mem_cons_of_mem _ D)) (by rw [e]; omega) (by rw [e]; omega),e]
    unfold oS
    simp only [List.map_cons,List.sum_cons]
    omega
theorem Fg (p:Int):∀ (ts:List Tally),(∀ t ∈ ts,0<=t.Left)->mK (qu ts) p=gS ts p - oS ts p
  | [],_=>rfl
  | t::ts,h=>by
    have F:=Fg p ts (fun x D=>h x (List.mem_cons_of_mem _ D))
    have G:=h t (List.mem_cons_self ..)
    have e:mK (qu (t::ts)) p=((if t.Holder=p then 1 else 0) - (if t.Debtor=p then 1 else 0)) * t.Left + mK (qu ts) p:=by
      unfold qu mK
      by_cases c:t.Left > 0
      · rw [List.filterMap_cons_some (by rw [if_pos c])]
        simp [WL]
      · have:t.Left=0:=by omega
        rw [List.filterMap_cons_none (by rw [if_neg c]),this]
        simp
    rw [e,F]
    unfold gS oS
    simp only [List.map_cons,List.sum_cons,Int.sub_mul]
    by_cases c1:t.Holder=p <;> by_cases c2:t.Debtor=p <;> simp [c1,c2] <;> omega
theorem N8 {ts:List Tally} (h:∀ t ∈ ts,0<=t.Left/\t.Left<=100000000) (p:Int):0<=gS ts p/\gS ts p<=100000000 * ts.length:=
  vf (fun t:Tally=>if t.Holder=p then t.Left else 0) 100000000 ts (fun t D=>by have:=h t D; split <;> omega)
theorem NP {ts:List Tally} (h:∀ t ∈ ts,0<=t.Left/\t.Left<=100000000) (p:Int):0<=oS ts p/\oS ts p<=100000000 * ts.length:=
  vf (fun t:Tally=>if t.Debtor=p then t.Left else 0) 100000000 ts (fun t D=>by have:=h t D; split <;> omega)
theorem DN (b:Book) (D:BookP b) (p:Int):Bq b p=gS b.Tallies p/\B1 b p=oS b.Tallies p:=by
  have tn:=D.tn
  have F:∀ t ∈ b.Tallies,0<=t.Left/\t.Left<=100000000:=fun t G=>(D.bk.ta t G).2.2.1
  unfold Bq B1
  rw [Cs p b.Tallies 0 F (by omega) (by omega),Dj p b.Tallies 0 F (by omega) (by omega)]
  omega
end Go.Proofs.YtkdinadmheomfaaGreat
namespace Go.Proofs.YtkdinadmheomfaaGreat
open Go Go.Ab
theorem Run.take {b F:Book} {D:List Deal} (r:Run b D F):∀ n,∃ m,Run b (D.take n) m:=by
  induction r with
  | nil=>intro n; exact ⟨b,by simpa using Run.nil b⟩
  | @snoc D m d F r I G J O N=>
    intro n
    by_cases hn:n<=D.length
    · rw [List.take_append_of_le_length hn]; exact N n
    · rw [List.take_of_length_le (by simp; omega)]
      exact ⟨F,r.snoc I G J O⟩
theorem Run.ge {b D:Book} {F:List Deal} (r:Run b F D):∀ d ∈ F,d.Day<=D.Day:=by
  induction r with
  | nil=>intro d h; cases h
  | snoc r N J O I G=>
    intro d h
    have:=I.day
    rcases List.mem_append.1 h with h | h
    · have:=G d h; omega
    · rw [List.mem_singleton.1 h]; omega
theorem Run.same {b m G:Book} {D:List Deal} (r:Run b D m) (r':Run b D G) (I:BookP b) (J:D.length<=80):m=G:=by
  have N:=r.behind I J
  have F:=r'.behind I J
  rw [N] at F
  simp only [Option.some.injEq,Sum.inr.injEq,Prod.mk.injEq] at F
  obtain ⟨a,b,c⟩:=F
  cases m; cases G; simp_all
theorem Gc {b F:Book} {D:List Deal} (r:Run b D F) (O:BookP b) (U:D.length<=80) (Y:b.Day<=F.Day) :
    nn b D F.Day=some (.inr (F.Day,F.Cash,F.Tallies)):=by
  have G:=Kq D F.Day (by omega)
  have aa:D.findIdx (fun d=>decide (d.Day > F.Day))<=D.length:=List.findIdx_le_length
  have X:D.findIdx (fun d=>decide (d.Day > F.Day))=D.length:=by
    by_cases h:D.findIdx (fun d=>decide (d.Day > F.Day)) < D.length
    · have N:=List.findIdx_getElem (p:=fun d=>decide (d.Day > F.Day)) (xs:=D) (w:=h)
      have Z:D[D.findIdx fun d=>decide (d.Day > F.Day)].Day > F.Day:=by simpa using N
      have:=r.ge _ (List.getElem_mem h)
      omega
    · omega
  rw [X] at G
  have J:¬ F.Day < b.Day:=by omega
  have I:=r.behind O U
  unfold nn
  rw [if_neg (by simpa using J),G,Option.bind_some,if_neg (Nat.lt_irrefl _),if_pos (by simp),OJ D D.length (Nat.le_refl _),Option.bind_some,List.take_length,I]
  rfl
end Go.Proofs.YtkdinadmheomfaaGreat
namespace Go.Proofs.YtkdinadmheomfaaGreat
open Go Go.Ab
end Go.Proofs.YtkdinadmheomfaaGreat
namespace Go.Proofs.YtkdinadmheomfaaGreat
open Go Go.Ab
theorem IQ {x y:Notch}:x=y↔x.Kind=y.Kind/\x.At=y.At:=by cases x; cases y; simp
end Go.Proofs.YtkdinadmheomfaaGreat
namespace Go.Proofs.YtkdinadmheomfaaGreat
open Go Go.Ab
def fU (g:Ar 16 Int):Bool:=g.l.all fun x=>gP x (-3) 3
theorem vb (g:Ar 16 Int):iy g=some (fU g):=by
  have F:=g.h
  unfold iy fU
  have I:=iK (tb:=f0 g) g.l.length (by omega) (fun i=>(g.l[i]?).all fun x=>gP x (-3) 3) () ()
    (by
      intro i G
      have D:(i:Int) < 16:=by omega
      simp only [f0,f4 g i (by omega),List.getElem?_eq_getElem G,Option.bind_some,Option.all_some]
      rw [if_pos (by simpa using D)]
      by_cases h1:g.l[i] < -3
      · rw [if_pos (by simpa using h1),if_neg (by simp [gP]; omega)]
      · by_cases h2:g.l[i] > 3
        · rw [if_neg (by simpa using h1),if_pos (by simpa using h2),if_neg (by simp [gP]; omega)]
        · rw [if_neg (by simpa using h1),if_neg (by simpa using h2),if_pos (by simp [gP]; omega)])
    (by simp [f0,F])
  rw [I,sV]
  cases g.l.all fun x=>gP x (-3) 3 <;> simp
theorem CP (g:Ar 16 Int):l5 g=some (fU g):=by
  have F:=g.h
  unfold l5 fU
  have I:=iK (tb:=hK g) g.l.length (by omega) (fun i=>(g.l[i]?).all fun x=>gP x (-3) 3) () ()
    (by
      intro i G
      have D:(i:Int) < 16:=by omega
      simp only [hK,f4 g i (by omega),List.getElem?_eq_getElem G,Option.bind_some,Option.all_some]
      rw [if_pos (by simpa using D)]
      by_cases h1:g.l[i] < -3
      · rw [if_pos (by simpa using h1),if_neg (by simp [gP]; omega)]
      · by_cases h2:g.l[i] > 3
        · rw [if_neg (by simpa using h1),if_pos (by simpa using h2),if_neg (by simp [gP]; omega)]
        · rw [if_neg (by simpa using h1),if_neg (by simpa using h2),if_pos (by simp [gP]; omega)])
    (by simp [hK,F])
  rw [I,sV]
  cases g.l.all fun x=>gP x (-3) 3 <;> simp
theorem Gt (k:Int):oM k=some (gP k 0 5):=by
  unfold oM gP; by_cases h:0<=k <;> simp [h]
theorem DU (k:Int):m9 k=some (gP k 0 5):=by
  unfold m9; rw [na,Option.bind_some]
end Go.Proofs.YtkdinadmheomfaaGreat
namespace Go.Proofs.YtkdinadmheomfaaGreat
open Go Go.Ab
def nA (k:Int):Int:=([1,2,4,6,9,12]:List Int).getD k.toNat 0
def gN (k:Int):Int:=([1,12,240,4800,24000,240000]:List Int).getD k.toNat 0
def mt (n:Notch):Int:=n.At + nA n.Kind
theorem z8 (k:Int):0<=nA k/\nA k<=12:=by
  unfold nA
  rcases h:k.toNat with _ | _ | _ | _ | _ | _ | n <;> simp
theorem vB {k:Int} (h:gP k 0 5=true):k=0∨k=1∨k=2∨k=3∨k=4∨k=5:=by
  have:=cB.1 h; omega
theorem DF {k:Int} (h:gP k 0 5=true):rd ([1,2,4,6,9,12]:List Int) k=some (nA k):=by
  rcases vB h with rfl | rfl | rfl | rfl | rfl | rfl <;> rfl
theorem DW {k:Int} (h:gP k 0 5=true):rd ([1,12,240,4800,24000,240000]:List Int) k=some (gN k):=by
  rcases vB h with rfl | rfl | rfl | rfl | rfl | rfl <;> rfl
theorem ux {k:Int} (h:gP k 0 5=true):1<=gN k/\gN k<=240000:=by
  rcases vB h with rfl | rfl | rfl | rfl | rfl | rfl <;> decide
def LB (xs:List Notch):Prop:=∀ n ∈ xs,(-128<=n.Kind/\n.Kind<=127)/\-32768<=n.At/\n.At<=32767
theorem BC {n:Notch} (h:gP n.Kind 0 5=true) (I : -32768<=n.At/\n.At<=32767):jj n=some (mt n):=by
  have:=cB.1 h
  have w:=z8 n.Kind
  have D:IntKind.i64.wrap n.Kind=n.Kind:=lg (by omega)
  have F:IntKind.i64.wrap n.At=n.At:=lg (by omega)
  have G:IntKind.i64.wrap (n.At + nA n.Kind)=n.At + nA n.Kind:=lg (by omega)
  unfold jj mw mt
  rw [D,DF h]
  simp only [Option.bind_some,F,G]
theorem Bt {n:Notch} (h:gP n.Kind 0 5=true) (G : -32768<=n.At/\n.At<=32767):lj n=some (mt n):=by
  have:=cB.1 h
  have w:=z8 n.Kind
  have D:IntKind.i64.wrap n.At=n.At:=lg (by omega)
  have F:IntKind.i64.wrap (n.At + nA n.Kind)=n.At + nA n.Kind:=lg (by omega)
  unfold lj m5 mt
  rw [Option.bind_some,DF h]
  simp only [Option.bind_some,D,F]
def JC (n:Notch):Bool:=gP n.Kind 0 5 && (decide (0<=n.At) && decide (mt n<=200))
def NI (p n:Notch):Bool:=decide (n.Kind<=p.Kind) && decide (mt p < n.At)
def DP (xs:List Notch) (i:Nat):Bool:=(xs[i]?).all JC && (decide (i=0) || (xs[i - 1]?).all fun p=>(xs[i]?).all fun n=>NI p n)
def Ae (xs:List Notch):Bool:=decide (xs.length<=60) && (List.range xs.length).all (DP xs)
theorem HR {n:Notch} (h:JC n=true):gP n.Kind 0 5=true/\0<=n.At/\mt n<=200:=by
  unfold JC at h
  simpa [Bool.and_eq_true] using h
theorem BH {xs:List Notch} {i:Nat} (D:i < xs.length) (h:DP xs i=true):JC xs[i]=true/\(0 < i->NI (xs[i - 1]'(by omega)) xs[i]=true):=by
  unfold DP at h
  rw [List.getElem?_eq_getElem D,List.getElem?_eq_getElem (show i - 1 < xs.length by omega)] at h
  simp only [Option.all_some,Bool.and_eq_true,Bool.or_eq_true,decide_eq_true_eq] at h
  exact ⟨h.1,fun F=>h.2.resolve_left (by omega)⟩
theorem HD {xs:List Notch} {i:Nat} (D:i < xs.length) (F:0 < i):DP xs i=(JC xs[i] && NI (xs[i - 1]'(by omega)) xs[i]):=by
  unfold DP
  rw [List.getElem?_eq_getElem D,List.getElem?_eq_getElem (show i - 1 < xs.length by omega)]
  have:decide (i=0)=false:=by simp; omega
  simp [this]
theorem Dm {xs:List Notch} (D:0 < xs.length):DP xs 0=JC xs[0]:=by
  unfold DP
  rw [List.getElem?_eq_getElem D]
  simp
theorem CI (h:Half) (am:h.Notches.length<=60) (ae:LB h.Notches) (i:Nat) (D:i < h.Notches.length) (ai:∀ j,j < i->DP h.Notches j=true) :
    co h (i:Int)=some (if DP h.Notches i=true then .inl ((i + 1:Nat):Int) else .inr (.inl ())):=by
  have I:rd h.Notches (i:Int)=some h.Notches[i]:=by rw [cS,List.getElem?_eq_getElem D]
  have w:=kF D (by omega)
  obtain ⟨aj,af⟩:=ae _ (List.getElem_mem D)
  have wk:IntKind.i64.wrap h.Notches[i].Kind=h.Notches[i].Kind:=lg (by omega)
  have ad:IntKind.i64.wrap h.Notches[i].At=h.Notches[i].At:=lg (by omega)
  have F:=Gt h.Notches[i].Kind
  have ak:(i:Int) < h.Notches.length:=by omega
  by_cases hi0:i=0
  · subst hi0
    rw [Dm D]
    unfold JC
    cases hkb:gP h.Notches[0].Kind 0 5 with
    | false => have U : rd h.Notches 0 = some h.Notches[0] := I
               rw [hkb] at F; simp [co,D,U,wk,F]
    | true=>
      rw [hkb] at F
      have U:rd h.Notches 0=some h.Notches[0]:=I
      by_cases h0:h.Notches[0].At < 0
      · have:¬ (0:Int)<=h.Notches[0].At:=by omega
        simp [co,D,U,wk,F,h0,this]
      · have N:(0:Int)<=h.Notches[0].At:=by omega
        have J:=BC hkb af
        by_cases h2:mt h.Notches[0] > 200
        · have G:¬ mt h.Notches[0]<=200:=by omega
          simp [co,D,U,wk,F,h0,N,J,h2,G]
        · have G:mt h.Notches[0]<=200:=by omega
          have O:¬ (200:Int) < mt h.Notches[0]:=by omega
          simp [co,D,U,wk,F,h0,N,J,G,O,lg]
  · have Y:0 < i:=by omega
    rw [HD D Y]
    unfold JC
    cases hkb:gP h.Notches[i].Kind 0 5 with
    | false=>rw [hkb] at F; simp [co,D,I,wk,F]
    | true=>
      rw [hkb] at F
      by_cases h0:h.Notches[i].At < 0
      · have:¬ 0<=h.Notches[i].At:=by omega
        simp [co,D,I,wk,F,h0,this]
      · have N:0<=h.Notches[i].At:=by omega
        have J:=BC hkb af
        by_cases h2:mt h.Notches[i] > 200
        · have G:¬ mt h.Notches[i]<=200:=by omega
          simp [co,D,I,wk,F,h0,N,J,h2,G]
        · have G:mt h.Notches[i]<=200:=by omega
          have O:¬ 200 < mt h.Notches[i]:=by omega
          have ab:i - 1 < h.Notches.length:=by omega
          have ac:rd h.Notches (IntKind.i64.wrap ((i:Int) - 1))=some h.Notches[i - 1]:=by
            rw [lg (by omega),show ((i:Int) - 1)=((i - 1:Nat):Int) by omega,cS,List.getElem?_eq_getElem ab]
          have kp:=HR (BH ab (ai (i - 1) (by omega))).1
          have aa:=BC kp.1 (ae _ (List.getElem_mem ab)).2
          unfold NI
          by_cases c1:h.Notches[i].At<=mt h.Notches[i - 1]
          · have X:¬ mt h.Notches[i - 1] < h.Notches[i].At:=by omega
            simp [co,D,I,wk,F,h0,N,J,G,O,Y,ac,aa,ad,c1,X]
          · have X:mt h.Notches[i - 1] < h.Notches[i].At:=by omega
            by_cases c2:h.Notches[i].Kind > h.Notches[i - 1].Kind
            · have Z:¬ h.Notches[i].Kind<=h.Notches[i - 1].Kind:=by omega
              simp [co,D,I,wk,F,h0,N,J,G,O,Y,ac,aa,ad,c1,X,c2,Z]
            · have Z:h.Notches[i].Kind<=h.Notches[i - 1].Kind:=by omega
              have ah:¬ h.Notches[i - 1].Kind < h.Notches[i].Kind:=by omega
              simp [co,D,I,wk,F,h0,N,J,G,O,Y,ac,aa,ad,c1,X,Z,ah,w]
theorem Cd (xs:List Notch) (am:xs.length<=60) (ae:LB xs) (i:Nat) (D:i < xs.length) (ai:∀ j,j < i->DP xs j=true) :
    cg xs (i:Int)=some (if DP xs i=true then .inl ((i + 1:Nat):Int) else .inr (.inl ())):=by
  have I:rd xs (i:Int)=some xs[i]:=by rw [cS,List.getElem?_eq_getElem D]
  have w:=kF D (by omega)
  obtain ⟨aj,af⟩:=ae _ (List.getElem_mem D)
  have wk:IntKind.i64.wrap xs[i].Kind=xs[i].Kind:=lg (by omega)
  have ah:IntKind.i64.wrap xs[i].At=xs[i].At:=lg (by omega)
  have F:=DU xs[i].Kind
  have ak:(i:Int) < xs.length:=by omega
  by_cases hi0:i=0
  · subst hi0
    rw [Dm D]
    unfold JC
    cases hkb:gP xs[0].Kind 0 5 with
    | false => have U : rd xs 0 = some xs[0] := I
               rw [hkb] at F; simp [cg,D,U,wk,F]
    | true=>
      rw [hkb] at F
      have U:rd xs 0=some xs[0]:=I
      by_cases h0:xs[0].At < 0
      · have:¬ (0:Int)<=xs[0].At:=by omega
        simp [cg,D,U,wk,F,h0,this]
      · have N:(0:Int)<=xs[0].At:=by omega
        have J:=Bt hkb af
        by_cases h2:mt xs[0] > 200
        · have G:¬ mt xs[0]<=200:=by omega
          simp [cg,D,U,wk,F,h0,N,J,h2,G]
        · have G:mt xs[0]<=200:=by omega
          have O:¬ (200:Int) < mt xs[0]:=by omega
          simp [cg,D,U,wk,F,h0,N,J,G,O,lg]
  · have Y:0 < i:=by omega
    rw [HD D Y]
    unfold JC
    cases hkb:gP xs[i].Kind 0 5 with
    | false=>rw [hkb] at F; simp [cg,D,I,wk,F]
    | true=>
      rw [hkb] at F
      by_cases h0:xs[i].At < 0
      · have:¬ 0<=xs[i].At:=by omega
        simp [cg,D,I,wk,F,h0,this]
      · have N:0<=xs[i].At:=by omega
        have J:=Bt hkb af
        by_cases h2:mt xs[i] > 200
        · have G:¬ mt xs[i]<=200:=by omega
          simp [cg,D,I,wk,F,h0,N,J,h2,G]
        · have G:mt xs[i]<=200:=by omega
          have O:¬ 200 < mt xs[i]:=by omega
          have aa:i - 1 < xs.length:=by omega
          have ab:rd xs (IntKind.i64.wrap ((i:Int) - 1))=some xs[i - 1]:=by
            rw [lg (by omega),show ((i:Int) - 1)=((i - 1:Nat):Int) by omega,cS,List.getElem?_eq_getElem aa]
          have kp:=HR (BH aa (ai (i - 1) (by omega))).1
          have ad:=Bt kp.1 (ae _ (List.getElem_mem aa)).2
          unfold NI
          by_cases c2:xs[i].Kind > xs[i - 1].Kind
          · have X:¬ xs[i].Kind<=xs[i - 1].Kind:=by omega
            simp [cg,D,I,wk,F,h0,N,J,G,O,Y,ab,c2,X]
          · have X:xs[i].Kind<=xs[i - 1].Kind:=by omega
            have ac:¬ xs[i - 1].Kind < xs[i].Kind:=by omega
            by_cases c1:xs[i].At<=mt xs[i - 1]
            · have Z:¬ mt xs[i - 1] < xs[i].At:=by omega
              simp [cg,D,I,wk,F,h0,N,J,G,O,Y,ab,ad,ah,c1,Z,X,ac]
            · have Z:mt xs[i - 1] < xs[i].At:=by omega
              simp [cg,D,I,wk,F,h0,N,J,G,O,Y,ab,ad,ah,c1,Z,X,ac,w]
theorem zE (xs:List Notch) (F:LB xs):jZ xs=some (Ae xs):=by
  unfold jZ Ae
  by_cases hn:xs.length<=60
  · have c:¬ (xs.length:Int) > 60:=by omega
    have D:=BQ (tb:=cg xs) (fun i=>(i:Int)) xs.length (DP xs) (.inl ()) (.inr ()) (fun i G I=>Cd xs hn F i G I) (fun _=>by simp [cg])
    have D:Lw (cg xs) 0=_:=D
    rw [if_neg (by simpa using c),D]
    cases (List.range xs.length).all (DP xs) <;> simp [hn]
  · have c:(xs.length:Int) > 60:=by omega
    rw [if_pos (by simpa using c)]
    simp [hn]
theorem xr (h:Half) (D:LB h.Notches):mg h=some (Ae h.Notches && fU h.Grain):=by
  unfold mg
  rw [zE _ D,CP]
  cases Ae h.Notches <;> simp
theorem oi (h:Half) (F:LB h.Notches):gp h=some (Ae h.Notches && fU h.Grain):=by
  unfold gp Ae
  rw [vb]
  by_cases hn:h.Notches.length<=60
  · have c:¬ (h.Notches.length:Int) > 60:=by omega
    have D:=BQ (tb:=co h) (fun i=>(i:Int)) h.Notches.length (DP h.Notches) (.inl ()) (.inr ()) (fun i G I=>CI h hn F i G I) (fun _=>by simp [co])
    have D:Lw (co h) 0=_:=D
    rw [if_neg (by simpa using c)]
    cases hg:fU h.Grain
    · simp
    · simp only [Option.bind_some,Bool.not_true,Bool.false_eq_true,if_false,D]
      cases (List.range h.Notches.length).all (DP h.Notches) <;> simp [hn]
  · have c:(h.Notches.length:Int) > 60:=by omega
    rw [if_pos (by simpa using c)]
    simp [hn]
theorem uD {xs:List Notch} (h:Ae xs=true):xs.length<=60:=by
  unfold Ae at h
  simp only [Bool.and_eq_true,decide_eq_true_eq] at h
  exact h.1
theorem KR {xs:List Notch} (h:Ae xs=true) (i:Nat) (D:i < xs.length):JC xs[i]=true/\(0 < i->NI (xs[i - 1]'(by omega)) xs[i]=true):=by
  unfold Ae at h
  simp only [Bool.and_eq_true,List.all_eq_true] at h
  exact BH D (h.2 i (by simpa using D))
theorem Bi {xs:List Notch} (h:Ae xs=true) (n:Notch) (F:n ∈ xs):gP n.Kind 0 5=true/\0<=n.At/\mt n<=200:=by
  obtain ⟨i,D,rfl⟩:=List.getElem_of_mem F
  exact HR (KR h i D).1
def ki (xs:List Notch):Int:=(xs.map fun n=>gN n.Kind).sum
theorem qM (a b:List Notch):ki (a++b)=ki a + ki b:=by simp [ki]
theorem Ff (xs:List Notch) (D:∀ n ∈ xs,gP n.Kind 0 5=true):0<=ki xs/\ki xs<=240000 * (xs.length:Int):=by
  induction xs with
  | nil=>simp [ki]
  | cons x xs G=>
    have:=G (fun n F=>D n (List.mem_cons_of_mem _ F))
    have:=ux (D x List.mem_cons_self)
    simp only [ki,List.map_cons,List.sum_cons,List.length_cons] at *
    omega
theorem Bs (h:Half) (I:∀ n ∈ h.Notches,gP n.Kind 0 5=true) (Z:h.Notches.length<=60):l4 h=some (ki h.Notches):=by
  unfold l4
  have G:=g7 (tb:=fT h) (fun i=>(ki (h.Notches.take i),(i:Int))) h.Notches.length (r:=ki h.Notches)
    (by
      intro i D
      have N:rd h.Notches (i:Int)=some h.Notches[i]:=by rw [cS,List.getElem?_eq_getElem D]
      have F:=I _ (List.getElem_mem D)
      have w:=kF D (by omega)
      have wk:IntKind.i64.wrap h.Notches[i].Kind=h.Notches[i].Kind:=by have:=cB.1 F; exact lg (by omega)
      have X:=Ff (h.Notches.take i) (fun n J=>I n (List.mem_of_mem_take J))
      have Y:=ux F
      have e:ki (h.Notches.take (i + 1))=ki (h.Notches.take i) + gN h.Notches[i].Kind:=by rw [List.take_succ_eq_append_getElem D,qM]; simp [ki]
      have O:IntKind.i64.wrap (ki (h.Notches.take i) + gN h.Notches[i].Kind)=ki (h.Notches.take (i + 1)):=by
        rw [e]; refine lg ?_
        have:((h.Notches.take i).length:Int)<=60:=by simp; omega
        omega
      have U:fk h.Notches[i].Kind=some (gN h.Notches[i].Kind):=by unfold fk; rw [DW F]; rfl
      simp only [fT,N,Option.bind_some,wk,U,O,w]
      rw [if_pos (by simpa using D)])
    (by simp [fT])
  have G:Lw (fT h) (0,0)=some (ki h.Notches):=by simpa [ki] using G
  rw [G]; rfl
theorem Dw (xs:List Notch) (I:∀ n ∈ xs,gP n.Kind 0 5=true) (Z:xs.length<=60):oy xs=some (ki xs):=by
  unfold oy
  have F:=g7 (tb:=hT xs) (fun i=>(ki (xs.take i),(i:Int))) xs.length (r:=ki xs)
    (by
      intro i D
      have N:rd xs (i:Int)=some xs[i]:=by rw [cS,List.getElem?_eq_getElem D]
      have G:=I _ (List.getElem_mem D)
      have w:=kF D (by omega)
      have X:=Ff (xs.take i) (fun n J=>I n (List.mem_of_mem_take J))
      have Y:=ux G
      have e:ki (xs.take (i + 1))=ki (xs.take i) + gN xs[i].Kind:=by rw [List.take_succ_eq_append_getElem D,qM]; simp [ki]
      have U:IntKind.i64.wrap (ki (xs.take i) + gN xs[i].Kind)=ki (xs.take (i + 1)):=by
        rw [e]; refine lg ?_
        have:((xs.take i).length:Int)<=60:=by simp; omega
        omega
      have O:jw=some [1,12,240,4800,24000,240000]:=rfl
      simp only [hT,N,O,Option.bind_some,DW G,U,w]
      rw [if_pos (by simpa using D)])
    (by simp [hT])
  have F:Lw (hT xs) (0,0)=some (ki xs):=by simpa [ki] using F
  rw [F]; rfl
end Go.Proofs.YtkdinadmheomfaaGreat
namespace Go.Proofs.YtkdinadmheomfaaGreat
open Go Go.Ab
def qs (k:Int):Nat->Int->List Notch
  | 0,_=>[]
  | n + 1,a=>⟨k,a⟩::qs k n (a + (nA k + 1))
def p9:Nat->Int->Int->List Notch->List Notch
  | 0,_,_,out=>out
  | k + 1,a,at_,out=>p9 k (a % gN k) (at_ + (a / gN k) * (nA k + 1)) (out++qs k (a / gN k).toNat at_)
theorem kB {k:Nat} (h:k < 6):gP (k:Int) 0 5=true:=cB.2 ⟨by omega,by omega⟩
theorem Jg {a w:Int} (D:1<=w) (h:w<=a):(a - w) / w=a / w - 1/\(a - w) % w=a % w:=by
  constructor
  · have:=Int.sub_emod_right
    rw [Int.sub_ediv_of_dvd a (Int.dvd_refl w),Int.ediv_self (by omega)]
  · rw [Int.sub_emod_right]
theorem C2 {a w:Int} (D:0<=a) (h:a < w):a / w=0/\a % w=a:=⟨Int.ediv_eq_zero_of_lt D h,Int.emod_eq_of_lt D h⟩
theorem KV {a w:Int} (D:1<=w) (h:w<=a):1<=a / w:=by
  have:=Int.ediv_le_ediv (a:=w) (b:=a) (c:=w) (by omega) h
  rwa [Int.ediv_self (by omega)] at this
theorem OX {k:Nat} (h:k < 6):IntKind.i8.wrap (k:Int)=k:=by simp [IntKind.wrap,IntKind.signed,IntKind.bits]; omega
theorem N6 {a:Int} (D:0<=a) (h:a<=32767):IntKind.i16.wrap a=a:=by simp [IntKind.wrap,IntKind.signed,IntKind.bits]; omega
def JN (m:Int) (xs:List Notch):Prop:=∀ n ∈ xs,gP n.Kind 0 5=true/\0<=n.At/\n.At<=m
theorem JN.snoc {m:Int} {xs:List Notch} {n:Notch} (h:JN m xs) (F:gP n.Kind 0 5=true) (G:0<=n.At) (I:n.At<=m):JN m (xs++[n]):=by
  intro x D
  rcases List.mem_append.1 D with D | D
  · exact h x D
  · rw [List.mem_singleton.1 D]; exact ⟨F,G,I⟩
theorem JN.nR {m:Int} {xs:List Notch} (h:JN m xs) (J:m<=32767):LB xs:=fun n F=>by
  obtain ⟨D,G,I⟩:=h n F
  have:=cB.1 D
  exact ⟨by omega,by omega⟩
theorem Gf:∀ (k:Nat) (a D:Int) (F:List Notch),∃ z,p9 k a D F=F++z:=by
  intro k
  induction k with
  | zero=>intro a D F; exact ⟨[],by simp [p9]⟩
  | succ k I=>
    intro a D F
    obtain ⟨z,G⟩:=I (a % gN k) (D + (a / gN k) * (nA k + 1)) (F++qs k (a / gN k).toNat D)
    exact ⟨qs k (a / gN k).toNat D++z,by rw [p9,G,List.append_assoc]⟩
theorem Mk (k:Nat) (ad:k < 6):∀ (n:Nat) (a D:Int) (F:List Notch),a / gN k=n->0<=a->a<=100000000->0<=D->D<=13 * (F.length:Int)->F.length<=60->JN 800 F ->
    (Lw (dE k) (a,D,F)=some (.inl ())/\F.length + n > 60) ∨
      (Lw (dE k) (a,D,F)=some (.inr (a % gN k,D + n * (nA k + 1),F++qs k n D))/\D + n * (nA k + 1)<=13 * ((F++qs k n D).length:Int)/\(F++qs k n D).length<=60/\JN 800 (F++qs k n D)):=by
  have G:=kB ad
  have ai:=ux G
  have ay:=z8 k
  have Z:fk (k:Int)=some (gN k):=by unfold fk; rw [DW G]; rfl
  have ah:mw (k:Int)=some (nA k):=by unfold mw; rw [DF G]; rfl
  intro n
  induction n with
  | zero=>
    intro a D F ap O ak U am ac X
    have ao:¬ a>=gN k:=fun h=>by have:=KV ai.1 h; omega
    have:=C2 O (show a < gN k by omega)
    refine .inr ⟨?_,by simp [qs]; omega,by simpa [qs] using ac,by simpa [qs] using X⟩
    rw [this.2]
    refine fm ?_
    simp [dE,Z,ao,qs]
  | succ n aq=>
    intro a D F ap O ak U am ac X
    have Y:a>=gN k:=by
      by_cases h:a>=gN k
      · exact h
      · have:=(C2 O (show a < gN k by omega)).1; omega
    obtain ⟨ax,aj⟩:=Jg ai.1 Y
    have aa:qB 4 F [Notch.mk (IntKind.i8.wrap (k:Int)) (IntKind.i16.wrap D)]=some (F++[⟨k,D⟩]):=by
      rw [OX ad,N6 U (by omega)]; exact fL (by simp; omega) (by decide)
    by_cases hl:F.length=60
    · refine .inl ⟨fm ?_,by omega⟩
      have:(((F++[(⟨k,D⟩:Notch)]).length:Nat):Int) > 60:=by simp; omega
      simp only [dE,Z,ah,Option.bind_some,aa]
      rw [if_pos (by simpa using Y),if_pos (by simpa using this)]
    · have au:IntKind.i64.wrap (a - gN k)=a - gN k:=lg (by omega)
      have av:IntKind.i64.wrap (nA k + 1)=nA k + 1:=lg (by omega)
      have aw:IntKind.i64.wrap (D + (nA k + 1))=D + (nA k + 1):=lg (by omega)
      have an:¬ (((F++[(⟨k,D⟩:Notch)]).length:Nat):Int) > 60:=by simp; omega
      have ar:dE k (a,D,F)=some (.inl (a - gN k,D + (nA k + 1),F++[⟨k,D⟩])):=by
        simp only [dE,Z,ah,Option.bind_some,aa,au,av,aw]
        rw [if_pos (by simpa using Y),if_neg (by simpa using an)]
      have ab:D + (nA k + 1) + (n:Int) * (nA k + 1)=D + ((n + 1:Nat):Int) * (nA k + 1):=by
        rw [Int.natCast_add,Int.add_mul]; omega
      have N:F++[⟨k,D⟩]++qs k n (D + (nA k + 1))=F++qs k (n + 1) D:=by simp [qs]
      rw [e9 ar]
      rcases aq (a - gN k) (D + (nA k + 1)) (F++[⟨k,D⟩]) (by omega) (by omega) (by omega) (by omega) (by simp; omega) (by simp; omega) (X.snoc G U (by simp only; omega)) with ⟨I,J⟩ | ⟨I,J,ae,af⟩
      · exact .inl ⟨I,by simp at J; omega⟩
      · rw [ab,N,aj] at I
        rw [ab,N] at J
        rw [N] at ae af
        exact .inr ⟨I,J,ae,af⟩
theorem C5 (k:Int):∀ (n:Nat) (a:Int),(qs k n a).length=n
  | 0,_=>rfl
  | n + 1,a=>by simp [qs,C5 k n]
theorem JS:∀ (k:Nat),k<=6->∀ (a D:Int) (F:List Notch),0<=a->a<=100000000->0<=D->D<=13 * (F.length:Int)->F.length<=60->JN 800 F ->
    (Lw da (a,D,(k:Int) - 1,F)=some (.inl ())/\(p9 k a D F).length > 60) ∨
      (Lw da (a,D,(k:Int) - 1,F)=some (.inr (p9 k a D F))/\JN 800 (p9 k a D F)):=by
  intro k
  induction k with
  | zero=>
    intro ac a D F I X Y J Z N
    exact .inr ⟨fm (by simp [da,p9]),N⟩
  | succ k ah=>
    intro ac a D F I X Y J Z N
    have ab:=kB (show k < 6 by omega)
    have ap:=ux ab
    have ao:=z8 k
    have aa:0<=a / gN k:=Int.ediv_nonneg I (by omega)
    have ae:=Int.emod_nonneg a (show gN k≠0 by omega)
    have am:a % gN k<=a:=by
      have:=Int.emod_add_mul_ediv a (gN k)
      have J:0<=gN k * (a / gN k):=Int.mul_nonneg (by omega) aa
      omega
    have U:((a / gN k).toNat:Int)=a / gN k:=by omega
    have ad:((k + 1:Nat):Int) - 1=(k:Int):=by omega
    have wk:IntKind.i64.wrap ((k:Int) - 1)=(k:Int) - 1:=lg (by omega)
    rw [ad]
    rcases Mk k (by omega) (a / gN k).toNat a D F U.symm I X Y J Z N with ⟨G,O⟩ | ⟨G,O,ai,aj⟩
    · refine .inl ⟨fm ?_,?_⟩
      · simp only [da,G,Option.bind_some]
        rw [if_pos (by simp)]
      · rw [p9]
        obtain ⟨z,af⟩:=Gf k (a % gN k) (D + (a / gN k) * (nA k + 1)) (F++qs k (a / gN k).toNat D)
        rw [af]
        simp [C5]; omega
    · have an:0<=(a / gN k) * (nA k + 1):=Int.mul_nonneg aa (by omega)
      rw [U] at G O
      have ak:da (a,D,(k:Int),F)=some (.inl (a % gN k,D + (a / gN k) * (nA k + 1),(k:Int) - 1,F++qs k (a / gN k).toNat D)):=by
        simp only [da,G,Option.bind_some,wk]
        rw [if_pos (by simp)]
      rw [e9 ak,p9]
      exact ah (by omega) _ _ _ ae (by omega) (by omega) O ai aj
def Bz (a:Int):List Notch:=p9 6 a 0 []
def Hs (a:Int):Int:=if gP a 0 100000000=true then (if Ae (Bz a)=true then 0 else 3) else 2
theorem BP (a:Int):j7 a=some (if Hs a=0 then Bz a else [],Hs a):=by
  unfold j7 gc Hs
  have O:(if decide (a>=0)=true then some (decide (a<=100000000)) else some false)=some (gP a 0 100000000):=by
    unfold gP; by_cases h:0<=a <;> simp [h]
  rw [O]
  simp only [Option.bind_some]
  cases hA:gP a 0 100000000 with
  | false=>simp
  | true=>
    obtain ⟨J,N⟩:=cB.1 hA
    rcases JS 6 (by omega) a 0 [] J N (by omega) (by simp) (by simp) (fun n h=>by cases h) with ⟨D,I⟩ | ⟨D,I⟩
    · have D:Lw da (a,0,5,[])=some (.inl ()):=D
      have F:Ae (Bz a)=false:=by
        cases F:Ae (Bz a) with
        | false=>rfl
        | true=>have:=uD F; unfold Bz at this; omega
      simp [D,F]
    · have D:Lw da (a,0,5,[])=some (.inr (Bz a)):=D
      have G:=oi ⟨false,Bz a,Ar.rep 16 0⟩ (JN.nR (m:=800) I (by decide))
      have U:fU (Ar.rep 16 0)=true:=by decide
      rw [U,Bool.and_true] at G
      cases F:Ae (Bz a) <;> rw [F] at G <;> simp [D,G]
theorem zI (k:Int):∀ (n:Nat) (a:Int),ki (qs k n a)=n * gN k
  | 0,_=>by simp [qs,ki]
  | n + 1,a=>by
    have:=zI k n (a + (nA k + 1))
    simp only [qs,ki,List.map_cons,List.sum_cons] at *
    rw [this,Int.natCast_add,Int.add_mul]; omega
theorem Gm:∀ (k:Nat),k < 6->∀ (a F:Int) (D:List Notch),0<=a->ki (p9 (k + 1) a F D)=ki D + a:=by
  intro k
  induction k with
  | zero=>
    intro _ a F D h
    have U:gN ((0:Nat):Int)=1:=by decide
    rw [p9,p9,qM,zI,U,Int.ediv_one]
    omega
  | succ k O=>
    intro J a F D h
    have I:=kB J
    have Y:=ux I
    have N:=Int.emod_nonneg a (show gN ((k + 1:Nat):Int)≠0 by omega)
    have X:0<=a / gN ((k + 1:Nat):Int):=Int.ediv_nonneg h (by omega)
    have G:((a / gN ((k + 1:Nat):Int)).toNat:Int)=a / gN ((k + 1:Nat):Int):=by omega
    rw [p9,O (by omega) _ _ _ N,qM,zI,G]
    have:=Int.emod_add_ediv_mul a (gN ((k + 1:Nat):Int))
    omega
theorem IT {a:Int} (h:0<=a):ki (Bz a)=a:=by
  unfold Bz
  rw [Gm 5 (by omega) a 0 [] h]
  simp [ki]
theorem CO {a:Int} (h:Hs a=0):gP a 0 100000000=true/\Ae (Bz a)=true:=by
  unfold Hs at h
  cases hA:gP a 0 100000000 with
  | false=>rw [hA] at h; simp at h
  | true=>
    cases hb:Ae (Bz a) with
    | true=>exact ⟨rfl,rfl⟩
    | false=>rw [hA,hb] at h; simp at h
theorem Es {xs:List Notch} (h:Ae xs=true):LB xs:=fun n G=>by
  obtain ⟨D,I,F⟩:=Bi h n G
  have:=cB.1 D
  have:=z8 n.Kind
  unfold mt at F
  exact ⟨by omega,by omega⟩
end Go.Proofs.YtkdinadmheomfaaGreat
namespace Go.Proofs.YtkdinadmheomfaaGreat
open Go Go.Ab
theorem F9 (a b:List Notch) (h:a.length<=4611686018427387904):fM a b=some (decide (a=b)):=by
  unfold fM
  by_cases hl:a.length=b.length
  · rw [if_neg (by simp [hl]),Im a b h hl (fun i D F=>by
      simp only [fI,cS,List.getElem?_eq_getElem D,List.getElem?_eq_getElem F,Option.bind_some,IQ]
      have G:(i:Int) < a.length:=by omega
      by_cases e1:a[i].Kind=b[i].Kind <;> by_cases e2:a[i].At=b[i].At <;> simp [e1,e2,D]) (by simp [fI])]
    by_cases he:a=b <;> simp [he]
  · rw [if_pos (by simp; omega)]
    have:a≠b:=fun h=>hl (by rw [h])
    simp [this]
end Go.Proofs.YtkdinadmheomfaaGreat
namespace Go.Proofs.YtkdinadmheomfaaGreat
open Go Go.Ab
def lw (g:Ar 16 Int):Ar 16 Int:=⟨g.l.map fun x=>-x,by simp [g.h]⟩
theorem Gp {g:Ar 16 Int} (D:fU g=true) (i:Nat) (F:i < g.l.length) : -3<=g.l[i]/\g.l[i]<=3:=cB.1 (List.all_eq_true.1 D _ (List.getElem_mem F))
theorem zd {g:Ar 16 Int} (D:fU g=true):fU (lw g)=true:=by
  unfold fU lw
  simp only [List.all_map,List.all_eq_true,Function.comp_def]
  intro x F
  have:=cB.1 (List.all_eq_true.1 D x F)
  exact cB.2 ⟨by omega,by omega⟩
theorem Io {tb:Int×Ar 16 Int->Option ((Int×Ar 16 Int)⊕Ar 16 Int)} (g:Ar 16 Int) (N:fU g=true)
    (X:∀ (i:Nat) (y:Ar 16 Int) (h:i < 16),tb ((i:Int),y)=(jF y (i:Int)).bind fun x=>some (.inl (IntKind.i64.wrap ((i:Int) + 1),y.set i (IntKind.i8.wrap (0 - x))))) (J:∀ y,tb (16,y)=some (.inr y)):Lw tb (0,g)=some (lw g):=by
  have Z:=g.h
  have I:=g7 (tb:=tb) (fun i=>((i:Int),(⟨(g.l.take i).map (fun x=>-x)++g.l.drop (min i 16),by simp; omega⟩:Ar 16 Int))) 16 (r:=lw g)
    (by
      intro i F
      have G:min i 16=i:=by omega
      have O:min (i + 1) 16=i + 1:=by omega
      have D:i < g.l.length:=by omega
      have aa:=Gp N i D
      have U:jF (⟨(g.l.take i).map (fun x=>-x)++g.l.drop (min i 16),by simp; omega⟩:Ar 16 Int) (i:Int)=some g.l[i]:=by
        rw [f4 _ i F]
        congr 1
        show ((g.l.take i).map (fun x=>-x)++g.l.drop (min i 16))[i]'_=_
        rw [List.getElem_append_right (by simp; omega)]
        simp [G]
        congr 1
        omega
      have Y:IntKind.i8.wrap (0 - g.l[i]) = -g.l[i]:=by rw [IntWalk.i8_in _ (by omega)]; omega
      rw [X i _ F,U]
      simp only [Option.bind_some,Y,kF F (by decide)]
      congr 3
      rw [GX]
      show ((g.l.take i).map (fun x=>-x)++g.l.drop (min i 16)).set i (-g.l[i])=(g.l.take (i + 1)).map (fun x=>-x)++g.l.drop (min (i + 1) 16)
      rw [G,O,List.set_append_right _ _ (by simp; omega)]
      have e:i - ((g.l.take i).map fun x=>-x).length=0:=by simp; omega
      rw [e,List.drop_eq_getElem_cons D,List.set_cons_zero,List.take_succ_eq_append_getElem D,List.map_append,List.append_assoc]
      rfl)
    (by
      rw [show (((16:Nat):Int))=(16:Int) from rfl,J]
      congr 2
      rw [GX]
      show (g.l.take 16).map (fun x=>-x)++g.l.drop (min 16 16)=g.l.map fun x=>-x
      rw [List.take_of_length_le (by omega),Nat.min_self,List.drop_eq_nil_of_le (by omega),List.append_nil])
  have e:(((0:Nat):Int),(⟨(g.l.take 0).map (fun x=>-x)++g.l.drop (min 0 16),by simp; omega⟩:Ar 16 Int))=(0,g):=by
    congr 1
  rw [e] at I
  exact I
theorem DD (g:Ar 16 Int) (F:fU g=true):lK g=some (lw g):=by
  unfold lK
  rw [Io g F (fun i y h=>by
    have D:(i:Int) < 16:=by omega
    simp only [js,f4 y i h,Option.bind_some]
    rw [if_pos (by simpa using D)]; rfl) (fun y=>by simp [js])]
  rfl
def z9 (s:Int):Int:=IntKind.u32.wrap (IntKind.u32.wrap (1664525 * s) + 1013904223)
theorem IF (s:Int):0<=z9 s/\z9 s<=4294967295:=by
  unfold z9
  rw [IntKind.wrap_u32]; omega
theorem DY {n:Int} (D:0<=n) (J:n<=4294967295):quo .u32 n 65536=some (n / 65536)/\shr .u32 n 16=some (n / 65536)/\rem .u32 (n / 65536) 7=some (n / 65536 % 7)/\IntKind.i8.wrap (IntKind.i8.wrap (n / 65536 % 7) - 3)=n / 65536 % 7 - 3/\-3<=n / 65536 % 7 - 3/\n / 65536 % 7 - 3<=3:=by
  have F:IntKind.u32.wrap (n / 65536)=n / 65536:=IntWalk.u32_in _ (by omega)
  have G:IntKind.i8.wrap (n / 65536 % 7)=n / 65536 % 7:=IntWalk.i8_in _ (by omega)
  have I:IntKind.i8.wrap (n / 65536 % 7 - 3)=n / 65536 % 7 - 3:=IntWalk.i8_in _ (by omega)
  refine ⟨?_,?_,?_,by rw [G,I],by omega,by omega⟩
  · unfold quo
    rw [if_neg (by decide),Int.tdiv_eq_ediv_of_nonneg D,F]
  · unfold shr
    rw [if_neg (by decide)]
    have:min ((16:Int).toNat) IntKind.u32.bits=16:=by decide
    rw [this,Int.fdiv_eq_ediv_of_nonneg _ (by decide)]
    rfl
  · unfold rem
    rw [if_neg (by decide),Int.tmod_eq_emod_of_nonneg (by omega)]
theorem Mo:fU (Ar.rep 16 0)=true:=by decide
theorem C9 (s:Int):∃ g s',kA s=some (g,s')/\fU g=true:=by
  have:=sf (tb:=gI) (fun s=>(16 - s.2.1).toNat) (fun s=>0<=s.2.1/\s.2.1<=16/\fU s.2.2=true) (fun r=>fU r.2=true) (by
      rintro ⟨s,i,g⟩ ⟨N,O,D⟩
      simp only at N O D
      by_cases hlt:i < 16
      · obtain ⟨j,rfl⟩:∃ j:Nat,i=j:=⟨i.toNat,by omega⟩
        have G:j < 16:=by omega
        have I:=IF s
        obtain ⟨U,ab,X,Y,Z,aa⟩:=DY I.1 I.2
        have J:IntKind.u32.wrap (IntKind.u32.wrap (1664525 * s) + 1013904223)=z9 s:=rfl
        have w:=kF G (by decide)
        refine .inl ⟨(z9 s,((j + 1:Nat):Int),g.set j (z9 s / 65536 % 7 - 3)),?_,⟨by simp only; omega,by simp only; omega,?_⟩,by simp only; omega⟩
        · simp only [gI,J,Option.bind_some,U,X,f4 g j G,Y,w,Int.toNat_natCast]
          rw [if_pos (by simpa using hlt)]
        · unfold fU
          rw [List.all_eq_true]
          intro x F
          rcases List.mem_or_eq_of_mem_set (show x ∈ g.l.set j (z9 s / 65536 % 7 - 3) from F) with F | rfl
          · exact List.all_eq_true.1 D x F
          · exact cB.2 ⟨Z,aa⟩
      · exact .inr ⟨(s,g),by simp [gI,hlt],D⟩) _ (s,0,Ar.rep 16 0) rfl ⟨by simp,by simp,Mo⟩
  obtain ⟨⟨s',g⟩,h1,h3⟩:=this
  exact ⟨g,s',by unfold kA; rw [h1]; rfl,h3⟩
theorem KT (xs:List Notch) (h:xs.length<=1000):fW xs=some xs:=by
  unfold fW
  rw [fL (by simp only [List.length_nil]; omega) (by decide)]
  simp
def Nz (a:Int) (g:Ar 16 Int):Bool×List Notch×Ar 16 Int×List Notch×Ar 16 Int×Int:=
  if fU g=true then (if Hs a=0 then (true,Bz a,g,Bz a,lw g,0) else (false,[],Ar.rep 16 0,[],Ar.rep 16 0,Hs a)) else (false,[],Ar.rep 16 0,[],Ar.rep 16 0,1)
theorem D6 (a:Int) (g:Ar 16 Int):lV a g=some (Nz a g):=by
  unfold lV Nz
  rw [vb,BP]
  cases hg:fU g with
  | false=>simp
  | true=>
    by_cases hc:Hs a=0
    · have D:=uD (CO hc).2
      simp [hc,KT _ (show (Bz a).length<=1000 by omega),DD g hg]
    · simp [hc]
theorem Hz (g:Ar 16 Int) (O:fU g=true):rt g (lw g)=some []:=by
  have N:=g.h
  unfold rt
  have F:=g7 (tb:=jU g (lw g)) (fun i=>((i:Int),([]:List Int))) 16 (r:=[])
    (by
      intro i D
      have G:(i:Int) < 16:=by omega
      have J:i < g.l.length:=by omega
      have e:(lw g).l[i]'(by rw [(lw g).h]; exact D) = -g.l[i]:=by simp [lw]
      have I:IntKind.i8.wrap (g.l[i] + -g.l[i])=0:=by rw [show g.l[i] + -g.l[i]=0 by omega]; decide
      simp only [jU,f4 g i D,f4 (lw g) i D,Option.bind_some,e,I,kF D (by decide)]
      rw [if_pos (by simpa using G),if_neg (by simp)])
    (by simp [jU])
  have F:Lw (jU g (lw g)) (0,[])=some []:=F
  rw [F]; rfl
theorem Am (g:Ar 16 Int) (G:fU g=true) (w:Int) (J:0<=w):kT g (lw g) w=some true:=by
  have U:=g.h
  unfold kT
  have F:=g7 (tb:=fy g (lw g)) (fun i=>(i:Int)) 16 (r:=.inr ())
    (by
      intro i D
      have I:(i:Int) < 16:=by omega
      have O:i < g.l.length:=by omega
      have e:(lw g).l[i]'(by rw [(lw g).h]; exact D) = -g.l[i]:=by simp [lw]
      have N:IntKind.i8.wrap (g.l[i] + -g.l[i])=0:=by rw [show g.l[i] + -g.l[i]=0 by omega]; decide
      simp only [fy,f4 g i D,f4 (lw g) i D,Option.bind_some,e,N,kF D (by decide)]
      rw [if_pos (by simpa using I),if_neg (by simp),if_neg (by simp)])
    (by simp [fy])
  have F:Lw (fy g (lw g)) 0=some (.inr ()):=F
  rw [F,Hz g G]
  simp [J]
theorem Nm (D:List Notch) (g:Ar 16 Int) (G:Ae D=true) (F:fU g=true):rJ ⟨true,D,g⟩ ⟨false,D,lw g⟩ 0=some (true,0):=by
  have I:=Es G
  have O:=uD G
  have J:=oi ⟨true,D,g⟩ I
  have N:=oi ⟨false,D,lw g⟩ I
  simp only [G,F,zd F,Bool.and_self] at J N
  have q:fM D D=some true:=by rw [F9 _ _ (by omega)]; simp
  unfold rJ
  rw [J,N]
  simp [qy,uA,q,Am g F 0 (by omega)]
theorem Dt (h:Half) (D:Ae h.Notches=true) (G:fU h.Grain=true):lZ h=some (ki h.Notches,0):=by
  have F:=oi h (Es D)
  rw [D,G] at F
  unfold lZ
  rw [F,Bs h (fun n I=>(Bi D n I).1) (uD D)]
  rfl
theorem Dy (h:Half) (D:Ae h.Notches=true) (G:fU h.Grain=true):lI h=some (ki h.Notches,0):=by
  have F:=xr h (Es D)
  rw [D,G] at F
  unfold lI
  rw [F,Dw h.Notches (fun n I=>(Bi D n I).1) (uD D)]
  rfl
end Go.Proofs.YtkdinadmheomfaaGreat
namespace Go.Proofs.YtkdinadmheomfaaGreat
open Go Go.Ab
def zs (l:List Nat):List Int:=l.map fun (x:Nat)=>(x:Int)
theorem gO (l:List Nat):(zs l).length=l.length:=by simp [zs]
theorem wY {l:List Nat} {j:Nat} (h:j < l.length):rd (zs l) (j:Int)=some ((l.getD j 0:Nat):Int):=by
  rw [cS]; simp [zs,h]
theorem KP (l:List Nat) (k:Nat):zs l++[(k:Int)]=zs (l++[k]):=by simp [zs]
theorem G4 (l:List Nat) (h:l.length<=1000):dZ (zs l)=some (zs l):=by
  have D:qB 8 ([]:List Int) (zs l)=some (zs l):=fL (by simp [gO]; omega) (by decide)
  unfold dZ
  rw [D]; rfl
theorem Nh (l:List Nat) (h:l.length<=1000) (k:Nat):fF (zs l) (k:Int)=some (decide (k ∈ l)):=by
  have Y:=AK (tb:=dO (zs l) (k:Int)) (fun x=>decide (x=k)) l (fun i=>.inl (i:Int)) (.inr ()) (fun i D F=>by
    have J:=wY D
    have F:¬ l[i]=k:=by simpa using F
    have e:l.getD i 0=l[i]:=by simp [D]
    have G:((k:Int)==((l.getD i 0:Nat):Int))=false:=by rw [beq_eq_false_iff_ne]; omega
    have I:(i:Int) < ((zs l).length:Int):=by rw [gO]; omega
    simp only [dO,I,decide_true,if_true,J,Option.bind_some,G,kF D (show l.length<=4611686018427387904 by omega)]
    simp) (fun i D F=>by
    have J:=wY D
    have F:l[i]=k:=by simpa using F
    have e:l.getD i 0=l[i]:=by simp [D]
    have G:((k:Int)==((l.getD i 0:Nat):Int))=true:=by rw [beq_iff_eq]; omega
    have I:(i:Int) < ((zs l).length:Int):=by rw [gO]; omega
    simp only [dO,I,decide_true,if_true,J,Option.bind_some,G]) (by simp [dO,gO])
  unfold fF jW
  rw [Y]
  by_cases hx:l.findIdx (fun x=>decide (x=k)) < l.length
  · have:k ∈ l:=by
      have O:=List.findIdx_getElem (p:=fun x=>decide (x=k)) (xs:=l) (w:=hx)
      have U:l[l.findIdx fun x=>decide (x=k)]=k:=by simpa using O
      have N:=List.getElem_mem hx
      rw [U] at N
      exact N
    rw [if_pos hx]; simp [this]
  · have:k ∉ l:=fun X=>hx (List.findIdx_lt_length.2 ⟨k,X,by simp⟩)
    rw [if_neg hx]; simp [this]
theorem MB (l:List Nat) (h:l.length<=1000) (k:Nat) (b:Bool):Lw (fE (zs l) (k:Int)) (b,0)=some (b || decide (k ∈ l)):=by
  have F:=g7 (tb:=fE (zs l) (k:Int)) (fun i=>(b || decide (k ∈ l.take i),(i:Int))) l.length (r:=(b || decide (k ∈ l))) (fun i D=>by
    have O:=wY D
    have N:(i:Int) < ((zs l).length:Int):=by rw [gO]; omega
    have w:=kF D (show l.length<=4611686018427387904 by omega)
    have e:l.getD i 0=l[i]:=by simp [D]
    simp only [fE,N,decide_true,if_true,O,Option.bind_some,w]
    rw [List.take_succ_eq_append_getElem D]
    by_cases c:(b || decide (k ∈ l.take i))=true
    · have I:(b || decide (k ∈ l.take i++[l[i]]))=true:=by
        rcases Bool.or_eq_true_iff.1 c with h1 | h1
        · simp [h1]
        · have J:=of_decide_eq_true h1
          rw [decide_eq_true (show k ∈ l.take i++[l[i]] from List.mem_append.2 (.inl J)),Bool.or_true]
      rw [if_pos c,I]
    · rw [if_neg c]
      have G:b=false/\k ∉ l.take i:=by simpa using c
      simp only [G.1,Bool.false_or,List.mem_append,G.2,false_or,List.mem_singleton,e]
      congr 3
      by_cases q:l[i]=k
      · simp [q]
      · have:¬ k=l[i]:=fun h=>q h.symm
        simp [this]; omega) (by simp [fE,gO])
  have F:Lw (fE (zs l) (k:Int)) (b || decide (k ∈ l.take 0),((0:Nat):Int))=_:=F
  simpa using F
theorem rF:∀ (n:Nat) (l:List Nat),l.Nodup->(∀ x ∈ l,x < n)->l.length<=n
  | 0,l,_,h=>by
    cases l with
    | nil=>simp
    | cons a r=>have:=h a (List.mem_cons_self ..); omega
  | n + 1,l,hn,h=>by
    by_cases hm:n ∈ l
    · have F:=rF n (l.erase n) (hn.erase n) (fun x D=>by
        have G:=(List.Nodup.mem_erase_iff hn).1 D
        have:=h x G.2
        have:=G.1
        omega)
      rw [List.length_erase_of_mem hm] at F
      omega
    · have F:=rF n l hn (fun x D=>by
        have:=h x D
        have:x≠n:=fun e=>hm (e ▸ D)
        omega)
      omega
structure Pth (g:Ar 16 (Ar 16 Int)) (l:List Nat):Prop where
  ne:0 < l.length
  nd:l.Nodup
  lo:∀ x ∈ l,l.getD 0 0<=x/\x < 16
  ed:∀ j,j + 1 < l.length->0 < eY g (l.getD j 0) (l.getD (j + 1) 0)
structure Circ (g:Ar 16 (Ar 16 Int)) (c:List Nat):Prop where
  ne:2<=c.length
  nd:c.Nodup
  lo:∀ x ∈ c,x < 16
  ed:∀ j,j < c.length->0 < eY g (c.getD j 0) (c.getD ((j + 1) % c.length) 0)
theorem qd {l:List Nat} {j:Nat} (h:j < l.length):l.getD j 0 ∈ l:=by
  have e:l.getD j 0=l[j]:=by simp [h]
  rw [e]; exact List.getElem_mem h
theorem Pth.len {g:Ar 16 (Ar 16 Int)} {l:List Nat} (h:Pth g l):l.length<=16:=rF 16 l h.nd fun x D=>(h.lo x D).2
theorem xk (l:List Nat) (k j:Nat):(l++[k]).getD j 0=if j < l.length then l.getD j 0 else if j=l.length then k else 0:=by
  simp only [List.getD_eq_getElem?_getD]
  by_cases h:j < l.length
  · rw [if_pos h,List.getElem?_append_left h]
  · rw [if_neg h,List.getElem?_append_right (by omega)]
    by_cases e:j=l.length
    · subst e; simp
    · rw [if_neg e]
      have:([k]:List Nat)[j - l.length]? = none:=by simp; omega
      rw [this]; rfl
theorem Pth.snoc {g:Ar 16 (Ar 16 Int)} {l:List Nat} (h:Pth g l) {k:Nat} (X:k < 16) (U:l.getD 0 0<=k) (N:k ∉ l) (I:0 < eY g (l.getD (l.length - 1) 0) k):Pth g (l++[k]):=by
  have O:=h.ne
  refine ⟨by simp,?_,?_,?_⟩
  · rw [List.nodup_append]
    refine ⟨h.nd,by simp,fun a F b G=>?_⟩
    have:b=k:=by simpa using G
    subst this
    exact fun e=>N (e ▸ F)
  · intro x D
    have e:(l++[k]).getD 0 0=l.getD 0 0:=by rw [xk,if_pos O]
    rw [e]
    rcases List.mem_append.1 D with D | D
    · exact h.lo x D
    · have:x=k:=by simpa using D
      omega
  · intro j J
    simp only [List.length_append,List.length_singleton] at J
    rw [xk,xk,if_pos (show j < l.length by omega)]
    by_cases e:j + 1 < l.length
    · rw [if_pos e]; exact h.ed j e
    · rw [if_neg e,if_pos (show j + 1=l.length by omega)]
      have:j=l.length - 1:=by omega
      rw [this]; exact I
theorem Pth.close {g:Ar 16 (Ar 16 Int)} {l:List Nat} (h:Pth g l) (G:2<=l.length) (I:0 < eY g (l.getD (l.length - 1) 0) (l.getD 0 0)):Circ g l:=by
  refine ⟨G,h.nd,fun x J=>(h.lo x J).2,fun j N=>?_⟩
  by_cases e:j + 1 < l.length
  · rw [Nat.mod_eq_of_lt e]; exact h.ed j e
  · have D:j + 1=l.length:=by omega
    have F:j=l.length - 1:=by omega
    rw [D,Nat.mod_self,F]; exact I
def ma:Option (List Nat)->List Int⊕Unit
  | some c=>.inl (zs c)
  | none=>.inr ()
def xT:Option (List Nat)->List Int×Bool
  | some c=>(zs c,true)
  | none=>([],false)
theorem ym {g:Ar 16 (Ar 16 Int)} (ab:∀ i k,0<=eY g i k) {l:List Nat} (N:Pth g l)
    (U:Ar 16 (Ar 16 Int)->List Int->Option (List Int⊕Unit)) (X:Ar 16 (Ar 16 Int)->List Int->Option (List Int×Bool))
    (ac:∀ k,k ∉ l->Pth g (l++[k])->∃ r,U g (zs (l++[k]))=some (ma r)/\X g (zs (l++[k]))=some (xT r)/\∀ c,r=some c->Circ g c) :
    ∀ (m k:Nat),k + m=16->l.getD 0 0<=k->∃ r,Lw (cP g (zs l) U ((l.getD (l.length - 1) 0:Nat):Int)) (k:Int)=some (ma r) /\
      Lw (ez g (zs l) X ((l.getD (l.length - 1) 0:Nat):Int)) (k:Int)=some (ma r)/\∀ c,r=some c->Circ g c
  | 0,k,hk,_=>by
    have:k=16:=by omega
    subst this
    exact ⟨none,fm (by simp [cP,ma]),fm (by simp [ez,ma]),fun c h=>by cases h⟩
  | m + 1,k,hk,hlo=>by
    have ar:=N.ne
    have aq:=N.len
    have an:=(N.lo _ (qd (show l.length - 1 < l.length by omega))).2
    have F:(k:Int) < 16:=by omega
    have w:IntKind.i64.wrap ((k:Int) + 1)=((k + 1:Nat):Int):=by rw [lg (by omega)]; rfl
    obtain ⟨u,G,I⟩:=ud (g:=g) (i:=l.getD (l.length - 1) 0) (k:=k) an (by omega)
    have Y:=Nh l (by omega) k
    have Z:=MB l (by omega) k
    obtain ⟨r',ai,aj,ak⟩:=ym ab N U X ac m (k + 1) (by omega) (by omega)
    have skip:eY g (l.getD (l.length - 1) 0) k=0∨k ∈ l->∃ r,Lw (cP g (zs l) U ((l.getD (l.length - 1) 0:Nat):Int)) (k:Int)=some (ma r) /\
      Lw (ez g (zs l) X ((l.getD (l.length - 1) 0:Nat):Int)) (k:Int)=some (ma r)/\∀ c,r=some c->Circ g c:=by
      intro ad
      refine ⟨r',(e9 (s':=((k + 1:Nat):Int)) ?_).trans ai,(e9 (s':=((k + 1:Nat):Int)) ?_).trans aj,ak⟩
      · by_cases e:eY g (l.getD (l.length - 1) 0) k=0
        · simp only [cP,F,decide_true,if_true,G,I,Option.bind_some,e,beq_self_eq_true,w]
        · have D:k ∈ l:=ad.resolve_left e
          have J:(eY g (l.getD (l.length - 1) 0) k==0)=false:=by rw [beq_eq_false_iff_ne]; exact e
          simp only [cP,F,decide_true,if_true,G,I,Option.bind_some,J,Y,D,Bool.false_eq_true,if_false,w]
      · have:(eY g (l.getD (l.length - 1) 0) k==0 || decide (k ∈ l))=true:=by
          rcases ad with h | h
          · rw [h]; rfl
          · rw [decide_eq_true h,Bool.or_true]
        simp only [ez,F,decide_true,if_true,G,I,Option.bind_some,Z,this,w]
    by_cases e:eY g (l.getD (l.length - 1) 0) k=0
    · exact skip (.inl e)
    by_cases D:k ∈ l
    · exact skip (.inr D)
    have ao:0 < eY g (l.getD (l.length - 1) 0) k:=by have:=ab (l.getD (l.length - 1) 0) k; omega
    obtain ⟨r,ae,af,ah⟩:=ac k D (N.snoc (by omega) hlo D ao)
    have J:(eY g (l.getD (l.length - 1) 0) k==0)=false:=by rw [beq_eq_false_iff_ne]; exact e
    have cl:=G4 l (by omega)
    have O:qB 8 (zs l) [(k:Int)]=some (zs (l++[k])):=by rw [fL (by simp [gO]; omega) (by decide),KP]
    have aa:qB 8 ([]:List Int) (zs l)=some (zs l):=fL (by simp [gO]; omega) (by decide)
    cases r with
    | none=>
      refine ⟨r',(e9 (s':=((k + 1:Nat):Int)) ?_).trans ai,(e9 (s':=((k + 1:Nat):Int)) ?_).trans aj,ak⟩
      · simp only [cP,F,decide_true,if_true,G,I,Option.bind_some,J,Y,D,decide_false,Bool.false_eq_true,if_false,cl,O,ae,ma,w]
      · simp only [ez,F,decide_true,if_true,G,I,Option.bind_some,Z,J,D,decide_false,Bool.or_self,Bool.false_eq_true,if_false,aa,O,af,xT,w]
    | some c=>
      have ap:=(ah c rfl).ne
      have am:0 < (zs c).length:=by rw [gO]; omega
      refine ⟨some c,fm ?_,fm ?_,ah⟩
      · simp only [cP,F,decide_true,if_true,G,I,Option.bind_some,J,Y,D,decide_false,Bool.false_eq_true,if_false,cl,O,ae,ma,am]
      · simp only [ez,F,decide_true,if_true,G,I,Option.bind_some,Z,J,D,decide_false,Bool.or_self,Bool.false_eq_true,if_false,aa,O,af,xT,ma]
theorem z3 {g:Ar 16 (Ar 16 Int)} (ab:∀ i k,0<=eY g i k) (F:Nat) {l:List Nat} (G:Pth g l) (ae:∀ k,k ∉ l->Pth g (l++[k])->∃ r,cX F g (zs (l++[k]))=some (ma r)/\ev F g (zs (l++[k]))=some (xT r)/\∀ c,r=some c->Circ g c) :
    ∃ r,cX (F + 1) g (zs l)=some (ma r)/\ev (F + 1) g (zs l)=some (xT r)/\∀ c,r=some c->Circ g c:=by
  have Y:=G.ne
  have ah:=G.len
  have ad:=(G.lo _ (qd (show l.length - 1 < l.length by omega))).2
  have ac:=(G.lo _ (qd Y)).2
  have I:rd (zs l) 0=some ((l.getD 0 0:Nat):Int):=wY Y
  have N:IntKind.i64.wrap (((zs l).length:Int) - 1)=((l.length - 1:Nat):Int):=by rw [gO,lg (by omega)]; omega
  have J:=wY (show l.length - 1 < l.length by omega)
  have w:IntKind.i64.wrap (((l.getD 0 0:Nat):Int) + 1)=((l.getD 0 0 + 1:Nat):Int):=by rw [lg (by omega)]; rfl
  obtain ⟨u,O,U⟩:=ud (g:=g) (i:=l.getD (l.length - 1) 0) (k:=l.getD 0 0) ad ac
  obtain ⟨r,Z,aa,af⟩:=ym ab G _ _ ae (15 - l.getD 0 0) (l.getD 0 0 + 1) (by omega) (by omega)
  by_cases hc:l.length > 1/\eY g (l.getD (l.length - 1) 0) (l.getD 0 0) > 0
  · have D:((zs l).length:Int) > 1:=by rw [gO]; omega
    refine ⟨some l,?_,?_,fun c h=>by cases h; exact G.close (by omega) hc.2⟩
    · simp only [cX,e4,I,N,J,Option.bind_some,D,decide_true,if_true,O,U,hc.2,ma]
    · simp only [ev,jB,I,N,J,Option.bind_some,D,decide_true,if_true,O,U,hc.2,xT]
  · refine ⟨r,?_,?_,af⟩
    · by_cases D:((zs l).length:Int) > 1
      · have X:¬ eY g (l.getD (l.length - 1) 0) (l.getD 0 0) > 0:=fun h=>hc ⟨by rw [gO] at D; omega,h⟩
        simp only [cX,e4,I,N,J,Option.bind_some,D,decide_true,if_true,O,U,X,decide_false,Bool.false_eq_true,if_false,w,Z]
        cases r <;> rfl
      · simp only [cX,e4,I,N,J,Option.bind_some,D,decide_false,Bool.false_eq_true,if_false,w,Z]
        cases r <;> rfl
    · by_cases D:((zs l).length:Int) > 1
      · have X:¬ eY g (l.getD (l.length - 1) 0) (l.getD 0 0) > 0:=fun h=>hc ⟨by rw [gO] at D; omega,h⟩
        simp only [ev,jB,I,N,J,Option.bind_some,D,decide_true,if_true,O,U,X,decide_false,Bool.false_eq_true,if_false,w,aa]
        cases r <;> rfl
      · simp only [ev,jB,I,N,J,Option.bind_some,D,decide_false,Bool.false_eq_true,if_false,w,aa]
        cases r <;> rfl
theorem FK {g:Ar 16 (Ar 16 Int)} (G:∀ i k,0<=eY g i k) (K:Nat):∀ (n:Nat) (l:List Nat),Pth g l->16<=l.length + n ->
    ∃ r,cX (K + n + 1) g (zs l)=some (ma r)/\ev (K + n + 1) g (zs l)=some (xT r)/\∀ c,r=some c->Circ g c:=by
  intro n
  induction n with
  | zero=>
    intro l D J
    refine z3 G K D fun k I F=>?_
    have:=F.len
    simp only [List.length_append,List.length_singleton] at this
    omega
  | succ n N=>
    intro l D J
    exact z3 G (K + (n + 1)) D fun k I F=>N (l++[k]) F (by simp; omega)
theorem xh {g:Ar 16 (Ar 16 Int)} (U:∀ i k,0<=eY g i k):∃ r,cQ g=some (ma r)/\jp g=some (xT r)/\∀ c,r=some c->Circ g c:=by
  have ae:∀ i:Nat,i < 16->∃ r,mh g [(i:Int)]=some (ma r)/\sa g [(i:Int)]=some (xT r)/\∀ c,r=some c->Circ g c:=fun i Y=>
    FK U 48 15 ([i]:List Nat) ⟨by simp,by simp,fun x ab=>by
      have:x=i:=by simpa using ab
      subst this
      exact ⟨Nat.le_refl _,Y⟩,fun j Z=>by simp at Z⟩ (by simp)
  have ad:∀ (m k:Nat),k + m=16->∃ r,Lw (dq g) (k:Int)=some (ma r)/\Lw (dM g) (k:Int)=some (ma r)/\∀ c,r=some c->Circ g c:=by
    intro m
    induction m with
    | zero=>
      intro k aa
      have:k=16:=by omega
      subst this
      exact ⟨none,fm (by simp [dq,ma]),fm (by simp [dM,ma]),fun c h=>by cases h⟩
    | succ m ac=>
      intro k aa
      have G:(k:Int) < 16:=by omega
      have w:IntKind.i64.wrap ((k:Int) + 1)=((k + 1:Nat):Int):=by rw [lg (by omega)]; rfl
      obtain ⟨r,J,N,O⟩:=ae k (by omega)
      cases r with
      | none=>
        obtain ⟨r',D,F,I⟩:=ac (k + 1) (by omega)
        refine ⟨r',(e9 (s':=((k + 1:Nat):Int)) ?_).trans D,(e9 (s':=((k + 1:Nat):Int)) ?_).trans F,I⟩
        · simp only [dq,G,decide_true,if_true,J,Option.bind_some,ma,w]
        · simp only [dM,G,decide_true,if_true,N,Option.bind_some,xT,w,Bool.false_eq_true,if_false]
      | some c=>
        have af:=(O c rfl).ne
        have X:0 < (zs c).length:=by rw [gO]; omega
        refine ⟨some c,fm ?_,fm ?_,O⟩
        · simp only [dq,G,decide_true,if_true,J,Option.bind_some,ma,X]
        · simp only [dM,G,decide_true,if_true,N,Option.bind_some,xT,ma]
  obtain ⟨r,D,F,I⟩:=ad 16 0 (by omega)
  have D:Lw (dq g) 0=some (ma r):=D
  have F:Lw (dM g) 0=some (ma r):=F
  refine ⟨r,?_,?_,I⟩
  · unfold cQ
    rw [D]
    cases r <;> rfl
  · unfold jp
    rw [F]
    cases r <;> rfl
end Go.Proofs.YtkdinadmheomfaaGreat
namespace Go.Proofs.YtkdinadmheomfaaGreat
open Go Go.Ab
theorem EQ {i n:Nat} (h:0 < n):rem .i64 (i:Int) (n:Int)=some ((i % n:Nat):Int):=by
  unfold rem
  rw [if_neg (by omega),Int.tmod_eq_emod_of_nonneg (by omega)]
  rfl
def edge (g:Ar 16 (Ar 16 Int)) (c:List Nat) (j:Nat):Int:=eY g (c.getD j 0) (c.getD ((j + 1) % c.length) 0)
def Aw (e:Nat->Int):Nat->Int
  | 0=>-1
  | i + 1=>if Aw e i < 0 then e i else if e i < Aw e i then e i else Aw e i
theorem Fj {e:Nat->Int} {n:Nat} (h:∀ j,j < n->0 < e j):∀ i,i < n->(∃ j,j < n/\Aw e (i + 1)=e j)/\∀ j,j<=i->Aw e (i + 1)<=e j
  | 0,hi=>by
    have e0:Aw e (0 + 1)=e 0:=by simp [Aw]
    exact ⟨⟨0,hi,e0⟩,fun j F=>by
      have:j=0:=by omega
      subst this
      rw [e0]
      exact Int.le_refl _⟩
  | i + 1,hi=>by
    obtain ⟨⟨G,D,I⟩,h3⟩:=Fj h i (by omega)
    have N:=h G D
    have J:¬ Aw e (i + 1) < 0:=by omega
    have eq:Aw e (i + 1 + 1)=if e (i + 1) < Aw e (i + 1) then e (i + 1) else Aw e (i + 1):=by
      conv=>lhs; unfold Aw
      rw [if_neg J]
    rw [eq]
    by_cases hc:e (i + 1) < Aw e (i + 1)
    · rw [if_pos hc]
      refine ⟨⟨i + 1,hi,rfl⟩,fun j F=>?_⟩
      by_cases q:j=i + 1
      · subst q; omega
      · have:=h3 j (by omega); omega
    · rw [if_neg hc]
      refine ⟨⟨G,D,I⟩,fun j F=>?_⟩
      by_cases q:j=i + 1
      · subst q; omega
      · exact h3 j (by omega)
def Ce (e:Nat->Int) (n:Nat):Nat->Int
  | 0=>e (n - 1)
  | i + 1=>if Ce e n i < e i then Ce e n i else e i
theorem Fm {e:Nat->Int} {n:Nat}:∀ i,i < n->(∃ j,j < n/\Ce e n i=e j)/\Ce e n i<=e (n - 1)/\∀ j,j < i->Ce e n i<=e j
  | 0,hi=>⟨⟨n - 1,by omega,rfl⟩,by simp [Ce],fun j D=>by omega⟩
  | i + 1,hi=>by
    obtain ⟨⟨I,F,G⟩,h3,h4⟩:=Fm (e:=e) (n:=n) i (by omega)
    unfold Ce
    by_cases hc:Ce e n i < e i
    · rw [if_pos hc]
      refine ⟨⟨I,F,G⟩,h3,fun j D=>?_⟩
      by_cases q:j=i
      · subst q; omega
      · exact h4 j (by omega)
    · rw [if_neg hc]
      refine ⟨⟨i,by omega,rfl⟩,by omega,fun j D=>?_⟩
      by_cases q:j=i
      · subst q; omega
      · have:=h4 j (by omega); omega
theorem Circ.len {g:Ar 16 (Ar 16 Int)} {c:List Nat} (h:Circ g c):c.length<=16:=rF 16 c h.nd h.lo
theorem Circ.rds {g:Ar 16 (Ar 16 Int)} {c:List Nat} (h:Circ g c) {i:Nat} (D:i < c.length) :
    rd (zs c) (i:Int)=some ((c.getD i 0:Nat):Int)/\rem .i64 ((i + 1:Nat):Int) ((zs c).length:Int)=some (((i + 1) % c.length:Nat):Int) /\
      rd (zs c) (((i + 1) % c.length:Nat):Int)=some ((c.getD ((i + 1) % c.length) 0:Nat):Int)/\c.getD i 0 < 16/\c.getD ((i + 1) % c.length) 0 < 16:=by
  have G:=h.len
  have F:(i + 1) % c.length < c.length:=Nat.mod_lt _ (by omega)
  refine ⟨wY D,?_,wY F,h.lo _ (qd D),h.lo _ (qd F)⟩
  rw [gO,EQ (by omega)]
theorem Il {g:Ar 16 (Ar 16 Int)} {c:List Nat} (h:Circ g c):∃ L,0 < L/\(∀ j,j < c.length->L<=edge g c j)/\Lw (dN g (zs c)) (-1,0)=some L/\lX g (zs c)=some L:=by
  have ao:=h.len
  have ap:=h.ne
  have ah:=g7 (tb:=dN g (zs c)) (fun i=>(Aw (edge g c) i,(i:Int))) c.length (r:=Aw (edge g c) c.length) (fun i U=>by
    obtain ⟨J,aa,F,N,O⟩:=h.rds U
    obtain ⟨u,I,D⟩:=ud (g:=g) N O
    have Y:(i:Int) < ((zs c).length:Int):=by rw [gO]; omega
    have w:=kF U (show c.length<=4611686018427387904 by omega)
    have G:eY g (c.getD i 0) (c.getD ((i + 1) % c.length) 0)=edge g c i:=rfl
    simp only [dN,Y,decide_true,if_true,J,w,aa,F,I,D,Option.bind_some,G,Aw]
    by_cases c1:Aw (edge g c) i < 0
    · simp [c1]
    · by_cases c2:edge g c i < Aw (edge g c) i
      · simp [c1,c2]
      · simp [c1,c2]) (by simp [dN,gO])
  obtain ⟨⟨X,ab,ac⟩,p3⟩:=Fj (e:=edge g c) (n:=c.length) h.ed (c.length - 1) (by omega)
  have el:c.length - 1 + 1=c.length:=by omega
  rw [el] at ac p3
  have Z:=g7 (tb:=f1 g (zs c)) (fun i=>(Ce (edge g c) c.length i,(i:Int))) (c.length - 1) (r:=Ce (edge g c) c.length (c.length - 1)) (fun i U=>by
    obtain ⟨J,aa,F,N,O⟩:=h.rds (i:=i) (by omega)
    obtain ⟨u,I,D⟩:=ud (g:=g) N O
    have ad:(i + 1) % c.length=i + 1:=Nat.mod_eq_of_lt (by omega)
    have w:=kF U (show c.length - 1<=4611686018427387904 by omega)
    have Y:((i + 1:Nat):Int) < ((zs c).length:Int):=by rw [gO]; omega
    have G:eY g (c.getD i 0) (c.getD ((i + 1) % c.length) 0)=edge g c i:=rfl
    rw [G] at D
    rw [ad] at F D
    simp only [f1,w,Y,decide_true,if_true,J,F,I,D,Option.bind_some,kI,Ce]
    by_cases c1:Ce (edge g c) c.length i < edge g c i
    · simp [c1]
    · simp [c1]) (by
      have w:IntKind.i64.wrap (((c.length - 1:Nat):Int) + 1)=(c.length:Int):=by rw [lg (by omega)]; omega
      simp [f1,gO,w])
  obtain ⟨⟨af,aq,ar⟩,q3,q4⟩:=Fm (e:=edge g c) (n:=c.length) (c.length - 1) (by omega)
  have ai:∀ j,j < c.length->Ce (edge g c) c.length (c.length - 1)<=edge g c j:=fun j ae=>by
    by_cases q:j=c.length - 1
    · subst q; exact q3
    · exact q4 j (by omega)
  have aj:Ce (edge g c) c.length (c.length - 1)=Aw (edge g c) c.length:=by
    have am:=p3 af (by omega)
    have an:=ai X ab
    omega
  refine ⟨Aw (edge g c) c.length,(by
    have:=h.ed X ab
    have e:Aw (edge g c) c.length=eY g (c.getD X 0) (c.getD ((X + 1) % c.length) 0):=ac
    omega),fun j ae=>p3 j (by omega),ah,?_⟩
  obtain ⟨J,aa,F,N,O⟩:=h.rds (i:=c.length - 1) (by omega)
  obtain ⟨u,I,D⟩:=ud (g:=g) N O
  have e0:(c.length - 1 + 1) % c.length=0:=by rw [el,Nat.mod_self]
  have ak:IntKind.i64.wrap (((zs c).length:Int) - 1)=((c.length - 1:Nat):Int):=by rw [gO,lg (by omega)]; omega
  have G:eY g (c.getD (c.length - 1) 0) (c.getD ((c.length - 1 + 1) % c.length) 0)=Ce (edge g c) c.length 0:=rfl
  rw [G] at D
  rw [e0] at F D
  have F:rd (zs c) 0=some ((c.getD 0 0:Nat):Int):=F
  unfold lX
  have Z:Lw (f1 g (zs c)) (Ce (edge g c) c.length 0,0)=some (Ce (edge g c) c.length (c.length - 1)):=Z
  simp only [ak,J,F,I,D,Option.bind_some,Z,aj]
def TS (w:Int->Int->Int) (g:Ar 16 (Ar 16 Int)):Int:=hG 16 fun i=>hG 16 fun k=>w i k * eY g i k
theorem LL {g D:Ar 16 (Ar 16 Int)} {a b:Nat} (F:a < 16) (G:b < 16) {L:Int} (h:∀ i k,eY D i k=if i=a/\k=b then eY g a b - L else eY g i k) (w:Int->Int->Int):TS w D=TS w g - L * w a b:=by
  unfold TS
  have I:∀ i:Nat,(hG 16 fun k=>w i k * eY D i k)=(hG 16 fun k=>w i k * eY g i k) - (if i=a then w a b * L else 0):=fun i=>by
    have e:(hG 16 fun k=>w i k * eY D i k)=hG 16 fun k=>w i k * eY g i k - (if k=b then (if i=a then w a b * L else 0) else 0):=il fun k J=>by
      rw [h]
      by_cases q:i=a/\k=b
      · obtain ⟨rfl,rfl⟩:=q
        simp [Int.mul_sub]
      · rw [if_neg q]
        by_cases q2:k=b
        · rw [if_pos q2,if_neg (fun h=>q ⟨h,q2⟩)]; omega
        · rw [if_neg q2]; omega
    rw [e,zU,rr,if_pos G]
  have e:(hG 16 fun i=>hG 16 fun k=>w i k * eY D i k)=hG 16 fun i=>(hG 16 fun k=>w i k * eY g i k) - (if i=a then w a b * L else 0):=il fun i _=>I i
  rw [e,zU,rr,if_pos F,Int.mul_comm]
theorem AP {c:List Nat} (O:c.Nodup) (I:∀ x ∈ c,x < 16) (am:2<=c.length) {L:Int} (an:0 < L) :
    ∀ (m i:Nat) (g:Ar 16 (Ar 16 Int)),i + m=c.length->(∀ a b,0<=eY g a b/\eY g a b<=100000000)->(∀ j,i<=j->j < c.length->L<=edge g c j) ->
      ∃ g',Lw (dP (zs c) L) ((i:Int),g)=some g'/\Lw (em (zs c) L) ((i:Int),g)=some g'/\(∀ a b,0<=eY g' a b/\eY g' a b<=eY g a b) /\
        ∀ w:Int->Int->Int,TS w g'=TS w g - L * (hG c.length (fun j=>w (c.getD j 0:Nat) (c.getD ((j + 1) % c.length) 0:Nat)) - hG i (fun j=>w (c.getD j 0:Nat) (c.getD ((j + 1) % c.length) 0:Nat)))
  | 0,i,g,hi,hb,he=>by
    have:i=c.length:=by omega
    subst this
    refine ⟨g,fm (by simp [dP,gO]),fm (by simp [em,gO]),fun a b=>⟨(hb a b).1,Int.le_refl _⟩,fun w=>by simp⟩
  | m + 1,i,g,hi,hb,he=>by
    have F:i < c.length:=by omega
    have az:c.length<=16:=rF 16 c O I
    have ac:(i + 1) % c.length < c.length:=Nat.mod_lt _ (by omega)
    have ae:=wY F
    have ah:=wY ac
    have X:=I _ (qd F)
    have Y:=I _ (qd ac)
    have w:IntKind.i64.wrap ((i:Int) + 1)=((i + 1:Nat):Int):=by rw [lg (by omega)]; rfl
    have af:rem .i64 ((i + 1:Nat):Int) ((zs c).length:Int)=some (((i + 1) % c.length:Nat):Int):=by rw [gO,EQ (by omega)]
    obtain ⟨u,U,ad⟩:=ud (g:=g) X Y
    have ab:(i:Int) < ((zs c).length:Int):=by rw [gO]; omega
    have ay:=hb (c.getD i 0) (c.getD ((i + 1) % c.length) 0)
    have ai:IntKind.i64.wrap (eY g (c.getD i 0) (c.getD ((i + 1) % c.length) 0) - L)=eY g (c.getD i 0) (c.getD ((i + 1) % c.length) 0) - L:=lg (by have:=he i (Nat.le_refl _) F; unfold edge at this; omega)
    have J:=En X Y U (eY g (c.getD i 0) (c.getD ((i + 1) % c.length) 0) - L)
    obtain ⟨D,N⟩:∃ D,D=g.set (c.getD i 0) (u.set (c.getD ((i + 1) % c.length) 0) (eY g (c.getD i 0) (c.getD ((i + 1) % c.length) 0) - L)):=⟨_,rfl⟩
    rw [<- N] at J
    have ao:=he i (Nat.le_refl _) F
    unfold edge at ao
    have Z:∀ a b,0<=eY D a b/\eY D a b<=eY g a b:=fun a b=>by
      rw [J]
      have:=hb a b
      split
      · rename_i q; obtain ⟨rfl,rfl⟩:=q; omega
      · omega
    have aq:∀ j,i < j->j < c.length->c.getD j 0≠c.getD i 0:=fun j aa G=>by
      have:=List.pairwise_iff_getElem.1 O i j F G aa
      have aj:c.getD i 0=c[i]:=by simp [F]
      have ak:c.getD j 0=c[j]:=by simp [G]
      rw [aj,ak]
      exact fun h=>this h.symm
    obtain ⟨g',ar,au,av,aw⟩:=AP O I am an m (i + 1) D (by omega) (fun a b=>by have:=Z a b; have:=hb a b; omega) (fun j aa G=>by
      have:=he j (by omega) G
      unfold edge at this ⊢
      rw [J,if_neg (fun h=>aq j (by omega) G h.1)]
      exact this)
    refine ⟨g',(e9 (s':=(((i + 1:Nat):Int),D)) ?_).trans ar,(e9 (s':=(((i + 1:Nat):Int),D)) ?_).trans au,fun a b=>?_,fun ax=>?_⟩
    · simp only [dP,ab,decide_true,if_true,ae,w,af,ah,U,ad,Option.bind_some,ai,Int.toNat_natCast,N]
    · simp only [em,ab,decide_true,if_true,ae,w,af,ah,U,ad,Option.bind_some,ai,Int.toNat_natCast,N]
    · have:=av a b; have:=Z a b; omega
    · rw [aw,LL X Y (fun ap k'=>J ap k') ax,er,Int.mul_sub,Int.mul_sub,Int.mul_add]
      omega
theorem FI (n:Nat) (F:Nat->Int):hG (n + 1) F=F 0 + hG n fun j=>F (j + 1):=by
  induction n with
  | zero=>simp [hG]
  | succ n D=>rw [er,D,er]; omega
theorem FE (n:Nat) (F:Nat->Int):hG n (fun j=>F ((j + 1) % n))=hG n F:=by
  cases n with
  | zero=>rfl
  | succ n=>
    rw [er,FI,Nat.mod_self,il (g:=fun j=>F (j + 1)) (fun i D=>by rw [Nat.mod_eq_of_lt (by omega)])]
    omega
theorem EE {n:Nat} {f:Nat->Int} (h:∀ i,i < n->0<=f i):0<=hG n f:=by
  induction n with
  | zero=>simp [hG]
  | succ n D=>have:=D (fun i F=>h i (by omega)); have:=h n (by omega); rw [er]; omega
theorem DL (n:Nat) (x:Int):hG n (fun _=>x)=n * x:=by
  induction n with
  | zero=>simp [hG]
  | succ n D=>
    rw [er,D]
    have:((n + 1:Nat):Int) * x=n * x + x:=by rw [Int.natCast_add,Int.add_mul]; simp
    omega
theorem z5 {g:Ar 16 (Ar 16 Int)} (N:∀ a b,0<=eY g a b/\eY g a b<=100000000)
    (ao:∀ D,0 < (TS (fun _ _=>1) g).toNat->(TS (fun _ _=>1) D).toNat < (TS (fun _ _=>1) g).toNat->(∀ a b,0<=eY D a b/\eY D a b<=100000000) ->
      ∃ g',(∀ a b,0<=eY g' a b/\eY g' a b<=eY D a b)/\(∀ F:Int->Int,TS (fun f t=>F t - F f) g'=TS (fun f t=>F t - F f) D) /\
        ∀ s,∃ s',Lw dB (s,D)=some (s',g')/\(∀ c,cQ D=some (.inl c)->Lw dh (s,some c,D)=some (s',g'))/\(cQ D=some (.inr ())->s'=s/\g'=D)) :
    ∃ g',(∀ a b,0<=eY g' a b/\eY g' a b<=eY g a b)/\(∀ F:Int->Int,TS (fun f t=>F t - F f) g'=TS (fun f t=>F t - F f) g) /\
      ∀ s,∃ s',Lw dB (s,g)=some (s',g')/\(∀ c,cQ g=some (.inl c)->Lw dh (s,some c,g)=some (s',g'))/\(cQ g=some (.inr ())->s'=s/\g'=g):=by
  obtain ⟨r,O,Z,ai⟩:=xh (g:=g) fun i k=>(N i k).1
  cases r with
  | none=>
    refine ⟨g,fun a b=>⟨(N a b).1,Int.le_refl _⟩,fun _=>rfl,fun s=>⟨s,fm ?_,fun c G=>?_,fun _=>⟨rfl,rfl⟩⟩⟩
    · simp only [dB,Z,xT,Option.bind_some,Bool.false_eq_true,if_false]
    · rw [O] at G; simp [ma] at G
  | some c=>
    have G:=ai c rfl
    obtain ⟨L,ac,ap,aq,ar⟩:=Il G
    obtain ⟨D,X,Y,ad,ae⟩:=AP G.nd G.lo G.ne ac c.length 0 g (by omega) N (fun j _ am=>ap j am)
    have X:Lw (dP (zs c) L) (0,g)=some D:=X
    have Y:Lw (em (zs c) L) (0,g)=some D:=Y
    have U:∀ a b,0<=eY D a b/\eY D a b<=100000000:=fun a b=>by have:=ad a b; have:=N a b; omega
    have ay:=ae fun _ _=>1
    have aE:0<=TS (fun _ _=>1) D:=EE fun i _=>EE fun k _=>by
        show 0<=1 * eY D i k
        have:=(U i k).1
        omega
    rw [DL,AY] at ay
    have aF:0 < L * ((c.length:Int) * 1 - 0):=Int.mul_pos ac (by have:=G.ne; omega)
    obtain ⟨g',au,av,aw⟩:=ao D (by omega) (by omega) U
    have ab:ig g (zs c)=some (L,D):=by unfold ig; rw [aq,Option.bind_some,X]; rfl
    have an:jo g (zs c) L=some D:=by unfold jo; rw [Y]; rfl
    refine ⟨g',fun a b=>by have:=au a b; have:=ad a b; omega,fun F=>?_,fun s=>?_⟩
    · rw [av,ae,zU,FE c.length (fun j=>F (c.getD j 0:Nat)),AY]
      simp
    · obtain ⟨s',az,aA,aB⟩:=aw (IntKind.i64.wrap (s + IntKind.i64.wrap (L * ((zs c).length:Int))))
      have aa:0 < (zs c).length:=by rw [gO]; have:=G.ne; omega
      refine ⟨s',(e9 ?_).trans az,fun af I=>?_,fun I=>?_⟩
      · simp only [dB,Z,xT,Option.bind_some,if_true,ar,an]
      · rw [O] at I
        have I:zs c=af:=by simpa [ma] using I
        subst I
        obtain ⟨ax,J,aC,aD⟩:=xh (g:=D) fun i k=>(U i k).1
        cases ax with
        | none=>
          obtain ⟨aj,ak⟩:=aB J
          refine (e9 (s':=(IntKind.i64.wrap (s + IntKind.i64.wrap (L * ((zs c).length:Int))),none,D)) ?_).trans (fm ?_)
          · simp only [dh,aa,decide_true,if_true,ab,Option.bind_some,J,ma]
          · simp only [dh,aj,ak]
        | some ah=>
          refine (e9 (s':=(IntKind.i64.wrap (s + IntKind.i64.wrap (L * ((zs c).length:Int))),some (zs ah),D)) ?_).trans (aA _ J)
          simp only [dh,aa,decide_true,if_true,ab,Option.bind_some,J,ma]
      · rw [O] at I; simp [ma] at I
theorem DT:∀ (n:Nat) (g:Ar 16 (Ar 16 Int)),(TS (fun _ _=>1) g).toNat<=n->(∀ a b,0<=eY g a b/\eY g a b<=100000000) ->
    ∃ g',(∀ a b,0<=eY g' a b/\eY g' a b<=eY g a b)/\(∀ D:Int->Int,TS (fun f t=>D t - D f) g'=TS (fun f t=>D t - D f) g) /\
      ∀ s,∃ s',Lw dB (s,g)=some (s',g')/\(∀ c,cQ g=some (.inl c)->Lw dh (s,some c,g)=some (s',g'))/\(cQ g=some (.inr ())->s'=s/\g'=g):=by
  intro n
  induction n with
  | zero=>
    intro g N F
    exact z5 F fun G I _ _=>by omega
  | succ n O=>
    intro g N F
    exact z5 F fun G I U J=>O G (by omega) J
end Go.Proofs.YtkdinadmheomfaaGreat
namespace Go.Proofs.YtkdinadmheomfaaGreat
open Go Go.Ab
def vq:List Int:=[1,12,240,4800,24000,240000]
theorem BB {k:Nat} (D:k < 6):fk (k:Int)=some (vq.getD k 0)/\0 < vq.getD k 0/\vq.getD k 0<=240000:=by
  have:k=0∨k=1∨k=2∨k=3∨k=4∨k=5:=by omega
  rcases this with rfl | rfl | rfl | rfl | rfl | rfl <;> exact ⟨rfl,by decide,by decide⟩
theorem Lg {x y:Ar 6 Int} (h:∀ i:Nat,i < 6->x.l[i]? = y.l[i]?):x=y:=by
  have D:=x.h
  have F:=y.h
  have:x.l=y.l:=by
    refine List.ext_getElem? fun i=>?_
    by_cases hi:i < 6
    · exact h i hi
    · rw [List.getElem?_eq_none (by omega),List.getElem?_eq_none (by omega)]
  cases x; cases y
  simp only at this
  subst this
  rfl
theorem uC {a w:Int} {k:Nat} (g:Ar 6 Int) (F:k < 6) (I:fk (k:Int)=some w) (D:0<=a) (J:a<=100000000) (w0:0 < w):fX (a,(k:Int),g)=some (.inl (a % w,(k:Int) - 1,g.set k (a / w))):=by
  have q:quo .i64 a w=some (a / w):=by
    unfold quo
    rw [if_neg (by omega),Int.tdiv_eq_ediv_of_nonneg D]
    have N:0<=a / w:=Int.ediv_nonneg D (by omega)
    have O:a / w<=a:=Int.ediv_le_self _ D
    rw [lg (by omega)]
  have r:rem .i64 a w=some (a % w):=by
    unfold rem
    rw [if_neg (by omega),Int.tmod_eq_emod_of_nonneg D]
  have G:(k:Int)>=0:=by omega
  have wk:IntKind.i64.wrap ((k:Int) - 1)=(k:Int) - 1:=lg (by omega)
  simp only [fX,G,decide_true,if_true,I,q,r,f4 g k F,Option.bind_some,wk,Int.toNat_natCast]
def EK (n:Int):List Int:=[n % 240000 % 24000 % 4800 % 240 % 12,n % 240000 % 24000 % 4800 % 240 / 12,n % 240000 % 24000 % 4800 / 240,n % 240000 % 24000 / 4800,n % 240000 / 24000,n / 240000]
def tH (n:Int):Ar 6 Int:=⟨EK n,rfl⟩
theorem G9 {n:Int} (G:0<=n) (I:n<=100000000) (i:Nat) (F:i < (tH n).l.length):0<=(tH n).l[i]/\(tH n).l[i]<=1000:=by
  have D:(tH n).l[i] ∈ EK n:=List.getElem_mem F
  unfold EK at D
  simp only [List.mem_cons,List.not_mem_nil,or_false] at D
  rcases D with h | h | h | h | h | h <;> rw [h] <;> omega
theorem An {n:Int} (D:0<=n) (F:n<=100000000):Lw fX (n,5,Ar.rep 6 0)=some (tH n):=by
  have U:=e9 (uC (k:=5) (w:=240000) (Ar.rep 6 0) (by omega) rfl D F (by omega))
  have O:=e9 (uC (k:=4) (w:=24000) ((Ar.rep 6 0).set 5 (n / 240000)) (a:=n % 240000) (by omega) rfl (by omega) (by omega) (by omega))
  have N:=e9 (uC (k:=3) (w:=4800) (((Ar.rep 6 0).set 5 (n / 240000)).set 4 (n % 240000 / 24000)) (a:=n % 240000 % 24000) (by omega) rfl (by omega) (by omega) (by omega))
  have J:=e9 (uC (k:=2) (w:=240) ((((Ar.rep 6 0).set 5 (n / 240000)).set 4 (n % 240000 / 24000)).set 3 (n % 240000 % 24000 / 4800)) (a:=n % 240000 % 24000 % 4800) (by omega) rfl (by omega) (by omega) (by omega))
  have I:=e9 (uC (k:=1) (w:=12) (((((Ar.rep 6 0).set 5 (n / 240000)).set 4 (n % 240000 / 24000)).set 3 (n % 240000 % 24000 / 4800)).set 2 (n % 240000 % 24000 % 4800 / 240)) (a:=n % 240000 % 24000 % 4800 % 240) (by omega) rfl (by omega) (by omega) (by omega))
  have G:=e9 (uC (k:=0) (w:=1) ((((((Ar.rep 6 0).set 5 (n / 240000)).set 4 (n % 240000 / 24000)).set 3 (n % 240000 % 24000 / 4800)).set 2 (n % 240000 % 24000 % 4800 / 240)).set 1 (n % 240000 % 24000 % 4800 % 240 / 12)) (a:=n % 240000 % 24000 % 4800 % 240 % 12) (by omega) rfl (by omega) (by omega) (by omega))
  refine U.trans (O.trans (N.trans (J.trans (I.trans (G.trans (fm ?_))))))
  have e:(((((((Ar.rep 6 0).set 5 (n / 240000)).set 4 (n % 240000 / 24000)).set 3 (n % 240000 % 24000 / 4800)).set 2 (n % 240000 % 24000 % 4800 / 240)).set 1 (n % 240000 % 24000 % 4800 % 240 / 12)).set 0 (n % 240000 % 24000 % 4800 % 240 % 12 / 1):Ar 6 Int)=tH n:=by
    rw [Int.ediv_one]; rfl
  rw [e]
  simp [fX]
theorem AI {R:Type} {tb:Int×Ar 6 Int->Option ((Int×Ar 6 Int)⊕R)} {r:R} (g:Ar 6 Int) (O:∀ (i:Nat) (y:Ar 6 Int) (h:i < 6),tb ((i:Int),y)=some (.inl (((i + 1:Nat):Int),y.set i (g.l[i]'(by rw [g.h]; exact h))))) (J:tb (6,g)=some (.inr r)):Lw tb (0,Ar.rep 6 0)=some r:=by
  have X:=g.h
  have U:=sf (tb:=tb) (fun s=>6 - s.1.toNat) (fun s=>∃ i:Nat,s.1=i/\i<=6/\∀ j:Nat,j < i->s.2.l[j]? = g.l[j]?) (fun q=>q=r) (by
    rintro ⟨k,y⟩ ⟨i,F,Y,D⟩
    simp only at F D
    subst F
    have Z:=y.h
    by_cases hlt:i < 6
    · refine .inl ⟨_,O i y hlt,⟨i + 1,rfl,by omega,fun j N=>?_⟩,by simp only; omega⟩
      show (y.l.set i _)[j]? = _
      by_cases q:j=i
      · subst q
        rw [List.getElem?_set_self (by omega),List.getElem?_eq_getElem]
      · rw [List.getElem?_set_ne (fun h=>q h.symm)]
        exact D j (by omega)
    · have:i=6:=by omega
      subst this
      have:y=g:=Lg D
      subst this
      exact .inr ⟨r,J,rfl⟩) _ (0,Ar.rep 6 0) rfl ⟨0,rfl,by omega,fun j N=>by omega⟩
  obtain ⟨q,G,I⟩:=U
  rw [G,I]
theorem Ka {g:Ar 6 Int} (h:∀ (i:Nat) (D:i < g.l.length),0<=g.l[i]/\g.l[i]<=1000):hX g=some (g,0):=by
  have N:=g.h
  have I:=AI (tb:=ep g) (r:=.inr g) g (fun i y D=>by
    have F:i < g.l.length:=by omega
    have:=h i F
    have G:(i:Int) < 6:=by omega
    have c:¬ g.l[i] > 1000:=by omega
    have J:IntKind.i16.wrap g.l[i]=g.l[i]:=N6 (by omega) (by omega)
    simp only [ep,G,decide_true,if_true,f4 g i D,f4 y i D,Option.bind_some,c,decide_false,Bool.false_eq_true,if_false,J,kF D (by decide),Int.toNat_natCast]) (by simp [ep])
  unfold hX
  rw [I]; rfl
theorem He {g:Ar 6 Int} (h:∀ (i:Nat) (D:i < g.l.length),0<=g.l[i]/\g.l[i]<=1000):kX g=some g:=by
  have J:=g.h
  have I:=AI (tb:=gK g) (r:=g) g (fun i y D=>by
    have F:i < g.l.length:=by omega
    have:=h i F
    have G:(i:Int) < 6:=by omega
    have w:IntKind.i64.wrap g.l[i]=g.l[i]:=lg (by omega)
    simp only [gK,G,decide_true,if_true,f4 g i D,f4 y i D,Option.bind_some,w,kF D (by decide),Int.toNat_natCast]) (by simp [gK])
  unfold kX
  rw [I]; rfl
theorem Bl {g:Ar 6 Int} (h:∀ (i:Nat) (D:i < g.l.length),0<=g.l[i]/\g.l[i]<=1000):j2 g=some true:=by
  have N:=g.h
  have F:=g7 (tb:=eM g) (fun i=>(i:Int)) 6 (r:=.inr ()) (fun i D=>by
    have I:i < g.l.length:=by omega
    have:=h i I
    have J:(i:Int) < 6:=by omega
    have c:¬ g.l[i] > 1000:=by omega
    have G:¬ g.l[i] < 0:=by omega
    simp only [eM,J,decide_true,if_true,f4 g i D,Option.bind_some,c,G,decide_false,Bool.false_eq_true,if_false,kF D (by decide)]) (by simp [eM])
  have F:Lw (eM g) 0=some (.inr ()):=F
  unfold j2
  rw [F]; rfl
theorem Bn {g:Ar 6 Int} (h:∀ (i:Nat) (D:i < g.l.length),0<=g.l[i]/\g.l[i]<=1000):lR g=some true:=by
  have N:=g.h
  have F:=g7 (tb:=fY g) (fun i=>(i:Int)) 6 (r:=.inr ()) (fun i D=>by
    have I:i < g.l.length:=by omega
    have:=h i I
    have J:(i:Int) < 6:=by omega
    have c:¬ g.l[i] > 1000:=by omega
    have G:¬ g.l[i] < 0:=by omega
    simp only [fY,J,decide_true,if_true,f4 g i D,Option.bind_some,c,G,decide_false,Bool.false_eq_true,if_false,kF D (by decide)]) (by simp [fY])
  have F:Lw (fY g) 0=some (.inr ()):=F
  unfold lR
  rw [F]; rfl
def B9 (g:Ar 6 Int):Nat->Int
  | 0=>0
  | i + 1=>B9 g i + g.l.getD i 0 * vq.getD i 0
theorem GW {g:Ar 6 Int} (h:∀ (i:Nat) (G:i < g.l.length),0<=g.l[i]/\g.l[i]<=1000):∀ i,i<=6->0<=B9 g i/\B9 g i<=240000000 * i
  | 0,_=>by simp [B9]
  | i + 1,G=>by
    have N:=g.h
    have J:=GW h i (by omega)
    have D:i < g.l.length:=by omega
    have F:=h i D
    obtain ⟨_,X,I⟩:=BB (k:=i) (by omega)
    have e:g.l.getD i 0=g.l[i]:=by simp [D]
    have O:0<=g.l[i] * vq.getD i 0:=Int.mul_nonneg F.1 (by omega)
    have U:g.l[i] * vq.getD i 0<=1000 * 240000:=Int.mul_le_mul F.2 I (by omega) (by omega)
    unfold B9
    rw [e]
    omega
theorem EF {g:Ar 6 Int} (h:∀ (i:Nat) (G:i < g.l.length),0<=g.l[i]/\g.l[i]<=1000) {i:Nat} (G:i < 6) (D:i < g.l.length) :
    IntKind.i64.wrap g.l[i]=g.l[i]/\IntKind.i64.wrap (B9 g i + IntKind.i64.wrap (g.l[i] * vq.getD i 0))=B9 g (i + 1):=by
  have J:=GW h i (by omega)
  have F:=h i D
  obtain ⟨_,U,I⟩:=BB G
  have e:g.l.getD i 0=g.l[i]:=by simp [D]
  have N:0<=g.l[i] * vq.getD i 0:=Int.mul_nonneg F.1 (by omega)
  have O:g.l[i] * vq.getD i 0<=1000 * 240000:=Int.mul_le_mul F.2 I (by omega) (by omega)
  refine ⟨lg (by omega),?_⟩
  rw [lg (n:=g.l[i] * vq.getD i 0) (by omega),lg (by omega)]
  conv=>rhs; unfold B9
  rw [e]
theorem Ji {g:Ar 6 Int} (h:∀ (i:Nat) (D:i < g.l.length),0<=g.l[i]/\g.l[i]<=1000):gT g=some (B9 g 6):=by
  have J:=g.h
  have F:=g7 (tb:=dH g) (fun i=>(B9 g i,(i:Int))) 6 (r:=B9 g 6) (fun i D=>by
    have G:i < g.l.length:=by omega
    have I:(i:Int) < 6:=by omega
    obtain ⟨_,e⟩:=EF h D G
    simp only [dH,I,decide_true,if_true,f4 g i D,Option.bind_some,(BB D).1,e,kF D (by decide)]) (by simp [dH])
  have F:Lw (dH g) (0,0)=some (B9 g 6):=F
  unfold gT
  rw [F]; rfl
theorem IK {g:Ar 6 Int} (h:∀ (i:Nat) (D:i < g.l.length),0<=g.l[i]/\g.l[i]<=1000):kV g=some (B9 g 6):=by
  have N:=g.h
  have F:=g7 (tb:=ft g) (fun i=>(B9 g i,(i:Int))) 6 (r:=B9 g 6) (fun i D=>by
    have G:i < g.l.length:=by omega
    have I:(i:Int) < 6:=by omega
    obtain ⟨e0,e⟩:=EF h D G
    have J:rd ([1,12,240,4800,24000,240000]:List Int) (i:Int)=some (vq.getD i 0):=by
      rw [cS]
      have:i < vq.length:=by simp [vq]; omega
      show vq[i]? = _
      simp [this]
    simp only [ft,jw,I,decide_true,if_true,f4 g i D,Option.bind_some,J,e0,e,kF D (by decide)]) (by simp [ft])
  have F:Lw (ft g) (0,0)=some (B9 g 6):=F
  unfold kV
  rw [F]; rfl
theorem CA {n:Int} (D:0<=n):B9 (tH n) 6=n:=by
  simp only [B9,tH,EK,vq,List.getD_cons_zero,List.getD_cons_succ]
  omega
theorem Gd {n:Int} (F:0<=n) (G:n<=100000000):lY n=some (tH n,0)/\ik (tH n)=some (n,0)/\ic (tH n)=some (n,0):=by
  have D:=G9 F G
  have I:gc n=some true:=by rw [yj,cB.2 ⟨F,G⟩]
  refine ⟨?_,?_,?_⟩
  · unfold lY
    simp [I,An F G,Ka D]
  · unfold ik
    simp [Bl D,He D,Ji D,CA F]
  · unfold ic
    simp [Bn D,IK D,CA F]
theorem Lv (D:List Notch) (g:Ar 16 Int) (J:Ae D=true) (O:fU g=true):ro ⟨true,D,g⟩ ⟨false,D,lw g⟩ 0=some (true,0):=by
  have N:=Es J
  have af:=uD J
  have ae:=g.h
  have U:=xr ⟨true,D,g⟩ N
  have X:=xr ⟨false,D,lw g⟩ N
  simp only [J,O,zd O,Bool.and_self] at U X
  have ab:gX D D=some true:=by
    have G:=g7 (tb:=dG D D) (fun i=>(i:Int)) D.length (r:=.inr ()) (fun i F=>by
      have Z:rd D (i:Int)=some D[i]:=by rw [cS,List.getElem?_eq_getElem F]
      have I:(i:Int) < (D.length:Int):=by omega
      simp only [dG,Z,I,decide_true,if_true,Option.bind_some,beq_self_eq_true,Bool.and_self,kF F (show D.length<=4611686018427387904 by omega)]) (by simp [dG])
    have G:Lw (dG D D) 0=some (.inr ()):=G
    unfold gX
    rw [G]; simp
  have Y:iI g (lw g) 0=some true:=by
    have G:=g7 (tb:=d4 g (lw g)) (fun i=>(0,(i:Int))) 16 (r:=.inr 0) (fun i F=>by
      have I:(i:Int) < 16:=by omega
      have ad:i < g.l.length:=by omega
      have e:(lw g).l[i]'(by rw [(lw g).h]; exact F) = -g.l[i]:=by simp [lw]
      have ac:IntKind.i8.wrap (g.l[i] + -g.l[i])=0:=by rw [show g.l[i] + -g.l[i]=0 by omega]; decide
      simp only [d4,I,decide_true,if_true,f4 g i F,f4 (lw g) i F,Option.bind_some,e,ac,kF F (by decide)]
      simp) (by simp [d4])
    have G:Lw (d4 g (lw g)) (0,0)=some (.inr 0):=G
    unfold iI
    rw [G]; rfl
  have aa:dm 0 0 16=some true:=by simp [dm]
  unfold ro pl
  simp [U,X,aa,ab,Y]
end Go.Proofs.YtkdinadmheomfaaGreat
namespace Go.Proofs.YtkdinadmheomfaaGreat
open Go Go.Ab
theorem Lc {g:Ar 16 (Ar 16 Int)} {i k:Nat} (h:16<=i∨16<=k):eY g i k=0:=by
  unfold eY
  have D:=g.h
  rcases h with h | h
  · rw [List.getElem?_eq_none (by omega)]; rfl
  · cases g.l[i]? with
    | none=>rfl
    | some u=>
      have F:=u.h
      simp only [Option.bind_some]
      rw [List.getElem?_eq_none (by omega)]; rfl
theorem zF {g g':Ar 16 (Ar 16 Int)} (h:∀ i k,i < 16->k < 16->eY g i k=eY g' i k) {i:Nat} (D:i < 16):∀ n,n<=16->qp g i n=qp g' i n
  | 0,_=>rfl
  | n + 1,hn=>by rw [mF,mF,zF h D n (by omega),h i n D (by omega)]
theorem zx {g g':Ar 16 (Ar 16 Int)} (h:∀ i k,i < 16->k < 16->eY g i k=eY g' i k):∀ n,n<=16->eu g n=eu g' n
  | 0,_=>rfl
  | n + 1,hn=>by rw [mE,mE,zx h n (by omega),zF h (by omega) 16 (by omega)]
theorem AF {g g':Ar 16 (Ar 16 Int)} (h:∀ i k,eY g' i k<=eY g i k) (i:Nat):∀ n,(qp g' i n).length<=(qp g i n).length
  | 0=>by simp [qp]
  | n + 1=>by
    have D:=AF h i n
    have F:=h i n
    rw [mF,mF,List.length_append,List.length_append]
    by_cases c:eY g' i n > 0
    · rw [if_pos c,if_pos (by omega)]; simp; omega
    · rw [if_neg c]; simp; omega
theorem AJ {g g':Ar 16 (Ar 16 Int)} (h:∀ i k,eY g' i k<=eY g i k):∀ n,(eu g' n).length<=(eu g n).length
  | 0=>by simp [eu]
  | n + 1=>by
    have D:=AJ h n
    have F:=AF h n 16
    rw [mE,mE,List.length_append,List.length_append]
    omega
theorem Cu {g:Ar 16 (Ar 16 Int)} {d:Debt} (h:d ∈ eu g 16):∃ i k:Nat,i < 16/\k < 16/\0 < eY g i k/\d=⟨i,k,eY g i k⟩:=by
  unfold eu at h
  obtain ⟨i,F,h⟩:=List.mem_flatMap.1 h
  unfold qp at h
  obtain ⟨k,G,h⟩:=List.mem_filterMap.1 h
  split at h
  · rename_i D
    exact ⟨i,k,List.mem_range.1 F,List.mem_range.1 G,D,(Option.some.inj h).symm⟩
  · cases h
theorem GH {g:Ar 16 (Ar 16 Int)} (D:∀ i k,0<=eY g i k) (i k:Nat):ml (eu g 16) i k=eY g i k:=by
  by_cases hik:i < 16/\k < 16
  · have e:ml (eu g 16) i k=WL (fun f t=>if f=(i:Int)/\t=(k:Int) then 1 else 0) (eu g 16):=by
      unfold ml WL
      congr 1
      refine List.map_congr_left fun d _=>?_
      show (if d.From=(i:Int)/\d.To=(k:Int) then d.Amount else 0)=(if d.From=(i:Int)/\d.To=(k:Int) then 1 else 0) * d.Amount
      by_cases c:d.From=(i:Int)/\d.To=(k:Int)
      · rw [if_pos c,if_pos c,Int.one_mul]
      · rw [if_neg c,if_neg c,Int.zero_mul]
    rw [e,DV D]
    have J:∀ j:Nat,(hG 16 fun m=>(if (j:Int)=(i:Int)/\(m:Int)=(k:Int) then 1 else 0) * eY g j m)=if j=i then eY g i k else 0:=fun j=>by
      by_cases c:j=i
      · subst c
        rw [if_pos rfl,il (g:=fun m=>if m=k then eY g j k else 0) (fun m _=>by
          by_cases q:m=k
          · subst q; simp
          · rw [if_neg q,if_neg (fun h=>q (by omega)),Int.zero_mul]),rr,if_pos hik.2]
      · rw [if_neg c]
        refine ut fun m _=>?_
        rw [if_neg (fun h=>c (by omega)),Int.zero_mul]
    rw [il (fun j _=>J j),rr,if_pos hik.1]
  · rw [Lc (by omega)]
    by_cases q:ml (eu g 16) i k=0
    · exact q
    · obtain ⟨d,F,G,I⟩:=xd q
      obtain ⟨a,b,N,O,_,rfl⟩:=Cu F
      simp only at G I
      omega
theorem JM (n:Nat) (ax:1<=n/\n<=16) (xs:List Debt) (af:xs.length<=60) (I:∀ d ∈ xs,Dx n d):∃ N,mB (n:Int) xs=some (N,0)/\N.length=n/\∀ p:Nat,p < n->N[p]? = some (mK xs p):=by
  have:∃ r,Lw (jN xs) (0,List.replicate n 0)=some r/\r.length=n/\∀ p:Nat,p < n->r[p]? = some (mK xs p):=by
    refine sf (tb:=jN xs) (fun s=>xs.length - s.1.toNat) (fun s=>∃ j:Nat,s.1=j/\j<=xs.length/\s.2.length=n/\∀ p:Nat,p < n->s.2[p]? = some (mK (xs.take j) p)) _ ?_ _ _ rfl ⟨0,rfl,by omega,by simp,fun p F=>by simp [F,mK,WL]⟩
    rintro ⟨j,z⟩ ⟨D,U,aw,J,F⟩
    simp only at U J F
    subst U
    by_cases hlt:D < xs.length
    · have ah:rd xs (D:Int)=some xs[D]:=by rw [cS,List.getElem?_eq_getElem hlt]
      have w:=kF hlt (by omega)
      obtain ⟨⟨ao,ap⟩,⟨aq,ar⟩,a5,a6,a7⟩:=I _ (List.getElem_mem hlt)
      obtain ⟨f,O⟩:∃ f:Nat,xs[D].From=f:=⟨xs[D].From.toNat,by omega⟩
      obtain ⟨t,X⟩:∃ t:Nat,xs[D].To=t:=⟨xs[D].To.toNat,by omega⟩
      have ae:f≠t:=fun e=>a5 (by omega)
      have hN:=fun p=>JR (xs:=xs.take D) (fun d ad=>I d (List.mem_of_mem_take ad)) (by simp; omega) p
      have au:=hN f
      have av:=hN t
      have aj:rd z xs[D].From=some (mK (xs.take D) f):=by rw [O,cS]; exact F f (by omega)
      have am:IntKind.i64.wrap (mK (xs.take D) f - xs[D].Amount)=mK (xs.take D) f - xs[D].Amount:=lg (by omega)
      have an:IntKind.i64.wrap (mK (xs.take D) t + xs[D].Amount)=mK (xs.take D) t + xs[D].Amount:=lg (by omega)
      have Y:xs[D].From.toNat=f:=by omega
      have Z:xs[D].To.toNat=t:=by omega
      have ak:rd (z.set f (mK (xs.take D) f - xs[D].Amount)) xs[D].To=some (mK (xs.take D) t):=by
        rw [X,cS,List.getElem?_set_ne ae]; exact F t (by omega)
      refine .inl ⟨(((D + 1:Nat):Int),(z.set f (mK (xs.take D) f - xs[D].Amount)).set t (mK (xs.take D) t + xs[D].Amount)),by simp [jN,hlt,ah,aj,am,Y,ak,an,Z,w],⟨D + 1,rfl,by omega,by simp [J],fun p G=>?_⟩,by simp; omega⟩
      rw [List.take_succ_eq_append_getElem hlt,FG]
      simp only
      by_cases c1:p=t
      · subst c1
        rw [List.getElem?_set_self (by simp; omega),if_pos X,if_neg (by omega)]
        simp
      · rw [List.getElem?_set_ne (Ne.symm c1),if_neg (by omega)]
        by_cases c2:p=f
        · subst c2
          rw [List.getElem?_set_self (by omega),if_pos O]
          simp only [Option.some.injEq]; omega
        · rw [List.getElem?_set_ne (Ne.symm c2),if_neg (by omega),F p G]
          simp
    · have:D=xs.length:=by omega
      subst this
      exact .inr ⟨z,by simp [jN],J,fun p G=>by rw [F p G,List.take_length]⟩
  obtain ⟨r,aa,ab,ac⟩:=this
  refine ⟨r,?_,ab,ac⟩
  unfold mB uy
  have ai:NG 8 (0:Int) (n:Int)=some (List.replicate n 0):=GC (by omega) (by decide)
  rw [qY _ _ ⟨by omega,by omega⟩ af I]
  simp [ai,aa]
theorem F1 {n:Nat} (aB:1<=n/\n<=16) {g:Ar 16 (Ar 16 Int)} (ap:∀ i k,0<=eY g i k/\eY g i k<=100000000) (I:(eu g 16).length<=60) (U:∀ d ∈ eu g 16,Dx n d) :
    ∃ (C:List Debt) (s:Int) (J:List Int),iW (n:Int) (eu g 16)=some (C,s,0)/\iJ (n:Int) (eu g 16)=some (C,s,0)/\C.length<=60 /\
      mB (n:Int) C=some (J,0)/\J.length=n/\∀ p:Nat,p < n->J[p]? = some (mK (eu g 16) p):=by
  have Z:∀ d ∈ eu g 16,Dx 16 d:=fun d aa=>by
    obtain ⟨af,ah,ai,aj⟩:=U d aa
    exact ⟨⟨af.1,by omega⟩,⟨ah.1,by omega⟩,ai,aj⟩
  have aD:=qY (n:Int) (eu g 16) ⟨by omega,by omega⟩ I U
  have aE:=DX (n:Int) (eu g 16) ⟨by omega,by omega⟩ I U
  obtain ⟨D,ae,ar⟩:=A8 (eu g 16) I Z
  obtain ⟨aQ,au,Y⟩:=CD (eu g 16) I Z
  rw [ar] at au
  obtain rfl:=Option.some.inj au
  have av:∀ i k,eY D i k=eY g i k:=fun i k=>by rw [Y,GH fun i k=>(ap i k).1]
  have al:eu D 16=eu g 16:=zx (fun i k _ _=>av i k) 16 (by omega)
  have G:∀ i k,0<=eY D i k/\eY D i k<=100000000:=fun i k=>by rw [av]; exact ap i k
  have am:∀ t:Ar 16 (Ar 16 Int),(∀ i k,eY t i k<=100000000)->(eu t 16).length<=60->eB t=some (.inr (eu t 16))/\fi t=some (eu t 16,0):=fun t an ao=>by
    have ad:=CW t an ao
    rcases A3 t with ⟨O,F⟩ | ⟨o,O,F,_⟩
    · rw [ad] at F; simp at F
    · rw [ad] at F
      simp only [Option.some.injEq,Prod.mk.injEq] at F
      rw [F.1]
      exact ⟨O,by rw [<- F.1]; exact ad⟩
  obtain ⟨ax,ay⟩:=am D (fun i k=>(G i k).2) (by rw [al]; exact I)
  have aq:h7 (n:Int) (eu g 16)=some (.inr (eu g 16)):=by
    unfold h7
    simp [aD,ae,ax,al]
  obtain ⟨g',X,aJ,aK⟩:=DT (TS (fun _ _=>1) D).toNat D (Nat.le_refl _) G
  obtain ⟨s',aL,aM,aN⟩:=aK 0
  have ab:(eu g' 16).length<=60:=by
    have:=AJ (g:=D) (g':=g') (fun i k=>(X i k).2) 16
    rw [al] at this
    omega
  obtain ⟨ak,az⟩:=am g' (fun i k=>by have:=X i k; have:=G i k; omega) ab
  have aF:∀ d ∈ eu g' 16,Dx n d:=fun d aa=>by
    obtain ⟨i,k,aR,aS,aT,rfl⟩:=Cu aa
    have an:=X i k
    have ao:=G i k
    have aA:0 < eY D i k:=by omega
    rw [Y] at aA
    obtain ⟨aw,aO,aU,aV⟩:=xd (show ml (eu g 16) i k≠0 by omega)
    obtain ⟨⟨af,ah⟩,⟨ai,aj⟩,a5,_⟩:=U aw aO
    exact ⟨⟨by simp only; omega,by simp only; omega⟩,⟨by simp only; omega,by simp only; omega⟩,by simp only; omega,by simp only; omega,by simp only; omega⟩
  obtain ⟨J,aG,aH,aI⟩:=JM n aB (eu g' 16) ab aF
  have nf:∀ p:Int,mK (eu g' 16) p=mK (eu g 16) p:=fun p=>by
    have t:=aJ fun x=>if x=p then 1 else 0
    unfold mK
    rw [DV (fun i k=>(X i k).1),<- DE Z]
    have aP:(hG 16 fun i=>hG 16 fun k=>((if (k:Int)=p then (1:Int) else 0) - (if (i:Int)=p then 1 else 0)) * ml (eu g 16) i k)=TS (fun f t=>(if t=p then (1:Int) else 0) - (if f=p then 1 else 0)) D:=by
      unfold TS
      exact il fun i _=>il fun k _=>by rw [Y]
    rw [aP]
    exact t
  refine ⟨eu g' 16,s',J,?_,?_,ab,aG,aH,fun p aC=>by rw [aI p aC,nf]⟩
  · obtain ⟨r,N,_,_⟩:=xh (g:=D) fun i k=>(G i k).1
    unfold iW
    cases r with
    | none=>
      obtain ⟨O,F⟩:=aN N
      subst O F
      have ac:Lw iO 0=some 0:=fm rfl
      simp only [aq,Option.bind_some,ae,N,ma,ac,ak]
    | some c=>
      have ac:=aM _ N
      simp only [aq,Option.bind_some,ae,N,ma,ac,ak]
  · unfold iJ
    simp [aE,ar,ay,aL,az]
end Go.Proofs.YtkdinadmheomfaaGreat
