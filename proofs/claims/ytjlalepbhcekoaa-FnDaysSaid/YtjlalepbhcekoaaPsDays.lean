/- Plain lemmas. -/
import Derived.Test.YtjlalepbhcekoaaOkDays
set_option linter.unusedVariables false
set_option linter.unusedSimpArgs false
namespace Go.Proofs.Ytjlalepbhcekoaa
open Go Go.Ab
end Go.Proofs.Ytjlalepbhcekoaa
namespace Go.Proofs.Ytjlalepbhcekoaa
open Go Go.Ab
end Go.Proofs.Ytjlalepbhcekoaa
namespace Go.Proofs.Ytjlalepbhcekoaa
open Go Go.Ab
end Go.Proofs.Ytjlalepbhcekoaa
namespace Go.Proofs.Ytjlalepbhcekoaa
open Go Go.Ab
end Go.Proofs.Ytjlalepbhcekoaa
namespace Go.Proofs.Ytjlalepbhcekoaa
open Go Go.Ab
end Go.Proofs.Ytjlalepbhcekoaa
namespace Go.Proofs.Ytjlalepbhcekoaa
open Go Go.Ab
end Go.Proofs.Ytjlalepbhcekoaa
namespace Go.Proofs.Ytjlalepbhcekoaa
open Go Go.Ab
def inB (n lo hi:Int):Bool:=decide (lo≤n) && decide (n≤hi)
theorem inB_iff {n lo hi:Int}:inB n lo hi=true↔lo≤n∧n≤hi:=by simp [inB]
theorem inB_not {n lo hi:Int}:inB n lo hi=false↔n < lo∨hi < n:=by rw [← Bool.not_eq_true,inB_iff]; omega
theorem l00In_eq (n lo hi:Int):spec_l00In n lo hi=some (inB n lo hi):=by
  unfold spec_l00In inB; by_cases h:lo≤n <;> simp [h]
theorem some_ite {α:Type} (c:Bool) (a b:α):(if c=true then some a else some b)=some (if c=true then a else b):=by cases c <;> rfl
theorem ite_false_b (c b:Bool):(if c=true then b else false)=(c && b):=by cases c <;> simp
end Go.Proofs.Ytjlalepbhcekoaa
namespace Go.Proofs.Ytjlalepbhcekoaa
open Go Go.Ab
theorem l07Day_eq (n:Int):spec_l07Day n=some (inB n 0 100000):=by
  unfold spec_l07Day; simp only [l00In_eq,Option.bind_some]
theorem isBookDay_eq (n:Int):impl_isBookDay n=some (inB n 0 100000):=by
  unfold impl_isBookDay inB; by_cases h:0≤n <;> simp [h]
end Go.Proofs.Ytjlalepbhcekoaa
namespace Go.Proofs.Ytjlalepbhcekoaa
open Go Go.Ab
theorem l01Amount_eq (n:Int):spec_l01Amount n=some (inB n 0 100000000):=by
  unfold spec_l01Amount; rw [l00In_eq,Option.bind_some]
theorem isAmount_eq (n:Int):impl_isAmount n=some (inB n 0 100000000):=by
  unfold impl_isAmount inB; by_cases h:0≤n <;> simp [h]
end Go.Proofs.Ytjlalepbhcekoaa
namespace Go.Proofs.Ytjlalepbhcekoaa
open Go Go.Ab
def personB (n x:Int):Bool:=decide (0≤x) && decide (x < n)
theorem personB_iff {n x:Int}:personB n x=true↔0≤x∧x < n:=by simp [personB]
theorem l02Person_eq (n x:Int) (h : -9223372036854775807≤n∧n≤9223372036854775807):spec_l02Person n x=some (personB n x):=by
  unfold spec_l02Person
  rw [l00In_eq,w64 (by omega),Option.bind_some]
  congr 1
  rw [Bool.eq_iff_iff,inB_iff,personB_iff]; omega
theorem arePeople_eq (n:Int) (xs:List Int) (hn:xs.length≤4611686018427387904):impl_arePeople n xs=some (xs.all (personB n)):=by
  unfold impl_arePeople
  have key:=scan_all (tb:=impl_arePeople_b1 n xs) xs.length hn (fun i=>(xs[i]?).all (personB n)) () ()
    (by
      intro i hi
      simp only [impl_arePeople_b1,rd_coe,List.getElem?_eq_getElem hi,Option.bind_some,Option.all_some]
      rw [if_pos (by simpa using hi)]
      by_cases h1:xs[i] < 0
      · rw [if_pos (by simpa using h1),if_neg (by simp [personB]; omega)]
      · by_cases h2:xs[i]≥n
        · rw [if_neg (by simpa using h1),if_pos (by simpa using h2),if_neg (by simp [personB]; omega)]
        · rw [if_neg (by simpa using h1),if_neg (by simpa using h2),if_pos (by simp [personB]; omega)])
    (by simp [impl_arePeople_b1])
  rw [key,all_get]
  cases xs.all (personB n) <;> simp
end Go.Proofs.Ytjlalepbhcekoaa
namespace Go.Proofs.Ytjlalepbhcekoaa
open Go Go.Ab
def amB (n:Int):Bool:=inB n 0 100000000
def prevCut (b:Book) (i:Nat):Int:=if i=0 then 0 else ((b.Tallies[i - 1]?).map (·.Cut)).getD 0
def tallyB (b:Book) (i:Nat) (t:Tally):Bool:=
  personB b.Cash.length t.Debtor && (personB b.Cash.length t.Holder && (inB t.Cut 0 b.Day && (inB t.Amount 1 100000000 && (inB t.Left 0 t.Amount && (!(t.Debtor==t.Holder && t.Left != 0) && decide (prevCut b i≤t.Cut))))))
def talliesB (b:Book):Bool:=(List.range b.Tallies.length).all fun i=>(b.Tallies[i]?).all (tallyB b i)
def bookB (b:Book):Bool:=inB b.Day 0 100000 && (b.Cash.all amB && inB b.Cash.length 1 16 && (decide (b.Tallies.length≤40) && talliesB b))
theorem cash_spec (a:List Int) (hn:a.length≤4611686018427387904):spec_l07Cash a=some (a.all amB && inB a.length 1 16):=by
  unfold spec_l07Cash
  have key:=scan_all (tb:=spec_l07Cash_b1 a) a.length hn (fun i=>(a[i]?).all amB) () ()
    (by
      intro i hi
      simp only [spec_l07Cash_b1,rd_coe,List.getElem?_eq_getElem hi,Option.bind_some,l01Amount_eq,Option.all_some]
      rw [if_pos (by simpa using hi)]
      cases h:amB a[i] <;> simp [amB] at h <;> simp [h])
    (by simp [spec_l07Cash_b1])
  rw [key,all_get]
  cases a.all amB <;> simp [l00In_eq]
theorem cash_impl (b:Book) (hn:b.Cash.length≤4611686018427387904):Lw (impl_ValidBook_b1 b) 0=some (if b.Cash.all amB=true then .inr () else .inl ()):=by
  have key:=scan_all (tb:=impl_ValidBook_b1 b) b.Cash.length hn (fun i=>(b.Cash[i]?).all amB) () ()
    (by
      intro i hi
      simp only [impl_ValidBook_b1,rd_coe,List.getElem?_eq_getElem hi,Option.bind_some,isAmount_eq,Option.all_some]
      rw [if_pos (by simpa using hi)]
      cases h:amB b.Cash[i] <;> simp [amB] at h <;> simp [h])
    (by simp [impl_ValidBook_b1])
  rw [key,all_get]
theorem tallies_spec (b:Book) (hc:b.Cash.length≤4611686018427387904) (hn:b.Tallies.length≤4611686018427387904):Lw (spec_l07Ok_b1 b) 0=some (if talliesB b=true then .inr () else .inl ()):=by
  refine scan_all (tb:=spec_l07Ok_b1 b) b.Tallies.length hn (fun i=>(b.Tallies[i]?).all (tallyB b i)) () () (fun i hi=>?_) (by simp [spec_l07Ok_b1])
  simp only [spec_l07Ok_b1,rd_coe,List.getElem?_eq_getElem hi,Option.bind_some,Option.all_some,l02Person_eq _ _ (show -9223372036854775807≤(b.Cash.length:Int)∧(b.Cash.length:Int)≤9223372036854775807 by omega),l00In_eq]
  rw [if_pos (by simpa using hi)]
  unfold tallyB
  generalize b.Tallies[i]=t
  cases personB b.Cash.length t.Debtor with
  | false=>simp
  | true=>
  cases personB b.Cash.length t.Holder with
  | false=>simp
  | true=>
  cases hcut:inB t.Cut 0 b.Day with
  | false=>simp
  | true=>
  cases inB t.Amount 1 100000000 with
  | false=>simp
  | true=>
  cases inB t.Left 0 t.Amount with
  | false=>simp
  | true=>
  obtain ⟨hc0,_⟩:=inB_iff.1 hcut
  have tail:(if decide ((i:Int) > 0)=true then (rd b.Tallies (IntKind.i64.wrap ((i:Int) - 1))).bind fun x92=>if decide (t.Cut < x92.Cut)=true then some (Sum.inr (Sum.inl ())) else some (Sum.inl (IntKind.i64.wrap ((i:Int) + 1))) else some (Sum.inl (IntKind.i64.wrap ((i:Int) + 1))))=(some (if decide (prevCut b i≤t.Cut)=true then Sum.inl (IntKind.i64.wrap ((i:Int) + 1)) else Sum.inr (Sum.inl ())):Option (Int⊕(Unit⊕Unit))):=by
    by_cases h0:i=0
    · subst h0; simp [prevCut,hc0]
    · have h1:i - 1 < b.Tallies.length:=by omega
      have e:IntKind.i64.wrap ((i:Int) - 1)=((i - 1:Nat):Int):=by rw [w64 (by omega)]; omega
      rw [if_pos (by simp; omega),e,rd_coe,List.getElem?_eq_getElem h1,Option.bind_some]
      have e2:prevCut b i=b.Tallies[i - 1].Cut:=by simp [prevCut,h0,h1]
      rw [e2]
      by_cases h2:t.Cut < b.Tallies[i - 1].Cut
      · rw [if_pos (by simpa using h2),if_neg (by simpa using h2)]
      · rw [if_neg (by simpa using h2),if_pos (by simpa using h2)]
  simp only [if_true,Bool.true_and,tail]
  cases h1:(t.Debtor==t.Holder) with
  | false=>simp
  | true=>cases h2:(t.Left != 0) <;> simp
theorem tallies_impl (b:Book) (hc:b.Cash.length≤4611686018427387904) (hn:b.Tallies.length≤4611686018427387904):Lw (impl_ValidBook_b2 b) (0,0)=some (if talliesB b=true then .inr () else .inl ()):=by
  refine scan_st (tb:=impl_ValidBook_b2 b) (fun i=>(prevCut b i,(i:Int))) b.Tallies.length (fun i=>(b.Tallies[i]?).all (tallyB b i)) (.inl ()) (.inr ()) (fun i hi hall=>?_) (fun _=>by simp [impl_ValidBook_b2])
  have hp:0≤prevCut b i:=by
    by_cases h0:i=0
    · simp [prevCut,h0]
    · have h1:i - 1 < b.Tallies.length:=by omega
      have:=hall (i - 1) (by omega)
      rw [List.getElem?_eq_getElem h1,Option.all_some] at this
      unfold tallyB at this
      simp only [Bool.and_eq_true] at this
      have h3:=(inB_iff.1 this.2.2.1).1
      simp [prevCut,h0,h1,h3]
  have hs:prevCut b (i + 1)=b.Tallies[i].Cut:=by simp [prevCut,hi]
  simp only [impl_ValidBook_b2,rd_coe,List.getElem?_eq_getElem hi,Option.bind_some,Option.all_some,arePeople_eq _ _ (show ([b.Tallies[i].Debtor,b.Tallies[i].Holder]:List Int).length≤4611686018427387904 by simp),hs]
  rw [if_pos (by simpa using hi),w64s hi hn]
  unfold tallyB
  generalize b.Tallies[i]=t
  simp only [List.all_cons,List.all_nil,Bool.and_true]
  cases personB b.Cash.length t.Debtor with
  | false=>simp
  | true=>
  cases personB b.Cash.length t.Holder with
  | false=>simp
  | true=>
  simp only [Bool.true_and,if_true]
  by_cases c1:t.Cut < prevCut b i
  · have:decide (prevCut b i≤t.Cut)=false:=by simpa using c1
    simp [c1,this]
  · have e1:decide (prevCut b i≤t.Cut)=true:=by simpa using c1
    have c0:0≤t.Cut:=by omega
    simp only [c1,decide_false,Bool.false_eq_true,if_false,e1,Bool.and_true]
    by_cases c2:t.Cut > b.Day
    · simp [c2,inB]; omega
    · have e2:inB t.Cut 0 b.Day=true:=inB_iff.2 ⟨c0,by omega⟩
      simp only [c2,decide_false,Bool.false_eq_true,if_false,e2,Bool.true_and]
      by_cases c3:t.Amount < 1
      · simp [c3,inB]; omega
      · by_cases c4:t.Amount > 100000000
        · simp [c3,c4,inB]; omega
        · have e3:inB t.Amount 1 100000000=true:=inB_iff.2 ⟨by omega,by omega⟩
          simp only [c3,c4,decide_false,Bool.false_eq_true,if_false,e3,Bool.true_and]
          by_cases c5:t.Left < 0
          · simp [c5,inB]; omega
          · by_cases c6:t.Left > t.Amount
            · simp [c5,c6,inB]; omega
            · have e4:inB t.Left 0 t.Amount=true:=inB_iff.2 ⟨by omega,by omega⟩
              simp only [c5,c6,decide_false,Bool.false_eq_true,if_false,e4,Bool.true_and]
              cases h1:(t.Debtor==t.Holder) with
              | false=>simp
              | true=>cases h2:(t.Left != 0) <;> simp
theorem validBook_eq (b:Book) (hc:b.Cash.length≤4611686018427387904) (hn:b.Tallies.length≤4611686018427387904):impl_ValidBook b=some (bookB b):=by
  unfold impl_ValidBook bookB
  rw [isBookDay_eq,cash_impl b hc,tallies_impl b hc hn]
  simp only [Option.bind_some]
  cases inB b.Day 0 100000 with
  | false=>simp
  | true=>
    simp only [if_true,Bool.true_and]
    by_cases c1:(b.Cash.length:Int) < 1
    · have:inB b.Cash.length 1 16=false:=inB_not.2 (.inl c1)
      simp [c1,this]
    · by_cases c2:(b.Cash.length:Int) > 16
      · have:inB b.Cash.length 1 16=false:=inB_not.2 (.inr c2)
        simp [c1,c2,this]
      · have e1:inB b.Cash.length 1 16=true:=inB_iff.2 ⟨by omega,by omega⟩
        simp only [c1,c2,e1,decide_false,Bool.false_eq_true,if_false,Bool.and_true]
        by_cases c3:(b.Tallies.length:Int) > 40
        · have:¬ b.Tallies.length≤40:=by omega
          simp [c3,this]
        · have e2:b.Tallies.length≤40:=by omega
          simp only [c3,e2,decide_false,decide_true,Bool.false_eq_true,if_false,Bool.true_and]
          cases b.Cash.all amB <;> cases talliesB b <;> simp
theorem l07Ok_eq (b:Book) (hc:b.Cash.length≤4611686018427387904) (hn:b.Tallies.length≤4611686018427387904):spec_l07Ok b=some (bookB b):=by
  unfold spec_l07Ok bookB
  rw [l07Day_eq,cash_spec _ hc,tallies_spec b hc hn]
  simp only [Option.bind_some]
  cases inB b.Day 0 100000 with
  | false=>simp
  | true=>
    simp only [if_true,Bool.true_and]
    cases (b.Cash.all amB && inB b.Cash.length 1 16) with
    | false=>simp
    | true=>
      by_cases c3:(b.Tallies.length:Int) > 40
      · have:¬ b.Tallies.length≤40:=by omega
        simp [c3,this]
      · have e2:b.Tallies.length≤40:=by omega
        simp only [c3,e2,decide_false,decide_true,Bool.false_eq_true,if_false,Bool.true_and,if_true]
        cases talliesB b <;> simp
end Go.Proofs.Ytjlalepbhcekoaa
namespace Go.Proofs.Ytjlalepbhcekoaa
open Go Go.Ab
def getsF (p:Int) (a:Int) (t:Tally):Int:=if (t.Holder==p)=true then IntKind.i64.wrap (a + t.Left) else a
def owesF (p:Int) (a:Int) (t:Tally):Int:=if (t.Debtor==p)=true then IntKind.i64.wrap (a + t.Left) else a
def getsIn (b:Book) (p:Int):Int:=b.Tallies.foldl (getsF p) 0
def owesIn (b:Book) (p:Int):Int:=b.Tallies.foldl (owesF p) 0
theorem foldl_pair {α β τ:Type} (f:α→τ→α) (g:β→τ→β) (xs:List τ):∀ (a:α) (b:β),xs.foldl (fun p x=>(f p.1 x,g p.2 x)) (a,b)=(xs.foldl f a,xs.foldl g b):=by
  induction xs with
  | nil=>intro a b; rfl
  | cons x xs ih=>intro a b; exact ih _ _
theorem getsAndOwes_eq (b:Book) (p:Int) (hn:b.Tallies.length≤4611686018427387904):impl_getsAndOwes b p=some (getsIn b p,owesIn b p):=by
  unfold impl_getsAndOwes getsIn owesIn
  have key:=Lw_fold (tb:=impl_getsAndOwes_b1 b p) b.Tallies (fun q t=>(getsF p q.1 t,owesF p q.2 t)) (fun q i=>(q.1,q.2,(i:Int))) id
    (by
      intro i hi a
      simp only [impl_getsAndOwes_b1,rd_coe,List.getElem?_eq_getElem hi,Option.bind_some,getsF,owesF]
      rw [if_pos (by simpa using hi),w64s hi hn]
      by_cases h1:(b.Tallies[i].Holder==p)=true <;> by_cases h2:(b.Tallies[i].Debtor==p)=true <;> simp [h1,h2])
    (by intro a; simp [impl_getsAndOwes_b1]) (0,0)
  rw [foldl_pair] at key
  have e:((0:Int),(0:Int),((0:Nat):Int))=(0,0,0):=rfl
  simp only [e] at key
  rw [key]; rfl
def oneCode (b:Book) (p:Int):Int:=if bookB b=true then (if personB b.Cash.length p=true then 0 else 2) else 1
theorem personCode_eq (b:Book) (p:Int) (hc:b.Cash.length≤4611686018427387904) (hn:b.Tallies.length≤4611686018427387904):impl_personCode b p=some (oneCode b p):=by
  unfold impl_personCode oneCode
  rw [validBook_eq b hc hn,arePeople_eq _ _ (by simp)]
  simp only [Option.bind_some,List.all_cons,List.all_nil,Bool.and_true]
  cases bookB b <;> cases personB b.Cash.length p <;> simp
end Go.Proofs.Ytjlalepbhcekoaa
namespace Go.Proofs.Ytjlalepbhcekoaa
open Go Go.Ab
def dealB (d:Deal):Bool:=
  inB d.Day 0 100000 &&
  ((d.Kind==1 && d.Tally==0 && inB d.From 0 15 && inB d.To 0 15 && inB d.Amount 1 100000000) ||
   (d.Kind==2 && inB d.Tally 0 39 && inB d.From 0 15 && inB d.To 0 15 && d.Amount==0) ||
   (d.Kind==3 && inB d.Tally 0 39 && d.From==0 && d.To==0 && inB d.Amount 1 100000000) ||
   (d.Kind==4 && inB d.Tally 0 39 && inB d.From 0 15 && d.To==0 && d.Amount==0))
theorem l07Deal_eq (d:Deal):spec_l07Deal d=some (dealB d):=by
  unfold spec_l07Deal dealB
  simp only [l00In_eq,l07Day_eq,Option.bind_some,some_ite,ite_false_b]
  cases inB d.Day 0 100000 with
  | false=>simp
  | true=>
    by_cases h1:d.Kind=1
    · simp [h1,Bool.and_assoc]
    by_cases h2:d.Kind=2
    · simp [h2,Bool.and_assoc]
    by_cases h3:d.Kind=3
    · simp [h3,Bool.and_assoc]
    by_cases h4:d.Kind=4
    · simp [h4,Bool.and_assoc]
    have e1:(d.Kind==1)=false:=by simpa using h1
    have e2:(d.Kind==2)=false:=by simpa using h2
    have e3:(d.Kind==3)=false:=by simpa using h3
    have e4:(d.Kind==4)=false:=by simpa using h4
    simp [e1,e2,e3,e4]
theorem in_eq (u:Bool) (n lo hi:Int):impl_ValidDeal_1 u n lo hi=some (if u=true then inB n lo hi else n==0):=by
  unfold impl_ValidDeal_1 inB; cases u <;> by_cases h:lo≤n <;> by_cases h':n≤hi <;> simp [h,h']
theorem validDeal_eq (d:Deal):impl_ValidDeal d=some (dealB d):=by
  unfold impl_ValidDeal dealB impl_uses
  simp only [isBookDay_eq,in_eq,Option.bind_some,some_ite,ite_false_b]
  cases inB d.Day 0 100000 with
  | false=>simp
  | true=>
    by_cases h1:d.Kind=1
    · simp [h1,Bool.and_assoc]
    by_cases h2:d.Kind=2
    · simp [h2,Bool.and_assoc]
    by_cases h3:d.Kind=3
    · simp [h3,Bool.and_assoc]
    by_cases h4:d.Kind=4
    · simp [h4,Bool.and_assoc]
    have e1:(d.Kind==1)=false:=by simpa using h1
    have e2:(d.Kind==2)=false:=by simpa using h2
    have e3:(d.Kind==3)=false:=by simpa using h3
    have e4:(d.Kind==4)=false:=by simpa using h4
    have:d.Kind < 1∨d.Kind > 4:=by omega
    rcases this with h | h <;> simp [e1,e2,e3,e4,h]
end Go.Proofs.Ytjlalepbhcekoaa
namespace Go.Proofs.Ytjlalepbhcekoaa
open Go Go.Ab
theorem areDeals_eq (xs:List Deal) (hn:xs.length≤4611686018427387904):impl_areDeals xs=some (xs.all dealB):=by
  unfold impl_areDeals
  have key:=scan_all (tb:=impl_areDeals_b1 xs) xs.length hn (fun i=>(xs[i]?).all dealB) () ()
    (by
      intro i hi
      simp only [impl_areDeals_b1,rd_coe,List.getElem?_eq_getElem hi,Option.bind_some,validDeal_eq,Option.all_some]
      rw [if_pos (by simpa using hi)]
      cases dealB xs[i] <;> simp)
    (by simp [impl_areDeals_b1])
  rw [key,all_get]
  cases xs.all dealB <;> simp
theorem l07Deals_eq (xs:List Deal) (hn:xs.length≤4611686018427387904):spec_l07Deals xs=some (xs.all dealB):=by
  unfold spec_l07Deals
  have key:=scan_all (tb:=spec_l07Deals_b1 xs) xs.length hn (fun i=>(xs[i]?).all dealB) () ()
    (by
      intro i hi
      simp only [spec_l07Deals_b1,rd_coe,List.getElem?_eq_getElem hi,Option.bind_some,l07Deal_eq,Option.all_some]
      rw [if_pos (by simpa using hi)]
      cases dealB xs[i] <;> simp)
    (by simp [spec_l07Deals_b1])
  rw [key,all_get]
  cases xs.all dealB <;> simp
end Go.Proofs.Ytjlalepbhcekoaa
namespace Go.Proofs.Ytjlalepbhcekoaa
open Go Go.Ab
def TlI (n:Int) (t:Tally):Prop:=(0≤t.Debtor∧t.Debtor < n)∧(0≤t.Holder∧t.Holder < n)∧(0≤t.Left∧t.Left≤100000000)∧(t.Debtor=t.Holder→t.Left=0)
structure BkI (b:Book):Prop where
  c1:1≤b.Cash.length
  cn:b.Cash.length≤16
  tn:b.Tallies.length≤40
  ca:∀ c ∈ b.Cash,0≤c∧c≤100000000
  ta:∀ t ∈ b.Tallies,TlI b.Cash.length t
theorem BkI.of {b:Book} (h:bookB b=true):BkI b:=by
  unfold bookB at h
  simp only [Bool.and_eq_true,decide_eq_true_eq,List.all_eq_true] at h
  obtain ⟨_,⟨h1,h2⟩,h3,h4⟩:=h
  obtain ⟨h5,h6⟩:=inB_iff.1 h2
  refine ⟨by omega,by omega,h3,fun c hc=>inB_iff.1 (h1 c hc),fun t ht=>?_⟩
  unfold talliesB at h4
  rw [List.all_eq_true] at h4
  obtain ⟨i,hi,rfl⟩:=List.getElem_of_mem ht
  have:=h4 i (List.mem_range.2 hi)
  rw [List.getElem?_eq_getElem hi,Option.all_some] at this
  unfold tallyB personB at this
  simp only [Bool.and_eq_true] at this
  obtain ⟨g1,g2,_,g4,g5,g6,_⟩:=this
  have g1:0≤b.Tallies[i].Debtor∧b.Tallies[i].Debtor < (b.Cash.length:Int):=by simpa using g1
  have g2:0≤b.Tallies[i].Holder∧b.Tallies[i].Holder < (b.Cash.length:Int):=by simpa using g2
  have g4:=inB_iff.1 g4
  have g5:=inB_iff.1 g5
  refine ⟨⟨g1.1,by omega⟩,⟨g2.1,by omega⟩,⟨g5.1,by omega⟩,fun e=>?_⟩
  simp [e] at g6
  exact g6
end Go.Proofs.Ytjlalepbhcekoaa
namespace Go.Proofs.Ytjlalepbhcekoaa
open Go Go.Ab
theorem ownBook_eq (b:Book) (h:BkI b):impl_ownBook b=some (b.Day,b.Cash,b.Tallies):=by
  have h1:=h.cn
  have h2:=h.tn
  unfold impl_ownBook slices_Clone_int64 slices_Clone_Tally
  rw [app_some (by simp only [List.length_nil]; omega) (by decide),app_some (by simp only [List.length_nil]; omega) (by decide)]
  simp
theorem l07Copy_eq (b:Book) (h:BkI b):spec_l07Copy b=some (b.Day,b.Cash,b.Tallies):=by
  have h1:=h.cn
  have h2:=h.tn
  unfold spec_l07Copy
  rw [app_some (by simp only [List.length_nil]; omega) (by decide),app_some (by simp only [List.length_nil]; omega) (by decide)]
  simp
theorem personD (n:Nat) (hn:n≤16) (x:Int) (h:0≤x):spec_l02Person (n:Int) x=some (decide (x < n)):=by
  rw [l02Person_eq _ _ (by omega)]
  unfold personB
  simp [h]
abbrev DoR:=Int⊕(Int×(List Int)×(List Tally))
def DoI (n:Nat) (r:DoR):Prop:=(∀ x,r = .inl x→x≠0)∧∀ d c t,r = .inr (d,c,t)→BkI ⟨d,c,t⟩∧c.length=n
theorem DoI.l {n:Nat} {x:Int} (h:x≠0:=by decide):DoI n (.inl x):=⟨fun _ e=>by cases e; exact h,fun _ _ _ h=>by cases h⟩
theorem DoI.r {n:Nat} {v:Int×(List Int)×(List Tally)} (h:∀ d c t,(.inr v:DoR) = .inr (d,c,t)→BkI ⟨d,c,t⟩∧c.length=n):DoI n (.inr v):=⟨fun _ e=>(by cases e),h⟩
def DoS (b:Book) (d:Deal):Prop:=∃ r,impl_do b d=some r∧spec_l07Do b d=some r∧DoI b.Cash.length r
theorem do_cut (b:Book) (d:Deal) (hb:BkI b) (hk:d.Kind=1) (hf:0≤d.From) (ht:0≤d.To) (ha:0≤d.Amount∧d.Amount≤100000000):DoS b d:=by
  have hu:impl_uses 1=some (false,true,true,true):=by simp [impl_uses]
  have p1:=personD b.Cash.length hb.cn d.From hf
  have p2:=personD b.Cash.length hb.cn d.To ht
  by_cases c0:d.Day < b.Day
  · exact ⟨.inl 4,by simp [impl_do,c0],by simp [spec_l07Do,spec_l07Refused,c0],.l⟩
  by_cases c1:d.From < b.Cash.length
  · have c1':¬ (b.Cash.length:Int)≤d.From:=by omega
    by_cases c2:d.To < b.Cash.length
    · have c2':¬ (b.Cash.length:Int)≤d.To:=by omega
      by_cases c3:d.From=d.To
      · have c3':¬ (b.Cash.length:Int)≤d.To:=c2'
        exact ⟨.inl 4,by simp [impl_do,c0,hu,hk,c1',c2',c3],by simp [spec_l07Do,spec_l07Refused,c0,p1,p2,c1,c2,c3,hk],.l⟩
      · have c3':(d.From==d.To)=false:=by simpa using c3
        by_cases c4:b.Tallies.length=40
        · exact ⟨.inl 3,by simp [impl_do,c0,hu,hk,c1',c2',c3',ownBook_eq b hb,c4],by simp [spec_l07Do,spec_l07Refused,c0,p1,p2,c1,c2,c3,hk,c4],.l⟩
        · have h4:=hb.tn
          have c5:¬ (b.Tallies.length:Int)=40:=by omega
          have ap:app 40 b.Tallies [⟨d.From,d.To,d.Day,d.Amount,d.Amount⟩]=some (b.Tallies++[⟨d.From,d.To,d.Day,d.Amount,d.Amount⟩]):=app_some (by simp; omega) (by simp)
          refine ⟨.inr (d.Day,b.Cash,b.Tallies++[⟨d.From,d.To,d.Day,d.Amount,d.Amount⟩]),by simp [impl_do,c0,hu,hk,c1',c2',c3',ownBook_eq b hb,c5,ap],by simp [spec_l07Do,spec_l07Refused,c0,p1,p2,c1,c2,c3,hk,c5,l07Copy_eq b hb,ap],.r fun _ _ _ h=>?_⟩
          cases h
          refine ⟨⟨hb.c1,hb.cn,by simp; omega,hb.ca,fun t ht'=>?_⟩,rfl⟩
          rcases List.mem_append.1 ht' with h | h
          · exact hb.ta t h
          · obtain rfl:=List.mem_singleton.1 h
            exact ⟨⟨hf,c1⟩,⟨ht,c2⟩,ha,fun e=>absurd e c3⟩
    · have c2':(b.Cash.length:Int)≤d.To:=by omega
      exact ⟨.inl 2,by simp [impl_do,c0,hu,hk,c1',c2'],by simp [spec_l07Do,spec_l07Refused,c0,p1,p2,c1,c2],.l⟩
  · have c1':(b.Cash.length:Int)≤d.From:=by omega
    exact ⟨.inl 2,by simp [impl_do,c0,hu,hk,c1'],by simp [spec_l07Do,spec_l07Refused,c0,p1,p2,c1],.l⟩
theorem BkI.set {b:Book} (hb:BkI b) (day:Int) (c:List Int) (hc:c.length=b.Cash.length) (hca:∀ x ∈ c,0≤x∧x≤100000000) (i:Nat) (t:Tally) (ht:TlI b.Cash.length t):BkI ⟨day,c,b.Tallies.set i t⟩:=by
  refine ⟨by simpa [hc] using hb.c1,by simpa [hc] using hb.cn,by simpa using hb.tn,hca,fun x hx=>?_⟩
  rcases List.mem_or_eq_of_mem_set hx with h | rfl
  · simpa [hc] using hb.ta x h
  · simpa [hc] using ht
theorem do_pass (b:Book) (d:Deal) (hb:BkI b) (hk:d.Kind=2) (hf:0≤d.From) (ht:0≤d.To) (hi:0≤d.Tally) (ha:d.Amount=0):DoS b d:=by
  have hu:impl_uses 2=some (true,true,true,false):=by simp [impl_uses]
  have p1:=personD b.Cash.length hb.cn d.From hf
  have p2:=personD b.Cash.length hb.cn d.To ht
  by_cases c0:d.Day < b.Day
  · exact ⟨.inl 4,by simp [impl_do,c0],by simp [spec_l07Do,spec_l07Refused,c0],.l⟩
  by_cases c1:d.From < b.Cash.length
  · have c1':¬ (b.Cash.length:Int)≤d.From:=by omega
    by_cases c2:d.To < b.Cash.length
    · have c2':¬ (b.Cash.length:Int)≤d.To:=by omega
      by_cases c3:d.Tally < b.Tallies.length
      · have c3':¬ (b.Tallies.length:Int)≤d.Tally:=by omega
        obtain ⟨i,hi'⟩:∃ i:Nat,d.Tally=i:=⟨d.Tally.toNat,by omega⟩
        have hlt:i < b.Tallies.length:=by omega
        have hr:rd b.Tallies d.Tally=some b.Tallies[i]:=by rw [hi',rd_coe,List.getElem?_eq_getElem hlt]
        obtain ⟨t1,t2,t3,t4⟩:=hb.ta _ (List.getElem_mem hlt)
        have ow:=ownBook_eq b hb
        have cp:=l07Copy_eq b hb
        revert hr t1 t2 t3 t4
        generalize b.Tallies[i]=t
        intro hr t1 t2 t3 t4
        by_cases c4:d.From=d.To
        · exact ⟨.inl 4,by simp [impl_do,c0,hu,hk,c1',c2',c3',c4],by simp [spec_l07Do,spec_l07Refused,c0,p1,p2,c1,c2,c3',c4,hk,hr],.l⟩
        · have c4':(d.From==d.To)=false:=by simpa using c4
          by_cases c5:t.Holder=d.From
          · by_cases c6:t.Left=0
            · exact ⟨.inl 4,by simp [impl_do,c0,hu,hk,c1',c2',c3',c4',ow,hr,c5,c6],by simp [spec_l07Do,spec_l07Refused,c0,p1,p2,c1,c2,c3',c4,hk,hr,c5,c6],.l⟩
            · have c7:¬ d.Amount > t.Left:=by omega
              by_cases c8:t.Debtor=d.To
              · refine ⟨.inr (d.Day,b.Cash,b.Tallies.set d.Tally.toNat ⟨t.Debtor,d.To,t.Cut,t.Amount,0⟩),?_,?_,.r fun _ _ _ h=>?_⟩
                · simp [impl_do,c0,hu,hk,c1',c2',c3',c4',ow,hr,c5,c6,c8]
                · simp [spec_l07Do,spec_l07Refused,c0,p1,p2,c1,c2,c3',c4,hk,hr,c5,c6,c7,c8,cp]
                · cases h
                  exact ⟨hb.set _ _ rfl hb.ca _ _ ⟨t1,⟨ht,c2⟩,by simp,fun _=>rfl⟩,rfl⟩
              · have c9:¬ d.To=t.Debtor:=fun h=>c8 h.symm
                refine ⟨.inr (d.Day,b.Cash,b.Tallies.set d.Tally.toNat ⟨t.Debtor,d.To,t.Cut,t.Amount,t.Left⟩),?_,?_,.r fun _ _ _ h=>?_⟩
                · simp [impl_do,c0,hu,hk,c1',c2',c3',c4',ow,hr,c5,c6,c9]
                · simp [spec_l07Do,spec_l07Refused,c0,p1,p2,c1,c2,c3',c4,hk,hr,c5,c6,c7,c9,cp]
                · cases h
                  exact ⟨hb.set _ _ rfl hb.ca _ _ ⟨t1,⟨ht,c2⟩,t3,fun e=>absurd e c8⟩,rfl⟩
          · have c5':¬ d.From=t.Holder:=fun h=>c5 h.symm
            exact ⟨.inl 4,by simp [impl_do,c0,hu,hk,c1',c2',c3',c4',ow,hr,c5'],by simp [spec_l07Do,spec_l07Refused,c0,p1,p2,c1,c2,c3',c4,hk,hr,c5'],.l⟩
      · have c3':(b.Tallies.length:Int)≤d.Tally:=by omega
        exact ⟨.inl 2,by simp [impl_do,c0,hu,hk,c1',c2',c3'],by simp [spec_l07Do,spec_l07Refused,c0,p1,p2,c1,c2,c3',hk],.l⟩
    · have c2':(b.Cash.length:Int)≤d.To:=by omega
      exact ⟨.inl 2,by simp [impl_do,c0,hu,hk,c1',c2'],by simp [spec_l07Do,spec_l07Refused,c0,p1,p2,c1,c2],.l⟩
  · have c1':(b.Cash.length:Int)≤d.From:=by omega
    exact ⟨.inl 2,by simp [impl_do,c0,hu,hk,c1'],by simp [spec_l07Do,spec_l07Refused,c0,p1,p2,c1],.l⟩
theorem do_end (b:Book) (d:Deal) (hb:BkI b) (hk:d.Kind=4) (hf:0≤d.From) (ht:d.To=0) (hi:0≤d.Tally) (ha:d.Amount=0):DoS b d:=by
  have hu:impl_uses 4=some (true,true,false,false):=by simp [impl_uses]
  have p1:=personD b.Cash.length hb.cn d.From hf
  have p2:=personD b.Cash.length hb.cn d.To (by omega)
  have hc1:=hb.c1
  have c2:d.To < b.Cash.length:=by omega
  by_cases c0:d.Day < b.Day
  · exact ⟨.inl 4,by simp [impl_do,c0],by simp [spec_l07Do,spec_l07Refused,c0],.l⟩
  by_cases c1:d.From < b.Cash.length
  · have c1':¬ (b.Cash.length:Int)≤d.From:=by omega
    by_cases c3:d.Tally < b.Tallies.length
    · have c3':¬ (b.Tallies.length:Int)≤d.Tally:=by omega
      obtain ⟨i,hi'⟩:∃ i:Nat,d.Tally=i:=⟨d.Tally.toNat,by omega⟩
      have hlt:i < b.Tallies.length:=by omega
      have hr:rd b.Tallies d.Tally=some b.Tallies[i]:=by rw [hi',rd_coe,List.getElem?_eq_getElem hlt]
      obtain ⟨t1,t2,t3,t4⟩:=hb.ta _ (List.getElem_mem hlt)
      have ow:=ownBook_eq b hb
      have cp:=l07Copy_eq b hb
      revert hr t1 t2 t3 t4
      generalize b.Tallies[i]=t
      intro hr t1 t2 t3 t4
      by_cases c5:t.Holder=d.From
      · by_cases c6:t.Left=0
        · exact ⟨.inl 4,by simp [impl_do,c0,hu,hk,c1',c3',ow,hr,c5,c6],by simp [spec_l07Do,spec_l07Refused,c0,p1,p2,c1,c2,c3',hk,hr,c5,c6],.l⟩
        · have c7:¬ d.Amount > t.Left:=by omega
          refine ⟨.inr (d.Day,b.Cash,b.Tallies.set d.Tally.toNat ⟨t.Debtor,t.Holder,t.Cut,t.Amount,0⟩),?_,?_,.r fun _ _ _ h=>?_⟩
          · simp [impl_do,c0,hu,hk,c1',c3',ow,hr,c5,c6]
          · simp [spec_l07Do,spec_l07Refused,c0,p1,p2,c1,c2,c3',hk,hr,c5,c6,c7,cp]
          · cases h
            exact ⟨hb.set _ _ rfl hb.ca _ _ ⟨t1,t2,by simp,fun _=>rfl⟩,rfl⟩
      · have c5':¬ d.From=t.Holder:=fun h=>c5 h.symm
        exact ⟨.inl 4,by simp [impl_do,c0,hu,hk,c1',c3',ow,hr,c5'],by simp [spec_l07Do,spec_l07Refused,c0,p1,p2,c1,c2,c3',hk,hr,c5'],.l⟩
    · have c3':(b.Tallies.length:Int)≤d.Tally:=by omega
      exact ⟨.inl 2,by simp [impl_do,c0,hu,hk,c1',c3'],by simp [spec_l07Do,spec_l07Refused,c0,p1,p2,c1,c2,c3',hk],.l⟩
  · have c1':(b.Cash.length:Int)≤d.From:=by omega
    exact ⟨.inl 2,by simp [impl_do,c0,hu,hk,c1'],by simp [spec_l07Do,spec_l07Refused,c0,p1,p2,c1],.l⟩
theorem do_pay (b:Book) (d:Deal) (hb:BkI b) (hk:d.Kind=3) (hf:d.From=0) (ht:d.To=0) (hi:0≤d.Tally) (ha:1≤d.Amount∧d.Amount≤100000000):DoS b d:=by
  have hu:impl_uses 3=some (true,false,false,true):=by simp [impl_uses]
  have p1:=personD b.Cash.length hb.cn d.From (by omega)
  have p2:=personD b.Cash.length hb.cn d.To (by omega)
  have hc1:=hb.c1
  have c1:d.From < b.Cash.length:=by omega
  have c2:d.To < b.Cash.length:=by omega
  by_cases c0:d.Day < b.Day
  · exact ⟨.inl 4,by simp [impl_do,c0],by simp [spec_l07Do,spec_l07Refused,c0],.l⟩
  by_cases c3:d.Tally < b.Tallies.length
  · have c3':¬ (b.Tallies.length:Int)≤d.Tally:=by omega
    obtain ⟨i,hi'⟩:∃ i:Nat,d.Tally=i:=⟨d.Tally.toNat,by omega⟩
    have hlt:i < b.Tallies.length:=by omega
    have hr:rd b.Tallies d.Tally=some b.Tallies[i]:=by rw [hi',rd_coe,List.getElem?_eq_getElem hlt]
    obtain ⟨t1,t2,t3,t4⟩:=hb.ta _ (List.getElem_mem hlt)
    have ow:=ownBook_eq b hb
    have cp:=l07Copy_eq b hb
    revert hr t1 t2 t3 t4
    generalize b.Tallies[i]=t
    intro hr t1 t2 t3 t4
    by_cases c6:t.Left=0
    · exact ⟨.inl 4,by simp [impl_do,c0,hu,hk,c3',ow,hr,c6],by simp [spec_l07Do,spec_l07Refused,c0,p1,p2,c1,c2,c3',hk,hr,c6],.l⟩
    by_cases c7:d.Amount > t.Left
    · exact ⟨.inl 4,by simp [impl_do,c0,hu,hk,c3',ow,hr,c6,c7],by simp [spec_l07Do,spec_l07Refused,c0,p1,p2,c1,c2,c3',hk,hr,c6,c7],.l⟩
    obtain ⟨j,hj⟩:∃ j:Nat,t.Debtor=j:=⟨t.Debtor.toNat,by omega⟩
    obtain ⟨k,hk'⟩:∃ k:Nat,t.Holder=k:=⟨t.Holder.toNat,by omega⟩
    have hjl:j < b.Cash.length:=by omega
    have hkl:k < b.Cash.length:=by omega
    have hjk:¬ j=k:=fun e=>c6 (t4 (by omega))
    have rj:rd b.Cash t.Debtor=some b.Cash[j]:=by rw [hj,rd_coe,List.getElem?_eq_getElem hjl]
    have rk:rd b.Cash t.Holder=some b.Cash[k]:=by rw [hk',rd_coe,List.getElem?_eq_getElem hkl]
    have aj:=hb.ca _ (List.getElem_mem hjl)
    have ak:=hb.ca _ (List.getElem_mem hkl)
    have rk2:∀ x,rd (b.Cash.set t.Debtor.toNat x) t.Holder=some b.Cash[k]:=fun x=>by
      rw [hk',rd_coe,hj,Int.toNat_natCast,List.getElem?_set_ne hjk,List.getElem?_eq_getElem hkl]
    have rk3:∀ x y,rd ((b.Cash.set t.Debtor.toNat x).set t.Holder.toNat y) t.Holder=some y:=fun x y=>by
      rw [hk',rd_coe,Int.toNat_natCast,List.getElem?_set_self (by simpa using hkl)]
    have hca:∀ x ∈ (b.Cash.set t.Debtor.toNat (b.Cash[j] - d.Amount)).set t.Holder.toNat (b.Cash[k] + d.Amount),¬ b.Cash[j] < d.Amount→¬ b.Cash[k] + d.Amount > 100000000→0≤x∧x≤100000000:=fun x hx g1 g2=>by
      rcases List.mem_or_eq_of_mem_set hx with h | rfl
      · rcases List.mem_or_eq_of_mem_set h with h | rfl
        · exact hb.ca x h
        · omega
      · omega
    revert rj rk aj ak rk2 hca
    generalize b.Cash[j]=u
    generalize b.Cash[k]=v
    intro rj rk aj ak rk2 hca
    have w1:IntKind.i64.wrap (u - d.Amount)=u - d.Amount:=w64 (by omega)
    have w2:IntKind.i64.wrap (v + d.Amount)=v + d.Amount:=w64 (by omega)
    have w3:IntKind.i64.wrap (t.Left - d.Amount)=t.Left - d.Amount:=w64 (by omega)
    by_cases c8:u < d.Amount
    · exact ⟨.inl 8,by simp [impl_do,c0,hu,hk,c3',ow,hr,c6,c7,rj,c8],by simp [spec_l07Do,spec_l07Refused,c0,p1,p2,c1,c2,c3',hk,hr,c6,c7,rj,c8],.l⟩
    by_cases c9:v + d.Amount > 100000000
    · exact ⟨.inl 3,by simp [impl_do,c0,hu,hk,c3',ow,hr,c6,c7,rj,c8,rk2,rk3,w1,w2,c9],by simp [spec_l07Do,spec_l07Refused,c0,p1,p2,c1,c2,c3',hk,hr,c6,c7,rj,c8,rk,w2,c9],.l⟩
    refine ⟨.inr (d.Day,(b.Cash.set t.Debtor.toNat (u - d.Amount)).set t.Holder.toNat (v + d.Amount),b.Tallies.set d.Tally.toNat ⟨t.Debtor,t.Holder,t.Cut,t.Amount,t.Left - d.Amount⟩),?_,?_,.r fun _ _ _ h=>?_⟩
    · simp [impl_do,c0,hu,hk,c3',ow,hr,c6,c7,rj,c8,rk2,rk3,w1,w2,w3,c9]
    · simp [spec_l07Do,spec_l07Refused,c0,p1,p2,c1,c2,c3',hk,hr,c6,c7,rj,c8,rk,rk2,w1,w2,w3,c9,cp]
    · cases h
      exact ⟨hb.set _ _ (by simp) (fun x hx=>hca x hx c8 c9) _ _ ⟨t1,t2,⟨by simp; omega,by simp; omega⟩,fun e=>absurd (t4 e) c6⟩,by simp⟩
  · have c3':(b.Tallies.length:Int)≤d.Tally:=by omega
    exact ⟨.inl 2,by simp [impl_do,c0,hu,hk,c3'],by simp [spec_l07Do,spec_l07Refused,c0,p1,p2,c1,c2,c3',hk],.l⟩
theorem do_same (b:Book) (d:Deal) (hb:BkI b) (hd:dealB d=true):DoS b d:=by
  unfold dealB at hd
  simp only [Bool.and_eq_true,Bool.or_eq_true,beq_iff_eq,inB_iff] at hd
  obtain ⟨_,((h | h) | h) | h⟩:=hd
  · obtain ⟨⟨⟨⟨h1,h2⟩,h3⟩,h4⟩,h5⟩:=h
    exact do_cut b d hb h1 h3.1 h4.1 ⟨by omega,h5.2⟩
  · obtain ⟨⟨⟨⟨h1,h2⟩,h3⟩,h4⟩,h5⟩:=h
    exact do_pass b d hb h1 h3.1 h4.1 h2.1 h5
  · obtain ⟨⟨⟨⟨h1,h2⟩,h3⟩,h4⟩,h5⟩:=h
    exact do_pay b d hb h1 h3 h4 h2.1 h5
  · obtain ⟨⟨⟨⟨h1,h2⟩,h3⟩,h4⟩,h5⟩:=h
    exact do_end b d hb h1 h3.1 h4 h2.1 h5
end Go.Proofs.Ytjlalepbhcekoaa
namespace Go.Proofs.Ytjlalepbhcekoaa
open Go Go.Ab
def BksI (n:Nat) (out:List Book):Prop:=∀ x ∈ out,BkI x∧x.Cash.length=n
def LastI (b:Book) (s:Book) (out:List Book):Prop:=(out=[]∧s=b)∨out.getLast? = some s
theorem books_loop (xs:List Deal) (b:Book) (hb:BkI b) (hx:∀ d ∈ xs,dealB d=true) (hn:xs.length≤80) :
    ∃ r r2,Lw (impl_books_b1 xs) (0,b.Day,b.Cash,b.Tallies,[])=some r∧Lw (spec_l07All_b1 xs) (0,b.Day,b.Cash,b.Tallies,[])=some r2 ∧
      ((∃ c out,r = .inl (c,out)∧r2 = .inl (c,(out.length:Int))∧c≠0∧out.length≤80∧BksI b.Cash.length out) ∨
        ∃ d cs ts out,r = .inr (d,cs,ts,out)∧r2 = .inr (d,cs,ts,out)∧out.length=xs.length∧BkI ⟨d,cs,ts⟩∧cs.length=b.Cash.length∧BksI b.Cash.length out∧LastI b ⟨d,cs,ts⟩ out):=by
  refine Lw_sim (tb:=impl_books_b1 xs) (tb2:=spec_l07All_b1 xs) (fun s=>xs.length - s.1.toNat)
    (fun s s2=>s=s2∧∃ i:Nat,s.1=i∧i≤xs.length∧s.2.2.2.2.length=i∧BkI ⟨s.2.1,s.2.2.1,s.2.2.2.1⟩∧s.2.2.1.length=b.Cash.length∧BksI b.Cash.length s.2.2.2.2∧LastI b ⟨s.2.1,s.2.2.1,s.2.2.2.1⟩ s.2.2.2.2) _ ?_ _ _ _ rfl
    ⟨rfl,0,rfl,by omega,rfl,hb,rfl,fun x h=>(nomatch h),.inl ⟨rfl,rfl⟩⟩
  rintro ⟨j,d,cs,ts,out⟩ s2 ⟨rfl,i,hi,hil,hol,hbk,hcl,hbs,hla⟩
  simp only at hi hol hbk hcl hbs hla
  subst hi
  by_cases hlt:i < xs.length
  · obtain ⟨q,e1,e2,e3⟩:=do_same ⟨d,cs,ts⟩ xs[i] hbk (hx _ (List.getElem_mem hlt))
    have hr:rd xs (i:Int)=some xs[i]:=by rw [rd_coe,List.getElem?_eq_getElem hlt]
    rcases q with q | ⟨d',cs',ts'⟩
    · have h0:q≠0:=e3.1 q rfl
      exact .inr ⟨.inl (q,out),.inl (q,(i:Int)),by simp [impl_books_b1,hr,hlt,e1,h0],by simp [spec_l07All_b1,hr,hlt,e2,h0],.inl ⟨q,out,rfl,by rw [hol],h0,by omega,hbs⟩⟩
    · obtain ⟨g1,g2⟩:=e3.2 _ _ _ rfl
      have ap:app 56 out [⟨d',cs',ts'⟩]=some (out++[⟨d',cs',ts'⟩]):=app_some (by simp; omega) (by decide)
      have w:=w64s hlt (by omega)
      refine .inl ⟨(((i + 1:Nat):Int),d',cs',ts',out++[⟨d',cs',ts'⟩]),_,by simp [impl_books_b1,hr,hlt,e1,ap,w],by simp [spec_l07All_b1,hr,hlt,e2,ap,w],⟨rfl,i + 1,rfl,by omega,by simp [hol],g1,by simpa [hcl] using g2,fun x hx'=>?_,.inr (by simp)⟩,by simp; omega⟩
      rcases List.mem_append.1 hx' with h | h
      · exact hbs x h
      · obtain rfl:=List.mem_singleton.1 h
        exact ⟨g1,by simpa [hcl] using g2⟩
  · have hie:i=xs.length:=by omega
    exact .inr ⟨.inr (d,cs,ts,out),.inr (d,cs,ts,out),by simp [impl_books_b1,hlt],by simp [spec_l07All_b1,hlt],.inr ⟨d,cs,ts,out,rfl,rfl,by omega,hbk,hcl,hbs,hla⟩⟩
def BooksS (b:Book) (xs:List Deal):Prop:=
  (∃ c out,impl_books b xs=some (out,c)∧spec_l07All b xs=some ([],c,(out.length:Int))∧c≠0∧out.length≤80∧BksI b.Cash.length out) ∨
    ∃ s out,impl_books b xs=some (out,0)∧spec_l07All b xs=some (out,0,0)∧out.length=xs.length∧BkI s∧s.Cash.length=b.Cash.length∧BksI b.Cash.length out∧LastI b s out
theorem books_same (xs:List Deal) (b:Book) (hb:BkI b) (hx:∀ d ∈ xs,dealB d=true) (hn:xs.length≤80):BooksS b xs:=by
  obtain ⟨r,r2,e1,e2,h⟩:=books_loop xs b hb hx hn
  rcases h with ⟨c,out,rfl,rfl,h⟩ | ⟨d,cs,ts,out,rfl,rfl,h⟩
  · exact .inl ⟨c,out,by unfold impl_books; rw [e1]; rfl,by unfold spec_l07All; rw [l07Copy_eq b hb,Option.bind_some]; simp only; rw [e2]; rfl,h⟩
  · exact .inr ⟨⟨d,cs,ts⟩,out,by unfold impl_books; rw [e1]; rfl,by unfold spec_l07All; rw [l07Copy_eq b hb,Option.bind_some]; simp only; rw [e2]; rfl,h⟩
def askC (b:Book) (xs:List Deal):Int:=if bookB b && xs.all dealB then if (80:Int) < (xs.length:Int) then 3 else 0 else 1
theorem dealsCode_eq (b:Book) (xs:List Deal) (hc:b.Cash.length≤4611686018427387904) (ht:b.Tallies.length≤4611686018427387904) (hx:xs.length≤4611686018427387904):impl_dealsCode b xs=some (askC b xs):=by
  unfold impl_dealsCode askC
  rw [validBook_eq b hc ht,areDeals_eq xs hx]
  cases bookB b <;> cases xs.all dealB <;> simp <;> split <;> rfl
theorem l07Asked_eq (b:Book) (xs:List Deal) (hc:b.Cash.length≤4611686018427387904) (ht:b.Tallies.length≤4611686018427387904) (hx:xs.length≤4611686018427387904):spec_l07Asked b xs=some (askC b xs):=by
  unfold spec_l07Asked askC
  rw [l07Ok_eq b hc ht,l07Deals_eq xs hx]
  cases bookB b <;> cases xs.all dealB <;> simp <;> split <;> rfl
theorem asked {b:Book} {xs:List Deal} (h:askC b xs=0):BkI b∧(∀ d ∈ xs,dealB d=true)∧xs.length≤80:=by
  unfold askC at h
  split at h
  · rename_i h1
    simp only [Bool.and_eq_true,List.all_eq_true] at h1
    split at h
    · omega
    · exact ⟨.of h1.1,h1.2,by omega⟩
  · omega
end Go.Proofs.Ytjlalepbhcekoaa
namespace Go.Proofs.Ytjlalepbhcekoaa
open Go Go.Ab
theorem find_loop {τ R:Type} {tb:Int→Option (Int⊕R)} (p:τ→Bool) (xs:List τ) (hit:Nat→R) (miss:R)
    (h1:∀ (i:Nat) (h:i < xs.length),p xs[i]=false→tb (i:Int)=some (.inl ((i + 1:Nat):Int))) (h2:∀ (i:Nat) (h:i < xs.length),p xs[i]=true→tb (i:Int)=some (.inr (hit i))) (h3:tb (xs.length:Int)=some (.inr miss)) :
    Lw tb 0=some (if xs.findIdx p < xs.length then hit (xs.findIdx p) else miss):=by
  have key:=Lw_run (tb:=tb) (fun i=>(i:Int)) (xs.findIdx p) (r:=if xs.findIdx p < xs.length then hit (xs.findIdx p) else miss)
    (fun i hi=>h1 i (Nat.lt_of_lt_of_le hi List.findIdx_le_length) (by simpa using List.not_of_lt_findIdx hi))
    (by
      by_cases h:xs.findIdx p < xs.length
      · rw [if_pos h]; exact h2 _ h List.findIdx_getElem
      · rw [if_neg h]
        have:xs.findIdx p=xs.length:=Nat.le_antisymm List.findIdx_le_length (by omega)
        simp only [this]; exact h3)
  exact key
theorem day_idx (xs:List Deal) (day:Int) (hn:xs.length≤4611686018427387904) :
    slices_IndexFunc_Deal__impl_stateOn_1 xs day=some (if xs.findIdx (fun d=>decide (d.Day > day)) < xs.length then ((xs.findIdx fun d=>decide (d.Day > day):Nat):Int) else -1):=by
  unfold slices_IndexFunc_Deal__impl_stateOn_1
  have key:=find_loop (tb:=slices_IndexFunc_Deal__impl_stateOn_1_b1 xs day) (fun d=>decide (d.Day > day)) xs (fun i=>.inl (i:Int)) (.inr ())
    (by
      intro i h hp
      have w:=w64s h hn
      simp only [decide_eq_false_iff_not] at hp
      simp [slices_IndexFunc_Deal__impl_stateOn_1_b1,impl_stateOn_1,rd_coe,h,hp,w])
    (by
      intro i h hp
      simp only [decide_eq_true_eq] at hp
      simp [slices_IndexFunc_Deal__impl_stateOn_1_b1,impl_stateOn_1,rd_coe,h,hp])
    (by simp [slices_IndexFunc_Deal__impl_stateOn_1_b1])
  rw [key,Option.bind_some]
  by_cases h:xs.findIdx (fun d=>decide (d.Day > day)) < xs.length
  · rw [if_pos h,if_pos h]
  · rw [if_neg h,if_neg h]
theorem day_spec (xs:List Deal) (day:Int) (hn:xs.length≤4611686018427387904) :
    Lw (spec_l07State_b1 xs day) 0=some ((xs.findIdx fun d=>decide (d.Day > day):Nat):Int):=by
  have key:=find_loop (tb:=spec_l07State_b1 xs day) (fun d=>decide (d.Day > day)) xs (fun i=>(i:Int)) (xs.length:Int)
    (by
      intro i h hp
      have w:=w64s h hn
      simp only [decide_eq_false_iff_not] at hp
      have hp':xs[i].Day≤day:=by omega
      simp [spec_l07State_b1,rd_coe,h,hp',w])
    (by
      intro i h hp
      simp only [decide_eq_true_eq] at hp
      have hp':¬ xs[i].Day≤day:=by omega
      simp [spec_l07State_b1,rd_coe,h,hp'])
    (by simp [spec_l07State_b1])
  rw [key]
  split
  · rfl
  · have:xs.findIdx (fun d=>decide (d.Day > day))=xs.length:=Nat.le_antisymm List.findIdx_le_length (by omega)
    rw [this]
theorem slc0 {τ:Type} (xs:List τ) (n:Nat) (h:n≤xs.length):slc xs 0 (n:Int)=some (xs.take n):=by
  unfold slc
  rw [if_pos ⟨by omega,by omega,by omega⟩]; simp
theorem rd_last {out:List Book} {s:Book} (h:out.getLast? = some s) (hn:out.length≤4611686018427387904):rd out (IntKind.i64.wrap ((out.length:Int) - 1))=some s:=by
  have h0:out≠[]:=fun e=>by subst e; cases h
  have hp:0 < out.length:=List.length_pos_iff.2 h0
  rw [w64 (by omega),show ((out.length:Int) - 1)=((out.length - 1:Nat):Int) by omega,rd_coe,← List.getLast?_eq_getElem?,h]
def BehS (b:Book) (xs:List Deal):Prop:=
  (∃ c k,c≠0∧impl_behind b xs=some (.inl c)∧spec_l07All b xs=some ([],c,k)) ∨
    ∃ s out,BkI s∧s.Cash.length=b.Cash.length∧impl_behind b xs=some (.inr (s.Day,s.Cash,s.Tallies))∧spec_l07All b xs=some (out,0,0)∧out.length=xs.length∧LastI b s out
theorem behind_same (xs:List Deal) (b:Book) (hb:BkI b) (hx:∀ d ∈ xs,dealB d=true) (hn:xs.length≤80):BehS b xs:=by
  rcases books_same xs b hb hx hn with ⟨c,out,e1,e2,e3,_⟩ | ⟨s,out,e1,e2,e3,e4,e5,e6,e7⟩
  · exact .inl ⟨c,_,e3,by unfold impl_behind; rw [e1]; simp [e3],e2⟩
  · refine .inr ⟨s,out,e4,e5,?_,e2,e3,e7⟩
    unfold impl_behind
    rw [e1]
    rcases e7 with ⟨rfl,rfl⟩ | h
    · simp [ownBook_eq s hb]
    · have h0:out≠[]:=fun e=>by subst e; cases h
      have hr:=rd_last h (by omega)
      simp [h0,hr]
end Go.Proofs.Ytjlalepbhcekoaa
namespace Go.Proofs.Ytjlalepbhcekoaa
open Go Go.Ab
def Bys (c:List Int):Prop:=c.length≤4611686018427387904∧∀ x ∈ c,0≤x∧x≤255
theorem iand255_in (n:Int):0≤IntKind.i64.wrap (iand .u64 n 255)∧IntKind.i64.wrap (iand .u64 n 255)≤255:=by
  have h1:(BitVec.ofInt IntKind.u64.bits n &&& BitVec.ofInt IntKind.u64.bits 255).toNat≤255:=by
    rw [BitVec.toNat_and]
    exact Nat.le_trans Nat.and_le_right (by decide)
  have h2:iand .u64 n 255=((BitVec.ofInt IntKind.u64.bits n &&& BitVec.ofInt IntKind.u64.bits 255).toNat:Int):=by
    unfold iand
    exact IntWalk.u64_in _ ⟨by omega,by omega⟩
  rw [h2,w64 (by omega)]
  omega
theorem shr40 (n:Int):∃ m,shr .u64 n 40=some m:=by
  unfold shr
  rw [if_neg (by decide)]
  exact ⟨_,rfl⟩
theorem next_ok (c:List Int) (hc:Bys c) (a s:Int) (h0:0≤a) (h1:a≤4611686018427387904):∃ x s',spec_l00Src_next_p c a s=some (x,c,a + 1,s')∧0≤x∧x≤255:=by
  have w:IntKind.i64.wrap (a + 1)=a + 1:=w64 (by omega)
  unfold spec_l00Src_next_p
  by_cases c1:a < c.length
  · have hr:=rd_in (xs:=c) h0 c1
    have hx:=hc.2 _ (List.getElem_mem (show a.toNat < c.length by omega))
    have wx:IntKind.i64.wrap c[a.toNat]=c[a.toNat]:=w64 (by omega)
    by_cases c2:a + 1≤c.length
    · exact ⟨c[a.toNat],_,by simp only [c1,decide_true,if_true,hr,Option.bind_some,w,c2,wx]; rfl,hx⟩
    · omega
  · by_cases c2:a + 1≤c.length
    · exact ⟨0,_,by simp only [c1,decide_false,Bool.false_eq_true,if_false,w,c2,decide_true,if_true]; rfl,by omega,by omega⟩
    · obtain ⟨m,hm⟩:=shr40 (IntKind.u64.wrap ((IntKind.u64.wrap ((IntKind.u64.wrap (s * 6364136223846793005)) + 0)) + 1442695040888963407))
      exact ⟨_,_,by simp only [c1,decide_false,Bool.false_eq_true,if_false,w,c2,hm,Option.bind_some]; rfl,iand255_in m⟩
theorem pick_ok (c:List Int) (hc:Bys c) (a s n:Int) (h0:0≤a) (h1:a≤1000000000000) (hn:n≤9223372036854775807) :
    ∃ x a' s',spec_l00Src_pick_p c a s n=some (x,c,a',s')∧0≤x∧(1≤n→x < n)∧x≤65535∧a≤a'∧a'≤a + 2∧(n≤200→x≤255):=by
  unfold spec_l00Src_pick_p
  by_cases c1:n≤1
  · exact ⟨0,a,s,by simp [c1],by omega,by omega,by omega,by omega,by omega,by omega⟩
  · obtain ⟨x,s1,e1,g1,g2⟩:=next_ok c hc a s h0 (by omega)
    have n0:¬ n=0:=by omega
    by_cases c2:n > 200
    · obtain ⟨y,s2,e2,k1,k2⟩:=next_ok c hc (a + 1) s1 (by omega) (by omega)
      have w1:IntKind.i64.wrap (x * 256)=x * 256:=w64 (by omega)
      have w2:IntKind.i64.wrap (x * 256 + y)=x * 256 + y:=w64 (by omega)
      have hr:rem .i64 (x * 256 + y) n=some ((x * 256 + y).tmod n):=by unfold rem; rw [if_neg n0]
      have hm:(x * 256 + y).tmod n=(x * 256 + y) % n:=Int.tmod_eq_emod_of_nonneg (by omega)
      have m1:=Int.emod_nonneg (x * 256 + y) n0
      have m2:=Int.emod_lt_of_pos (x * 256 + y) (show 0 < n by omega)
      have m3:(x * 256 + y) % n≤x * 256 + y:=by
        have:=Int.emod_add_mul_ediv (x * 256 + y) n
        have h3:0≤n * ((x * 256 + y) / n):=Int.mul_nonneg (by omega) (Int.ediv_nonneg (by omega) (by omega))
        omega
      exact ⟨_,a + 1 + 1,s2,by simp only [c1,decide_false,Bool.false_eq_true,if_false,e1,Option.bind_some,c2,decide_true,if_true,e2,w1,w2,hr,hm],m1,fun _=>m2,by omega,by omega,by omega,by omega⟩
    · have hr:rem .i64 x n=some (x.tmod n):=by unfold rem; rw [if_neg n0]
      have hm:x.tmod n=x % n:=Int.tmod_eq_emod_of_nonneg g1
      have m1:=Int.emod_nonneg x n0
      have m2:=Int.emod_lt_of_pos x (show 0 < n by omega)
      have m3:x % n≤x:=by
        have:=Int.emod_add_mul_ediv x n
        have h3:0≤n * (x / n):=Int.mul_nonneg (by omega) (Int.ediv_nonneg g1 (by omega))
        omega
      exact ⟨_,a + 1,s1,by simp only [c1,decide_false,Bool.false_eq_true,if_false,e1,Option.bind_some,c2,hr,hm],m1,fun _=>m2,by omega,by omega,by omega,by omega⟩
theorem one_ok (c:List Int) (hc:Bys c) (a s n:Int) (h0:0≤a) (h1:a≤1000000000000) (hn:n≤9223372036854775807) :
    ∃ x a' s',spec_l00Src_one_p c a s n=some (x,c,a',s')∧a≤a'∧a'≤a + 2:=by
  obtain ⟨x,a',s',e,_,_,_,h2,h3,_⟩:=pick_ok c hc a s n h0 h1 hn
  exact ⟨x==0,a',s',by unfold spec_l00Src_one_p; rw [e]; rfl,h2,h3⟩
theorem from_eq (c:List Int):spec_l00From c=some ⟨c,0,0⟩:=rfl
theorem bys_of {c:List Int} (h:(okLs 1 (InR .u8)) c):Bys c:=by
  refine ⟨by have:=h.2.1; omega,fun x hx=>?_⟩
  have:=h.2.2 x hx
  simpa [InR,Lit.wf,IntKind.min,IntKind.max,IntKind.signed,IntKind.bits] using this
end Go.Proofs.Ytjlalepbhcekoaa
namespace Go.Proofs.Ytjlalepbhcekoaa
open Go Go.Ab
structure DrI (b:Book):Prop where
  ok:bookB b=true
  p2:2≤b.Cash.length
  p4:b.Cash.length≤4
  day:b.Day≤1000
theorem rem_in {x n:Int} (h:0≤x) (hn:0 < n):∃ y,rem .i64 x n=some y∧0≤y∧y < n:=by
  refine ⟨x.tmod n,by unfold rem; rw [if_neg (by omega)],?_⟩
  rw [Int.tmod_eq_emod_of_nonneg h]
  exact ⟨Int.emod_nonneg x (by omega),Int.emod_lt_of_pos x hn⟩
theorem nextDeal_ok (c:List Int) (hc:Bys c) (a s:Int) (h0:0≤a) (h1:a≤100000000000) (b:Book) (hb:DrI b) :
    ∃ d:Deal,∃ a' s',spec_l07NextDeal_pp c a s b.Day b.Cash b.Tallies=some (d.Day,d.Kind,d.Tally,d.From,d.To,d.Amount,c,a',s')∧dealB d=true∧b.Day≤d.Day∧d.Day≤b.Day + 3∧(d.Kind=1→d.Amount≤60)∧a≤a'∧a'≤a + 10:=by
  have hk:=BkI.of hb.ok
  have p2:=hb.p2
  have p4:=hb.p4
  have tn:=hk.tn
  have hday:0≤b.Day:=by
    have:=hb.ok
    unfold bookB at this
    simp only [Bool.and_eq_true] at this
    exact (inB_iff.1 this.1).1
  have hday2:=hb.day
  obtain ⟨x,a1,s1,e1,x1,x2,_,g1,g2,_⟩:=pick_ok c hc a s 4 h0 (by omega) (by omega)
  have x2:=x2 (by omega)
  have wd:IntKind.i64.wrap (b.Day + x)=b.Day + x:=w64 (by omega)
  have wl:IntKind.i64.wrap ((b.Cash.length:Int) - 1)=(b.Cash.length:Int) - 1:=w64 (by omega)
  have hone:∃ q a2 s2,(if ((b.Tallies.length:Int)==0)=true then some (true,c,a1,s1) else (spec_l00Src_one_p c a1 s1 3).bind fun (r73,r74,r75,r76)=>some (r73,r74,r75,r76))=some (q,c,a2,s2)∧a1≤a2∧a2≤a1 + 2∧(q=false→0 < b.Tallies.length):=by
    by_cases hz:b.Tallies.length=0
    · exact ⟨true,a1,s1,by simp [hz],by omega,by omega,fun h=>by cases h⟩
    · obtain ⟨q,a2,s2,e,k1,k2⟩:=one_ok c hc a1 s1 3 (by omega) (by omega) (by omega)
      exact ⟨q,a2,s2,by rw [if_neg (by simpa using hz),e]; rfl,k1,k2,fun _=>by omega⟩
  obtain ⟨q,a2,s2,e2,k1,k2,kt⟩:=hone
  unfold spec_l07NextDeal_pp
  rw [e1,Option.bind_some]
  simp only [e2,Option.bind_some,wd,wl]
  cases q with
  | true=>
    simp only [if_true]
    obtain ⟨y,a3,s3,e3,y1,y2,_,m1,m2,_⟩:=pick_ok c hc a2 s2 (b.Cash.length:Int) (by omega) (by omega) (by omega)
    have y2:=y2 (by omega)
    obtain ⟨z,a4,s4,e4,z1,z2,_,m3,m4,_⟩:=pick_ok c hc a3 s3 ((b.Cash.length:Int) - 1) (by omega) (by omega) (by omega)
    have z2:=z2 (by omega)
    have w1:IntKind.i64.wrap (y + 1)=y + 1:=w64 (by omega)
    have w2:IntKind.i64.wrap (y + 1 + z)=y + 1 + z:=w64 (by omega)
    obtain ⟨t,e5,t1,t2⟩:=rem_in (x:=y + 1 + z) (n:=(b.Cash.length:Int)) (by omega) (by omega)
    obtain ⟨u,a5,s5,e6,u1,u2,_,m5,m6,_⟩:=pick_ok c hc a4 s4 60 (by omega) (by omega) (by omega)
    have u2:=u2 (by omega)
    have w3:IntKind.i64.wrap (1 + u)=1 + u:=w64 (by omega)
    refine ⟨⟨b.Day + x,1,0,y,t,1 + u⟩,a5,s5,by simp only [e3,e4,w1,w2,e5,e6,w3,Option.bind_some],?_,by simp only; omega,by simp only; omega,fun _=>by simp only; omega,by omega,by omega⟩
    have i1:inB (b.Day + x) 0 100000=true:=inB_iff.2 ⟨by omega,by omega⟩
    have i2:inB y 0 15=true:=inB_iff.2 ⟨by omega,by omega⟩
    have i3:inB t 0 15=true:=inB_iff.2 ⟨by omega,by omega⟩
    have i4:inB (1 + u) 1 100000000=true:=inB_iff.2 ⟨by omega,by omega⟩
    simp [dealB,i1,i2,i3,i4]
  | false=>
    have kt:=kt rfl
    simp only [Bool.false_eq_true,if_false]
    obtain ⟨y,a3,s3,e3,y1,y2,_,m1,m2,_⟩:=pick_ok c hc a2 s2 (b.Tallies.length:Int) (by omega) (by omega) (by omega)
    have y2:=y2 (by omega)
    have hr:=rd_in (xs:=b.Tallies) y1 y2
    obtain ⟨t1,t2,t3,t4⟩:=hk.ta _ (List.getElem_mem (show y.toNat < b.Tallies.length by omega))
    revert hr t1 t2 t3 t4
    generalize b.Tallies[y.toNat]=t
    intro hr t1 t2 t3 t4
    have hrc:=rd_in (xs:=b.Cash) t1.1 t1.2
    have hca:=hk.ca _ (List.getElem_mem (show t.Debtor.toNat < b.Cash.length by omega))
    obtain ⟨z,a4,s4,e4,z1,z2,_,m3,m4,_⟩:=pick_ok c hc a3 s3 5 (by omega) (by omega) (by omega)
    have z2:=z2 (by omega)
    have i1:inB (b.Day + x) 0 100000=true:=inB_iff.2 ⟨by omega,by omega⟩
    have i2:inB y 0 39=true:=inB_iff.2 ⟨by omega,by omega⟩
    have i3:inB t.Holder 0 15=true:=inB_iff.2 ⟨by omega,by omega⟩
    have hz:(if (z==0)=true then some (z==0) else some (z==1))=some (decide (z≤1)):=by
      by_cases h:z=0
      · simp [h]
      · by_cases h':z=1
        · simp [h']
        · have:¬ z≤1:=by omega
          simp [h,h',this]
    simp only [e3,Option.bind_some,hr,e4,hz]
    by_cases cz:z≤1
    · simp only [cz,decide_true,if_true]
      obtain ⟨u,a5,s5,e5,u1,u2,_,m5,m6,_⟩:=pick_ok c hc a4 s4 ((b.Cash.length:Int) - 1) (by omega) (by omega) (by omega)
      have u2:=u2 (by omega)
      have w1:IntKind.i64.wrap (t.Holder + 1)=t.Holder + 1:=w64 (by omega)
      have w2:IntKind.i64.wrap (t.Holder + 1 + u)=t.Holder + 1 + u:=w64 (by omega)
      obtain ⟨v,e6,v1,v2⟩:=rem_in (x:=t.Holder + 1 + u) (n:=(b.Cash.length:Int)) (by omega) (by omega)
      refine ⟨⟨b.Day + x,2,y,t.Holder,v,0⟩,a5,s5,by simp only [e5,w1,w2,e6,Option.bind_some],?_,by simp only; omega,by simp only; omega,fun h=>by simp at h,by omega,by omega⟩
      have i4:inB v 0 15=true:=inB_iff.2 ⟨by omega,by omega⟩
      simp [dealB,i1,i2,i3,i4]
    · simp only [cz,decide_false,Bool.false_eq_true,if_false]
      by_cases c2:z=2
      · refine ⟨⟨b.Day + x,4,y,t.Holder,0,0⟩,a4,s4,by simp [c2],?_,by simp only; omega,by simp only; omega,fun h=>by simp at h,by omega,by omega⟩
        simp [dealB,i1,i2,i3]
      · have c2':(z==2)=false:=by simpa using c2
        have hmm:∃ m,(spec_l00Min t.Left b.Cash[t.Debtor.toNat]).bind (fun r444=>spec_l00Max r444 1)=some m∧1≤m∧m≤100000000:=by
          unfold spec_l00Min
          by_cases g:t.Left < b.Cash[t.Debtor.toNat]
          · by_cases g':t.Left > 1
            · exact ⟨t.Left,by simp [g,spec_l00Max,g'],by omega,by omega⟩
            · exact ⟨1,by simp [g,spec_l00Max,g'],by omega,by omega⟩
          · by_cases g':b.Cash[t.Debtor.toNat] > 1
            · exact ⟨b.Cash[t.Debtor.toNat],by simp [g,spec_l00Max,g'],by omega,by omega⟩
            · exact ⟨1,by simp [g,spec_l00Max,g'],by omega,by omega⟩
        obtain ⟨m,em,n1,n2⟩:=hmm
        obtain ⟨r,er,em2⟩:=Option.bind_eq_some_iff.1 em
        obtain ⟨u,a5,s5,e5,u1,u2,u3,m5,m6,_⟩:=pick_ok c hc a4 s4 m (by omega) (by omega) (by omega)
        have w3:IntKind.i64.wrap (1 + u)=1 + u:=w64 (by omega)
        refine ⟨⟨b.Day + x,3,y,0,0,1 + u⟩,a5,s5,by simp only [c2',Bool.false_eq_true,if_false,hrc,Option.bind_some,er,em2,e5,w3],?_,by simp only; omega,by simp only; omega,fun h=>by simp at h,by omega,by omega⟩
        have i4:inB (1 + u) 1 100000000=true:=inB_iff.2 ⟨by omega,by omega⟩
        simp [dealB,i1,i2,i4]
end Go.Proofs.Ytjlalepbhcekoaa
namespace Go.Proofs.Ytjlalepbhcekoaa
open Go Go.Ab
inductive StpB (b:Book) (d:Deal):Book→Prop
  | cut (k:d.Kind=1) (dy:b.Day≤d.Day) (f:0≤d.From∧d.From < b.Cash.length) (t:0≤d.To∧d.To < b.Cash.length) (ne:d.From≠d.To) (tn:b.Tallies.length < 40) (am:1≤d.Amount∧d.Amount≤100000000):StpB b d ⟨d.Day,b.Cash,b.Tallies++[⟨d.From,d.To,d.Day,d.Amount,d.Amount⟩]⟩
  | pass (k:d.Kind=2) (dy:b.Day≤d.Day) (i:Nat) (x:Tally) (hi:b.Tallies[i]? = some x) (e:d.Tally=i) (hf:d.From=x.Holder) (l0:x.Left≠0) (t:0≤d.To∧d.To < b.Cash.length) (nl:Int) (hl:nl=if d.To=x.Debtor then 0 else x.Left):StpB b d ⟨d.Day,b.Cash,b.Tallies.set i ⟨x.Debtor,d.To,x.Cut,x.Amount,nl⟩⟩
  | pay (k:d.Kind=3) (dy:b.Day≤d.Day) (i:Nat) (x:Tally) (hi:b.Tallies[i]? = some x) (e:d.Tally=i) (am:1≤d.Amount∧d.Amount≤x.Left) (j m:Nat) (u v:Int) (hj:x.Debtor=j) (hm:x.Holder=m) (hjm:j≠m) (hu:b.Cash[j]? = some u) (hv:b.Cash[m]? = some v) (gu:d.Amount≤u) (gv:v + d.Amount≤100000000):StpB b d ⟨d.Day,(b.Cash.set j (u - d.Amount)).set m (v + d.Amount),b.Tallies.set i ⟨x.Debtor,x.Holder,x.Cut,x.Amount,x.Left - d.Amount⟩⟩
  | done (k:d.Kind=4) (dy:b.Day≤d.Day) (i:Nat) (x:Tally) (hi:b.Tallies[i]? = some x) (e:d.Tally=i) (hf:d.From=x.Holder) (l0:x.Left≠0):StpB b d ⟨d.Day,b.Cash,b.Tallies.set i ⟨x.Debtor,x.Holder,x.Cut,x.Amount,0⟩⟩
theorem step_cut (b:Book) (d:Deal) (hb:BkI b) (hk:d.Kind=1) (hf:0≤d.From) (ht:0≤d.To) (ha:1≤d.Amount∧d.Amount≤100000000) {r:Int×List Int×List Tally} (h:spec_l07Do b d=some (.inr r)):StpB b d ⟨r.1,r.2.1,r.2.2⟩:=by
  have p1:=personD b.Cash.length hb.cn d.From hf
  have p2:=personD b.Cash.length hb.cn d.To ht
  have tn:=hb.tn
  by_cases c0:d.Day < b.Day
  · simp [spec_l07Do,spec_l07Refused,c0] at h
  by_cases c1:d.From < b.Cash.length
  case neg=>simp [spec_l07Do,spec_l07Refused,c0,p1,c1] at h
  by_cases c2:d.To < b.Cash.length
  case neg=>simp [spec_l07Do,spec_l07Refused,c0,p1,p2,c1,c2] at h
  by_cases c3:d.From=d.To
  · simp [spec_l07Do,spec_l07Refused,c0,p1,p2,c1,c2,c3,hk] at h
  by_cases c4:b.Tallies.length=40
  · simp [spec_l07Do,spec_l07Refused,c0,p1,p2,c1,c2,c3,hk,c4] at h
  have c5:¬ (b.Tallies.length:Int)=40:=by omega
  have ap:app 40 b.Tallies [⟨d.From,d.To,d.Day,d.Amount,d.Amount⟩]=some (b.Tallies++[⟨d.From,d.To,d.Day,d.Amount,d.Amount⟩]):=app_some (by simp; omega) (by simp)
  simp [spec_l07Do,spec_l07Refused,c0,p1,p2,c1,c2,c3,hk,c5,l07Copy_eq b hb,ap] at h
  subst h
  exact .cut hk (by omega) ⟨hf,c1⟩ ⟨ht,c2⟩ c3 (by omega) ha
theorem step_pass (b:Book) (d:Deal) (hb:BkI b) (hk:d.Kind=2) (hf:0≤d.From) (ht:0≤d.To) (hi:0≤d.Tally) (ha:d.Amount=0) {r:Int×List Int×List Tally} (h:spec_l07Do b d=some (.inr r)):StpB b d ⟨r.1,r.2.1,r.2.2⟩:=by
  have p1:=personD b.Cash.length hb.cn d.From hf
  have p2:=personD b.Cash.length hb.cn d.To ht
  by_cases c0:d.Day < b.Day
  · simp [spec_l07Do,spec_l07Refused,c0] at h
  by_cases c1:d.From < b.Cash.length
  case neg=>simp [spec_l07Do,spec_l07Refused,c0,p1,c1] at h
  by_cases c2:d.To < b.Cash.length
  case neg=>simp [spec_l07Do,spec_l07Refused,c0,p1,p2,c1,c2] at h
  by_cases c3:d.Tally < b.Tallies.length
  case neg=>
    have c3':(b.Tallies.length:Int)≤d.Tally:=by omega
    simp [spec_l07Do,spec_l07Refused,c0,p1,p2,c1,c2,c3',hk] at h
  have c3':¬ (b.Tallies.length:Int)≤d.Tally:=by omega
  obtain ⟨i,hi'⟩:∃ i:Nat,d.Tally=i:=⟨d.Tally.toNat,by omega⟩
  have hlt:i < b.Tallies.length:=by omega
  have hx:b.Tallies[i]? = some b.Tallies[i]:=List.getElem?_eq_getElem hlt
  have hr:rd b.Tallies d.Tally=some b.Tallies[i]:=by rw [hi',rd_coe,hx]
  obtain ⟨t1,t2,t3,t4⟩:=hb.ta _ (List.getElem_mem hlt)
  have cp:=l07Copy_eq b hb
  revert hx hr t1 t2 t3 t4
  generalize b.Tallies[i]=t
  intro hx hr t1 t2 t3 t4
  by_cases c4:d.From=d.To
  · simp [spec_l07Do,spec_l07Refused,c0,p1,p2,c1,c2,c3',c4,hk,hr] at h
  by_cases c5:t.Holder=d.From
  case neg=>
    have c5:¬ d.From=t.Holder:=fun h=>c5 h.symm
    simp [spec_l07Do,spec_l07Refused,c0,p1,p2,c1,c2,c3',c4,hk,hr,c5] at h
  by_cases c6:t.Left=0
  · simp [spec_l07Do,spec_l07Refused,c0,p1,p2,c1,c2,c3',c4,hk,hr,c5,c6] at h
  have c7:¬ d.Amount > t.Left:=by omega
  have e1:(Tally.mk t.Debtor d.To t.Cut t.Amount t.Left).Holder=d.To:=rfl
  have e2:d.Tally.toNat=i:=by omega
  by_cases c8:t.Debtor=d.To
  · simp [spec_l07Do,spec_l07Refused,c0,p1,p2,c1,c2,c3',c4,hk,hr,c5,c6,c7,c8,cp] at h
    subst h
    simp only [e2]
    have:=StpB.pass (b:=b) hk (by omega) i t hx hi' c5.symm c6 ⟨ht,c2⟩ 0 (by rw [if_pos c8.symm])
    rw [c8] at this
    exact this
  · have c9:¬ d.To=t.Debtor:=fun h=>c8 h.symm
    simp [spec_l07Do,spec_l07Refused,c0,p1,p2,c1,c2,c3',c4,hk,hr,c5,c6,c7,c9,cp] at h
    subst h
    simp only [e2]
    exact .pass hk (by omega) i t hx hi' c5.symm c6 ⟨ht,c2⟩ t.Left (by rw [if_neg c9])
theorem step_end (b:Book) (d:Deal) (hb:BkI b) (hk:d.Kind=4) (hf:0≤d.From) (ht:d.To=0) (hi:0≤d.Tally) (ha:d.Amount=0) {r:Int×List Int×List Tally} (h:spec_l07Do b d=some (.inr r)):StpB b d ⟨r.1,r.2.1,r.2.2⟩:=by
  have p1:=personD b.Cash.length hb.cn d.From hf
  have p2:=personD b.Cash.length hb.cn d.To (by omega)
  have hc1:=hb.c1
  have c2:d.To < b.Cash.length:=by omega
  by_cases c0:d.Day < b.Day
  · simp [spec_l07Do,spec_l07Refused,c0] at h
  by_cases c1:d.From < b.Cash.length
  case neg=>simp [spec_l07Do,spec_l07Refused,c0,p1,c1] at h
  by_cases c3:d.Tally < b.Tallies.length
  case neg=>
    have c3':(b.Tallies.length:Int)≤d.Tally:=by omega
    simp [spec_l07Do,spec_l07Refused,c0,p1,p2,c1,c2,c3',hk] at h
  have c3':¬ (b.Tallies.length:Int)≤d.Tally:=by omega
  obtain ⟨i,hi'⟩:∃ i:Nat,d.Tally=i:=⟨d.Tally.toNat,by omega⟩
  have hlt:i < b.Tallies.length:=by omega
  have hx:b.Tallies[i]? = some b.Tallies[i]:=List.getElem?_eq_getElem hlt
  have hr:rd b.Tallies d.Tally=some b.Tallies[i]:=by rw [hi',rd_coe,hx]
  obtain ⟨t1,t2,t3,t4⟩:=hb.ta _ (List.getElem_mem hlt)
  have cp:=l07Copy_eq b hb
  revert hx hr t1 t2 t3 t4
  generalize b.Tallies[i]=t
  intro hx hr t1 t2 t3 t4
  by_cases c5:t.Holder=d.From
  case neg=>
    have c5:¬ d.From=t.Holder:=fun h=>c5 h.symm
    simp [spec_l07Do,spec_l07Refused,c0,p1,p2,c1,c2,c3',hk,hr,c5] at h
  by_cases c6:t.Left=0
  · simp [spec_l07Do,spec_l07Refused,c0,p1,p2,c1,c2,c3',hk,hr,c5,c6] at h
  have c7:¬ d.Amount > t.Left:=by omega
  have e2:d.Tally.toNat=i:=by omega
  simp [spec_l07Do,spec_l07Refused,c0,p1,p2,c1,c2,c3',hk,hr,c5,c6,c7,cp] at h
  subst h
  simp only [e2]
  have:=StpB.done (b:=b) hk (by omega) i t hx hi' c5.symm c6
  rw [c5] at this
  exact this
theorem step_pay (b:Book) (d:Deal) (hb:BkI b) (hk:d.Kind=3) (hf:d.From=0) (ht:d.To=0) (hi:0≤d.Tally) (ha:1≤d.Amount∧d.Amount≤100000000) {r:Int×List Int×List Tally} (h:spec_l07Do b d=some (.inr r)):StpB b d ⟨r.1,r.2.1,r.2.2⟩:=by
  have p1:=personD b.Cash.length hb.cn d.From (by omega)
  have p2:=personD b.Cash.length hb.cn d.To (by omega)
  have hc1:=hb.c1
  have c1:d.From < b.Cash.length:=by omega
  have c2:d.To < b.Cash.length:=by omega
  by_cases c0:d.Day < b.Day
  · simp [spec_l07Do,spec_l07Refused,c0] at h
  by_cases c3:d.Tally < b.Tallies.length
  case neg=>
    have c3':(b.Tallies.length:Int)≤d.Tally:=by omega
    simp [spec_l07Do,spec_l07Refused,c0,p1,p2,c1,c2,c3',hk] at h
  have c3':¬ (b.Tallies.length:Int)≤d.Tally:=by omega
  obtain ⟨i,hi'⟩:∃ i:Nat,d.Tally=i:=⟨d.Tally.toNat,by omega⟩
  have hlt:i < b.Tallies.length:=by omega
  have hx:b.Tallies[i]? = some b.Tallies[i]:=List.getElem?_eq_getElem hlt
  have hr:rd b.Tallies d.Tally=some b.Tallies[i]:=by rw [hi',rd_coe,hx]
  obtain ⟨t1,t2,t3,t4⟩:=hb.ta _ (List.getElem_mem hlt)
  have cp:=l07Copy_eq b hb
  have e2:d.Tally.toNat=i:=by omega
  revert hx hr t1 t2 t3 t4
  generalize b.Tallies[i]=t
  intro hx hr t1 t2 t3 t4
  by_cases c6:t.Left=0
  · simp [spec_l07Do,spec_l07Refused,c0,p1,p2,c1,c2,c3',hk,hr,c6] at h
  by_cases c7:d.Amount > t.Left
  · simp [spec_l07Do,spec_l07Refused,c0,p1,p2,c1,c2,c3',hk,hr,c6,c7] at h
  obtain ⟨j,hj⟩:∃ j:Nat,t.Debtor=j:=⟨t.Debtor.toNat,by omega⟩
  obtain ⟨k,hk'⟩:∃ k:Nat,t.Holder=k:=⟨t.Holder.toNat,by omega⟩
  have hjl:j < b.Cash.length:=by omega
  have hkl:k < b.Cash.length:=by omega
  have hjk:¬ j=k:=fun e=>c6 (t4 (by omega))
  have gu:b.Cash[j]? = some b.Cash[j]:=List.getElem?_eq_getElem hjl
  have gv:b.Cash[k]? = some b.Cash[k]:=List.getElem?_eq_getElem hkl
  have rj:rd b.Cash t.Debtor=some b.Cash[j]:=by rw [hj,rd_coe,gu]
  have rk:rd b.Cash t.Holder=some b.Cash[k]:=by rw [hk',rd_coe,gv]
  have aj:=hb.ca _ (List.getElem_mem hjl)
  have ak:=hb.ca _ (List.getElem_mem hkl)
  have rk2:∀ x,rd (b.Cash.set t.Debtor.toNat x) t.Holder=some b.Cash[k]:=fun x=>by
    rw [hk',rd_coe,hj,Int.toNat_natCast,List.getElem?_set_ne hjk,gv]
  have e3:t.Debtor.toNat=j:=by omega
  have e4:t.Holder.toNat=k:=by omega
  revert gu gv rj rk aj ak rk2
  generalize b.Cash[j]=u
  generalize b.Cash[k]=v
  intro gu gv rj rk aj ak rk2
  have w1:IntKind.i64.wrap (u - d.Amount)=u - d.Amount:=w64 (by omega)
  have w2:IntKind.i64.wrap (v + d.Amount)=v + d.Amount:=w64 (by omega)
  have w3:IntKind.i64.wrap (t.Left - d.Amount)=t.Left - d.Amount:=w64 (by omega)
  by_cases c8:u < d.Amount
  · simp [spec_l07Do,spec_l07Refused,c0,p1,p2,c1,c2,c3',hk,hr,c6,c7,rj,c8] at h
  by_cases c9:v + d.Amount > 100000000
  · simp [spec_l07Do,spec_l07Refused,c0,p1,p2,c1,c2,c3',hk,hr,c6,c7,rj,c8,rk,w2,c9] at h
  simp [spec_l07Do,spec_l07Refused,c0,p1,p2,c1,c2,c3',hk,hr,c6,c7,rj,c8,rk,rk2,w1,w2,w3,c9,cp] at h
  subst h
  simp only [e2,e3,e4]
  exact .pay hk (by omega) i t hx hi' ⟨ha.1,by omega⟩ j k u v hj hk' hjk gu gv (by omega) (by omega)
theorem do_step (b:Book) (d:Deal) (hb:BkI b) (hd:dealB d=true) {r:Int×List Int×List Tally} (h:spec_l07Do b d=some (.inr r)):StpB b d ⟨r.1,r.2.1,r.2.2⟩:=by
  unfold dealB at hd
  simp only [Bool.and_eq_true,Bool.or_eq_true,beq_iff_eq,inB_iff] at hd
  obtain ⟨_,((h0 | h0) | h0) | h0⟩:=hd
  · obtain ⟨⟨⟨⟨h1,h2⟩,h3⟩,h4⟩,h5⟩:=h0
    exact step_cut b d hb h1 h3.1 h4.1 h5 h
  · obtain ⟨⟨⟨⟨h1,h2⟩,h3⟩,h4⟩,h5⟩:=h0
    exact step_pass b d hb h1 h3.1 h4.1 h2.1 h5 h
  · obtain ⟨⟨⟨⟨h1,h2⟩,h3⟩,h4⟩,h5⟩:=h0
    exact step_pay b d hb h1 h3 h4 h2.1 h5 h
  · obtain ⟨⟨⟨⟨h1,h2⟩,h3⟩,h4⟩,h5⟩:=h0
    exact step_end b d hb h1 h3.1 h4 h2.1 h5 h
structure BookP (b:Book):Prop where
  day:0≤b.Day∧b.Day≤100000
  c1:1≤b.Cash.length
  cn:b.Cash.length≤16
  ca:∀ c ∈ b.Cash,0≤c∧c≤100000000
  tn:b.Tallies.length≤40
  ta:∀ (i:Nat) t,b.Tallies[i]? = some t→(0≤t.Debtor∧t.Debtor < b.Cash.length)∧(0≤t.Holder∧t.Holder < b.Cash.length)∧(0≤t.Cut∧t.Cut≤b.Day)∧(1≤t.Amount∧t.Amount≤100000000)∧(0≤t.Left∧t.Left≤t.Amount)∧(t.Debtor=t.Holder→t.Left=0)
  srt:∀ (i:Nat) t t',b.Tallies[i]? = some t→b.Tallies[i + 1]? = some t'→t.Cut≤t'.Cut
theorem bookB_iff {b:Book}:bookB b=true↔BookP b:=by
  have tl:∀ i t,tallyB b i t=true↔(0≤t.Debtor∧t.Debtor < (b.Cash.length:Int))∧(0≤t.Holder∧t.Holder < (b.Cash.length:Int))∧(0≤t.Cut∧t.Cut≤b.Day)∧(1≤t.Amount∧t.Amount≤100000000)∧(0≤t.Left∧t.Left≤t.Amount)∧(t.Debtor=t.Holder→t.Left=0)∧prevCut b i≤t.Cut:=by
    intro i t
    unfold tallyB
    simp only [Bool.and_eq_true,personB_iff,inB_iff,decide_eq_true_eq]
    have:(!(t.Debtor==t.Holder && t.Left != 0))=true↔(t.Debtor=t.Holder→t.Left=0):=by
      by_cases h1:t.Debtor=t.Holder <;> by_cases h2:t.Left=0 <;> simp [h1,h2]
    rw [this]
  have ts:talliesB b=true↔∀ (i:Nat) t,b.Tallies[i]? = some t→tallyB b i t=true:=by
    unfold talliesB
    rw [List.all_eq_true]
    constructor
    · intro h i t hi
      have:=h i (List.mem_range.2 (List.getElem?_eq_some_iff.1 hi).1)
      rw [hi] at this
      exact this
    · intro h i hi
      have hi:=List.mem_range.1 hi
      rw [List.getElem?_eq_getElem hi,Option.all_some]
      exact h i _ (List.getElem?_eq_getElem hi)
  unfold bookB
  simp only [Bool.and_eq_true,decide_eq_true_eq,List.all_eq_true,inB_iff,ts,tl]
  constructor
  · rintro ⟨h1,⟨h2,h3⟩,h4,h5⟩
    refine ⟨h1,by omega,by omega,fun c hc=>inB_iff.1 (h2 c hc),h4,fun i t hi=>?_,fun i t t' hi hi'=>?_⟩
    · obtain ⟨a1,a2,a3,a4,a5,a6,_⟩:=h5 i t hi
      exact ⟨a1,a2,a3,a4,a5,a6⟩
    · obtain ⟨_,_,_,_,_,_,a7⟩:=h5 (i + 1) t' hi'
      simpa [prevCut,hi] using a7
  · intro h
    refine ⟨h.day,⟨fun c hc=>inB_iff.2 (h.ca c hc),by have:=h.c1; have:=h.cn; omega⟩,h.tn,fun i t hi=>?_⟩
    obtain ⟨a1,a2,a3,a4,a5,a6⟩:=h.ta i t hi
    refine ⟨a1,a2,a3,a4,a5,a6,?_⟩
    cases i with
    | zero=>simpa [prevCut] using a3.1
    | succ i=>
      have hi2:i < b.Tallies.length:=by have:=(List.getElem?_eq_some_iff.1 hi).1; omega
      have:=h.srt i _ t (List.getElem?_eq_getElem hi2) hi
      simpa [prevCut,hi2] using this
theorem BookP.bk {b:Book} (h:BookP b):BkI b:=BkI.of (bookB_iff.2 h)
theorem BookP.set {b:Book} (h:BookP b) {day:Int} (hd:b.Day≤day∧day≤100000) {c:List Int} (hc:c.length=b.Cash.length) (ca:∀ x ∈ c,0≤x∧x≤100000000) {i:Nat} {x y:Tally} (hi:b.Tallies[i]? = some x)
    (h1:y.Debtor=x.Debtor) (h2:0≤y.Holder∧y.Holder < b.Cash.length) (h3:y.Cut=x.Cut) (h4:y.Amount=x.Amount) (h5:0≤y.Left∧y.Left≤x.Amount) (h6:y.Debtor=y.Holder→y.Left=0):BookP ⟨day,c,b.Tallies.set i y⟩:=by
  have hlt:=(List.getElem?_eq_some_iff.1 hi).1
  have get:∀ (k:Nat) t,(b.Tallies.set i y)[k]? = some t→(k=i∧t=y)∨(k≠i∧b.Tallies[k]? = some t):=by
    intro k t hk
    by_cases e:k=i
    · subst e
      rw [List.getElem?_set_self hlt] at hk
      exact .inl ⟨rfl,(Option.some.inj hk).symm⟩
    · rw [List.getElem?_set_ne (Ne.symm e)] at hk
      exact .inr ⟨e,hk⟩
  obtain ⟨a1,a2,a3,a4,a5,a6⟩:=h.ta i x hi
  refine ⟨by have:=h.day; simp only; omega,by simp only [hc]; exact h.c1,by simp only [hc]; exact h.cn,ca,by simpa using h.tn,fun k t hk=>?_,fun k t t' hk hk'=>?_⟩
  · simp only [hc]
    rcases get k t hk with ⟨rfl,rfl⟩ | ⟨_,hk⟩
    · exact ⟨by rw [h1]; exact a1,h2,by rw [h3]; exact ⟨a3.1,by omega⟩,by rw [h4]; exact a4,by rw [h4]; exact h5,h6⟩
    · obtain ⟨b1,b2,b3,b4,b5,b6⟩:=h.ta k t hk
      exact ⟨b1,b2,⟨b3.1,by omega⟩,b4,b5,b6⟩
  · have cutOf:∀ (k:Nat) t,(b.Tallies.set i y)[k]? = some t→∃ t0,b.Tallies[k]? = some t0∧t.Cut=t0.Cut:=by
      intro k t hk
      rcases get k t hk with ⟨rfl,rfl⟩ | ⟨_,hk⟩
      · exact ⟨x,hi,h3⟩
      · exact ⟨t,hk,rfl⟩
    obtain ⟨t0,q1,q2⟩:=cutOf k t hk
    obtain ⟨t0',q3,q4⟩:=cutOf (k + 1) t' hk'
    rw [q2,q4]
    exact h.srt k t0 t0' q1 q3
theorem StpB.book {b b':Book} {d:Deal} (s:StpB b d b') (h:BookP b) (hd:d.Day≤100000):BookP b':=by
  cases s with
  | cut k dy f t ne tn am=>
    refine ⟨by have:=h.day; simp only; omega,h.c1,h.cn,h.ca,by simp; omega,fun i x hi=>?_,fun i x x' hi hi'=>?_⟩
    · by_cases e:i < b.Tallies.length
      · rw [List.getElem?_append_left e] at hi
        obtain ⟨b1,b2,b3,b4,b5,b6⟩:=h.ta i x hi
        exact ⟨b1,b2,⟨b3.1,by simp only; omega⟩,b4,b5,b6⟩
      · rw [List.getElem?_append_right (by omega)] at hi
        obtain ⟨e1,e2⟩:=List.getElem?_eq_some_iff.1 hi
        have:i - b.Tallies.length=0:=by simpa using e1
        simp only [this,List.getElem_cons_zero] at e2
        subst e2
        have:=h.day
        exact ⟨f,t,⟨by simp only; omega,by simp only; omega⟩,am,⟨by simp only; omega,by simp only; omega⟩,fun e=>absurd e ne⟩
    · have hlt:i < b.Tallies.length:=by have:=(List.getElem?_eq_some_iff.1 hi').1; simp at this; omega
      rw [List.getElem?_append_left hlt] at hi
      by_cases e:i + 1 < b.Tallies.length
      · rw [List.getElem?_append_left e] at hi'
        exact h.srt i x x' hi hi'
      · rw [List.getElem?_append_right (by omega)] at hi'
        obtain ⟨e1,e2⟩:=List.getElem?_eq_some_iff.1 hi'
        have:i + 1 - b.Tallies.length=0:=by simpa using e1
        simp only [this,List.getElem_cons_zero] at e2
        subst e2
        have:=(h.ta i x hi).2.2.1.2
        simp only; omega
  | pass k dy i x hi e hf l0 t nl hl=>
    obtain ⟨a1,a2,a3,a4,a5,a6⟩:=h.ta i x hi
    refine h.set ⟨dy,hd⟩ rfl h.ca hi rfl t rfl rfl ?_ (fun e2=>?_)
    · subst hl; split <;> simp only <;> omega
    · have e2:x.Debtor=d.To:=e2
      subst hl
      rw [if_pos e2.symm]
  | pay k dy i x hi e am j m u v hj hm hjm hu hv gu gv=>
    obtain ⟨a1,a2,a3,a4,a5,a6⟩:=h.ta i x hi
    have cu:=h.ca u (List.mem_of_getElem? hu)
    have cv:=h.ca v (List.mem_of_getElem? hv)
    refine h.set ⟨dy,hd⟩ (by simp) (fun y hy=>?_) hi rfl a2 rfl rfl (by simp only; omega) (fun e2=>by have e2:x.Debtor=x.Holder:=e2; omega)
    rcases List.mem_or_eq_of_mem_set hy with hy | rfl
    · rcases List.mem_or_eq_of_mem_set hy with hy | rfl
      · exact h.ca y hy
      · omega
    · omega
  | done k dy i x hi e hf l0=>
    obtain ⟨a1,a2,a3,a4,a5,a6⟩:=h.ta i x hi
    exact h.set ⟨dy,hd⟩ rfl h.ca hi rfl a2 rfl rfl (by simp only; omega) (fun _=>rfl)
theorem StpB.day {b b':Book} {d:Deal} (s:StpB b d b'):b'.Day=d.Day∧b.Day≤d.Day:=by cases s <;> exact ⟨rfl,by assumption⟩
theorem sum_set:∀ (xs:List Int) (i:Nat) (u v:Int),xs[i]? = some u→(xs.set i v).sum=xs.sum - u + v
  | [],i,u,v,h=>by simp at h
  | x::xs,0,u,v,h=>by simp at h; subst h; simp; omega
  | x::xs,i + 1,u,v,h=>by
    have:=sum_set xs i u v (by simpa using h)
    simp only [List.set_cons_succ,List.sum_cons]
    omega
theorem StpB.cash {b b':Book} {d:Deal} (s:StpB b d b'):b'.Cash.length=b.Cash.length∧b'.Cash.sum=b.Cash.sum:=by
  cases s with
  | pay k dy i x hi e am j m u v hj hm hjm hu hv gu gv=>
    refine ⟨by simp,?_⟩
    simp only
    rw [sum_set _ m v _ (by rw [List.getElem?_set_ne hjm]; exact hv),sum_set _ j u _ hu]
    omega
  | _=>exact ⟨rfl,rfl⟩
theorem StpB.tall {b b':Book} {d:Deal} (s:StpB b d b'):b'.Tallies.length≤b.Tallies.length + 1:=by cases s <;> simp
theorem StpB.left {b b':Book} {d:Deal} (s:StpB b d b') (hd:d.Kind=1→d.Amount≤60) (h:∀ t ∈ b.Tallies,t.Left≤60) (hb:BookP b):∀ t ∈ b'.Tallies,t.Left≤60:=by
  cases s with
  | cut k dy f t ne tn am=>
    intro x hx
    rcases List.mem_append.1 hx with hx | hx
    · exact h x hx
    · rw [List.mem_singleton.1 hx]; exact hd k
  | pass k dy i x hi e hf l0 t nl hl=>
    intro y hy
    rcases List.mem_or_eq_of_mem_set hy with hy | rfl
    · exact h y hy
    · have:=h x (List.mem_of_getElem? hi)
      subst hl; split <;> simp only <;> omega
  | pay k dy i x hi e am j m u v hj hm hjm hu hv gu gv=>
    intro y hy
    rcases List.mem_or_eq_of_mem_set hy with hy | rfl
    · exact h y hy
    · have:=h x (List.mem_of_getElem? hi)
      simp only; omega
  | done k dy i x hi e hf l0=>
    intro y hy
    rcases List.mem_or_eq_of_mem_set hy with hy | rfl
    · exact h y hy
    · simp
end Go.Proofs.Ytjlalepbhcekoaa
namespace Go.Proofs.Ytjlalepbhcekoaa
open Go Go.Ab
inductive Run:Book→List Deal→Book→Prop
  | nil (b:Book):Run b [] b
  | snoc {b:Book} {ds:List Deal} {m:Book} {d:Deal} {b':Book} (r:Run b ds m) (hm:BookP m) (hd:dealB d=true) (hs:spec_l07Do m d=some (.inr (b'.Day,b'.Cash,b'.Tallies))) (st:StpB m d b'):Run b (ds++[d]) b'
theorem dealB_day {d:Deal} (h:dealB d=true):0≤d.Day∧d.Day≤100000:=by
  unfold dealB at h
  simp only [Bool.and_eq_true] at h
  exact inB_iff.1 h.1
theorem Run.book {b b':Book} {ds:List Deal} (r:Run b ds b') (h:BookP b):BookP b':=by
  induction r with
  | nil=>exact h
  | snoc r hm hd hs st ih=>exact st.book hm (dealB_day hd).2
theorem Run.all {b b':Book} {ds:List Deal} (r:Run b ds b'):∀ d ∈ ds,dealB d=true:=by
  induction r with
  | nil=>intro d h; cases h
  | snoc r hm hd hs st ih=>
    intro d h
    rcases List.mem_append.1 h with h | h
    · exact ih d h
    · rw [List.mem_singleton.1 h]; exact hd
theorem Run.cash {b b':Book} {ds:List Deal} (r:Run b ds b'):b'.Cash.length=b.Cash.length∧b'.Cash.sum=b.Cash.sum:=by
  induction r with
  | nil=>exact ⟨rfl,rfl⟩
  | snoc r hm hd hs st ih=>exact ⟨st.cash.1.trans ih.1,st.cash.2.trans ih.2⟩
theorem Run.day {b b':Book} {ds:List Deal} (r:Run b ds b'):b.Day≤b'.Day:=by
  induction r with
  | nil=>omega
  | snoc r hm hd hs st ih=>have:=st.day; omega
theorem Run.loop {b b':Book} {ds:List Deal} (r:Run b ds b'):∀ rest:List Deal,ds.length≤1000 →
    ∃ out:List Book,Lw (spec_l07All_b1 (ds++rest)) (0,b.Day,b.Cash,b.Tallies,[])=Lw (spec_l07All_b1 (ds++rest)) ((ds.length:Int),b'.Day,b'.Cash,b'.Tallies,out)∧out.length=ds.length∧LastI b b' out:=by
  induction r with
  | nil=>intro rest _; exact ⟨[],rfl,rfl,.inl ⟨rfl,rfl⟩⟩
  | @snoc ds m d b' r hm hd hs st ih=>
    intro rest hl
    simp only [List.length_append,List.length_singleton] at hl
    obtain ⟨out,h1,h2,h3⟩:=ih (d::rest) (by omega)
    have e:ds++[d]++rest=ds++d::rest:=by simp
    have hr:rd (ds++d::rest) (ds.length:Int)=some d:=by rw [rd_coe]; simp
    have ap:app 56 out [b']=some (out++[b']):=app_some (by simp; omega) (by decide)
    have w:IntKind.i64.wrap ((ds.length:Int) + 1)=(ds.length:Int) + 1:=w64 (by omega)
    refine ⟨out++[b'],?_,by simp [h2],.inr (by simp)⟩
    rw [e,h1]
    refine (Lw_step (s':=(((ds.length:Int) + 1),b'.Day,b'.Cash,b'.Tallies,out++[b'])) ?_).trans ?_
    · have hlt:(ds.length:Int) < ((ds++d::rest).length:Int):=by simp; omega
      have ap':app 56 out [Book.mk b'.Day b'.Cash b'.Tallies]=some (out++[b']):=ap
      unfold spec_l07All_b1
      simp only [hlt,decide_true,if_true,hr,Option.bind_some,hs,ap',w]
    · simp
theorem Run.l07All {b b':Book} {ds:List Deal} (r:Run b ds b') (hb:BookP b) (hl:ds.length≤80):∃ out,spec_l07All b ds=some (out,0,0)∧out.length=ds.length∧LastI b b' out:=by
  obtain ⟨out,h1,h2,h3⟩:=r.loop [] (by omega)
  rw [List.append_nil] at h1
  have he:Lw (spec_l07All_b1 ds) ((ds.length:Int),b'.Day,b'.Cash,b'.Tallies,out)=some (.inr (b'.Day,b'.Cash,b'.Tallies,out)):=Lw_stop (by unfold spec_l07All_b1; simp)
  refine ⟨out,?_,h2,h3⟩
  unfold spec_l07All
  rw [l07Copy_eq b hb.bk,Option.bind_some]
  simp only
  rw [h1,he]
  rfl
theorem Run.ask {b b':Book} {ds:List Deal} (r:Run b ds b') (hb:BookP b) (hl:ds.length≤80):askC b ds=0:=by
  unfold askC
  rw [if_pos (by simp only [Bool.and_eq_true,List.all_eq_true]; exact ⟨bookB_iff.2 hb,r.all⟩),if_neg (by omega)]
theorem Run.books {b b':Book} {ds:List Deal} (r:Run b ds b') (hb:BookP b) (hl:ds.length≤80):∃ out,impl_books b ds=some (out,0)∧spec_l07All b ds=some (out,0,0)∧out.length=ds.length∧LastI b b' out:=by
  obtain ⟨out,h1,h2,h3⟩:=r.l07All hb hl
  rcases books_same ds b hb.bk r.all hl with ⟨c,o,e1,e2,e3,_⟩ | ⟨s,o,e1,e2,e3,e4,e5,e6,e7⟩
  · rw [h1] at e2
    simp only [Option.some.injEq,Prod.mk.injEq] at e2
    exact absurd e2.2.1.symm e3
  · rw [h1] at e2
    simp only [Option.some.injEq,Prod.mk.injEq] at e2
    obtain ⟨rfl,_⟩:=e2
    exact ⟨out,e1,h1,h2,h3⟩
theorem Run.behind {b b':Book} {ds:List Deal} (r:Run b ds b') (hb:BookP b) (hl:ds.length≤80):impl_behind b ds=some (.inr (b'.Day,b'.Cash,b'.Tallies)):=by
  obtain ⟨out,e1,_,h2,h3⟩:=r.books hb hl
  unfold impl_behind
  rw [e1]
  rcases h3 with ⟨rfl,rfl⟩ | h
  · simp [ownBook_eq b' hb.bk]
  · have h0:out≠[]:=fun e=>by subst e; cases h
    have hr:=rd_last h (by omega)
    simp [h0,hr]
end Go.Proofs.Ytjlalepbhcekoaa
namespace Go.Proofs.Ytjlalepbhcekoaa
open Go Go.Ab
structure DrN (m:Nat) (b:Book):Prop where
  ok:BookP b
  p2:2≤b.Cash.length
  p4:b.Cash.length≤4
  day:b.Day≤3 * m
  tl:b.Tallies.length≤m
  lf:∀ t ∈ b.Tallies,t.Left≤60
theorem DrN.dr {m:Nat} {b:Book} (h:DrN m b) (hm:m≤300):DrI b:=⟨bookB_iff.2 h.ok,h.p2,h.p4,by have:=h.day; omega⟩
theorem DrN.mono {m m':Nat} {b:Book} (h:DrN m b) (hm:m≤m'):DrN m' b:=⟨h.ok,h.p2,h.p4,by have:=h.day; omega,by have:=h.tl; omega,h.lf⟩
theorem draw_one (c:List Int) (hc:Bys c) (a s:Int) (h0:0≤a) (h1:a≤100000000000) (m:Nat) (hm:m≤300) (b:Book) (hb:DrN m b) :
    ∃ d:Deal,∃ a' s',spec_l07NextDeal_pp c a s b.Day b.Cash b.Tallies=some (d.Day,d.Kind,d.Tally,d.From,d.To,d.Amount,c,a',s')∧dealB d=true∧a≤a'∧a'≤a + 10 ∧
      ((∃ x,x≠0∧spec_l07Do b d=some (.inl x))∨∃ b':Book,spec_l07Do b d=some (.inr (b'.Day,b'.Cash,b'.Tallies))∧StpB b d b'∧DrN (m + 1) b'):=by
  obtain ⟨d,a',s',e,hd,d1,d2,d3,g1,g2⟩:=nextDeal_ok c hc a s h0 h1 b (hb.dr hm)
  refine ⟨d,a',s',e,hd,g1,g2,?_⟩
  obtain ⟨r,_,e2,e3⟩:=do_same b d hb.ok.bk hd
  rcases r with x | r
  · exact .inl ⟨x,e3.1 x rfl,e2⟩
  · have st:=do_step b d hb.ok.bk hd e2
    refine .inr ⟨⟨r.1,r.2.1,r.2.2⟩,e2,st,st.book hb.ok (dealB_day hd).2,?_,?_,?_,?_,st.left d3 hb.lf hb.ok⟩
    · rw [st.cash.1]; exact hb.p2
    · rw [st.cash.1]; exact hb.p4
    · rw [st.day.1]; have:=hb.day; omega
    · have:=st.tall; have:=hb.tl; omega
theorem drawn_ok (c:List Int) (hc:Bys c) (s:Int):∃ (b:Book) (list:List Deal) (now:Book) (a' s':Int),spec_l07Drawn_p c 0 s=some (b.Day,b.Cash,b.Tallies,c,a',s',list)∧DrN 3 b∧DrN 11 now∧Run b list now∧list.length≤8:=by
  unfold spec_l07Drawn_p
  obtain ⟨x,a1,s1,e1,x1,x2,_,g1,g2,_⟩:=pick_ok c hc 0 s 3 (by omega) (by omega) (by omega)
  have x2:=x2 (by omega)
  have w1:IntKind.i64.wrap (2 + x)=2 + x:=w64 (by omega)
  rw [e1,Option.bind_some]
  simp only [w1]
  have L1:∃ r,Lw (spec_l07Drawn_p_b1) (2 + x,0,([]:List Int),c,a1,s1)=some r∧∃ cash a2 s2,r=(0,cash,c,a2,s2)∧2≤cash.length∧cash.length≤4∧(∀ y ∈ cash,0≤y∧y≤100)∧0≤a2∧a2≤1000:=by
    refine Lw_meas (tb:=spec_l07Drawn_p_b1) (fun s=>s.1.toNat) (fun s=>s.2.1=0∧s.2.2.2.1=c∧0≤s.1∧s.1 + s.2.2.1.length=2 + x∧(∀ y ∈ s.2.2.1,0≤y∧y≤100)∧0≤s.2.2.2.2.1∧s.2.2.2.2.1≤a1 + 2 * s.2.2.1.length) _ ?_ _ _ rfl ⟨rfl,rfl,by simp only; omega,by simp,fun y h=>(nomatch h),by simp only; omega,by simp⟩
    rintro ⟨k,day,cash,c',a,s⟩ ⟨rfl,rfl,hk,hl,hy,ha,ha2⟩
    simp only at hk hl hy ha ha2
    by_cases h0:k > 0
    · obtain ⟨z,a3,s3,e3,z1,z2,_,g3,g4,_⟩:=pick_ok c' hc a s 100 ha (by omega) (by omega)
      have z2:=z2 (by omega)
      have ap:app 8 cash [z]=some (cash++[z]):=app_some (by simp; omega) (by decide)
      have w:IntKind.i64.wrap (k - 1)=k - 1:=w64 (by omega)
      refine .inl ⟨(k - 1,0,cash++[z],c',a3,s3),by simp only [spec_l07Drawn_p_b1,h0,decide_true,if_true,e3,Option.bind_some,ap,w],⟨rfl,rfl,by simp only; omega,by simp; omega,fun y h=>?_,by simp only; omega,by simp; omega⟩,by simp only; omega⟩
      rcases List.mem_append.1 h with h | h
      · exact hy y h
      · rw [List.mem_singleton.1 h]; omega
    · exact .inr ⟨_,by simp only [spec_l07Drawn_p_b1,h0,decide_false,Bool.false_eq_true,if_false],cash,a,s,rfl,by omega,by omega,hy,ha,by omega⟩
  obtain ⟨_,l1,cash,a2,s2,rfl,q1,q2,q3,q4,q5⟩:=L1
  rw [l1,Option.bind_some]
  simp only
  have B0:DrN 0 ⟨0,cash,[]⟩:=⟨⟨by simp,by simp only; omega,by simp only; omega,fun y h=>by have:=q3 y h; omega,by simp,fun i t h=>by simp at h,fun i t t' h=>by simp at h⟩,q1,q2,by simp,by simp,fun t h=>by cases h⟩
  obtain ⟨y,a3,s3,e3,y1,y2,_,g3,g4,_⟩:=pick_ok c hc a2 s2 4 (by omega) (by omega) (by omega)
  have y2:=y2 (by omega)
  rw [e3,Option.bind_some]
  simp only
  have L2:∃ r,Lw (spec_l07Drawn_p_b2) (y,0,cash,([]:List Tally),c,a3,s3)=some r∧∃ (b:Book) (a4 s4:Int),r=(b.Day,b.Cash,b.Tallies,c,a4,s4)∧DrN 3 b∧0≤a4∧a4≤2000:=by
    refine Lw_meas (tb:=spec_l07Drawn_p_b2) (fun s=>s.1.toNat) (fun s=>s.2.2.2.2.1=c∧0≤s.1∧s.1≤3∧DrN (3 - s.1.toNat) ⟨s.2.1,s.2.2.1,s.2.2.2.1⟩∧0≤s.2.2.2.2.2.1∧s.2.2.2.2.2.1≤1010 + 10 * (3 - s.1)) _ ?_ _ _ rfl ⟨rfl,y1,by simp only; omega,B0.mono (by omega),by simp only; omega,by simp only; omega⟩
    rintro ⟨k,day,cs,ts,c',a,s⟩ ⟨rfl,hk,hk3,hD,ha,ha2⟩
    simp only at hk hk3 hD ha ha2
    by_cases h0:k > 0
    · obtain ⟨d,a5,s5,e5,hd,g5,g6,hs⟩:=draw_one c' hc a s ha (by omega) _ (by omega) _ hD
      have w:IntKind.i64.wrap (k - 1)=k - 1:=w64 (by omega)
      simp only at e5
      rcases hs with ⟨q,q0,hs⟩ | ⟨b',hs,st,hD'⟩
      · exact .inl ⟨(k - 1,day,cs,ts,c',a5,s5),by simp only [spec_l07Drawn_p_b2,h0,decide_true,if_true,e5,Option.bind_some,hs,w,beq_iff_eq,q0,if_false],⟨rfl,by simp only; omega,by simp only; omega,hD.mono (by simp only; omega),by simp only; omega,by simp only; omega⟩,by simp only; omega⟩
      · exact .inl ⟨(k - 1,b'.Day,b'.Cash,b'.Tallies,c',a5,s5),by simp only [spec_l07Drawn_p_b2,h0,decide_true,if_true,e5,Option.bind_some,hs,w],⟨rfl,by simp only; omega,by simp only; omega,hD'.mono (by simp only; omega),by simp only; omega,by simp only; omega⟩,by simp only; omega⟩
    · exact .inr ⟨_,by simp only [spec_l07Drawn_p_b2,h0,decide_false,Bool.false_eq_true,if_false],⟨day,cs,ts⟩,a,s,rfl,hD.mono (by omega),ha,by omega⟩
  obtain ⟨_,l2,b,a4,s4,rfl,hB,q6,q7⟩:=L2
  rw [l2,Option.bind_some]
  simp only
  rw [l07Copy_eq b hB.ok.bk,Option.bind_some]
  simp only
  obtain ⟨z,a5,s5,e5,z1,z2,_,g5,g6,_⟩:=pick_ok c hc a4 s4 9 (by omega) (by omega) (by omega)
  have z2:=z2 (by omega)
  rw [e5,Option.bind_some]
  simp only
  have L3:∃ r,Lw (spec_l07Drawn_p_b3) (z,([]:List Deal),b.Day,b.Cash,b.Tallies,c,a5,s5)=some r∧∃ (list:List Deal) (now:Book) (a6 s6:Int),r=(list,now.Day,now.Cash,now.Tallies,c,a6,s6)∧DrN 11 now∧Run b list now∧list.length≤8:=by
    refine Lw_meas (tb:=spec_l07Drawn_p_b3) (fun s=>s.1.toNat) (fun s=>s.2.2.2.2.2.1=c∧0≤s.1∧s.1≤8∧s.2.1.length + s.1≤8∧Run b s.2.1 ⟨s.2.2.1,s.2.2.2.1,s.2.2.2.2.1⟩∧DrN (11 - s.1.toNat) ⟨s.2.2.1,s.2.2.2.1,s.2.2.2.2.1⟩∧0≤s.2.2.2.2.2.2.1∧s.2.2.2.2.2.2.1≤2010 + 10 * (8 - s.1)) _ ?_ _ _ rfl
      ⟨rfl,z1,by simp only; omega,by simp; omega,.nil b,hB.mono (by simp only; omega),by simp only; omega,by simp only; omega⟩
    rintro ⟨k,l,day,cs,ts,c',a,s⟩ ⟨rfl,hk,hk8,hl,hR,hD,ha,ha2⟩
    simp only at hk hk8 hl hR hD ha ha2
    by_cases h0:k > 0
    · obtain ⟨d,a6,s6,e6,hd,g7,g8,hs⟩:=draw_one c' hc a s ha (by omega) _ (by omega) _ hD
      have w:IntKind.i64.wrap (k - 1)=k - 1:=w64 (by omega)
      simp only at e6
      have ap:app 48 l [Deal.mk d.Day d.Kind d.Tally d.From d.To d.Amount]=some (l++[d]):=app_some (by simp; omega) (by decide)
      rcases hs with ⟨q,q0,hs⟩ | ⟨b',hs,st,hD'⟩
      · exact .inl ⟨(k - 1,l,day,cs,ts,c',a6,s6),by simp only [spec_l07Drawn_p_b3,h0,decide_true,if_true,e6,Option.bind_some,hs,w,beq_iff_eq,q0,if_false],⟨rfl,by simp only; omega,by simp only; omega,by simp only; omega,hR,hD.mono (by simp only; omega),by simp only; omega,by simp only; omega⟩,by simp only; omega⟩
      · exact .inl ⟨(k - 1,l++[d],b'.Day,b'.Cash,b'.Tallies,c',a6,s6),by simp only [spec_l07Drawn_p_b3,h0,decide_true,if_true,e6,Option.bind_some,hs,ap,w],⟨rfl,by simp only; omega,by simp only; omega,by simp; omega,hR.snoc hD.ok hd hs st,hD'.mono (by simp only; omega),by simp only; omega,by simp only; omega⟩,by simp only; omega⟩
    · exact .inr ⟨_,by simp only [spec_l07Drawn_p_b3,h0,decide_false,Bool.false_eq_true,if_false],l,⟨day,cs,ts⟩,a,s,rfl,hD.mono (by omega),hR,by omega⟩
  obtain ⟨_,l3,list,now,a6,s6,rfl,hN,hR,hl⟩:=L3
  rw [l3,Option.bind_some]
  exact ⟨b,list,now,a6,s6,rfl,hB,hN,hR,hl⟩
theorem days_ok (c:List Int) (hc:Bys c):∃ (b:Book) (list:List Deal) (now:Book),spec_A2Days c=some (b.Day,b.Cash,b.Tallies,list)∧DrN 3 b∧DrN 11 now∧Run b list now∧list.length≤8:=by
  obtain ⟨b,list,now,a',s',e,h⟩:=drawn_ok c hc 0
  exact ⟨b,list,now,by unfold spec_A2Days; rw [from_eq,Option.bind_some]; simp only; rw [e]; rfl,h⟩
end Go.Proofs.Ytjlalepbhcekoaa
namespace Go.Proofs.Ytjlalepbhcekoaa
open Go Go.Ab
end Go.Proofs.Ytjlalepbhcekoaa
namespace Go.Proofs.Ytjlalepbhcekoaa
open Go Go.Ab
theorem all_true (n:Nat):((List.range n).all fun _=>true)=true:=by simp
theorem l00Same_refl (a:List Int) (h:a.length≤4611686018427387904):spec_l00Same a a=some true:=by
  unfold spec_l00Same
  have key:=scan_all (tb:=spec_l00Same_b1 a a) a.length h (fun i=>true) () ()
    (by
      intro i hi
      simp only [spec_l00Same_b1,rd_coe,List.getElem?_eq_getElem hi,Option.bind_some]
      simp [hi])
    (by simp [spec_l00Same_b1])
  rw [if_neg (by simp),key,if_pos (all_true _)]
  rfl
theorem l07Same_refl (b:Book) (h:b.Cash.length≤4611686018427387904) (h2:b.Tallies.length≤4611686018427387904):spec_l07Same b b=some true:=by
  unfold spec_l07Same
  have key:=scan_all (tb:=spec_l07Same_b1 b b) b.Tallies.length h2 (fun i=>true) () ()
    (by
      intro i hi
      simp only [spec_l07Same_b1,rd_coe,List.getElem?_eq_getElem hi,Option.bind_some]
      simp [hi])
    (by simp [spec_l07Same_b1])
  simp [l00Same_refl b.Cash h,key]
theorem SameBook_refl (b:Book) (h:b.Cash.length≤4611686018427387904) (h2:b.Tallies.length≤4611686018427387904):spec_SameBook b b=some true:=by
  unfold spec_SameBook; rw [l07Same_refl b h h2]; rfl
end Go.Proofs.Ytjlalepbhcekoaa
namespace Go.Proofs.Ytjlalepbhcekoaa
open Go Go.Ab
theorem hist_loop (xs:List Deal) (t n:Int) (hn:xs.length≤80) :
    ∃ r r2,Lw (impl_history_b2 xs t) (n,0,[])=some r∧Lw (spec_l07History_b1 xs t) (n,0,[])=some r2∧r=r2∧r.length≤80:=by
  refine Lw_sim (tb:=impl_history_b2 xs t) (tb2:=spec_l07History_b1 xs t) (fun s=>xs.length - s.2.1.toNat) (fun s s2=>s=s2∧∃ i:Nat,s.2.1=i∧i≤xs.length∧s.2.2.length≤i) _ ?_ _ _ _ rfl ⟨rfl,0,rfl,by omega,by simp⟩
  rintro ⟨m,j,o⟩ s2 ⟨rfl,i,hi,hil,hol⟩
  simp only at hi hol
  subst hi
  by_cases hlt:i < xs.length
  · have hr:rd xs (i:Int)=some xs[i]:=by rw [rd_coe,List.getElem?_eq_getElem hlt]
    have w:=w64s hlt (by omega)
    have ap:app 8 o [(i:Int)]=some (o++[(i:Int)]):=app_some (by simp; omega) (by decide)
    revert hr
    generalize xs[i]=d
    intro hr
    left
    by_cases k1:d.Kind=1
    · by_cases k2:m=t
      · exact ⟨(IntKind.i64.wrap (m + 1),((i + 1:Nat):Int),o++[(i:Int)]),_,by simp [impl_history_b2,hr,hlt,k1,k2,ap,w],by simp [spec_l07History_b1,hr,hlt,k1,k2,ap,w],⟨rfl,i + 1,rfl,by omega,by simp; omega⟩,by simp; omega⟩
      · exact ⟨(IntKind.i64.wrap (m + 1),((i + 1:Nat):Int),o),_,by simp [impl_history_b2,hr,hlt,k1,k2,ap,w],by simp [spec_l07History_b1,hr,hlt,k1,k2,ap,w],⟨rfl,i + 1,rfl,by omega,by simp; omega⟩,by simp; omega⟩
    · by_cases k2:d.Tally=t
      · exact ⟨(m,((i + 1:Nat):Int),o++[(i:Int)]),_,by simp [impl_history_b2,hr,hlt,k1,k2,ap,w],by simp [spec_l07History_b1,hr,hlt,k1,k2,ap,w],⟨rfl,i + 1,rfl,by omega,by simp; omega⟩,by simp; omega⟩
      · exact ⟨(m,((i + 1:Nat):Int),o),_,by simp [impl_history_b2,hr,hlt,k1,k2,ap,w],by simp [spec_l07History_b1,hr,hlt,k1,k2,ap,w],⟨rfl,i + 1,rfl,by omega,by simp; omega⟩,by simp; omega⟩
  · right
    exact ⟨o,o,by simp [impl_history_b2,hlt],by simp [spec_l07History_b1,hlt],rfl,by omega⟩
theorem inB_len (t:Int) (n:Nat) (hn:n≤4611686018427387904):inB t 0 (IntKind.i64.wrap ((n:Int) - 1))=(decide (0≤t) && decide (t < n)):=by
  rw [w64 (by omega),Bool.eq_iff_iff,inB_iff]; simp; omega
end Go.Proofs.Ytjlalepbhcekoaa
namespace Go.Proofs.Ytjlalepbhcekoaa
open Go Go.Ab
theorem days_impl (ds:List Int) (hn:ds.length≤4611686018427387904):Lw (impl_WorthsOn_b1 ds) 0=some (if (ds.all fun d=>inB d 0 100000)=true then .inr () else .inl ()):=by
  have key:=scan_all (tb:=impl_WorthsOn_b1 ds) ds.length hn (fun i=>(ds[i]?).all fun d=>inB d 0 100000) () ()
    (by
      intro i hi
      simp only [impl_WorthsOn_b1,rd_coe,List.getElem?_eq_getElem hi,Option.bind_some,isBookDay_eq,Option.all_some]
      rw [if_pos (by simpa using hi)]
      cases inB ds[i] 0 100000 <;> simp)
    (by simp [impl_WorthsOn_b1])
  rw [key,all_get]
end Go.Proofs.Ytjlalepbhcekoaa
namespace Go.Proofs.Ytjlalepbhcekoaa
open Go Go.Ab
theorem getD_set {τ:Type} (l:List τ) (i q:Nat) (v d:τ):(l.set i v).getD q d=if q=i∧i < l.length then v else l.getD q d:=by
  simp only [List.getD_eq_getElem?_getD,List.getElem?_set]
  by_cases h:i=q
  · subst h
    by_cases h2:i < l.length
    · simp [h2]
    · simp [h2]
  · have:¬ q=i:=fun e=>h e.symm
    simp [h,this]
theorem rd_getD {τ:Type} {xs:List τ} {n:Int} (d:τ) (h0:0≤n) (h:n < xs.length):rd xs n=some (xs.getD n.toNat d):=by
  have hl:n.toNat < xs.length:=by omega
  rw [rd_in h0 h,List.getD_eq_getElem?_getD,List.getElem?_eq_getElem hl]
  rfl
theorem rd_getN {τ:Type} {xs:List τ} {n:Nat} (d:τ) (h:n < xs.length):rd xs (n:Int)=some (xs.getD n d):=rd_getD d (by omega) (by omega)
def hold (t:Nat) (b:Book):Option Int:=(b.Tallies[t]?).map (·.Holder)
def evt (t:Nat) (b:Book) (d:Deal):Bool:=(d.Kind==1 && b.Tallies.length==t) || (d.Kind==2 && d.Tally==(t:Int))
theorem hold_set {b:Book} {D:Int} {C:List Int} {i t:Nat} {x x':Tally} (hx:b.Tallies[i]? = some x):hold t ⟨D,C,b.Tallies.set i x'⟩=if t=i then some x'.Holder else hold t b:=by
  have hi:=(List.getElem?_eq_some_iff.1 hx).1
  unfold hold
  simp only [List.getElem?_set]
  by_cases h:i=t
  · subst h; simp [hi]
  · have:¬ t=i:=fun e=>h e.symm
    simp [h,this]
theorem do_hold {b:Book} {d:Deal} {D:Int} {C:List Int} {T:List Tally} (hb:BkI b) (hd:dealB d=true) (h:spec_l07Do b d=some (.inr (D,C,T))) (t:Nat) :
    D=d.Day∧b.Day≤d.Day∧T.length=b.Tallies.length + (if d.Kind=1 then 1 else 0)∧hold t ⟨D,C,T⟩=(if evt t b d=true then some d.To else hold t b):=by
  unfold spec_l07Do at h
  obtain ⟨r,hr,h⟩:=bind_some h
  by_cases r0:r=0
  rotate_left
  · rw [if_pos (by simpa using r0)] at h
    cases h
  subst r0
  have hday:b.Day≤d.Day:=by
    unfold spec_l07Refused at hr
    by_cases c:d.Day < b.Day
    · rw [if_pos (by simpa using c)] at hr
      cases hr
    · omega
  rw [if_neg (by simp),l07Copy_eq b hb,Option.bind_some] at h
  simp only at h
  by_cases k1:d.Kind=1
  · rw [if_pos (by simpa using k1)] at h
    obtain ⟨x,hx,h⟩:=bind_some h
    cases h
    unfold app at hx
    split at hx
    rotate_left
    · cases hx
    cases hx
    refine ⟨rfl,hday,by simp [k1],?_⟩
    unfold hold evt
    simp only [List.getElem?_append,k1]
    by_cases h1:t < b.Tallies.length
    · have:¬ b.Tallies.length=t:=by omega
      simp [h1,this]
    · by_cases h2:b.Tallies.length=t
      · subst h2; simp
      · have e1:b.Tallies[t]? = none:=List.getElem?_eq_none (by omega)
        have e2:t - b.Tallies.length≠0:=by omega
        obtain ⟨m,hm⟩:=Nat.exists_eq_succ_of_ne_zero e2
        simp [h1,h2,hm]
  · rw [if_neg (by simpa using k1)] at h
    obtain ⟨x,hx,h⟩:=bind_some h
    obtain ⟨t0,hx⟩:=rd_get hx
    have ht:(d.Tally==(t:Int))=decide (t=d.Tally.toNat):=by rw [Bool.eq_iff_iff]; simp; omega
    by_cases k2:d.Kind=2
    · have ev:evt t b d=decide (t=d.Tally.toNat):=by unfold evt; simp [k1,k2,ht]
      rw [if_pos (by simpa using k2)] at h
      split at h
      · cases h
        refine ⟨rfl,hday,by simp [k1],?_⟩
        rw [List.set_set,hold_set hx,ev]
        simp
      · cases h
        refine ⟨rfl,hday,by simp [k1],?_⟩
        rw [hold_set hx,ev]
        simp
    · have ev:evt t b d=false:=by unfold evt; simp [k1,k2]
      have same:∀ x':Tally,x'.Holder=x.Holder→∀ D C,hold t ⟨D,C,b.Tallies.set d.Tally.toNat x'⟩=hold t b:=fun x' hh D C=>by
        rw [hold_set hx]
        by_cases e:t=d.Tally.toNat
        · subst e; rw [if_pos rfl,hh]; unfold hold; rw [hx]; rfl
        · rw [if_neg e]
      rw [if_neg (by simpa using k2)] at h
      rw [ev]
      by_cases k3:d.Kind=3
      · rw [if_pos (by simpa using k3)] at h
        obtain ⟨_,_,h⟩:=bind_some h
        obtain ⟨_,_,h⟩:=bind_some h
        obtain ⟨_,_,h⟩:=bind_some h
        obtain ⟨_,_,h⟩:=bind_some h
        cases h
        exact ⟨rfl,hday,by simp [k1],by simp only [Bool.false_eq_true,if_false]; refine same _ ?_ _ _; rfl⟩
      · rw [if_neg (by simpa using k3)] at h
        by_cases k4:d.Kind=4
        · rw [if_pos (by simpa using k4)] at h
          cases h
          exact ⟨rfl,hday,by simp [k1],by simp only [Bool.false_eq_true,if_false]; refine same _ ?_ _ _; rfl⟩
        · rw [if_neg (by simpa using k4)] at h
          cases h
          exact ⟨rfl,hday,by simp [k1],rfl⟩
def Chn (b:Book) (xs:List Deal) (out:List Book):Prop:=
  out.length=xs.length∧∀ (i:Nat) (d:Deal) (p q:Book),xs[i]? = some d→(b::out)[i]? = some p→out[i]? = some q→BkI p∧p.Cash.length=b.Cash.length∧spec_l07Do p d=some (.inr (q.Day,q.Cash,q.Tallies))
theorem all_chain (xs:List Deal) (b:Book) (hb:BkI b) (hx:∀ d ∈ xs,dealB d=true) (hn:xs.length≤80) (out:List Book) (h:spec_l07All b xs=some (out,0,0)):Chn b xs out:=by
  have key:=Lw_meas (tb:=spec_l07All_b1 xs) (fun s=>xs.length - s.1.toNat)
    (fun s=>∃ i:Nat,s.1=i∧i≤xs.length∧s.2.2.2.2.length=i∧BkI ⟨s.2.1,s.2.2.1,s.2.2.2.1⟩∧s.2.2.1.length=b.Cash.length∧(b::s.2.2.2.2)[i]? = some ⟨s.2.1,s.2.2.1,s.2.2.2.1⟩ ∧
      ∀ (j:Nat) (d:Deal) (p q:Book),xs[j]? = some d→(b::s.2.2.2.2)[j]? = some p→s.2.2.2.2[j]? = some q→BkI p∧p.Cash.length=b.Cash.length∧spec_l07Do p d=some (.inr (q.Day,q.Cash,q.Tallies)))
    (fun r=>(∀ c k,r = .inl (c,k)→c≠0)∧∀ d cs ts o,r = .inr (d,cs,ts,o)→Chn b xs o)
    (by
      rintro ⟨j,d,cs,ts,o⟩ ⟨i,hi,hil,hol,hbk,hcl,hla,hch⟩
      simp only at hi hol hbk hcl hla hch
      subst hi
      by_cases hlt:i < xs.length
      · obtain ⟨q,e1,e2,e3⟩:=do_same ⟨d,cs,ts⟩ xs[i] hbk (hx _ (List.getElem_mem hlt))
        have hr:rd xs (i:Int)=some xs[i]:=by rw [rd_coe,List.getElem?_eq_getElem hlt]
        rcases q with q | ⟨d',cs',ts'⟩
        · have h0:q≠0:=e3.1 q rfl
          exact .inr ⟨.inl (q,(i:Int)),by simp [spec_l07All_b1,hr,hlt,e2,h0],fun c k e=>by cases e; exact h0,fun _ _ _ _ e=>by cases e⟩
        · obtain ⟨g1,g2⟩:=e3.2 _ _ _ rfl
          have ap:app 56 o [⟨d',cs',ts'⟩]=some (o++[⟨d',cs',ts'⟩]):=app_some (by simp; omega) (by decide)
          have w:=w64s hlt (by omega)
          refine .inl ⟨(((i + 1:Nat):Int),d',cs',ts',o++[⟨d',cs',ts'⟩]),by simp [spec_l07All_b1,hr,hlt,e2,ap,w],⟨i + 1,rfl,by omega,by simp [hol],g1,by simpa [hcl] using g2,by rw [List.getElem?_cons_succ,List.getElem?_append_right (by omega)]; simp [hol],fun j dd p q h1 h2 h3=>?_⟩,by simp; omega⟩
          by_cases hj:j < i
          · refine hch j dd p q h1 ?_ ?_
            · have:j < (b::o).length:=by simp; omega
              rw [← List.cons_append,List.getElem?_append_left this] at h2
              exact h2
            · rwa [List.getElem?_append_left (by omega)] at h3
          · by_cases hj2:j=i
            · subst hj2
              rw [← List.cons_append,List.getElem?_append_left (by simp; omega),hla] at h2
              cases h2
              rw [List.getElem?_append_right (by omega)] at h3
              have h4:q=⟨d',cs',ts'⟩:=by simpa [hol] using h3.symm
              subst h4
              rw [List.getElem?_eq_getElem hlt] at h1
              cases h1
              exact ⟨hbk,hcl,e2⟩
            · have:(o++[(⟨d',cs',ts'⟩:Book)])[j]? = none:=List.getElem?_eq_none (by simp; omega)
              rw [this] at h3; cases h3
      · have hie:i=xs.length:=by omega
        exact .inr ⟨.inr (d,cs,ts,o),by simp [spec_l07All_b1,hlt],fun _ _ e=>(by cases e),fun _ _ _ _ e=>by cases e; exact ⟨by omega,hch⟩⟩)
    _ (0,b.Day,b.Cash,b.Tallies,[]) rfl ⟨0,rfl,by omega,rfl,hb,rfl,rfl,fun j d p q _ _ h3=>by cases h3⟩
  obtain ⟨r,r1,r2,r3⟩:=key
  unfold spec_l07All at h
  rw [l07Copy_eq b hb,Option.bind_some] at h
  simp only at h
  rw [r1,Option.bind_some] at h
  rcases r with ⟨c,k⟩ | ⟨d,cs,ts,o⟩
  · cases h
    exact absurd rfl (r2 _ _ rfl)
  · cases h
    exact r3 _ _ _ _ rfl
end Go.Proofs.Ytjlalepbhcekoaa
namespace Go.Proofs.Ytjlalepbhcekoaa
open Go Go.Ab
abbrev TS:=List Int×List Bool×Int×Int
def takeP (next day:Int) (s:TS):TS:=if s.2.2.1≥0 then (s.1.set s.2.2.1.toNat (s.1.getD s.2.2.1.toNat 0 + (day - s.2.2.2)),s.2.1.set s.2.2.1.toNat true,next,day) else (s.1,s.2.1,next,day)
theorem take_i {next day:Int} {s:TS} {n:Nat} (h1:s.1.length=n) (h2:s.2.1.length=n) (h3:s.2.2.1 < n) (hb:∀ q,0≤s.1.getD q 0∧s.1.getD q 0≤1000000000) (hd:0≤day∧day≤100000) (hf:0≤s.2.2.2∧s.2.2.2≤100000) :
    impl_LongestHeld_1_pppp next day s.2.2.1 s.1 s.2.2.2 s.2.1=some ((takeP next day s).2.2.1,(takeP next day s).1,(takeP next day s).2.2.2,(takeP next day s).2.1):=by
  unfold impl_LongestHeld_1_pppp takeP
  by_cases h:s.2.2.1≥0
  · have:=hb s.2.2.1.toNat
    rw [if_pos (by simpa using h),if_pos h,rd_getD 0 h (by omega),Option.bind_some,Option.bind_some,rd_getD false h (by omega),Option.bind_some,w64 (by omega : -9223372036854775808≤day - s.2.2.2∧day - s.2.2.2≤9223372036854775807),w64 (by omega)]
  · rw [if_neg (by simpa using h),if_neg h]
def Bk (b:Book) (out:List Book) (i:Nat):Book:=(b::out).getD i b
def Dl (xs:List Deal) (i:Nat):Deal:=xs.getD i ⟨0,0,0,0,0,0⟩
def IS (t:Nat) (b:Book) (xs:List Deal) (out:List Book):Nat→TS
  | 0=>(List.replicate b.Cash.length 0,List.replicate b.Cash.length false,(hold t b).getD (-1),b.Day)
  | i + 1=>if evt t (Bk b out i) (Dl xs i)=true then takeP (Dl xs i).To (Dl xs i).Day (IS t b xs out i) else IS t b xs out i
def sDay (t:Nat) (p q:Book) (z:List Int):List Int:=
  match hold t p with
  | some h=>z.set h.toNat (z.getD h.toNat 0 + (q.Day - p.Day))
  | none=>z
def SD (t:Nat) (b:Book) (out:List Book):Nat→List Int
  | 0=>List.replicate b.Cash.length 0
  | i + 1=>sDay t (Bk b out i) (Bk b out (i + 1)) (SD t b out i)
def clo (o:Option Int) (day:Int) (s:TS):List Int:=
  match o with
  | some h=>s.1.set h.toNat (s.1.getD h.toNat 0 + (day - s.2.2.2))
  | none=>s.1
theorem set_self (l:List Int) (i:Nat):l.set i (l.getD i 0)=l:=by
  refine List.ext_getElem? fun q=>?_
  simp only [List.getElem?_set,List.getD_eq_getElem?_getD]
  by_cases h:i=q
  · subst h
    by_cases h2:i < l.length
    · simp [h2]
    · simp [h2]
  · simp [h]
structure CX (b:Book) (xs:List Deal) (out:List Book):Prop where
  ch:Chn b xs out
  hb:BkI b
  hd:∀ d ∈ xs,dealB d=true
  h0:0≤b.Day∧b.Day≤100000
  hn:xs.length≤80
section
variable {b:Book} {xs:List Deal} {out:List Book}
theorem CX.bk (c:CX b xs out) {i:Nat} (hi:i < xs.length):(b::out)[i]? = some (Bk b out i)∧out[i]? = some (Bk b out (i + 1))∧xs[i]? = some (Dl xs i):=by
  have hl:=c.ch.1
  unfold Bk Dl
  refine ⟨?_,?_,?_⟩
  · rw [List.getD_eq_getElem?_getD,List.getElem?_eq_getElem (by simp; omega)]; rfl
  · rw [List.getD_eq_getElem?_getD,List.getElem?_cons_succ,List.getElem?_eq_getElem (by omega)]; rfl
  · rw [List.getD_eq_getElem?_getD,List.getElem?_eq_getElem hi]; rfl
theorem CX.st (c:CX b xs out) (t:Nat) {i:Nat} (hi:i < xs.length) :
    (Bk b out (i + 1)).Day=(Dl xs i).Day∧(Bk b out i).Day≤(Dl xs i).Day∧(Dl xs i).Day≤100000 ∧
    hold t (Bk b out (i + 1))=(if evt t (Bk b out i) (Dl xs i)=true then some (Dl xs i).To else hold t (Bk b out i)) ∧
    (Bk b out (i + 1)).Tallies.length=(Bk b out i).Tallies.length + (if (Dl xs i).Kind=1 then 1 else 0)∧BkI (Bk b out (i + 1))∧(Bk b out (i + 1)).Cash.length=b.Cash.length:=by
  obtain ⟨e1,e2,e3⟩:=c.bk hi
  obtain ⟨g1,g2,g3⟩:=c.ch.2 i _ _ _ e3 e1 e2
  have hd:=c.hd _ (List.mem_of_getElem? e3)
  obtain ⟨k1,k2,k3,k4⟩:=do_hold g1 hd g3 t
  obtain ⟨q,_,q2,q3⟩:=do_same _ _ g1 hd
  rw [g3] at q2
  cases q2
  obtain ⟨m1,m2⟩:=q3.2 _ _ _ rfl
  have hday:(Dl xs i).Day≤100000:=by
    unfold dealB at hd
    simp only [Bool.and_eq_true] at hd
    exact (inB_iff.1 hd.1).2
  exact ⟨k1,k2,hday,k4,k3,m1,by rw [← g2]; exact m2⟩
theorem CX.ok (c:CX b xs out) (t:Nat):∀ {i:Nat},i≤xs.length→BkI (Bk b out i)∧(Bk b out i).Cash.length=b.Cash.length∧0≤(Bk b out i).Day∧(Bk b out i).Day≤100000
  | 0,_=>⟨c.hb,rfl,c.h0⟩
  | i + 1,h=>by
    obtain ⟨k1,k2,k3,k4,k5,k6,k7⟩:=c.st t (i:=i) (by omega)
    have:=c.ok t (i:=i) (by omega)
    exact ⟨k6,k7,by omega,by omega⟩
theorem CX.hr (c:CX b xs out) {t i:Nat} (hi:i≤xs.length) {h:Int} (hh:hold t (Bk b out i)=some h):0≤h∧h < b.Cash.length:=by
  obtain ⟨k1,k2,_⟩:=c.ok t hi
  unfold hold at hh
  obtain ⟨x,hx,rfl⟩:=Option.map_eq_some_iff.1 hh
  have:=(k1.ta x (List.mem_of_getElem? hx)).2.1
  rw [k2] at this
  exact this
structure LI (t:Nat) (b:Book) (xs:List Deal) (out:List Book) (i:Nat):Prop where
  l1:(IS t b xs out i).1.length=b.Cash.length
  l2:(IS t b xs out i).2.1.length=b.Cash.length
  h0:(IS t b xs out i).2.2.1=(hold t (Bk b out i)).getD (-1)
  f0:0≤(IS t b xs out i).2.2.2∧(IS t b xs out i).2.2.2≤(Bk b out i).Day
  dv:∀ q,0≤(IS t b xs out i).1.getD q 0∧(IS t b xs out i).1.getD q 0≤100000 * (i:Int)
  dh:∀ q,0 < (IS t b xs out i).1.getD q 0→(IS t b xs out i).2.1.getD q false=true
  sd:SD t b out i=clo (hold t (Bk b out i)) (Bk b out i).Day (IS t b xs out i)
  hA:∀ q:Nat,(IS t b xs out i).2.1.getD q false=true→∃ j,j≤i∧hold t (Bk b out j)=some (q:Int)
  hB:∀ j,j≤i→∀ h,hold t (Bk b out j)=some h→(IS t b xs out i).2.1.getD h.toNat false=true∨hold t (Bk b out i)=some h
theorem getD_rep {τ:Type} (n q:Nat) (d:τ):(List.replicate n d).getD q d=d:=by
  rw [List.getD_eq_getElem?_getD,List.getElem?_replicate]
  split <;> rfl
theorem LI.zero (c:CX b xs out) (t:Nat):LI t b xs out 0 where
  l1:=by simp [IS]
  l2:=by simp [IS]
  h0:=rfl
  f0:=⟨c.h0.1,Int.le_refl _⟩
  dv:=fun q=>by simp only [IS,getD_rep]; simp
  dh:=fun q h=>by simp only [IS,getD_rep] at h; omega
  sd:=by
    unfold SD clo
    show _=match hold t b with | some h=>_ | none=>_
    cases hold t b with
    | none=>rfl
    | some h=>
      simp only [IS]
      have:(Bk b out 0).Day - b.Day=0:=by show b.Day - b.Day=0; omega
      rw [this,Int.add_zero,set_self]
  hA:=fun q h=>by simp only [IS,getD_rep] at h; cases h
  hB:=fun j hj h hh=>by
    obtain rfl:j=0:=by omega
    exact .inr hh
theorem LI.step (c:CX b xs out) {t i:Nat} (hi:i < xs.length) (I:LI t b xs out i):LI t b xs out (i + 1):=by
  obtain ⟨k1,k2,k3,k4,_,_,_⟩:=c.st t hi
  obtain ⟨o1,o2,o3,o4⟩:=c.ok t (Nat.le_of_lt hi)
  have hr:=fun h hh=>c.hr (t:=t) (i:=i) (Nat.le_of_lt hi) (h:=h) hh
  have hr':=fun h hh=>c.hr (t:=t) (i:=i + 1) hi (h:=h) hh
  obtain ⟨i1,i2,i3,i4,i5,i6,i7,i8,i9⟩:=I
  have eIS:IS t b xs out (i + 1)=if evt t (Bk b out i) (Dl xs i)=true then takeP (Dl xs i).To (Dl xs i).Day (IS t b xs out i) else IS t b xs out i:=rfl
  have eSD:SD t b out (i + 1)=sDay t (Bk b out i) (Bk b out (i + 1)) (SD t b out i):=rfl
  generalize hs:IS t b xs out i=s at *
  cases hev:evt t (Bk b out i) (Dl xs i) with
  | true=>
    rw [hev,if_pos rfl] at eIS k4
    cases ho:hold t (Bk b out i) with
    | some h=>
      obtain ⟨r0,r1⟩:=hr h ho
      have hh:s.2.2.1=h:=by rw [i3,ho]; rfl
      have et:IS t b xs out (i + 1)=(s.1.set h.toNat (s.1.getD h.toNat 0 + ((Dl xs i).Day - s.2.2.2)),s.2.1.set h.toNat true,(Dl xs i).To,(Dl xs i).Day):=by
        rw [eIS]; unfold takeP; rw [hh,if_pos r0]
      have hlt:h.toNat < s.1.length:=by omega
      have hlt2:h.toNat < s.2.1.length:=by omega
      have hq:=i5 h.toNat
      refine ⟨by rw [et]; simpa using i1,by rw [et]; simpa using i2,by rw [et,k4]; rfl,by rw [et,k1]; exact ⟨by simp only; omega,Int.le_refl _⟩,fun q=>?_,fun q hp=>?_,?_,fun q hq'=>?_,fun j hj h' hh'=>?_⟩
      · rw [et]
        simp only [getD_set]
        have:=i5 q
        split <;> constructor <;> push_cast <;> omega
      · rw [et] at hp ⊢
        simp only [getD_set] at hp ⊢
        by_cases e:q=h.toNat∧h.toNat < s.2.1.length
        · rw [if_pos e]
        · have e2:¬ (q=h.toNat∧h.toNat < s.1.length):=by omega
          rw [if_neg e]
          rw [if_neg e2] at hp
          exact i6 q hp
      · rw [eSD,i7,k4,k1]
        unfold sDay clo
        rw [ho,et]
        simp only
        rw [Int.sub_self,Int.add_zero,set_self,List.set_set,getD_set,if_pos ⟨rfl,hlt⟩]
        congr 1
        omega
      · rw [et] at hq'
        simp only [getD_set] at hq'
        by_cases e:q=h.toNat
        · exact ⟨i,by omega,by rw [ho,e]; congr 1; omega⟩
        · rw [if_neg (by omega)] at hq'
          obtain ⟨j,j1,j2⟩:=i8 q hq'
          exact ⟨j,by omega,j2⟩
      · by_cases e:j=i + 1
        · subst e; exact .inr hh'
        · refine .inl ?_
          rw [et]
          simp only [getD_set]
          rcases i9 j (by omega) h' hh' with g | g
          · rw [g]; split <;> rfl
          · rw [ho] at g
            cases g
            rw [if_pos ⟨rfl,hlt2⟩]
    | none=>
      have hh:s.2.2.1 = -1:=by rw [i3,ho]; rfl
      have et:IS t b xs out (i + 1)=(s.1,s.2.1,(Dl xs i).To,(Dl xs i).Day):=by
        rw [eIS]; unfold takeP; rw [hh,if_neg (by omega)]
      refine ⟨by rw [et]; exact i1,by rw [et]; exact i2,by rw [et,k4]; rfl,by rw [et,k1]; exact ⟨by simp only; omega,Int.le_refl _⟩,fun q=>?_,fun q hp=>by rw [et] at hp ⊢; exact i6 q hp,?_,fun q hq'=>?_,fun j hj h' hh'=>?_⟩
      · rw [et]
        have:=i5 q
        constructor <;> push_cast <;> (try simp only) <;> omega
      · rw [eSD,i7,k4,k1]
        unfold sDay clo
        rw [ho,et]
        simp only
        rw [Int.sub_self,Int.add_zero,set_self]
      · rw [et] at hq'
        obtain ⟨j,j1,j2⟩:=i8 q hq'
        exact ⟨j,by omega,j2⟩
      · by_cases e:j=i + 1
        · subst e; exact .inr hh'
        · rcases i9 j (by omega) h' hh' with g | g
          · exact .inl (by rw [et]; exact g)
          · rw [ho] at g; cases g
  | false=>
    rw [hev,if_neg (by simp)] at eIS k4
    refine ⟨by rw [eIS]; exact i1,by rw [eIS]; exact i2,by rw [eIS,k4]; exact i3,by rw [eIS,k1]; exact ⟨i4.1,by omega⟩,fun q=>?_,fun q hp=>by rw [eIS] at hp ⊢; exact i6 q hp,?_,fun q hq'=>?_,fun j hj h' hh'=>?_⟩
    · rw [eIS]
      have:=i5 q
      constructor <;> push_cast <;> omega
    · rw [eSD,i7,k4,k1,eIS]
      unfold sDay clo
      cases ho:hold t (Bk b out i) with
      | none=>rfl
      | some h=>
        obtain ⟨r0,r1⟩:=hr h ho
        have hlt:h.toNat < s.1.length:=by omega
        simp only [List.set_set,getD_set,hlt,and_self,if_true]
        congr 1
        omega
    · rw [eIS] at hq'
      obtain ⟨j,j1,j2⟩:=i8 q hq'
      exact ⟨j,by omega,j2⟩
    · rw [eIS,k4]
      by_cases e:j=i + 1
      · subst e; rw [k4] at hh'; exact .inr hh'
      · exact i9 j (by omega) h' hh'
theorem LI.all (c:CX b xs out) (t:Nat):∀ {i:Nat},i≤xs.length→LI t b xs out i
  | 0,_=>LI.zero c t
  | i + 1,h=>(LI.all c t (i:=i) (by omega)).step c (by omega)
end
end Go.Proofs.Ytjlalepbhcekoaa
namespace Go.Proofs.Ytjlalepbhcekoaa
open Go Go.Ab
def stepO (xs:List Deal) (s:TS) (x:Int):TS:=if (Dl xs x.toNat).Kind=1∨(Dl xs x.toNat).Kind=2 then takeP (Dl xs x.toNat).To (Dl xs x.toNat).Day s else s
def run (xs:List Deal) (s:TS) (o:List Int):TS:=o.foldl (stepO xs) s
theorem run_snoc (xs:List Deal) (s:TS) (o:List Int) (x:Int):run xs s (o++[x])=stepO xs (run xs s o) x:=by
  unfold run; rw [List.foldl_append]; rfl
section
variable {b:Book} {xs:List Deal} {out:List Book}
theorem hist_run (c:CX b xs out) (t:Nat):∃ o,Lw (impl_history_b2 xs (t:Int)) ((b.Tallies.length:Int),0,[])=some o∧(∀ x ∈ o,∃ j:Nat,j < xs.length∧x=(j:Int)) ∧
    (∀ k,k≤o.length→∃ j,j≤xs.length∧run xs (IS t b xs out 0) (o.take k)=IS t b xs out j)∧run xs (IS t b xs out 0) o=IS t b xs out xs.length∧o.length≤80:=by
  have hn:=c.hn
  refine Lw_meas (tb:=impl_history_b2 xs (t:Int)) (fun s=>xs.length - s.2.1.toNat)
    (fun s=>∃ i:Nat,s.2.1=i∧i≤xs.length∧s.1=((Bk b out i).Tallies.length:Int)∧s.2.2.length≤i∧(∀ x ∈ s.2.2,∃ j:Nat,j < xs.length∧x=(j:Int)) ∧
      (∀ k,k≤s.2.2.length→∃ j,j≤xs.length∧run xs (IS t b xs out 0) (s.2.2.take k)=IS t b xs out j)∧run xs (IS t b xs out 0) s.2.2=IS t b xs out i) _ ?_ _ _ rfl
    ⟨0,rfl,by omega,rfl,by simp,(fun x h=>by cases h),fun k hk=>⟨0,by omega,by simp [run]⟩,rfl⟩
  rintro ⟨m,j,o⟩ ⟨i,hi,hil,hm,hol,hmem,hpre,hrun⟩
  simp only at hi hm hol hmem hpre hrun
  subst hi hm
  by_cases hlt:i < xs.length
  · obtain ⟨e1,e2,e3⟩:=c.bk hlt
    obtain ⟨k1,k2,k3,k4,k5,_,_⟩:=c.st t hlt
    obtain ⟨o1,_,_,_⟩:=c.ok t hil
    have htn:=o1.tn
    have hr:rd xs (i:Int)=some (Dl xs i):=by rw [rd_coe,e3]
    have w:=w64s hlt (by omega)
    have wm:IntKind.i64.wrap (((Bk b out i).Tallies.length:Int) + 1)=(((Bk b out i).Tallies.length + 1:Nat):Int):=by rw [w64 (by omega)]; rfl
    have ap:app 8 o [(i:Int)]=some (o++[(i:Int)]):=app_some (by simp; omega) (by decide)
    have eIS:IS t b xs out (i + 1)=if evt t (Bk b out i) (Dl xs i)=true then takeP (Dl xs i).To (Dl xs i).Day (IS t b xs out i) else IS t b xs out i:=rfl
    have noted:∀ (hs:stepO xs (IS t b xs out i) (i:Int)=IS t b xs out (i + 1)),(∀ x ∈ o++[(i:Int)],∃ j:Nat,j < xs.length∧x=(j:Int)) ∧
        (∀ k,k≤(o++[(i:Int)]).length→∃ j,j≤xs.length∧run xs (IS t b xs out 0) ((o++[(i:Int)]).take k)=IS t b xs out j)∧run xs (IS t b xs out 0) (o++[(i:Int)])=IS t b xs out (i + 1):=by
      intro hs
      have h3:run xs (IS t b xs out 0) (o++[(i:Int)])=IS t b xs out (i + 1):=by rw [run_snoc,hrun,hs]
      refine ⟨fun x hx=>?_,fun k hk=>?_,h3⟩
      · rcases List.mem_append.1 hx with h | h
        · exact hmem x h
        · exact ⟨i,hlt,by simpa using h⟩
      · by_cases hk2:k≤o.length
        · obtain ⟨j,j1,j2⟩:=hpre k hk2
          exact ⟨j,j1,by rw [List.take_append_of_le_length hk2]; exact j2⟩
        · refine ⟨i + 1,hlt,?_⟩
          rw [List.take_of_length_le (by simp; simp at hk; omega)]
          exact h3
    have hto:((i:Int)).toNat=i:=by simp
    left
    by_cases c1:(Dl xs i).Kind=1
    · rw [if_pos c1] at k5
      by_cases c2:(Bk b out i).Tallies.length=t
      · have ev:evt t (Bk b out i) (Dl xs i)=true:=by unfold evt; simp [c1,c2]
        obtain ⟨n1,n2,n3⟩:=noted (by unfold stepO; rw [hto,if_pos (.inl c1),eIS,if_pos ev])
        have c2':((Bk b out i).Tallies.length:Int)=(t:Int):=by omega
        exact ⟨((((Bk b out i).Tallies.length + 1:Nat):Int),((i + 1:Nat):Int),o++[(i:Int)]),by simp only [impl_history_b2,hr,Option.bind_some,ap,w,wm]; simp [hlt,c1,c2'],⟨i + 1,rfl,hlt,by simp only [k5],by simp; omega,n1,n2,n3⟩,by simp; omega⟩
      · have ev:evt t (Bk b out i) (Dl xs i)=false:=by unfold evt; simp [c1,c2]
        have c2':¬ ((Bk b out i).Tallies.length:Int)=(t:Int):=by omega
        exact ⟨((((Bk b out i).Tallies.length + 1:Nat):Int),((i + 1:Nat):Int),o),by simp only [impl_history_b2,hr,Option.bind_some,ap,w,wm]; simp [hlt,c1,c2'],⟨i + 1,rfl,hlt,by simp only [k5],by simp only; omega,hmem,hpre,by simp only; rw [hrun,eIS,if_neg (by rw [ev]; simp)]⟩,by simp; omega⟩
    · rw [if_neg c1] at k5
      by_cases c2:(Dl xs i).Tally=(t:Int)
      · by_cases c3:(Dl xs i).Kind=2
        · have ev:evt t (Bk b out i) (Dl xs i)=true:=by unfold evt; simp [c3,c2]
          obtain ⟨n1,n2,n3⟩:=noted (by unfold stepO; rw [hto,if_pos (.inr c3),eIS,if_pos ev])
          exact ⟨(((Bk b out i).Tallies.length:Int),((i + 1:Nat):Int),o++[(i:Int)]),by simp only [impl_history_b2,hr,Option.bind_some,ap,w,wm]; simp [hlt,c1,c2],⟨i + 1,rfl,hlt,by simp only [k5,Nat.add_zero],by simp; omega,n1,n2,n3⟩,by simp; omega⟩
        · have ev:evt t (Bk b out i) (Dl xs i)=false:=by unfold evt; simp [c1,c3]
          obtain ⟨n1,n2,n3⟩:=noted (by unfold stepO; rw [hto,if_neg (by omega),eIS,if_neg (by rw [ev]; simp)])
          exact ⟨(((Bk b out i).Tallies.length:Int),((i + 1:Nat):Int),o++[(i:Int)]),by simp only [impl_history_b2,hr,Option.bind_some,ap,w,wm]; simp [hlt,c1,c2],⟨i + 1,rfl,hlt,by simp only [k5,Nat.add_zero],by simp; omega,n1,n2,n3⟩,by simp; omega⟩
      · have ev:evt t (Bk b out i) (Dl xs i)=false:=by unfold evt; simp [c1,c2]
        exact ⟨(((Bk b out i).Tallies.length:Int),((i + 1:Nat):Int),o),by simp only [impl_history_b2,hr,Option.bind_some,ap,w,wm]; simp [hlt,c1,c2],⟨i + 1,rfl,hlt,by simp only [k5,Nat.add_zero],by simp only; omega,hmem,hpre,by simp only; rw [hrun,eIS,if_neg (by rw [ev]; simp)]⟩,by simp; omega⟩
  · have:i=xs.length:=by omega
    subst this
    exact .inr ⟨o,by simp [impl_history_b2],hmem,hpre,hrun,by omega⟩
theorem take_is (c:CX b xs out) (t:Nat) {i:Nat} (hi:i≤xs.length) {next day:Int} (hd:0≤day∧day≤100000) :
    impl_LongestHeld_1_pppp next day (IS t b xs out i).2.2.1 (IS t b xs out i).1 (IS t b xs out i).2.2.2 (IS t b xs out i).2.1 =
      some ((takeP next day (IS t b xs out i)).2.2.1,(takeP next day (IS t b xs out i)).1,(takeP next day (IS t b xs out i)).2.2.2,(takeP next day (IS t b xs out i)).2.1):=by
  have I:=LI.all c t hi
  obtain ⟨o1,o2,o3,o4⟩:=c.ok t hi
  have hn:=c.hn
  refine take_i I.l1 I.l2 ?_ (fun q=>?_) hd ⟨I.f0.1,by have:=I.f0.2; omega⟩
  · rw [I.h0]
    cases ho:hold t (Bk b out i) with
    | none=>show (-1:Int) < _; omega
    | some h=>exact (c.hr hi ho).2
  · have:=I.dv q
    omega
theorem take_loop (c:CX b xs out) (t:Nat) (o:List Int) (h1:∀ x ∈ o,∃ j:Nat,j < xs.length∧x=(j:Int)) (h2:∀ k,k≤o.length→∃ j,j≤xs.length∧run xs (IS t b xs out 0) (o.take k)=IS t b xs out j) (hol:o.length≤80) :
    Lw (impl_LongestHeld_b3 xs o) (0,(IS t b xs out 0).1,(IS t b xs out 0).2.1,(IS t b xs out 0).2.2.1,(IS t b xs out 0).2.2.2) =
      some ((run xs (IS t b xs out 0) o).1,(run xs (IS t b xs out 0) o).2.1,(run xs (IS t b xs out 0) o).2.2.1,(run xs (IS t b xs out 0) o).2.2.2):=by
  have key:=Lw_run (tb:=impl_LongestHeld_b3 xs o) (fun k=>((k:Int),(run xs (IS t b xs out 0) (o.take k)).1,(run xs (IS t b xs out 0) (o.take k)).2.1,(run xs (IS t b xs out 0) (o.take k)).2.2.1,(run xs (IS t b xs out 0) (o.take k)).2.2.2)) o.length
    (r:=((run xs (IS t b xs out 0) o).1,(run xs (IS t b xs out 0) o).2.1,(run xs (IS t b xs out 0) o).2.2.1,(run xs (IS t b xs out 0) o).2.2.2))
    (by
      intro k hk
      obtain ⟨j,j1,j2⟩:=h1 _ (List.getElem_mem hk)
      obtain ⟨e1,e2,e3⟩:=c.bk j1
      have hr:rd o (k:Int)=some (j:Int):=by rw [rd_coe,List.getElem?_eq_getElem hk,j2]
      have hr2:rd xs (j:Int)=some (Dl xs j):=by rw [rd_coe,e3]
      have w:=w64s hk (by omega)
      have hd:=c.hd _ (List.mem_of_getElem? e3)
      have hday:0≤(Dl xs j).Day∧(Dl xs j).Day≤100000:=by
        unfold dealB at hd
        simp only [Bool.and_eq_true] at hd
        exact inB_iff.1 hd.1
      obtain ⟨q,q1,q2⟩:=h2 k (by omega)
      have hs:run xs (IS t b xs out 0) (o.take (k + 1))=stepO xs (run xs (IS t b xs out 0) (o.take k)) (j:Int):=by
        rw [List.take_succ_eq_append_getElem hk,run_snoc,j2]
      rw [hs,q2]
      have ht:=take_is c t q1 (next:=(Dl xs j).To) (day:=(Dl xs j).Day) hday
      unfold stepO
      rw [Int.toNat_natCast]
      by_cases c1:(Dl xs j).Kind=1
      · rw [if_pos (.inl c1)]
        simp only [impl_LongestHeld_b3,hr,hr2,Option.bind_some,ht,w]
        simp [hk,c1]
      · by_cases c2:(Dl xs j).Kind=2
        · rw [if_pos (.inr c2)]
          simp only [impl_LongestHeld_b3,hr,hr2,Option.bind_some,ht,w]
          simp [hk,c1,c2]
        · rw [if_neg (by omega)]
          simp only [impl_LongestHeld_b3,hr,hr2,Option.bind_some,ht,w]
          simp [hk,c1,c2])
    (by rw [List.take_length]; simp [impl_LongestHeld_b3])
  simpa [run] using key
theorem sd_bound (c:CX b xs out) (t:Nat) {i:Nat} (hi:i≤xs.length):(SD t b out i).length=b.Cash.length∧∀ q,0≤(SD t b out i).getD q 0∧(SD t b out i).getD q 0≤100000 * ((i:Int) + 1):=by
  have I:=LI.all c t hi
  obtain ⟨o1,o2,o3,o4⟩:=c.ok t hi
  have f0:=I.f0
  rw [I.sd]
  unfold clo
  cases hold t (Bk b out i) with
  | none=>exact ⟨I.l1,fun q=>by have:=I.dv q; simp only; omega⟩
  | some h=>
    refine ⟨by simpa using I.l1,fun q=>?_⟩
    simp only [getD_set]
    have:=I.dv q
    have:=I.dv h.toNat
    split <;> omega
theorem days_spec (c:CX b xs out) (t:Nat):Lw (spec_LongestHeld_b1 (t:Int) (b::out)) (1,List.replicate b.Cash.length 0)=some (SD t b out xs.length):=by
  have hl:=c.ch.1
  have hn:=c.hn
  have key:=Lw_run (tb:=spec_LongestHeld_b1 (t:Int) (b::out)) (fun k=>(((k + 1:Nat):Int),SD t b out k)) xs.length (r:=SD t b out xs.length)
    (by
      intro k hk
      obtain ⟨e1,e2,e3⟩:=c.bk hk
      obtain ⟨s1,s2⟩:=sd_bound c t (Nat.le_of_lt hk)
      obtain ⟨o1,o2,o3,o4⟩:=c.ok t (Nat.le_of_lt hk)
      obtain ⟨p1,p2,p3,p4⟩:=c.ok t (i:=k + 1) hk
      have w1:IntKind.i64.wrap (((k + 1:Nat):Int) - 1)=(k:Int):=by rw [w64 (by omega)]; omega
      have w2:IntKind.i64.wrap (((k + 1:Nat):Int) + 1)=((k + 1 + 1:Nat):Int):=by rw [w64 (by omega)]; omega
      have r1:rd (b::out) (k:Int)=some (Bk b out k):=by rw [rd_coe,e1]
      have r2:rd (b::out) ((k + 1:Nat):Int)=some (Bk b out (k + 1)):=by rw [rd_coe,List.getElem?_cons_succ,e2]
      have eSD:SD t b out (k + 1)=sDay t (Bk b out k) (Bk b out (k + 1)) (SD t b out k):=rfl
      have hk':((k + 1:Nat):Int) < (((b::out).length:Nat):Int):=by simp; omega
      rw [eSD]
      unfold sDay
      by_cases ht:t < (Bk b out k).Tallies.length
      · have rt:rd (Bk b out k).Tallies (t:Int)=some (Bk b out k).Tallies[t]:=by rw [rd_coe,List.getElem?_eq_getElem ht]
        have hh:hold t (Bk b out k)=some (Bk b out k).Tallies[t].Holder:=by unfold hold; rw [List.getElem?_eq_getElem ht]; rfl
        obtain ⟨h0,h1⟩:=c.hr (Nat.le_of_lt hk) hh
        have r3:=rd_getD (xs:=SD t b out k) (n:=(Bk b out k).Tallies[t].Holder) 0 h0 (by omega)
        have hq:=s2 (Bk b out k).Tallies[t].Holder.toNat
        rw [hh]
        unfold spec_LongestHeld_b1
        simp only [w1,r1,r2,Option.bind_some,rt,r3,w2]
        rw [if_pos (by simpa using hk'),if_pos (by simpa using ht),w64 (by omega : -9223372036854775808≤(Bk b out (k + 1)).Day - (Bk b out k).Day∧(Bk b out (k + 1)).Day - (Bk b out k).Day≤9223372036854775807),w64 (by omega)]
      · have hh:hold t (Bk b out k)=none:=by unfold hold; rw [List.getElem?_eq_none (by omega)]; rfl
        rw [hh]
        unfold spec_LongestHeld_b1
        simp only [w1,r1,Option.bind_some,w2]
        rw [if_pos (by simpa using hk'),if_neg (by simpa using ht)])
    (by
      unfold spec_LongestHeld_b1
      dsimp only
      rw [if_neg (by simp; omega)])
  exact key
end
theorem pick_i (ds:List Int) (hs:List Bool) (hl:hs.length=ds.length) (hn:ds.length≤16):∃ m:Int,Lw (impl_LongestHeld_b4 ds hs) (-1,0)=some m ∧
    ((m = -1∧∀ q,q < ds.length→hs.getD q false=false)∨∃ k:Nat,m=k∧k < ds.length∧hs.getD k false=true∧∀ q,q < ds.length→hs.getD q false=true→ds.getD q 0≤ds.getD k 0∧(q < k→ds.getD q 0 < ds.getD k 0)):=by
  refine Lw_meas (tb:=impl_LongestHeld_b4 ds hs) (fun s=>ds.length - s.2.toNat)
    (fun s=>∃ i:Nat,s.2=i∧i≤ds.length∧((s.1 = -1∧∀ q,q < i→hs.getD q false=false)∨∃ k:Nat,s.1=k∧k < i∧hs.getD k false=true∧∀ q,q < i→hs.getD q false=true→ds.getD q 0≤ds.getD k 0∧(q < k→ds.getD q 0 < ds.getD k 0))) _ ?_ _ _ rfl ⟨0,rfl,by omega,.inl ⟨rfl,fun q h=>by omega⟩⟩
  rintro ⟨m,j⟩ ⟨i,hi,hil,hI⟩
  simp only at hi hI
  subst hi
  by_cases hlt:i < ds.length
  · have r1:=rd_getN (xs:=ds) (n:=i) 0 hlt
    have r2:=rd_getN (xs:=hs) (n:=i) false (by omega)
    have w:=w64s hlt (by omega)
    left
    cases hh:hs.getD i false with
    | false=>
      rw [hh] at r2
      refine ⟨(m,((i + 1:Nat):Int)),by simp only [impl_LongestHeld_b4,r1,r2,Option.bind_some,w]; simp [hlt],⟨i + 1,rfl,hlt,?_⟩,by simp; omega⟩
      rcases hI with ⟨h1,h2⟩ | ⟨k,h1,h2,h3,h4⟩
      · exact .inl ⟨h1, fun q hq => by by_cases e : q = i
                                       · subst e; exact hh
                                       · exact h2 q (by omega)⟩
      · exact .inr ⟨k, h1, by omega, h3, fun q hq hq2 => by by_cases e : q = i
                                                            · subst e; rw [hh] at hq2; cases hq2
                                                            · exact h4 q (by omega) hq2⟩
    | true=>
      rw [hh] at r2
      rcases hI with ⟨h1,h2⟩ | ⟨k,h1,h2,h3,h4⟩
      · subst h1
        refine ⟨((i:Int),((i + 1:Nat):Int)),by simp only [impl_LongestHeld_b4,r1,r2,Option.bind_some,w]; simp [hlt],⟨i + 1,rfl,hlt,.inr ⟨i,rfl,by omega,hh,fun q hq hq2=>?_⟩⟩,by simp; omega⟩
        by_cases e:q=i
        · subst e; exact ⟨Int.le_refl _,fun h=>by omega⟩
        · rw [h2 q (by omega)] at hq2; cases hq2
      · subst h1
        have r3:=rd_getN (xs:=ds) (n:=k) 0 (by omega)
        have z:¬ (k:Int) < 0:=by omega
        by_cases g:ds.getD i 0 > ds.getD k 0
        · refine ⟨((i:Int),((i + 1:Nat):Int)),by simp only [impl_LongestHeld_b4,r1,r2,r3,Option.bind_some,w]; simp only [decide_eq_true_eq,z,if_false,g,if_true]; simp [hlt],⟨i + 1,rfl,hlt,.inr ⟨i,rfl,by omega,hh,fun q hq hq2=>?_⟩⟩,by simp; omega⟩
          by_cases e:q=i
          · subst e; exact ⟨Int.le_refl _,fun h=>by omega⟩
          · have:=(h4 q (by omega) hq2).1
            exact ⟨by omega,fun _=>by omega⟩
        · refine ⟨((k:Int),((i + 1:Nat):Int)),by simp only [impl_LongestHeld_b4,r1,r2,r3,Option.bind_some,w]; simp only [decide_eq_true_eq,z,if_false,g,if_true]; simp [hlt],⟨i + 1,rfl,hlt,.inr ⟨k,rfl,by omega,h3,fun q hq hq2=>?_⟩⟩,by simp; omega⟩
          by_cases e:q=i
          · subst e; exact ⟨by omega,fun h=>by omega⟩
          · exact h4 q (by omega) hq2
  · have:i=ds.length:=by omega
    subst this
    exact .inr ⟨m,by simp [impl_LongestHeld_b4],hI⟩
theorem pick_s (ds:List Int) (h1:1≤ds.length) (hn:ds.length≤16):∃ r:Int×Bool,Lw (spec_LongestHeld_b2 ds) (0,false,0)=some r ∧
    ∃ k:Nat,r.1=k∧k < ds.length∧(∀ q,q < ds.length→ds.getD q 0≤ds.getD k 0∧(q < k→ds.getD q 0 < ds.getD k 0))∧(r.2=true↔∃ q,q < ds.length∧ds.getD q 0 > 0):=by
  refine Lw_meas (tb:=spec_LongestHeld_b2 ds) (fun s=>ds.length - s.2.2.toNat)
    (fun s=>∃ i:Nat,s.2.2=i∧i≤ds.length∧∃ k:Nat,s.1=k∧k < ds.length∧(k≤i)∧(∀ q,q < i→ds.getD q 0≤ds.getD k 0)∧(∀ q,q < k→ds.getD q 0 < ds.getD k 0)∧(s.2.1=true↔∃ q,q < i∧ds.getD q 0 > 0)) _ ?_ _ _ rfl
    ⟨0,rfl,by omega,0,rfl,by omega,by omega,fun q h=>by omega,fun q h=>by omega,⟨(fun h=>by cases h),(fun ⟨q,h,_⟩=>by omega)⟩⟩
  rintro ⟨a,f,j⟩ ⟨i,hi,hil,k,hk,k1,k2,k3,k4,k5⟩
  simp only at hi hk k5
  subst hi hk
  by_cases hlt:i < ds.length
  · have r1:=rd_getN (xs:=ds) (n:=i) 0 hlt
    have r2:=rd_getN (xs:=ds) (n:=k) 0 k1
    have w:=w64s hlt (by omega)
    have fnew:∀ f':Bool,(f'=(f || decide (ds.getD i 0 > 0)))→(f'=true↔∃ q,q < i + 1∧ds.getD q 0 > 0):=by
      rintro f' rfl
      rw [Bool.or_eq_true,k5,decide_eq_true_eq]
      constructor
      · rintro (⟨q,h,h'⟩ | h)
        · exact ⟨q,by omega,h'⟩
        · exact ⟨i,by omega,h⟩
      · rintro ⟨q,h,h'⟩
        by_cases e:q=i
        · subst e; exact .inr h'
        · exact .inl ⟨q,by omega,h'⟩
    left
    by_cases g:ds.getD i 0 > ds.getD k 0
    · refine ⟨((i:Int),(f || decide (ds.getD i 0 > 0)),((i + 1:Nat):Int)),?_,⟨i + 1,rfl,hlt,i,rfl,hlt,by omega,fun q hq=>?_,fun q hq=>?_,fnew _ rfl⟩,by simp; omega⟩
      · cases f <;> simp only [spec_LongestHeld_b2,r1,r2,Option.bind_some,w] <;> simp only [decide_eq_true_eq,g,if_true] <;> simp [hlt]
      · by_cases e:q=i
        · subst e; exact Int.le_refl _
        · have:=k3 q (by omega); omega
      · have:=k3 q (by omega); omega
    · refine ⟨((k:Int),(f || decide (ds.getD i 0 > 0)),((i + 1:Nat):Int)),?_,⟨i + 1,rfl,hlt,k,rfl,k1,by omega,fun q hq=>?_,k4,fnew _ rfl⟩,by simp; omega⟩
      · cases f <;> simp only [spec_LongestHeld_b2,r1,r2,Option.bind_some,w] <;> simp only [decide_eq_true_eq,g,if_false] <;> simp [hlt]
      · by_cases e:q=i
        · subst e; omega
        · exact k3 q (by omega)
  · have:i=ds.length:=by omega
    subst this
    exact .inr ⟨((k:Int),f),by simp [spec_LongestHeld_b2],k,rfl,k1,fun q hq=>⟨k3 q hq,k4 q⟩,k5⟩
theorem least_s (all:List Book) (t:Nat) (h0:Int) (hn:all.length≤1000):∃ r,spec_l07Least all (t:Int) h0=some r∧r≤h0∧(r=h0∨∃ (j:Nat) (x:Book),all[j]? = some x∧hold t x=some r)∧∀ (j:Nat) (x:Book) (h:Int),all[j]? = some x→hold t x=some h→r≤h:=by
  have key:∃ r,Lw (spec_l07Least_b1 all (t:Int)) (h0,0)=some r∧(r≤h0∧(r=h0∨∃ (j:Nat) (x:Book),all[j]? = some x∧hold t x=some r)∧∀ (j:Nat) (x:Book) (h:Int),all[j]? = some x→hold t x=some h→r≤h):=by
    refine Lw_meas (tb:=spec_l07Least_b1 all (t:Int)) (fun s=>all.length - s.2.toNat)
      (fun s=>∃ i:Nat,s.2=i∧i≤all.length∧s.1≤h0∧(s.1=h0∨∃ (j:Nat) (x:Book),all[j]? = some x∧hold t x=some s.1)∧∀ (j:Nat) (x:Book) (h:Int),j < i→all[j]? = some x→hold t x=some h→s.1≤h) _ ?_ _ _ rfl ⟨0,rfl,by omega,Int.le_refl _,.inl rfl,fun j x h hj=>by omega⟩
    rintro ⟨a,j⟩ ⟨i,hi,hil,q1,q2,q3⟩
    simp only at hi q1 q2 q3
    subst hi
    by_cases hlt:i < all.length
    · have e:all[i]? = some all[i]:=List.getElem?_eq_getElem hlt
      have r1:rd all (i:Int)=some all[i]:=by rw [rd_coe,e]
      have w:=w64s hlt (by omega)
      left
      by_cases ht:t < all[i].Tallies.length
      · have rt:rd all[i].Tallies (t:Int)=some all[i].Tallies[t]:=by rw [rd_coe,List.getElem?_eq_getElem ht]
        have hh:hold t all[i]=some all[i].Tallies[t].Holder:=by unfold hold; rw [List.getElem?_eq_getElem ht]; rfl
        have ht':(t:Int) < (all[i].Tallies.length:Int):=by omega
        by_cases g:all[i].Tallies[t].Holder < a
        · refine ⟨(all[i].Tallies[t].Holder,((i + 1:Nat):Int)),by simp only [spec_l07Least_b1,r1,rt,Option.bind_some,w]; simp [hlt,ht,g],⟨i + 1,rfl,hlt,by simp only; omega,.inr ⟨i,_,e,hh⟩,fun j x h hj hx hhx=>?_⟩,by simp; omega⟩
          by_cases ej:j=i
          · subst ej; rw [e] at hx; cases hx; rw [hh] at hhx; cases hhx; exact Int.le_refl _
          · have:=q3 j x h (by omega) hx hhx; simp only; omega
        · refine ⟨(a,((i + 1:Nat):Int)),by simp only [spec_l07Least_b1,r1,rt,Option.bind_some,w]; simp [hlt,ht,g],⟨i + 1,rfl,hlt,q1,q2,fun j x h hj hx hhx=>?_⟩,by simp; omega⟩
          by_cases ej:j=i
          · subst ej; rw [e] at hx; cases hx; rw [hh] at hhx; cases hhx; simp only; omega
          · exact q3 j x h (by omega) hx hhx
      · have hh:hold t all[i]=none:=by unfold hold; rw [List.getElem?_eq_none (by omega)]; rfl
        refine ⟨(a,((i + 1:Nat):Int)),by simp only [spec_l07Least_b1,r1,Option.bind_some,w]; simp [hlt,ht],⟨i + 1,rfl,hlt,q1,q2,fun j x h hj hx hhx=>?_⟩,by simp; omega⟩
        by_cases ej:j=i
        · subst ej; rw [e] at hx; cases hx; rw [hh] at hhx; cases hhx
        · exact q3 j x h (by omega) hx hhx
    · have:i=all.length:=by omega
      subst this
      exact .inr ⟨a,by simp [spec_l07Least_b1],q1,q2,fun j x h hx hhx=>q3 j x h (List.getElem?_eq_some_iff.1 hx).1 hx hhx⟩
  obtain ⟨r,r1,r2⟩:=key
  exact ⟨r,by unfold spec_l07Least; rw [r1]; rfl,r2⟩
end Go.Proofs.Ytjlalepbhcekoaa
namespace Go.Proofs.Ytjlalepbhcekoaa
open Go Go.Ab
theorem askDay {b:Book} {xs:List Deal} (h:askC b xs=0):0≤b.Day∧b.Day≤100000:=by
  unfold askC at h
  split at h
  · rename_i h1
    simp only [Bool.and_eq_true] at h1
    have h2:=h1.1
    unfold bookB at h2
    simp only [Bool.and_eq_true] at h2
    exact inB_iff.1 h2.1
  · omega
theorem mkS_rep {τ:Type} {sz:Nat} {z:τ} {n:Nat} (h:n≤16) (hs2:sz≤100):mkS sz z (n:Int)=some (List.replicate n z):=by
  unfold mkS
  have:n * sz≤16 * 100:=Nat.mul_le_mul h hs2
  rw [if_pos ⟨by omega,by rw [Int.toNat_natCast]; omega,by omega⟩,Int.toNat_natCast]
section
variable {b:Book} {xs:List Deal} {out:List Book}
theorem last_bk (c:CX b xs out) {s:Book} (h:(b::out).getLast? = some s):Bk b out xs.length=s:=by
  have hl:=c.ch.1
  rw [List.getLast?_eq_getElem?] at h
  have e:(b::out).length - 1=xs.length:=by simp; omega
  rw [e] at h
  unfold Bk
  rw [List.getD_eq_getElem?_getD,h]; rfl
theorem end_day (c:CX b xs out):(if (decide ((xs.length:Int) > 0))=true then (rd xs (IntKind.i64.wrap ((xs.length:Int) - 1))).bind fun x=>some x.Day else some b.Day)=some (Bk b out xs.length).Day:=by
  have hn:=c.hn
  by_cases h:xs.length=0
  · rw [if_neg (by simp [h]),h]; rfl
  · obtain ⟨m,hm⟩:=Nat.exists_eq_succ_of_ne_zero h
    have w:IntKind.i64.wrap ((xs.length:Int) - 1)=(m:Int):=by rw [w64 (by omega)]; omega
    obtain ⟨e1,e2,e3⟩:=c.bk (i:=m) (by omega)
    have k:=(c.st 0 (i:=m) (by omega)).1
    rw [if_pos (by simp; omega),w,rd_coe,e3,Option.bind_some,hm,k]
theorem fin_is (c:CX b xs out) (t:Nat) {h:Int} (hh:hold t (Bk b out xs.length)=some h) :
    (takeP (-1) (Bk b out xs.length).Day (IS t b xs out xs.length)).1=SD t b out xs.length∧(takeP (-1) (Bk b out xs.length).Day (IS t b xs out xs.length)).2.1.length=b.Cash.length ∧
      (∀ q,0 < (takeP (-1) (Bk b out xs.length).Day (IS t b xs out xs.length)).1.getD q 0→(takeP (-1) (Bk b out xs.length).Day (IS t b xs out xs.length)).2.1.getD q false=true) ∧
      (∀ q:Nat,(takeP (-1) (Bk b out xs.length).Day (IS t b xs out xs.length)).2.1.getD q false=true→∃ j,j≤xs.length∧hold t (Bk b out j)=some (q:Int)) ∧
      ∀ j,j≤xs.length→∀ g,hold t (Bk b out j)=some g→(takeP (-1) (Bk b out xs.length).Day (IS t b xs out xs.length)).2.1.getD g.toNat false=true:=by
  have I:=LI.all c t (Nat.le_refl xs.length)
  obtain ⟨r0,r1⟩:=c.hr (Nat.le_refl _) hh
  have e:(IS t b xs out xs.length).2.2.1=h:=by rw [I.h0,hh]; rfl
  have et:takeP (-1) (Bk b out xs.length).Day (IS t b xs out xs.length)=((IS t b xs out xs.length).1.set h.toNat ((IS t b xs out xs.length).1.getD h.toNat 0 + ((Bk b out xs.length).Day - (IS t b xs out xs.length).2.2.2)),(IS t b xs out xs.length).2.1.set h.toNat true,-1,(Bk b out xs.length).Day):=by
    unfold takeP; rw [e,if_pos r0]
  have l1:=I.l1
  have l2:=I.l2
  rw [et]
  refine ⟨by rw [I.sd,hh]; rfl,by simpa using l2,fun q hq=>?_,fun q hq=>?_,fun j hj g hg=>?_⟩
  · simp only [getD_set] at hq ⊢
    by_cases z:q=h.toNat
    · rw [if_pos ⟨z,by omega⟩]
    · rw [if_neg (by omega)] at hq ⊢
      exact I.dh q hq
  · simp only [getD_set] at hq
    by_cases z:q=h.toNat
    · exact ⟨xs.length,Nat.le_refl _,by rw [hh]; congr 1; omega⟩
    · rw [if_neg (by omega)] at hq
      exact I.hA q hq
  · simp only [getD_set]
    rcases I.hB j hj g hg with k | k
    · rw [k]; split <;> rfl
    · rw [hh] at k
      cases k
      rw [if_pos ⟨rfl,by omega⟩]
end
theorem long_val (b:Book) (xs:List Deal) (t:Int) (hc:b.Cash.length≤4611686018427387904) (ht:b.Tallies.length≤4611686018427387904) (hx:xs.length≤4611686018427387904) :
    (∃ c,c≠0∧spec_l07Known b xs t=some ([],c)∧impl_LongestHeld b xs t=some (0,0,c)∧spec_LongestHeld b xs t=some (0,0,c)) ∨
      ∃ (out:List Book) (n k:Nat),t=n∧CX b xs out∧k < b.Cash.length∧impl_LongestHeld b xs t=some ((k:Int),(SD n b out xs.length).getD k 0,0)∧spec_LongestHeld b xs t=some ((k:Int),(SD n b out xs.length).getD k 0,0):=by
  have HK:(∃ c,c≠0∧impl_history b xs t=some (.inl c)∧spec_l07Known b xs t=some ([],c)) ∨
      ∃ out o,∃ n:Nat,t=n∧CX b xs out∧n < (Bk b out xs.length).Tallies.length∧impl_history b xs t=some (.inr o)∧spec_l07Known b xs t=some (b::out,0) ∧
        (∀ x ∈ o,∃ j:Nat,j < xs.length∧x=(j:Int))∧(∀ k,k≤o.length→∃ j,j≤xs.length∧run xs (IS n b xs out 0) (o.take k)=IS n b xs out j)∧run xs (IS n b xs out 0) o=IS n b xs out xs.length∧o.length≤80:=by
    unfold impl_history spec_l07Known
    rw [dealsCode_eq b xs hc ht hx,l07Asked_eq b xs hc ht hx]
    simp only [Option.bind_some]
    by_cases h0:askC b xs=0
    · obtain ⟨g1,g2,g3⟩:=asked h0
      rcases behind_same xs b g1 g2 g3 with ⟨c,k,c0,e1,e2⟩ | ⟨s,out,k1,k2,e1,e2,e3,e4⟩
      · exact .inl ⟨c,c0,by simp [h0,e1,c0],by simp [h0,e2,c0]⟩
      · have c:CX b xs out:=⟨all_chain xs b g1 g2 g3 out e2,g1,g2,askDay h0,g3⟩
        have ap:app 56 [b] out=some (b::out):=app_some (by simp; omega) (by decide)
        have hl:(b::out).getLast? = some s:=by
          rcases e4 with ⟨rfl,rfl⟩ | h
          · rfl
          · rw [List.getLast?_cons,h]; rfl
        have hs:=last_bk c hl
        have hr:=rd_last hl (by simp; omega)
        have eb:(⟨b.Day,b.Cash,b.Tallies⟩:Book)=b:=rfl
        have tn:=k1.tn
        have hI:=inB_len t s.Tallies.length (by omega)
        by_cases i1:t < 0
        · have z:¬ 0≤t:=by omega
          refine .inl ⟨6,by decide,by simp [h0,e1,i1],?_⟩
          simp only [h0,e2,l07Copy_eq b g1,Option.bind_some,eb,ap,hr,l00In_eq,hI]
          simp [z]
        · by_cases i2:t < s.Tallies.length
          · have z:0≤t:=by omega
            have z2:¬ (s.Tallies.length:Int)≤t:=by omega
            obtain ⟨n,rfl⟩:∃ n:Nat,t=n:=⟨t.toNat,by omega⟩
            obtain ⟨o,o1,o2,o3,o4,o5⟩:=hist_run c n
            refine .inr ⟨out,o,n,rfl,c,by rw [hs]; omega,by simp [h0,e1,i1,show n < s.Tallies.length by omega,o1],?_,o2,o3,o4,o5⟩
            simp only [h0,e2,l07Copy_eq b g1,Option.bind_some,eb,ap,hr,l00In_eq,hI]
            simp [show n < s.Tallies.length by omega]
          · have z2:(s.Tallies.length:Int)≤t:=by omega
            refine .inl ⟨6,by decide,by simp [h0,e1,i1,z2],?_⟩
            simp only [h0,e2,l07Copy_eq b g1,Option.bind_some,eb,ap,hr,l00In_eq,hI]
            simp [i2]
    · exact .inl ⟨askC b xs,h0,by simp [h0],by simp [h0]⟩
  rcases HK with ⟨c,c0,e1,e2⟩ | ⟨out,o,n,rfl,c,hn,e1,e2,o1,o2,o3,o4⟩
  · refine .inl ⟨c,c0,e2,?_,?_⟩
    · unfold impl_LongestHeld; rw [e1,Option.bind_some]; simp [c0]
    · unfold spec_LongestHeld; rw [e2,Option.bind_some]; simp [c0]
  · have hl:=c.ch.1
    have hxn:=c.hn
    have cn:=c.hb.cn
    have c1:=c.hb.c1
    obtain ⟨z1,z2,z3,z4⟩:=c.ok n (Nat.le_refl xs.length)
    have rt:rd (Bk b out xs.length).Tallies (n:Int)=some (Bk b out xs.length).Tallies[n]:=by rw [rd_coe,List.getElem?_eq_getElem hn]
    have hh:hold n (Bk b out xs.length)=some (Bk b out xs.length).Tallies[n].Holder:=by unfold hold; rw [List.getElem?_eq_getElem hn]; rfl
    obtain ⟨f1,f3,f4,f5,f6⟩:=fin_is c n hh
    obtain ⟨f2,f7⟩:=sd_bound c n (Nat.le_refl xs.length)
    have ti:=take_is c n (Nat.le_refl xs.length) (next:=-1) ⟨z3,z4⟩
    have tl:=take_loop c n o o1 o2 o4
    rw [o3] at tl
    have m1:=mkS_rep (sz:=8) (z:=(0:Int)) cn (by omega)
    have m2:=mkS_rep (sz:=1) (z:=false) cn (by omega)
    have ho:(if (decide ((n:Int) < (b.Tallies.length:Int)))=true then (rd b.Tallies (n:Int)).bind fun x=>some x.Holder else some (-1))=some ((hold n b).getD (-1)):=by
      unfold hold
      by_cases g:n < b.Tallies.length
      · rw [if_pos (by simpa using g),rd_coe,List.getElem?_eq_getElem g]; rfl
      · rw [if_neg (by simpa using g),List.getElem?_eq_none (by omega)]; rfl
    have rl:rd (b::out) (IntKind.i64.wrap (((b::out).length:Int) - 1))=some (Bk b out xs.length):=by
      rw [show IntKind.i64.wrap ((((b::out).length:Nat):Int) - 1)=((xs.length:Nat):Int) by rw [w64 (by simp; omega)]; simp; omega,rd_coe]
      unfold Bk
      rw [List.getD_eq_getElem?_getD,List.getElem?_eq_getElem (by simp; omega)]; rfl
    rw [f1] at f4
    generalize hds:SD n b out xs.length=ds at *
    generalize hhs:(takeP (-1) (Bk b out xs.length).Day (IS n b xs out xs.length)).2.1=hs at *
    obtain ⟨m,p1,p2⟩:=pick_i ds hs (by omega) (by omega)
    obtain ⟨⟨a,f⟩,s1,k',s2,s3,s4,s5⟩:=pick_s ds (by omega) (by omega)
    simp only at s2 s5
    subst s2
    obtain ⟨r0,r1⟩:=c.hr (Nat.le_refl _) hh
    have hheld:=f6 _ (Nat.le_refl _) _ hh
    obtain ⟨k,rfl,q1,q2,q3⟩:∃ k:Nat,m=k∧k < ds.length∧hs.getD k false=true∧∀ q,q < ds.length→hs.getD q false=true→ds.getD q 0≤ds.getD k 0∧(q < k→ds.getD q 0 < ds.getD k 0):=by
      rcases p2 with ⟨_,g⟩ | ⟨k,g⟩
      · have:=g (Bk b out xs.length).Tallies[n].Holder.toNat (by omega)
        rw [hheld] at this; cases this
      · exact ⟨k,g⟩
    have rk:=rd_getN (xs:=ds) (n:=k) 0 q1
    refine .inr ⟨out,n,k,rfl,c,by omega,?_,?_⟩
    all_goals rw [hds]
    · unfold impl_LongestHeld
      rw [e1,Option.bind_some]
      dsimp only
      rw [end_day c,Option.bind_some,m1,Option.bind_some,m2,Option.bind_some,ho,Option.bind_some]
      have tl':Lw (impl_LongestHeld_b3 xs o) (0,List.replicate b.Cash.length 0,List.replicate b.Cash.length false,(hold n b).getD (-1),b.Day)=_:=tl
      rw [tl',Option.bind_some]
      dsimp only
      rw [ti,Option.bind_some]
      dsimp only
      rw [f1,p1,Option.bind_some,rk,Option.bind_some]
    · unfold spec_LongestHeld
      rw [e2,Option.bind_some]
      dsimp only
      have ds1:=days_spec c n
      rw [hds] at ds1
      rw [if_neg (by simp),m1,Option.bind_some,ds1,Option.bind_some,rl,Option.bind_some,s1,Option.bind_some]
      dsimp only
      cases f with
      | true=>
        rw [if_pos rfl]
        have kk:k'=k:=by
          obtain ⟨q,g1,g2⟩:=s5.1 rfl
          have g3:=(s4 q g1).1
          have g4:=q3 k' s3 (f4 k' (by omega))
          have g5:=s4 k q1
          rcases Nat.lt_trichotomy k k' with g | g | g
          · have:=g5.2 g; omega
          · exact g.symm
          · have:=g4.2 g; omega
        subst kk
        rw [rk,Option.bind_some]
      | false=>
        rw [if_neg (by simp),rt,Option.bind_some]
        have z:∀ q,q < ds.length→ds.getD q 0=0:=fun q hq=>by
          have g1:=(f7 q).1
          by_cases g2:0 < ds.getD q 0
          · exact absurd (s5.2 ⟨q,hq,g2⟩) (by simp)
          · omega
        obtain ⟨r,l1,l2,l3,l4⟩:=least_s (b::out) n (Bk b out xs.length).Tallies[n].Holder (by simp; omega)
        have bkj:∀ j,j≤xs.length→(b::out)[j]? = some (Bk b out j):=fun j hj=>by
          unfold Bk
          rw [List.getD_eq_getElem?_getD,List.getElem?_eq_getElem (by simp; omega)]; rfl
        have jbk:∀ (j:Nat) (x:Book),(b::out)[j]? = some x→j≤xs.length∧Bk b out j=x:=fun j x hx=>by
          have g:=(List.getElem?_eq_some_iff.1 hx).1
          simp at g
          refine ⟨by omega,?_⟩
          unfold Bk
          rw [List.getD_eq_getElem?_getD,hx]; rfl
        have hr:hs.getD r.toNat false=true∧0≤r∧r < ds.length:=by
          rcases l3 with rfl | ⟨j,x,g1,g2⟩
          · exact ⟨hheld,r0,by omega⟩
          · obtain ⟨j1,rfl⟩:=jbk j x g1
            have:=c.hr j1 g2
            exact ⟨f6 j j1 r g2,by omega,by omega⟩
        have rkk:r=(k:Int):=by
          obtain ⟨j,j1,j2⟩:=f5 k q2
          have g1:=l4 j _ _ (bkj j j1) j2
          have g2:=(q3 r.toNat (by omega) hr.1).2
          rw [z _ (by omega),z k q1] at g2
          by_cases g:r.toNat < k
          · exact absurd (g2 g) (by omega)
          · omega
        rw [l1,Option.bind_some,rkk,rk,Option.bind_some]
end Go.Proofs.Ytjlalepbhcekoaa
namespace Go.Proofs.Ytjlalepbhcekoaa
open Go Go.Ab
theorem Run.take {b b':Book} {ds:List Deal} (r:Run b ds b'):∀ n,∃ m,Run b (ds.take n) m:=by
  induction r with
  | nil=>intro n; exact ⟨b,by simpa using Run.nil b⟩
  | @snoc ds m d b' r hm hd hs st ih=>
    intro n
    by_cases hn:n≤ds.length
    · rw [List.take_append_of_le_length hn]; exact ih n
    · rw [List.take_of_length_le (by simp; omega)]
      exact ⟨b',r.snoc hm hd hs st⟩
theorem Run.ge {b b':Book} {ds:List Deal} (r:Run b ds b'):∀ d ∈ ds,d.Day≤b'.Day:=by
  induction r with
  | nil=>intro d h; cases h
  | snoc r hm hd hs st ih=>
    intro d h
    have:=st.day
    rcases List.mem_append.1 h with h | h
    · have:=ih d h; omega
    · rw [List.mem_singleton.1 h]; omega
theorem Run.lastDay {b b':Book} {ds:List Deal} (r:Run b ds b'):b'.Day=b.Day∨∃ d ∈ ds,b'.Day=d.Day:=by
  cases r with
  | nil=>exact .inl rfl
  | @snoc ds m d b' r hm hd hs st=>exact .inr ⟨d,by simp,st.day.1⟩
theorem Run.tallies {b b':Book} {ds:List Deal} (r:Run b ds b'):b.Tallies.length≤b'.Tallies.length:=by
  induction r with
  | nil=>exact Nat.le_refl _
  | snoc r hm hd hs st ih=>
    refine Nat.le_trans ih ?_
    cases st <;> simp
theorem Run.same {b m m':Book} {ds:List Deal} (r:Run b ds m) (r':Run b ds m') (hb:BookP b) (hl:ds.length≤80):m=m':=by
  have h1:=r.behind hb hl
  have h2:=r'.behind hb hl
  rw [h1] at h2
  simp only [Option.some.injEq,Sum.inr.injEq,Prod.mk.injEq] at h2
  obtain ⟨a,b,c⟩:=h2
  cases m; cases m'; simp_all
theorem BookP.later {m:Book} (h:BookP m) {day:Int} (h1:m.Day≤day) (h2:day≤100000):BookP ⟨day,m.Cash,m.Tallies⟩:=by
  have hd:=h.day
  refine ⟨by simp only; omega,h.c1,h.cn,h.ca,h.tn,fun i t hi=>?_,h.srt⟩
  obtain ⟨a,b,c,d⟩:=h.ta i t hi
  exact ⟨a,b,⟨c.1,by simp only; omega⟩,d⟩
theorem stateVal {b now:Book} {list:List Deal} (r:Run b list now) (hb:BookP b) (hl:list.length≤80) (day:Int) (h0:b.Day≤day) :
    ∃ (n:Nat) (m:Book),n=list.findIdx (fun d=>decide (d.Day > day))∧n≤list.length∧Run b (list.take n) m∧m.Day≤day∧impl_stateOn b list day=some (.inr (day,m.Cash,m.Tallies))∧spec_l07State b list day=some (.inr (day,m.Cash,m.Tallies)):=by
  have i1:=day_idx list day (by omega)
  have i2:=day_spec list day (by omega)
  have hle:list.findIdx (fun d=>decide (d.Day > day))≤list.length:=List.findIdx_le_length
  have hlt0:∀ i (hi:i < list.length),i < list.findIdx (fun d=>decide (d.Day > day))→list[i].Day≤day:=fun i hi h=>by
    have:=List.not_of_lt_findIdx h
    simpa using this
  obtain ⟨n,hn⟩:∃ n,n=list.findIdx (fun d=>decide (d.Day > day)):=⟨_,rfl⟩
  rw [← hn] at i1 i2 hle hlt0
  obtain ⟨m,rm⟩:=r.take n
  have htl:(list.take n).length≤80:=by simp; omega
  have c0:¬ day < b.Day:=by omega
  have sl:=slc0 list n hle
  have bh:=rm.behind hb htl
  obtain ⟨out,o1,o2,o3⟩:=rm.l07All hb htl
  have mk:=rm.book hb
  have hday:m.Day≤day:=by
    rcases rm.lastDay with e | ⟨d,hd,e⟩
    · omega
    · obtain ⟨i,hi,rfl⟩:=List.getElem_of_mem hd
      have hi':i < list.length:=by simp at hi; omega
      have:=hlt0 i hi' (by simp at hi; omega)
      simp only [List.getElem_take] at e
      omega
  refine ⟨n,m,hn,hle,rm,hday,?_,?_⟩
  · unfold impl_stateOn
    rw [if_neg (by simpa using c0),i1,Option.bind_some]
    by_cases hlt:n < list.length
    · rw [if_pos hlt,if_neg (by simp),sl,Option.bind_some,bh]
      rfl
    · have hne:n=list.length:=by omega
      rw [if_neg hlt,if_pos (by simp),slc0 list list.length (Nat.le_refl _),Option.bind_some,← hne,bh]
      rfl
  · unfold spec_l07State
    rw [if_neg (by simpa using c0),i2,Option.bind_some,sl,Option.bind_some,o1,Option.bind_some]
    have ol:out.length=n:=by rw [o2]; simp; omega
    rcases o3 with ⟨rfl,rfl⟩ | h
    · have:n=0:=by simpa using ol.symm
      simp [this,l07Copy_eq m hb.bk]
    · have h0:out≠[]:=fun e=>by subst e; cases h
      have hp:0 < out.length:=List.length_pos_iff.2 h0
      have hr:=rd_last h (by omega)
      rw [ol] at hr hp
      simp [l07Copy_eq b hb.bk,hp,hr,l07Copy_eq m mk.bk]
theorem worth_i (s:Book) (p:Int) (hs:s.Tallies.length≤40) (h0:0≤p) (h1:p < s.Cash.length):∃ v,impl_worthOf s p=some v:=by
  obtain ⟨i,rfl⟩:∃ i:Nat,p=i:=⟨p.toNat,by omega⟩
  have hlt:i < s.Cash.length:=by omega
  exact ⟨_,by unfold impl_worthOf; rw [getsAndOwes_eq s _ (by omega),Option.bind_some]; simp only [rd_coe,List.getElem?_eq_getElem hlt,Option.bind_some]; rfl⟩
def HsI (b:Book) (xs:List Deal) (t:Nat) (o:List Int):Prop:=
  ∀ (i:Nat) (hi:i < o.length),∃ (j:Nat) (d:Deal),o[i]=(j:Int)∧xs[j]? = some d∧(d.Kind=1→i=0∧b.Tallies.length≤t)∧(d.Kind≠1→d.Tally=(t:Int))
theorem HsI.snoc {b:Book} {xs:List Deal} {t:Nat} {o:List Int} (h:HsI b xs t o) (j:Nat) (d:Deal) (hd:xs[j]? = some d) (h1:d.Kind=1→o=[]∧b.Tallies.length≤t) (h2:d.Kind≠1→d.Tally=(t:Int)):HsI b xs t (o++[(j:Int)]):=by
  intro i hi
  by_cases e:i < o.length
  · rw [List.getElem_append_left e]; exact h i e
  · have e:i=o.length:=by simp at hi; omega
    subst e
    refine ⟨j,d,by simp,hd,fun k=>?_,h2⟩
    obtain ⟨e1,e2⟩:=h1 k
    exact ⟨by rw [e1]; rfl,e2⟩
theorem Run.hist {b b':Book} {ds:List Deal} (r:Run b ds b') (t:Nat):∀ rest:List Deal,ds.length + rest.length≤80→b'.Tallies.length≤1000 →
    ∃ o,Lw (spec_l07History_b1 (ds++rest) (t:Int)) ((b.Tallies.length:Int),0,[])=Lw (spec_l07History_b1 (ds++rest) (t:Int)) ((b'.Tallies.length:Int),(ds.length:Int),o)∧o.length≤ds.length∧HsI b (ds++rest) t o∧(o=[]∨t < b'.Tallies.length):=by
  induction r with
  | nil=>intro rest _ _; exact ⟨[],rfl,by simp,fun i hi=>by simp at hi,.inl rfl⟩
  | @snoc ds m d b' r hm hd hs st ih=>
    intro rest hl hb'
    simp only [List.length_append,List.length_singleton] at hl
    have hmt:m.Tallies.length≤b'.Tallies.length:=by cases st <;> simp
    obtain ⟨o,h1,h2,h3,h4⟩:=ih (d::rest) (by simp only [List.length_cons]; omega) (by omega)
    have e:ds++[d]++rest=ds++d::rest:=by simp
    have hr:rd (ds++d::rest) (ds.length:Int)=some d:=by rw [rd_coe]; simp
    have hg:(ds++d::rest)[ds.length]? = some d:=by simp
    have ap:app 8 o [(ds.length:Int)]=some (o++[(ds.length:Int)]):=app_some (by simp; omega) (by decide)
    have w:IntKind.i64.wrap ((ds.length:Int) + 1)=(ds.length:Int) + 1:=w64 (by omega)
    have w2:IntKind.i64.wrap ((m.Tallies.length:Int) + 1)=(m.Tallies.length:Int) + 1:=w64 (by omega)
    have hlt:(ds.length:Int) < ((ds++d::rest).length:Int):=by simp; omega
    have mb:=r.tallies
    rw [e]
    by_cases k1:d.Kind=1
    · have hb1:b'.Tallies.length=m.Tallies.length + 1:=by
        cases st with
        | cut=>simp
        | pass k=>omega
        | pay k=>omega
        | done k=>omega
      by_cases k2:m.Tallies.length=t
      · have ho:o=[]:=h4.resolve_right (by omega)
        refine ⟨o++[(ds.length:Int)],?_,by simp; omega,h3.snoc ds.length d hg (fun _=>⟨ho,by omega⟩) (fun h=>absurd k1 h),.inr (by omega)⟩
        rw [h1]
        refine (Lw_step (s':=(((b'.Tallies.length:Nat):Int),(ds.length:Int) + 1,o++[(ds.length:Int)])) ?_).trans ?_
        · have k2':((m.Tallies.length:Int)==(t:Int))=true:=by rw [k2]; simp
          have e3:(m.Tallies.length:Int) + 1=((b'.Tallies.length:Nat):Int):=by omega
          have w3:IntKind.i64.wrap ((b'.Tallies.length:Nat):Int)=((b'.Tallies.length:Nat):Int):=w64 (by omega)
          simp only [spec_l07History_b1,hr,Option.bind_some,k1,k2',ap,w,w2,e3]
          rw [if_pos (by simpa using hlt)]
          simp [w3]
        · simp
      · refine ⟨o,?_,by simp; omega,h3,h4.imp id (fun h=>by omega)⟩
        rw [h1]
        refine (Lw_step (s':=(((b'.Tallies.length:Nat):Int),(ds.length:Int) + 1,o)) ?_).trans ?_
        · have k2':((m.Tallies.length:Int)==(t:Int))=false:=by rw [beq_eq_false_iff_ne]; omega
          have e3:(m.Tallies.length:Int) + 1=((b'.Tallies.length:Nat):Int):=by omega
          have w3:IntKind.i64.wrap ((b'.Tallies.length:Nat):Int)=((b'.Tallies.length:Nat):Int):=w64 (by omega)
          simp only [spec_l07History_b1,hr,Option.bind_some,k1,k2',w,w2,e3]
          rw [if_pos (by simpa using hlt)]
          simp [w3]
        · simp
    · obtain ⟨hb1,ht⟩:b'.Tallies.length=m.Tallies.length∧∃ i:Nat,d.Tally=i∧i < m.Tallies.length:=by
        cases st with
        | cut k=>exact absurd k k1
        | pass k dy i x hi e=>exact ⟨by simp,i,e,(List.getElem?_eq_some_iff.1 hi).1⟩
        | pay k dy i x hi e=>exact ⟨by simp,i,e,(List.getElem?_eq_some_iff.1 hi).1⟩
        | done k dy i x hi e=>exact ⟨by simp,i,e,(List.getElem?_eq_some_iff.1 hi).1⟩
      have k1':(d.Kind==1)=false:=by rw [beq_eq_false_iff_ne]; exact k1
      obtain ⟨i,hi,hi2⟩:=ht
      by_cases k2:d.Tally=(t:Int)
      · refine ⟨o++[(ds.length:Int)],?_,by simp; omega,h3.snoc ds.length d hg (fun h=>absurd h k1) (fun _=>k2),.inr (by omega)⟩
        rw [h1]
        refine (Lw_step (s':=(((b'.Tallies.length:Nat):Int),(ds.length:Int) + 1,o++[(ds.length:Int)])) ?_).trans ?_
        · rw [hb1]
          simp only [spec_l07History_b1,hr,Option.bind_some,k1',k2,ap,w]
          rw [if_pos (by simpa using hlt)]
          simp
        · simp
      · refine ⟨o,?_,by simp; omega,h3,h4.imp id (fun h=>by omega)⟩
        rw [h1]
        refine (Lw_step (s':=(((b'.Tallies.length:Nat):Int),(ds.length:Int) + 1,o)) ?_).trans ?_
        · have k2':(d.Tally==(t:Int))=false:=by rw [beq_eq_false_iff_ne]; exact k2
          rw [hb1]
          simp only [spec_l07History_b1,hr,Option.bind_some,k1',k2',w]
          rw [if_pos (by simpa using hlt)]
          simp
        · simp
theorem SD_le {b:Book} {xs:List Deal} {out:List Book} (c:CX b xs out) (t:Nat):∀ i,i≤xs.length→b.Day≤(Bk b out i).Day∧∀ q,(SD t b out i).getD q 0≤(Bk b out i).Day - b.Day:=by
  intro i
  induction i with
  | zero=>
    intro _
    have e:Bk b out 0=b:=rfl
    rw [e]
    refine ⟨Int.le_refl _,fun q=>?_⟩
    unfold SD
    rw [getD_rep]; omega
  | succ i ih=>
    intro hi
    obtain ⟨h1,h2⟩:=ih (by omega)
    obtain ⟨s1,s2,_⟩:=c.st t (show i < xs.length by omega)
    refine ⟨by omega,fun q=>?_⟩
    have hq:=h2 q
    unfold SD sDay
    cases hold t (Bk b out i) with
    | none=>simp only; omega
    | some h=>
      simp only [getD_set]
      have:=h2 h.toNat
      split <;> omega
end Go.Proofs.Ytjlalepbhcekoaa
