/- The book of a day is that of all deals up to this. -/
import Derived.Test.YtjlalepbhcekoaaPsDays
set_option linter.unusedVariables false
set_option linter.unusedSimpArgs false
namespace Go.Proofs.Ytjlalepbhcekoaa.Pure
open Go Go.Ab
theorem a2At_ok (c:List Int) (hc:Bys c) (k:Nat) (n:Int) (hn:n≤1000):∃ x,laws_a2At c (k:Int) n=some x∧0≤x∧(1≤n→x < n):=by
  unfold laws_a2At
  by_cases h1:(k:Int)≥(c.length:Int)
  · exact ⟨0,by rw [if_pos (by simpa using h1)],by omega,fun _=>by omega⟩
  · rw [if_neg (by simpa using h1)]
    by_cases h2:n < 1
    · exact ⟨0,by rw [if_pos (by simpa using h2)],by omega,fun _=>by omega⟩
    · rw [if_neg (by simpa using h2)]
      have hk:k < c.length:=by omega
      have hx:=hc.2 _ (List.getElem_mem hk)
      have w:IntKind.i64.wrap c[k]=c[k]:=w64 (by omega)
      refine ⟨c[k] % n,?_,Int.emod_nonneg _ (by omega),fun _=>Int.emod_lt_of_pos _ (by omega)⟩
      rw [rd_coe,List.getElem?_eq_getElem hk]
      simp only [Option.bind_some,w]
      unfold rem
      rw [if_neg (by omega),Int.tmod_eq_emod_of_nonneg hx.1]
      rfl
theorem a2Same_refl (a:List Int) (h:a.length≤1000):spec_A2Same a a=some true:=by
  unfold spec_A2Same spec_l00Same
  have key:=Lw_run (tb:=spec_l00Same_b1 a a) (fun i=>(i:Int)) a.length (r:=.inr ()) (fun i hi=>by
    have hr:rd a (i:Int)=some a[i]:=by rw [rd_coe,List.getElem?_eq_getElem hi]
    simp only [spec_l00Same_b1,hr,Option.bind_some,w64s hi (show a.length≤4611686018427387904 by omega)]
    rw [if_pos (by simpa using hi),if_neg (by simp)]) (by simp [spec_l00Same_b1])
  have key:Lw (spec_l00Same_b1 a a) 0=some (.inr ()):=key
  rw [if_neg (by simp),key]
  rfl
theorem a2Has_eq (xs:List Int) (n:Int) (h:xs.length≤1000):spec_A2Has xs n=some (decide (n ∈ xs)):=by
  unfold spec_A2Has
  have key:=find_loop (tb:=spec_A2Has_b1 xs n) (fun x=>x==n) xs (fun _=>.inl ()) (.inr ()) (fun i hi hp=>by
    have hr:rd xs (i:Int)=some xs[i]:=by rw [rd_coe,List.getElem?_eq_getElem hi]
    simp only [spec_A2Has_b1,hr,Option.bind_some,hp,w64s hi (show xs.length≤4611686018427387904 by omega)]
    rw [if_pos (by simpa using hi)]; simp) (fun i hi hp=>by
    have hr:rd xs (i:Int)=some xs[i]:=by rw [rd_coe,List.getElem?_eq_getElem hi]
    simp only [spec_A2Has_b1,hr,Option.bind_some,hp]
    rw [if_pos (by simpa using hi)]; simp) (by simp [spec_A2Has_b1])
  rw [key]
  by_cases hx:xs.findIdx (fun x=>x==n) < xs.length
  · have:n ∈ xs:=by
      have h1:=List.findIdx_getElem (p:=fun x=>x==n) (xs:=xs) (w:=hx)
      have h2:xs[xs.findIdx fun x=>x==n]=n:=by simpa using h1
      have h3:=List.getElem_mem hx
      rw [h2] at h3
      exact h3
    rw [if_pos hx]; simp [this]
  · have:n ∉ xs:=fun hm=>hx (List.findIdx_lt_length.2 ⟨n,hm,by simp⟩)
    rw [if_neg hx]; simp [this]
theorem day_loop (b:Book) (list:List Deal) (r:Int) (day:Int) (hd:IntKind.i64.wrap (b.Day + r)=day) (hl:list.length≤80):Lw (laws_FnDays_b1 b.Day list r) 0=some ((list.findIdx fun d=>decide (d.Day > day):Nat):Int):=by
  have key:=find_loop (tb:=laws_FnDays_b1 b.Day list r) (fun d=>decide (d.Day > day)) list (fun i=>(i:Int)) (list.length:Int) (fun i hi hp=>by
    have hr:rd list (i:Int)=some list[i]:=by rw [rd_coe,List.getElem?_eq_getElem hi]
    have hp':list[i].Day≤day:=by simpa using hp
    simp only [laws_FnDays_b1,hr,Option.bind_some,hd,hp',w64s hi (show list.length≤4611686018427387904 by omega)]
    rw [if_pos (by simpa using hi)]; simp) (fun i hi hp=>by
    have hr:rd list (i:Int)=some list[i]:=by rw [rd_coe,List.getElem?_eq_getElem hi]
    have hp' : ¬ list[i].Day ≤ day := by have : list[i].Day > day := by simpa using hp
                                         omega
    simp only [laws_FnDays_b1,hr,Option.bind_some,hd,hp']
    rw [if_pos (by simpa using hi)]; simp) (by simp [laws_FnDays_b1])
  rw [key]
  by_cases h:list.findIdx (fun d=>decide (d.Day > day)) < list.length
  · rw [if_pos h]
  · rw [if_neg h]
    have:list.findIdx (fun d=>decide (d.Day > day))≤list.length:=List.findIdx_le_length
    congr 2
    omega
theorem hist_law (ts:List Tally) (b:Book) (hb:b.Tallies=ts) (list:List Deal) (t:Nat) (o:List Int) (hl:o.length≤80) (h:HsI b list t o):Lw (laws_FnDays_b2 ts list (t:Int) o) 0=some (.inr ()):=by
  subst hb
  have key:=Lw_run (tb:=laws_FnDays_b2 b.Tallies list (t:Int) o) (fun i=>(i:Int)) o.length (r:=.inr ()) (fun i hi=>by
    obtain ⟨j,d,e1,e2,e3,e4⟩:=h i hi
    have hr:rd o (i:Int)=some (j:Int):=by rw [rd_coe,List.getElem?_eq_getElem hi,e1]
    have hr2:rd list (j:Int)=some d:=by rw [rd_coe,e2]
    have w:=w64s hi (show o.length≤4611686018427387904 by omega)
    simp only [laws_FnDays_b2,hr,hr2,Option.bind_some,w]
    rw [if_pos (by simpa using hi)]
    by_cases k:d.Kind=1
    · obtain ⟨i0,i1⟩:=e3 k
      have c1:¬ (t:Int) < (b.Tallies.length:Int):=by omega
      subst i0
      simp [k,c1,i1]
    · have:=e4 k
      simp [k,this]) (by simp [laws_FnDays_b2])
  exact key
theorem holds_val (b:Book) (hb:BookP b) (p:Int) (h0:0≤p) (h1:p < b.Cash.length):∃ o,impl_HoldsNow b p=some (o,0)∧o.length≤40∧∀ i:Nat,(i:Int) ∈ o↔∃ x,b.Tallies[i]? = some x∧x.Holder=p∧x.Left > 0:=by
  have tn:=hb.tn
  have cn:=hb.cn
  have pc:=personCode_eq b p (by omega) (by omega)
  have one:oneCode b p=0:=by
    unfold oneCode
    rw [if_pos (bookB_iff.2 hb),if_pos (personB_iff.2 ⟨h0,h1⟩)]
  rw [one] at pc
  have L:∃ r,Lw (impl_HoldsNow_b1 b p) (0,[])=some r∧r.length≤40∧∀ i:Nat,(i:Int) ∈ r↔∃ x,b.Tallies[i]? = some x∧x.Holder=p∧x.Left > 0:=by
    refine Lw_meas (tb:=impl_HoldsNow_b1 b p) (fun s=>b.Tallies.length - s.1.toNat) (fun s=>∃ k:Nat,s.1=(k:Int)∧k≤b.Tallies.length∧s.2.length≤k∧∀ i:Nat,(i:Int) ∈ s.2↔i < k∧∃ x,b.Tallies[i]? = some x∧x.Holder=p∧x.Left > 0) _ ?_ _ _ rfl ⟨0,rfl,by omega,by simp,fun i=>by simp⟩
    rintro ⟨k',o⟩ ⟨k,hk,hkl,hol,hI⟩
    simp only at hk hol hI
    subst hk
    by_cases hlt:k < b.Tallies.length
    · have hr:rd b.Tallies (k:Int)=some b.Tallies[k]:=by rw [rd_coe,List.getElem?_eq_getElem hlt]
      have w:=w64s hlt (show b.Tallies.length≤4611686018427387904 by omega)
      have ap:app 8 o [(k:Int)]=some (o++[(k:Int)]):=app_some (by simp; omega) (by decide)
      by_cases hc:b.Tallies[k].Holder=p∧b.Tallies[k].Left > 0
      · refine .inl ⟨(((k + 1:Nat):Int),o++[(k:Int)]),by simp [impl_HoldsNow_b1,hr,hlt,hc.1,hc.2,ap,w],⟨k + 1,rfl,by omega,by simp; omega,fun i=>?_⟩,by simp only; omega⟩
        simp only [List.mem_append,List.mem_singleton,hI]
        constructor
        · rintro (⟨h1,h2⟩ | h)
          · exact ⟨by omega,h2⟩
          · have:i=k:=by omega
            subst this
            exact ⟨by omega,_,List.getElem?_eq_getElem hlt,hc⟩
        · rintro ⟨h1,h2⟩
          by_cases e:i=k
          · right; rw [e]
          · left; exact ⟨by omega,h2⟩
      · refine .inl ⟨(((k + 1:Nat):Int),o),?_,⟨k + 1,rfl,by omega,by simp only; omega,fun i=>?_⟩,by simp only; omega⟩
        · by_cases e1:b.Tallies[k].Holder=p
          · have e2:¬ b.Tallies[k].Left > 0:=fun h=>hc ⟨e1,h⟩
            have e2':¬ 0 < b.Tallies[k].Left:=e2
            simp [impl_HoldsNow_b1,hr,hlt,e1,e2',w]
          · simp [impl_HoldsNow_b1,hr,hlt,e1,w]
        · simp only [hI]
          constructor
          · rintro ⟨h1,h2⟩; exact ⟨by omega,h2⟩
          · rintro ⟨h1,x,h2,h3⟩
            by_cases e:i=k
            · subst e
              rw [List.getElem?_eq_getElem hlt] at h2
              obtain rfl:=Option.some.inj h2
              exact absurd h3 hc
            · exact ⟨by omega,x,h2,h3⟩
    · have:k=b.Tallies.length:=by omega
      subst this
      refine .inr ⟨o,by simp [impl_HoldsNow_b1],by omega,fun i=>?_⟩
      rw [hI]
      constructor
      · rintro ⟨_,h⟩; exact h
      · rintro ⟨x,h,h'⟩; exact ⟨(List.getElem?_eq_some_iff.1 h).1,x,h,h'⟩
  obtain ⟨r,l1,l2,l3⟩:=L
  exact ⟨r,by unfold impl_HoldsNow; rw [pc]; simp [l1],l2,l3⟩
theorem FnDays (a0:List Int) (h0:(okLs 1 (InR .u8)) a0) (a1:List Int) (h1:(okLs 1 (InR .u8)) a1):laws_FnDays a0 a1=some true:=by
  have hc:=bys_of h0
  have hd:=bys_of h1
  unfold laws_FnDays
  by_cases b0:(a0.length:Int) > 3000
  · simp [laws_a2Long,b0]
  by_cases b1:(a1.length:Int) > 3000
  · simp [laws_a2Long,b0,b1]
  have hlong:laws_a2Long a0 a1=some false:=by simp [laws_a2Long,b0,b1]
  obtain ⟨b,list,now,e,hB,hN,hR,hl⟩:=days_ok a0 hc
  have bk:=hB.ok
  have nk:=hN.ok
  have bc:=bk.cn
  have bc1:=bk.c1
  have bt:=bk.tn
  have nc:=nk.cn
  have nt:=nk.tn
  have bday:=bk.day
  have bday2:=hB.day
  have nday:=nk.day
  have nday2:=hN.day
  have ask:=hR.ask bk (by omega)
  have d1:=dealsCode_eq b list (by omega) (by omega) (by omega)
  have d2:=l07Asked_eq b list (by omega) (by omega) (by omega)
  rw [ask] at d1 d2
  have e0:(⟨b.Day,b.Cash,b.Tallies⟩:Book)=b:=rfl
  obtain ⟨x,x1,x2,x3⟩:=a2At_ok a1 hd 0 20 (by omega)
  have x3:=x3 (by omega)
  have x1:laws_a2At a1 0 20=some x:=x1
  have wd:IntKind.i64.wrap (b.Day + x)=b.Day + x:=w64 (by omega)
  obtain ⟨n,m,n1,n2,rm,md,s1,s2⟩:=stateVal hR bk (by omega) (b.Day + x) (by omega)
  have mk:=rm.book bk
  have mt:=mk.tn
  have mc:=mk.cn
  have dB:inB (b.Day + x) 0 100000=true:=inB_iff.2 ⟨by omega,by omega⟩
  have i1:impl_StateOn b list (b.Day + x)=some (b.Day + x,m.Cash,m.Tallies,0):=by
    unfold impl_StateOn
    simp [d1,isBookDay_eq,dB,s1]
  have i2:spec_StateOn b list (b.Day + x)=some (b.Day + x,m.Cash,m.Tallies,0):=by
    unfold spec_StateOn
    simp [d2,l07Day_eq,dB,s2]
  have lp:=day_loop b list x (b.Day + x) wd (by omega)
  rw [← n1] at lp
  have sl:=slc0 list n n2
  have htl:(list.take n).length≤80:=by simp; omega
  have ask':=rm.ask bk htl
  have d1':=dealsCode_eq b (list.take n) (by omega) (by omega) (by omega)
  rw [ask'] at d1'
  have i3:impl_DoDeals b (list.take n)=some (m.Day,m.Cash,m.Tallies,0):=by
    unfold impl_DoDeals
    simp [d1',rm.behind bk htl]
  have dueP:=mk.later md (show b.Day + x≤100000 by omega)
  have sb:=SameBook_refl ⟨b.Day + x,m.Cash,m.Tallies⟩ (by simp only; omega) (by simp only; omega)
  have asm:=a2Same_refl m.Cash (by omega)
  obtain ⟨p,p1,p2,p3⟩:=a2At_ok a1 hd 1 (b.Cash.length:Int) (by omega)
  have p1:laws_a2At a1 1 (b.Cash.length:Int)=some p:=p1
  have p3:=p3 (by omega)
  have mcl:=rm.cash.1
  obtain ⟨n',m',_,_,rm',md',s1',_⟩:=stateVal hR bk (by omega) b.Day (by omega)
  have mk':=rm'.book bk
  have mt':=mk'.tn
  have mcl':=rm'.cash.1
  obtain ⟨v,hv⟩:=worth_i ⟨b.Day + x,m.Cash,m.Tallies⟩ p (by simp only; omega) p2 (by simp only; omega)
  obtain ⟨v',hv'⟩:=worth_i ⟨b.Day,m'.Cash,m'.Tallies⟩ p (by simp only; omega) p2 (by simp only; omega)
  have one:oneCode ⟨b.Day + x,m.Cash,m.Tallies⟩ p=0:=by
    unfold oneCode
    rw [if_pos (bookB_iff.2 dueP),if_pos (personB_iff.2 ⟨p2,by simp only; omega⟩)]
  have pc:=personCode_eq ⟨b.Day + x,m.Cash,m.Tallies⟩ p (by simp only; omega) (by simp only; omega)
  rw [one] at pc
  have i4:impl_WorthOfPerson ⟨b.Day + x,m.Cash,m.Tallies⟩ p=some (v,0):=by
    unfold impl_WorthOfPerson
    simp [pc,hv]
  have ar:=arePeople_eq (b.Cash.length:Int) [p] (by simp)
  have arp:([p].all (personB (b.Cash.length:Int)))=true:=by simp [personB_iff.2 ⟨p2,p3⟩]
  rw [arp] at ar
  have dB0:inB b.Day 0 100000=true:=inB_iff.2 ⟨by omega,by omega⟩
  have wl1:Lw (impl_WorthsOn_b1 [b.Day + x,b.Day]) 0=some (.inr ()):=by
    rw [days_impl _ (by simp)]
    simp [dB,dB0]
  have wl2:Lw (impl_WorthsOn_b2 b list p [b.Day + x,b.Day]) (0,[])=some (.inr [v,v']):=by
    have q1:impl_WorthsOn_b2 b list p [b.Day + x,b.Day] (0,[])=some (.inl (1,[v])):=by
      have r0:rd [b.Day + x,b.Day] 0=some (b.Day + x):=rfl
      have ap:app 8 ([]:List Int) [v]=some [v]:=app_some (by simp) (by decide)
      simp only [impl_WorthsOn_b2,r0,Option.bind_some,s1,hv,ap]
      rfl
    have q2:impl_WorthsOn_b2 b list p [b.Day + x,b.Day] (1,[v])=some (.inl (2,[v,v'])):=by
      have r0:rd [b.Day + x,b.Day] 1=some b.Day:=rfl
      have ap:app 8 [v] [v']=some [v,v']:=app_some (by simp) (by decide)
      simp only [impl_WorthsOn_b2,r0,Option.bind_some,s1',hv',ap]
      rfl
    have q3:impl_WorthsOn_b2 b list p [b.Day + x,b.Day] (2,[v,v'])=some (.inr (.inr [v,v'])):=by simp [impl_WorthsOn_b2]
    exact (Lw_step q1).trans ((Lw_step q2).trans (Lw_stop q3))
  have i5:impl_WorthsOn b list p [b.Day + x,b.Day]=some ([v,v'],0):=by
    unfold impl_WorthsOn
    simp only [d1,ar,wl1,wl2,Option.bind_some,bne_self_eq_false,Bool.false_eq_true,if_false,if_true]
    simp
  have rv:rd [v,v'] 0=some v:=rfl
  have l2:(([v,v']:List Int).length:Int)=2:=rfl
  obtain ⟨out,o1,o2,o3,o4⟩:=hR.books bk (by omega)
  have i6:spec_DoDeals b list=some (now.Day,now.Cash,now.Tallies,0):=by
    unfold spec_DoDeals
    rw [d2]
    rcases o4 with ⟨rfl,rfl⟩ | h
    · simp [o2,l07Copy_eq now bk.bk]
    · have n0:out≠[]:=fun e=>by subst e; cases h
      have hr:=rd_last h (by omega)
      simp [o2,n0,hr,l07Copy_eq now nk.bk]
  have vv:(v != v)=false:=by simp
  by_cases ht:now.Tallies.length=0
  · have ht':((now.Tallies.length:Int)==0)=true:=by rw [ht]; rfl
    simp only [hlong,e,x1,wd,e0,i1,i2,lp,sl,i3,sb,asm,p1,i5,i4,i6,rv,l2,ht',vv,Option.bind_some,Bool.false_eq_true,if_false,if_true,bne_self_eq_false,beq_self_eq_true]
  have ht':((now.Tallies.length:Int)==0)=false:=by rw [beq_eq_false_iff_ne]; omega
  obtain ⟨t',t1,t2,t3⟩:=a2At_ok a1 hd 2 (now.Tallies.length:Int) (by omega)
  have t1:laws_a2At a1 2 (now.Tallies.length:Int)=some t':=t1
  have t3:=t3 (by omega)
  obtain ⟨t,rfl⟩:∃ t:Nat,t'=t:=⟨t'.toNat,by omega⟩
  have tlt:t < now.Tallies.length:=by omega
  have rt:rd now.Tallies (t:Int)=some now.Tallies[t]:=by rw [rd_coe,List.getElem?_eq_getElem tlt]
  have ap:app 56 [b] out=some (b::out):=app_some (by simp; omega) (by decide)
  have hl:(b::out).getLast? = some now:=by
    rcases o4 with ⟨rfl,rfl⟩ | h
    · rfl
    · rw [List.getLast?_cons,h]; rfl
  have hlr:=rd_last hl (by simp; omega)
  have hI:=inB_len (t:Int) now.Tallies.length (by omega)
  have hI':inB (t:Int) 0 (IntKind.i64.wrap ((now.Tallies.length:Int) - 1))=true:=by rw [hI]; simp; omega
  have kn:spec_l07Known b list (t:Int)=some (b::out,0):=by
    unfold spec_l07Known
    simp only [d2,o2,l07Copy_eq b bk.bk,Option.bind_some,e0,ap,hlr,l00In_eq,hI',bne_self_eq_false,Bool.false_eq_true,if_false,if_true]
  obtain ⟨o,g1,g2,g3,_⟩:=hR.hist t [] (by simp; omega) (by omega)
  rw [List.append_nil] at g1 g3
  have ge:Lw (spec_l07History_b1 list (t:Int)) ((now.Tallies.length:Int),(list.length:Int),o)=some o:=Lw_stop (by simp [spec_l07History_b1])
  rw [ge] at g1
  obtain ⟨r,r2,q1,q2,rfl,q3⟩:=hist_loop list (t:Int) (b.Tallies.length:Int) (by omega)
  rw [g1] at q2
  obtain rfl:=Option.some.inj q2
  have c0:decide ((t:Int) < 0)=false:=by simp
  have c1:decide ((t:Int)≥(now.Tallies.length:Int))=false:=by simp; omega
  have i7:impl_HistoryOf b list (t:Int)=some (o,0):=by
    unfold impl_HistoryOf impl_history
    simp only [d1,hR.behind bk (show list.length≤80 by omega),c0,c1,q1,Option.bind_some,bne_self_eq_false,Bool.false_eq_true,if_false]
  have i8:spec_HistoryOf b list (t:Int)=some (o,0):=by
    unfold spec_HistoryOf spec_l07History
    simp only [kn,g1,Option.bind_some,bne_self_eq_false,Bool.false_eq_true,if_false]
  have aso:=a2Same_refl o (by omega)
  obtain ⟨n3,m3,nn1,nn2,rm3,md3,ss1,ss2⟩:=stateVal hR bk (by omega) now.Day hR.day
  have n3l:n3=list.length:=by
    rw [nn1]
    refine Nat.le_antisymm List.findIdx_le_length ?_
    by_cases h:list.length≤list.findIdx (fun d=>decide (d.Day > now.Day))
    · exact h
    · exfalso
      have h:list.findIdx (fun d=>decide (d.Day > now.Day)) < list.length:=by omega
      have h1:=List.findIdx_getElem (p:=fun d:Deal=>decide (d.Day > now.Day)) (xs:=list) (w:=h)
      have h2:=hR.ge _ (List.getElem_mem h)
      simp only [decide_eq_true_eq] at h1
      omega
  have m3e:m3=now:=by
    rw [n3l,List.take_length] at rm3
    exact rm3.same hR bk (by omega)
  rw [m3e] at ss1
  have dBn:inB now.Day 0 100000=true:=inB_iff.2 nday
  have i9:impl_HolderOn b list (t:Int) now.Day=some (now.Tallies[t].Holder,0):=by
    unfold impl_HolderOn impl_StateOn
    simp only [d1,isBookDay_eq,dBn,ss1,c0,c1,rt,Option.bind_some,bne_self_eq_false,Bool.false_eq_true,if_false,if_true]
  rcases long_val b list (t:Int) (by omega) (by omega) (by omega) with ⟨c,cz,w1,_⟩ | ⟨out',n',k,tn',cx,k1,w1,w2⟩
  · rw [kn] at w1
    simp only [Option.some.injEq,Prod.mk.injEq] at w1
    exact absurd w1.2.symm cz
  have tn'':n'=t:=by omega
  subst tn''
  have sdb:=sd_bound cx n' (Nat.le_refl list.length)
  have sdl:=SD_le cx n' list.length (Nat.le_refl _)
  have bkl:(Bk b out' list.length).Day=now.Day:=by
    by_cases hz:list.length=0
    · have hz':list=[]:=List.length_eq_zero_iff.1 hz
      rw [hz]
      have:now=b:=by subst hz'; exact (Run.same hR (Run.nil b) bk (by simp))
      rw [this]; rfl
    · have h1:=(cx.st n' (show list.length - 1 < list.length by omega)).1
      rw [show list.length - 1 + 1=list.length by omega] at h1
      rw [h1]
      have hdl:Dl list (list.length - 1)=list[list.length - 1]:=by
        unfold Dl
        rw [List.getD_eq_getElem?_getD,List.getElem?_eq_getElem (by omega)]; rfl
      rw [hdl]
      cases hR with
      | nil=>simp at hz
      | @snoc ds m d _ r hm hdd hs st=>
        rw [st.day.1]
        simp
  have q0:=sdb.2 k
  have q9:=sdl.2 k
  rw [bkl] at q9
  revert w1 w2 q0 q9
  generalize (SD n' b out' list.length).getD k 0=most
  intro w1 w2 q0 q9
  have wm:IntKind.i64.wrap (now.Day - b.Day)=now.Day - b.Day:=w64 (by omega)
  have y1:decide (most < 0)=false:=by simp; omega
  have y2:decide (most > now.Day - b.Day)=false:=by simp; omega
  have lw:=hist_law b.Tallies b rfl list n' o (by omega) g3
  have hh:=(nk.ta n' _ (List.getElem?_eq_getElem tlt)).2.1
  obtain ⟨held,u1,u2,u3⟩:=holds_val now nk now.Tallies[n'].Holder hh.1 hh.2
  have en:(⟨now.Day,now.Cash,now.Tallies⟩:Book)=now:=rfl
  have uh:=a2Has_eq held (n':Int) (by omega)
  have ub:(decide ((n':Int) ∈ held)==decide (now.Tallies[n'].Left > 0))=true:=by
    have:decide ((n':Int) ∈ held)=decide (now.Tallies[n'].Left > 0):=by
      rw [decide_eq_decide,u3]
      constructor
      · rintro ⟨y,hy,_,hy2⟩
        rw [List.getElem?_eq_getElem tlt] at hy
        obtain rfl:=Option.some.inj hy
        exact hy2
      · intro h; exact ⟨_,List.getElem?_eq_getElem tlt,rfl,h⟩
    rw [this]; simp
  simp only [hlong,e,x1,wd,e0,i1,i2,lp,sl,i3,sb,asm,p1,i5,i4,i6,rv,l2,ht',vv,t1,i7,i8,i9,w1,w2,aso,rt,y1,wm,y2,lw,en,u1,uh,ub,Option.bind_some,Bool.false_eq_true,if_false,if_true,bne_self_eq_false,beq_self_eq_true]
end Go.Proofs.Ytjlalepbhcekoaa.Pure
