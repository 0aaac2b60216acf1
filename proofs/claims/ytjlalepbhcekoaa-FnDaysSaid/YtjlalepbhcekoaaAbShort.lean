/- Short words for the printed texts. -/
import Derived.Test.YtjlalepbhcekoaaAbFold
set_option linter.unusedVariables false
namespace Go.Ab
open Go
abbrev RF:=Env→Mem→Option (Env×Mem)
abbrev FF:=Mem→Env→List Ob→Option (Env×List Ob)
abbrev OF:=Nat→Env→Mem→Option (AV×Eff)
abbrev VF:=Env→AV
@[reducible] instance tmN (n:Nat):OfNat VF n:=⟨fun e=>eget e n⟩
@[reducible] def cn (v:AV):VF:=fun _=>v
@[reducible] def aX (d:Nat) (o:OF) (k:RF):RF:=fun e M=>nx (o M.length e M) (some d) e M k
@[reducible] def aX0 (o:OF) (k:RF):RF:=fun e M=>nx (o M.length e M) none e M k
@[reducible] def aXZ:RF:=fun e M=>some (e,M)
@[reducible] def aY (d:Nat) (o:OF) (k:FF):FF:=fun M e C=>nf (o (M.length + C.length) e M) (some d) false e C (k M)
@[reducible] def aYc (d:Nat) (o:OF) (k:FF):FF:=fun M e C=>nf (o (M.length + C.length) e []) (some d) true e C (k M)
@[reducible] def aYZ:FF:=fun _ e C=>some (e,C)
def rg (l:List Nat) (b:RF):RF:=fun e M=>(b e M).map fun q=>(prune l q.1,q.2)
def rgD (l:List Nat) (f:FF) (b:RF):RF:=fun e M=>rD l (f M e) b M
def vs0 (e:Env):List VF→List AV
 | []=>[]
 | f::r=>f e::vs0 e r
@[reducible] def pM (x:VF):OF:=fun _ e _=>oMv (x e)
@[reducible] def pL (b:Bool) (sz:Nat) (x:VF):OF:=fun _ e M=>keep (aLoad b sz (x e) M)
@[reducible] def pF (o sz:Nat) (x:VF):OF:=fun _ e M=>keep (aFieldAddr o sz (x e) M)
@[reducible] def pN (x:VF):OF:=fun _ e M=>keep (aNilCheck (x e) M)
@[reducible] def pI (sz:Nat) (x y:VF):OF:=fun _ e M=>keep (aIndexS sz (x e) (y e) M)
@[reducible] def pE (k:Nat) (x:VF):OF:=fun _ e _=>keep (aExtract k (x e))
@[reducible] def pP (x y z:VF):OF:=fun _ e _=>keep (aPick (x e) (y e) (z e))
@[reducible] def pU (u:UnOp) (x:VF):OF:=fun _ e _=>keep (aUn u (x e))
@[reducible] def pG (x:VF) (w:Bool) (o:OF):OF:=fun n e M=>aGuard (some (x e,w)) (o n e M)
@[reducible] def pS (sz:Nat) (x y:VF):OF:=fun _ e M=>oStore sz (x e) (y e) M
@[reducible] def pSK (sz:Nat) (x y:VF):OF:=fun _ e M=>oStoreK sz (x e) (y e) M
@[reducible] def pBox (sz:Nat) (x:VF):OF:=fun _ e M=>keep (aBox sz (x e) M)
@[reducible] def pB_ (P:Program) (op:BinOp) (t:Nat) (x y:VF):OF:=fun _ e M=>oBin P op t (x e) (y e) M
@[reducible] def pLen_ (P:Program) (t:Nat) (x:VF):OF:=fun _ e M=>oLen P t (x e) M
@[reducible] def pAl_ (P:Program) (t sz:Nat):OF:=fun n _ _=>oAlloc P n t sz
@[reducible] def pK_ (cx:Cx) (c:CallF) (th:Bool) (f:Nat) (l:List VF):OF:=fun n e M=>aCall cx.P.cellsOf cx.rw cx.wk c th n f (vs0 e l) M
def r0 (l:List Nat):Reg:=⟨[],[],[],[],l,none,[]⟩
def rgF (l:List Nat) (r:RF):RF:=fun e M=>r e (frzAll e l M)
abbrev FS:=Mem→Env→List Ob→Sty→Option (Env×List Ob×Sty)
abbrev RB:=Sty→Env→Mem→Option (Env×Mem)
def nfS (x:Option (AV×Eff)) (d:Option Nat) (calm std al:Bool) (i n:Nat) (op:Mem→Option (AV×Eff)) (e:Env) (C:List Ob) (S:Sty) (k:Env→List Ob→Sty→Option (Env×List Ob×Sty)):Option (Env×List Ob×Sty):=
 x.bind fun p=>(frontEffS calm std al C p.2).bind fun C'=>k (put e d p.1) C' (styOf calm std i n op p S)
@[reducible] def aQ (i:Nat) (al:Bool) (d:Option Nat) (o:OF) (k:FS):FS:=fun M e C S=>nfS (o (M.length + C.length) e M) d false false al i (M.length + C.length) (fun M'=>o (M.length + C.length) e M') e C S (k M)
@[reducible] def aQc (i:Nat) (al:Bool) (d:Option Nat) (o:OF) (k:FS):FS:=fun M e C S=>nfS (o (M.length + C.length) e []) d true false al i (M.length + C.length) (fun M'=>o (M.length + C.length) e M') e C S (k M)
@[reducible] def aQs (i:Nat) (al:Bool) (d:Option Nat) (o:OF) (k:FS):FS:=fun M e C S=>nfS (o (M.length + C.length) e M) d false true al i (M.length + C.length) (fun M'=>o (M.length + C.length) e M') e C S (k M)
@[reducible] def aQZ:FS:=fun _ e C S=>some (e,C,S)
@[reducible] noncomputable def aW (D:List Nat) (d:Option Nat) (o:OF) (k:RB):RB:=fun S e M=>nx (o M.length e M) d e M (fun e' M'=>chkO D S M' (k S e' M'))
@[reducible] def aWZ:RB:=fun _ e M=>some (e,M)
def rgS (l:List Nat) (f:FS) (b:RB):RF:=fun e M=>((f M e [] []).bind fun q=>b q.2.2 q.1 (M++q.2.1.map .live)).map fun q=>(prune l q.1,q.2)
def bkS (b:RB) (S:Sty) (e:Env) (M:Mem):Option (Env×Mem):=b S e M
section
variable {β:Type} {K:Nat→Out→Option β} {Q:β→Prop} {e:Env} {M:Mem}
theorem Rg {l:List Nat} {b:Nat→RF} (h:Ev (fun k=>(b k e M).bind fun q=>K k (.nrm,prune l q.1,q.2)) Q):Ev (fun k=>(bReg (rg l (b k)) e M).bind (K k)) Q:=Ev.reg (fun _=>rfl) h
theorem Rd {l:List Nat} {f:Nat→FF} {b:Nat→RF} (h:Ev (fun k=>(f k M e []).bind fun q=>(bk (b k) q.1 (M++q.2.map .live)).bind fun q=>K k (.nrm,prune l q.1,q.2)) Q):Ev (fun k=>(bReg (rgD l (f k) (b k)) e M).bind (K k)) Q:=Ev.regD (fun _=>rfl) h
def Fs (e:Env):List Nat→List (Option AV)→Prop
 | [],_=>True
 | t::l,some v::vs=>eget e t=v∧Fs e l vs
 | _::l,none::vs=>Fs e l vs
 | _::_,[]=>True
def Fi (e:Env) (G:Prop):List Nat→List (Option AV)→Prop
 | [],_=>G
 | t::l,some v::vs=>eget e t=v→Fi e G l vs
 | _::l,none::vs=>Fi e G l vs
 | _::_,[]=>G
theorem Fs.to {e:Env} {G:Prop}:∀ {l:List Nat} {vs:List (Option AV)},Fs e l vs→Fi e G l vs→G
 | [],_,_,g=>g
 | _::_,some _::_,h,g=>Fs.to h.2 (g h.1)
 | _::_,none::_,h,g=>Fs.to (vs:=_) (by unfold Fs at h; exact h) (by unfold Fi at g; exact g)
 | _::_,[],_,g=>by unfold Fi at g; exact g
def lk:Env→Nat→Option AV
 | [],_=>none
 | (t',v)::r,t=>if Nat.beq t' t then some v else lk r t
theorem lk_eget:∀ {e:Env} {t:Nat} {v:AV},lk e t=some v→eget e t=v
 | (t',w)::r,t,v,h=>by
  unfold lk at h; unfold eget
  cases hb:Nat.beq t' t <;> simp only [hb,if_true,if_false,Bool.false_eq_true] at h ⊢
  ·exact lk_eget h
  ·injection h
theorem hA {t:Nat} {v:AV} {l:List Nat} {vs:List (Option AV)} (h:eget e t=v) (r:Fs e l vs):Fs e (t::l) (some v::vs):=⟨h,r⟩
theorem hN {t:Nat} {v:AV} {l:List Nat} {vs:List (Option AV)} (h:lk e t=some v) (r:Fs e l vs):Fs e (t::l) (some v::vs):=⟨lk_eget h,r⟩
theorem hV {t:Nat} (v:AV) {l:List Nat} {vs:List (Option AV)} (h:eget e t=v) (r:Fs e l vs):Fs e (t::l) (some v::vs):=⟨h,r⟩
theorem hZ:Fs e [] []:=trivial
theorem Fs.pr {e':Env} (L:List Nat) (he:e'=prune L e):∀ {l:List Nat} {vs:List (Option AV)},(∀ t,t ∈ l→has L t=true)→Fs e l vs→Fs e' l vs
 | [],_,_,_=>trivial
 | t::l,some v::vs,hm,h=>⟨envp he (hm t (List.mem_cons_self ..)) h.1,Fs.pr L he (fun t ht=>hm t (List.mem_cons_of_mem _ ht)) h.2⟩
 | t::l,none::vs,hm,h=>by
  unfold Fs at h ⊢
  exact Fs.pr L he (fun t ht=>hm t (List.mem_cons_of_mem _ ht)) h
 | _::_,[],_,_=>by unfold Fs; trivial
theorem has_of {l:List Nat} {t:Nat} (h:t ∈ l):has l t=true:=List.any_eq_true.2 ⟨t,h,by simp⟩
theorem Rn {l:List Nat} {vs:List (Option AV)} (hf:Fs e l vs) (h:∀ e',Fi e' (Ev (fun k=>K k (.nrm,e',M)) Q) l vs):Ev (fun k=>(some (e,M)).bind fun q=>K k (.nrm,prune l q.1,q.2)) Q:=
 Ev.rend (fun e' he=>Fs.to (Fs.pr l he (fun t ht=>has_of ht) hf) (h e'))
end
section
variable {β:Type} {K:Nat→Env×List Ob×Sty→Option β} {Q:β→Prop} {e:Env} {C:List Ob} {S:Sty} {op:Option (AV×Eff)} {v:AV} {d:Option Nat} {calm al:Bool} {i n:Nat} {opf:Mem→Option (AV×Eff)} {cont:Nat→Env→List Ob→Sty→Option (Env×List Ob×Sty)}
theorem kfS (hop:op=some (v,.keep)) (h:Ev (fun k=>(cont k (put e d v) C S).bind (K k)) Q):Ev (fun k=>(nfS op d calm false al i n opf e C S (cont k)).bind (K k)) Q:=by
 subst hop
 cases calm <;> exact h
theorem kgS (hop:op=some (v,.keep)) (h:Ev (fun k=>(cont k (put e d v) C ((i,fun M'=>opf M'=some (v,.keep))::S)).bind (K k)) Q):Ev (fun k=>(nfS op d false true al i n opf e C S (cont k)).bind (K k)) Q:=by
 subst hop; exact h
theorem klS {l:List Ob} (hop:op=some (v,.push l)) (h:Ev (fun k=>(cont k (put e d v) (C++l) ((i,fun M'=>lives M' n l)::S)).bind (K k)) Q):Ev (fun k=>(nfS op d true false true i n opf e C S (cont k)).bind (K k)) Q:=by
 subst hop; exact h
end
section
variable {β:Type} {K:Nat→Out→Option β} {Q:β→Prop} {e:Env} {M:Mem}
theorem RdS {l:List Nat} {f:Nat→FS} {b:Nat→RB} (h:Ev (fun k=>(f k M e [] []).bind fun q=>(bkS (b k) q.2.2 q.1 (M++q.2.1.map .live)).bind fun q=>K k (.nrm,prune l q.1,q.2)) Q):Ev (fun k=>(bReg (rgS l (f k) (b k)) e M).bind (K k)) Q:=by
 refine Ev.congr (fun k=>?_) h
 unfold bReg rgS bkS
 cases f k M e [] [] with
 | none=>rfl
 | some q=>simp only [Option.bind_some]; cases b k q.2.2 q.1 (M++q.2.1.map .live) <;> rfl
theorem fZS {S:Sty} {b:Nat→RB} {K:Nat→Env×Mem→Option β} (h:Ev (fun k=>(b k S e M).bind (K k)) Q):Ev (fun k=>(some (e,([]:List Ob),S)).bind fun q=>(bkS (b k) q.2.2 q.1 (M++q.2.1.map .live)).bind (K k)) Q:=by
 have:M++([]:List Ob).map .live=M:=by simp
 refine Ev.congr (fun k=>?_) h
 simp only [Option.bind_some,this,bkS]
theorem feS {S:Sty} {C:List Ob} {b:Nat→RB} {K:Nat→Env×Mem→Option β} (h:∀ M',M'=M++C.map .live→Ev (fun k=>(b k S e M').bind (K k)) Q):Ev (fun k=>(some (e,C,S)).bind fun q=>(bkS (b k) q.2.2 q.1 (M++q.2.1.map .live)).bind (K k)) Q:=h _ rfl
theorem RFz {l:List Nat} {M':Mem} {r:Nat→RF} (hf:frzAll e l M=M') (h:Ev (fun k=>(bReg (r k) e M').bind (K k)) Q):Ev (fun k=>(bReg (rgF l (r k)) e M).bind (K k)) Q:=by subst hf; exact h
theorem frz_one {t id ty sz:Nat} {cs cs':List AV} {M1:Mem} (he:eget e t = .loc id 1 0 0) (ho:M[id]? = some (.live ⟨.box,ty,sz,[cs]⟩)) (hz:frzL frz1 cs M=(cs',M1)):frzAll e [t] M=M1.set id (.live ⟨.box,ty,sz,[cs'.map stripC]⟩):=by
 have h1:getOb M id 1=some ⟨.box,ty,sz,[cs]⟩:=getOb_of ho rfl
 simp only [frzAll,he,frzBox,h1,hz]
theorem ck {D:List Nat} {S:Sty} {x:Nat→Option (Env×Mem)} {K:Nat→Env×Mem→Option β} (hc:chk D S M) (h:Ev (fun k=>(x k).bind (K k)) Q):Ev (fun k=>(chkO D S M (x k)).bind (K k)) Q:=by
 refine Ev.congr (fun k=>?_) h
 unfold chkO
 rw [if_pos hc]
theorem ck0 {D:List Nat}:chk D [] M:=fun p hp=>by cases hp
theorem ckD {D:List Nat} {S:Sty} {i:Nat} {P:Mem→Prop} (h:has D i=true) (r:chk D S M):chk D ((i,P)::S) M:=fun p hp=>(List.mem_cons.1 hp).elim (fun e=>by subst e; exact .inl h) (r p)
theorem ckP {D:List Nat} {S:Sty} {i:Nat} {P:Mem→Prop} (h:P M) (r:chk D S M):chk D ((i,P)::S) M:=fun p hp=>(List.mem_cons.1 hp).elim (fun e=>by subst e; exact .inr h) (r p)
theorem ckL {D:List Nat} {S:Sty} {i n:Nat} {o:Ob} (h:M[n]? = some (.live o)) (r:chk D S M):chk D ((i,fun M'=>lives M' n [o])::S) M:=ckP ⟨h,trivial⟩ r
end
section
variable {S R:Type} {RS:S→Env→Mem→Prop} {RR:R→Ex→Env→Mem→Prop} {e:Env} {M:Mem}
theorem qN {s:S} (h:RS s e M):Ev (fun _:Nat=>some (.nrm,e,M)) (bQ RS RR (.inl s)):=kd (bQ_n h)
theorem qR {r:R} (h:RR r .ret e M):Ev (fun _:Nat=>some (.ret,e,M)) (bQ RS RR (.inr r)):=kd (bQ_x (fun h=>nomatch h) h)
theorem qE {r:R} {j:Nat} (h:RR r (.ext j) e M):Ev (fun _:Nat=>some (.ext j,e,M)) (bQ RS RR (.inr r)):=kd (bQ_x (fun h=>nomatch h) h)
theorem nm {p:Prop} (h:false=true):p:=nomatch h
end
end Go.Ab
