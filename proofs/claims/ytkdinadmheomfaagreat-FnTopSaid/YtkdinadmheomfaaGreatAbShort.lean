/- Short words for the printed texts. -/
import Derived.Test.YtkdinadmheomfaaGreatAbFold
set_option linter.unusedVariables false
namespace Go.Ab
open Go
abbrev RF:=b4->bs->Option (b4×bs)
abbrev FF:=bs->b4->List Ob->Option (b4×List Ob)
abbrev OF:=Nat->b4->bs->Option (AV×Eff)
abbrev VF:=b4->AV
@[reducible] instance tmN (n:Nat):OfNat VF n:=⟨fun e=>a3 e n⟩
@[reducible] def cn (v:AV):VF:=fun _=>v
@[reducible] def aX (d:Nat) (o:OF) (k:RF):RF:=fun e M=>nx (o M.length e M) (some d) e M k
@[reducible] def aX0 (o:OF) (k:RF):RF:=fun e M=>nx (o M.length e M) none e M k
@[reducible] def aXZ:RF:=fun e M=>some (e,M)
@[reducible] def aY (d:Nat) (o:OF) (k:FF):FF:=fun M e C=>nf (o (M.length + C.length) e M) (some d) false e C (k M)
@[reducible] def aYc (d:Nat) (o:OF) (k:FF):FF:=fun M e C=>nf (o (M.length + C.length) e []) (some d) true e C (k M)
@[reducible] def aYZ:FF:=fun _ e C=>some (e,C)
def rg (l:List Nat) (b:RF):RF:=fun e M=>(b e M).map fun q=>(prune l q.1,q.2)
def mM (l:List Nat) (f:FF) (b:RF):RF:=fun e M=>rD l (f M e) b M
def Ou (e:b4):List VF->List AV
 | []=>[]
 | f::r=>f e::Ou e r
@[reducible] def pM (x:VF):OF:=fun _ e _=>On (x e)
@[reducible] def pL (b:Bool) (sz:Nat) (x:VF):OF:=fun _ e M=>keep (oK b sz (x e) M)
@[reducible] def pF (o sz:Nat) (x:VF):OF:=fun _ e M=>keep (kG o sz (x e) M)
@[reducible] def pN (x:VF):OF:=fun _ e M=>keep (n7 (x e) M)
@[reducible] def pI (sz:Nat) (x y:VF):OF:=fun _ e M=>keep (ol sz (x e) (y e) M)
@[reducible] def pE (k:Nat) (x:VF):OF:=fun _ e _=>keep (oD k (x e))
@[reducible] def pP (x y z:VF):OF:=fun _ e _=>keep (AS (x e) (y e) (z e))
@[reducible] def pU (u:UnOp) (x:VF):OF:=fun _ e _=>keep (NJ u (x e))
@[reducible] def pG (x:VF) (w:Bool) (o:OF):OF:=fun n e M=>gL (some (x e,w)) (o n e M)
@[reducible] def pS (sz:Nat) (x y:VF):OF:=fun _ e M=>xo sz (x e) (y e) M
@[reducible] def pSK (sz:Nat) (x y:VF):OF:=fun _ e M=>Bv sz (x e) (y e) M
@[reducible] def pBox (sz:Nat) (x:VF):OF:=fun _ e M=>keep (FW sz (x e) M)
@[reducible] def pB_ (P:Program) (op:BinOp) (t:Nat) (x y:VF):OF:=fun _ e M=>iS P op t (x e) (y e) M
@[reducible] def pLen_ (P:Program) (t:Nat) (x:VF):OF:=fun _ e M=>IJ P t (x e) M
@[reducible] def pAl_ (P:Program) (t sz:Nat):OF:=fun n _ _=>D8 P n t sz
@[reducible] def pK_ (cx:Cx) (c:bh) (th:Bool) (f:Nat) (l:List VF):OF:=fun n e M=>ld cx.P.cellsOf cx.rw cx.wk c th n f (Ou e l) M
def r0 (l:List Nat):Reg:=⟨[],[],[],[],l,none,[]⟩
def OM (l:List Nat) (r:RF):RF:=fun e M=>r e (sm e l M)
abbrev FS:=bs->b4->List Ob->w5->Option (b4×List Ob×w5)
abbrev RB:=w5->b4->bs->Option (b4×bs)
def NH (x:Option (AV×Eff)) (d:Option Nat) (calm std al:Bool) (i n:Nat) (op:bs->Option (AV×Eff)) (e:b4) (C:List Ob) (S:w5) (k:b4->List Ob->w5->Option (b4×List Ob×w5)):Option (b4×List Ob×w5):=
 x.bind fun p=>(rL calm std al C p.2).bind fun D=>k (put e d p.1) D (EJ calm std i n op p S)
@[reducible] def aQ (i:Nat) (al:Bool) (d:Option Nat) (o:OF) (k:FS):FS:=fun M e C S=>NH (o (M.length + C.length) e M) d false false al i (M.length + C.length) (fun M'=>o (M.length + C.length) e M') e C S (k M)
@[reducible] def aQc (i:Nat) (al:Bool) (d:Option Nat) (o:OF) (k:FS):FS:=fun M e C S=>NH (o (M.length + C.length) e []) d true false al i (M.length + C.length) (fun M'=>o (M.length + C.length) e M') e C S (k M)
@[reducible] def aQs (i:Nat) (al:Bool) (d:Option Nat) (o:OF) (k:FS):FS:=fun M e C S=>NH (o (M.length + C.length) e M) d false true al i (M.length + C.length) (fun M'=>o (M.length + C.length) e M') e C S (k M)
@[reducible] def aQZ:FS:=fun _ e C S=>some (e,C,S)
@[reducible] noncomputable def aW (D:List Nat) (d:Option Nat) (o:OF) (k:RB):RB:=fun S e M=>nx (o M.length e M) d e M (fun e' M'=>Hp D S M' (k S e' M'))
@[reducible] def aWZ:RB:=fun _ e M=>some (e,M)
def ND (l:List Nat) (f:FS) (b:RB):RF:=fun e M=>((f M e [] []).bind fun q=>b q.2.2 q.1 (M++q.2.1.map .live)).map fun q=>(prune l q.1,q.2)
def N5 (b:RB) (S:w5) (e:b4) (M:bs):Option (b4×bs):=b S e M
section
variable {β:Type} {K:Nat->oZ->Option β} {Q:β->Prop} {e:b4} {M:bs}
theorem Rg {l:List Nat} {b:Nat->RF} (h:Ev (fun k=>(b k e M).bind fun q=>K k (.nrm,prune l q.1,q.2)) Q):Ev (fun k=>(ap (rg l (b k)) e M).bind (K k)) Q:=Ev.reg (fun _=>rfl) h
theorem Rd {l:List Nat} {f:Nat->FF} {b:Nat->RF} (h:Ev (fun k=>(f k M e []).bind fun q=>(bk (b k) q.1 (M++q.2.map .live)).bind fun q=>K k (.nrm,prune l q.1,q.2)) Q):Ev (fun k=>(ap (mM l (f k) (b k)) e M).bind (K k)) Q:=Ev.regD (fun _=>rfl) h
def Fs (e:b4):List Nat->List (Option AV)->Prop
 | [],_=>True
 | t::l,some v::vs=>a3 e t=v/\Fs e l vs
 | _::l,none::vs=>Fs e l vs
 | _::_,[]=>True
def Fi (e:b4) (G:Prop):List Nat->List (Option AV)->Prop
 | [],_=>G
 | t::l,some v::vs=>a3 e t=v->Fi e G l vs
 | _::l,none::vs=>Fi e G l vs
 | _::_,[]=>G
theorem Fs.to {e:b4} {G:Prop}:∀ {l:List Nat} {vs:List (Option AV)},Fs e l vs->Fi e G l vs->G
 | [],_,_,g=>g
 | _::_,some _::_,h,g=>Fs.to h.2 (g h.1)
 | _::_,none::_,h,g=>Fs.to (vs:=_) (by unfold Fs at h; exact h) (by unfold Fi at g; exact g)
 | _::_,[],_,g=>by unfold Fi at g; exact g
def lk:b4->Nat->Option AV
 | [],_=>none
 | (t',v)::r,t=>if Nat.beq t' t then some v else lk r t
theorem Fx:∀ {e:b4} {t:Nat} {v:AV},lk e t=some v->a3 e t=v
 | (t',w)::r,t,v,h=>by
  unfold lk at h; unfold a3
  cases hb:Nat.beq t' t <;> simp only [hb,if_true,if_false,Bool.false_eq_true] at h ⊢
  ·exact Fx h
  ·injection h
theorem hA {t:Nat} {v:AV} {l:List Nat} {vs:List (Option AV)} (h:a3 e t=v) (r:Fs e l vs):Fs e (t::l) (some v::vs):=⟨h,r⟩
theorem hN {t:Nat} {v:AV} {l:List Nat} {vs:List (Option AV)} (h:lk e t=some v) (r:Fs e l vs):Fs e (t::l) (some v::vs):=⟨Fx h,r⟩
theorem hV {t:Nat} (v:AV) {l:List Nat} {vs:List (Option AV)} (h:a3 e t=v) (r:Fs e l vs):Fs e (t::l) (some v::vs):=⟨h,r⟩
theorem hZ:Fs e [] []:=trivial
theorem Fs.pr {G:b4} (L:List Nat) (D:G=prune L e):∀ {l:List Nat} {vs:List (Option AV)},(∀ t,t ∈ l->fg L t=true)->Fs e l vs->Fs G l vs
 | [],_,_,_=>trivial
 | t::l,some v::vs,hm,h=>⟨bZ D (hm t (List.mem_cons_self ..)) h.1,Fs.pr L D (fun t F=>hm t (List.mem_cons_of_mem _ F)) h.2⟩
 | t::l,none::vs,hm,h=>by
  unfold Fs at h ⊢
  exact Fs.pr L D (fun t F=>hm t (List.mem_cons_of_mem _ F)) h
 | _::_,[],_,_=>by unfold Fs; trivial
theorem LF {l:List Nat} {t:Nat} (h:t ∈ l):fg l t=true:=List.any_eq_true.2 ⟨t,h,by simp⟩
theorem Rn {l:List Nat} {vs:List (Option AV)} (G:Fs e l vs) (h:∀ D,Fi D (Ev (fun k=>K k (.nrm,D,M)) Q) l vs):Ev (fun k=>(some (e,M)).bind fun q=>K k (.nrm,prune l q.1,q.2)) Q:=
 Ev.rend (fun D F=>Fs.to (Fs.pr l F (fun t I=>LF I) G) (h D))
end
section
variable {β:Type} {K:Nat->b4×List Ob×w5->Option β} {Q:β->Prop} {e:b4} {C:List Ob} {S:w5} {op:Option (AV×Eff)} {v:AV} {d:Option Nat} {calm al:Bool} {i n:Nat} {opf:bs->Option (AV×Eff)} {cont:Nat->b4->List Ob->w5->Option (b4×List Ob×w5)}
theorem FV (D:op=some (v,.keep)) (h:Ev (fun k=>(cont k (put e d v) C S).bind (K k)) Q):Ev (fun k=>(NH op d calm false al i n opf e C S (cont k)).bind (K k)) Q:=by
 subst D
 cases calm <;> exact h
theorem KY (D:op=some (v,.keep)) (h:Ev (fun k=>(cont k (put e d v) C ((i,fun M'=>opf M'=some (v,.keep))::S)).bind (K k)) Q):Ev (fun k=>(NH op d false true al i n opf e C S (cont k)).bind (K k)) Q:=by
 subst D; exact h
theorem O3 {l:List Ob} (D:op=some (v,.push l)) (h:Ev (fun k=>(cont k (put e d v) (C++l) ((i,fun M'=>AO M' n l)::S)).bind (K k)) Q):Ev (fun k=>(NH op d true false true i n opf e C S (cont k)).bind (K k)) Q:=by
 subst D; exact h
end
section
variable {β:Type} {K:Nat->oZ->Option β} {Q:β->Prop} {e:b4} {M:bs}
theorem Oq {l:List Nat} {f:Nat->FS} {b:Nat->RB} (h:Ev (fun k=>(f k M e [] []).bind fun q=>(N5 (b k) q.2.2 q.1 (M++q.2.1.map .live)).bind fun q=>K k (.nrm,prune l q.1,q.2)) Q):Ev (fun k=>(ap (ND l (f k) (b k)) e M).bind (K k)) Q:=by
 refine Ev.congr (fun k=>?_) h
 unfold ap ND N5
 cases f k M e [] [] with
 | none=>rfl
 | some q=>simp only [Option.bind_some]; cases b k q.2.2 q.1 (M++q.2.1.map .live) <;> rfl
theorem OE {S:w5} {b:Nat->RB} {K:Nat->b4×bs->Option β} (h:Ev (fun k=>(b k S e M).bind (K k)) Q):Ev (fun k=>(some (e,([]:List Ob),S)).bind fun q=>(N5 (b k) q.2.2 q.1 (M++q.2.1.map .live)).bind (K k)) Q:=by
 have:M++([]:List Ob).map .live=M:=by simp
 refine Ev.congr (fun k=>?_) h
 simp only [Option.bind_some,this,N5]
theorem O0 {S:w5} {C:List Ob} {b:Nat->RB} {K:Nat->b4×bs->Option β} (h:∀ M',M'=M++C.map .live->Ev (fun k=>(b k S e M').bind (K k)) Q):Ev (fun k=>(some (e,C,S)).bind fun q=>(N5 (b k) q.2.2 q.1 (M++q.2.1.map .live)).bind (K k)) Q:=h _ rfl
theorem OZ {l:List Nat} {M':bs} {r:Nat->RF} (D:sm e l M=M') (h:Ev (fun k=>(ap (r k) e M').bind (K k)) Q):Ev (fun k=>(ap (OM l (r k)) e M).bind (K k)) Q:=by subst D; exact h
theorem Ks {t id ty sz:Nat} {cs cs':List AV} {D:bs} (G:a3 e t = .loc id 1 0 0) (I:M[id]? = some (.live ⟨.box,ty,sz,[cs]⟩)) (J:kY li cs M=(cs',D)):sm e [t] M=D.set id (.live ⟨.box,ty,sz,[cs'.map so]⟩):=by
 have F:jI M id 1=some ⟨.box,ty,sz,[cs]⟩:=gU I rfl
 simp only [sm,G,Ad,F,J]
theorem ck {D:List Nat} {S:w5} {x:Nat->Option (b4×bs)} {K:Nat->b4×bs->Option β} (F:Fp D S M) (h:Ev (fun k=>(x k).bind (K k)) Q):Ev (fun k=>(Hp D S M (x k)).bind (K k)) Q:=by
 refine Ev.congr (fun k=>?_) h
 unfold Hp
 rw [if_pos F]
theorem Bo {D:List Nat}:Fp D [] M:=fun p F=>by cases F
theorem u5 {D:List Nat} {S:w5} {i:Nat} {P:bs->Prop} (h:fg D i=true) (r:Fp D S M):Fp D ((i,P)::S) M:=fun p F=>(List.mem_cons.1 F).elim (fun e=>by subst e; exact .inl h) (r p)
theorem GA {D:List Nat} {S:w5} {i:Nat} {P:bs->Prop} (h:P M) (r:Fp D S M):Fp D ((i,P)::S) M:=fun p F=>(List.mem_cons.1 F).elim (fun e=>by subst e; exact .inr h) (r p)
theorem OK {D:List Nat} {S:w5} {i n:Nat} {o:Ob} (h:M[n]? = some (.live o)) (r:Fp D S M):Fp D ((i,fun M'=>AO M' n [o])::S) M:=GA ⟨h,trivial⟩ r
end
section
variable {S R:Type} {RS:S->b4->bs->Prop} {RR:R->Ex->b4->bs->Prop} {e:b4} {M:bs}
theorem qN {s:S} (h:RS s e M):Ev (fun _:Nat=>some (.nrm,e,M)) (bQ RS RR (.inl s)):=kd (OB h)
theorem qR {r:R} (h:RR r .ret e M):Ev (fun _:Nat=>some (.ret,e,M)) (bQ RS RR (.inr r)):=kd (NM (fun h=>nomatch h) h)
theorem qE {r:R} {j:Nat} (h:RR r (.ext j) e M):Ev (fun _:Nat=>some (.ext j,e,M)) (bQ RS RR (.inr r)):=kd (NM (fun h=>nomatch h) h)
theorem nm {p:Prop} (h:false=true):p:=nomatch h
end
def Ov {τ:Type} (c:τ->List AV):Option (List τ)->AV
 | none=>.nils
 | some xs=>.sl none (xs.map c)
end Go.Ab
