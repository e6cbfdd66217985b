/-
  Parts of the proof of this claim's statement; no conditions beyond those each theorem names.
-/
import Derived.Orders
import Derived.Still
import Derived.KernelRfl
set_option maxRecDepth 100000
set_option linter.unusedSimpArgs false
set_option linter.unusedVariables false
set_option linter.unusedSectionVars false
set_option maxHeartbeats 8000000
namespace Go.Bd
section
structure Nd where
 v:Nat
 low:Nat
 high:Nat
 deriving DecidableEq,Inhabited
abbrev Ns:=List Nd
def at_(n:Nat)(ns:Ns)(f:Nat):Nd:=if f<2 then⟨n,f,f⟩ else ns.getD (f-2) default
def tv(n:Nat)(ns:Ns)(f:Nat):Nat:=(at_ n ns f).v
def Ref(ns:Ns)(f:Nat):Prop:=f<ns.length+2
structure Wf(n:Nat)(ns:Ns):Prop where
 var:∀k (h:k<ns.length),ns[k].v<n
 ne:∀k (h:k<ns.length),ns[k].low≠ns[k].high
 low:∀k (h:k<ns.length),ns[k].low<k+2
 high:∀k (h:k<ns.length),ns[k].high<k+2
 ordl:∀k (h:k<ns.length),ns[k].v<tv n ns ns[k].low
 ordh:∀k (h:k<ns.length),ns[k].v<tv n ns ns[k].high
 nodup:ns.Nodup
theorem Wf.nil(n:Nat):Wf n []:=⟨by simp,by simp,by simp,by simp,by simp,by simp,by simp⟩
theorem zJJ{n:Nat}{ns:Ns}{f:Nat}(h:f<2):at_ n ns f=⟨n,f,f⟩:=by simp[at_,h]
theorem zC6{n:Nat}{ns:Ns}{f:Nat}(h:2<=f)(hf:Ref ns f):at_ n ns f=ns[f-2]'(by unfold Ref at hf;omega):=by
 have h2:¬f<2:=by omega
 simp only[at_,h2,if_false];unfold Ref at hf;have:f-2<ns.length:=by omega
 simp[List.getD,List.getElem?_eq_getElem this]
def eval(ns:Ns)(a:Nat->Bool)(f:Nat):Bool :=
 if h:f<2 then decide (f=1) else
  let d:=ns.getD (f-2) default
  if hl:d.low<f/\d.high<f then(if a d.v then eval ns a d.high else eval ns a d.low) else false
 termination_by f
 decreasing_by
 ·exact hl.2
 ·exact hl.1
theorem zN(ns:Ns)(a:Nat->Bool):eval ns a 0=false:=by unfold eval;simp
theorem zg(ns:Ns)(a:Nat->Bool):eval ns a 1=true:=by unfold eval;simp
section
variable {n:Nat} {ns:Ns}
theorem Wf.lt_low(w:Wf n ns){f:Nat}(h:2<=f)(hf:Ref ns f):(at_ n ns f).low<f:=by
 have hk:f-2<ns.length:=by unfold Ref at hf;omega
 rw[zC6 h hf];have:=w.low (f-2) hk;omega
theorem Wf.lt_high(w:Wf n ns){f:Nat}(h:2<=f)(hf:Ref ns f):(at_ n ns f).high<f:=by
 have hk:f-2<ns.length:=by unfold Ref at hf;omega
 rw[zC6 h hf];have:=w.high (f-2) hk;omega
theorem zl(w:Wf n ns)(a:Nat->Bool){f:Nat}(h:2<=f)(hf:Ref ns f):eval ns a f=if a (at_ n ns f).v then eval ns a (at_ n ns f).high else eval ns a (at_ n ns f).low:=by
 have h1:=w.lt_low h hf;have h2:=w.lt_high h hf;have hk:¬f<2:=by omega
 have e:at_ n ns f=ns.getD (f-2) default:=by simp[at_,hk]
 rw[e] at h1 h2 ⊢
 conv=>lhs;unfold eval
 rw[dif_neg hk];simp only;rw[dif_pos ⟨h1,h2⟩]
theorem Wf.ref_low(w:Wf n ns){f:Nat}(hf:Ref ns f):Ref ns (at_ n ns f).low:=by
 rcases Nat.lt_or_ge f 2 with h|h
 ·rw[zJJ h];exact hf
 ·have:=w.lt_low h hf;unfold Ref at *;omega
theorem Wf.ref_high(w:Wf n ns){f:Nat}(hf:Ref ns f):Ref ns (at_ n ns f).high:=by
 rcases Nat.lt_or_ge f 2 with h|h
 ·rw[zJJ h];exact hf
 ·have:=w.lt_high h hf;unfold Ref at *;omega
theorem zHK{f:Nat}(h:f<2):tv n ns f=n:=by simp[tv,zJJ h]
theorem Wf.tv_var(w:Wf n ns){f:Nat}(h:2<=f)(hf:Ref ns f):tv n ns f<n:=by
 rw[tv,zC6 h hf];exact w.var _ _
theorem Wf.tv_le(w:Wf n ns){f:Nat}(hf:Ref ns f):tv n ns f<=n:=by
 rcases Nat.lt_or_ge f 2 with h|h
 ·rw[zHK h];exact Nat.le_refl _
 ·exact Nat.le_of_lt (w.tv_var h hf)
theorem Wf.tv_low(w:Wf n ns){f:Nat}(h:2<=f)(hf:Ref ns f):tv n ns f<tv n ns (at_ n ns f).low:=by
 rw[tv,zC6 h hf];exact w.ordl _ _
theorem Wf.tv_high(w:Wf n ns){f:Nat}(h:2<=f)(hf:Ref ns f):tv n ns f<tv n ns (at_ n ns f).high:=by
 rw[tv,zC6 h hf];exact w.ordh _ _
theorem zAK(w:Wf n ns){a b:Nat->Bool}:∀{f:Nat},Ref ns f->(∀i,tv n ns f<=i->a i=b i)->eval ns a f=eval ns b f:=by
 intro f
 induction f using Nat.strongRecOn with
 |ind f ih =>
  intro hf JA;rcases Nat.lt_or_ge f 2 with h|h
  ·have:f=0\/f=1:=by omega
   rcases this with rfl|rfl
   ·rw[zN,zN]
   ·rw[zg,zg]
  ·rw[zl w a h hf,zl w b h hf,JA (at_ n ns f).v (Nat.le_refl _)];have hl:=w.tv_low h hf;have hh:=w.tv_high h hf;rw[ih _ (w.lt_high h hf) (w.ref_high hf) (fun i hi=>JA i (by omega)),ih _ (w.lt_low h hf) (w.ref_low hf) (fun i hi=>JA i (by omega))]
def upd(a:Nat->Bool)(v:Nat)(x:Bool):Nat->Bool:=fun i=>if i=v then x else a i
@[simp] theorem zs(a:Nat->Bool)(v:Nat)(x:Bool):upd a v x v=x:=by simp[upd]
theorem zR{a:Nat->Bool}{v i:Nat}{x:Bool}(h:i≠v):upd a v x i=a i:=by simp[upd,h]
theorem zA0(w:Wf n ns){a:Nat->Bool}{f v:Nat}{x:Bool}(hf:Ref ns f)(h:v<tv n ns f):eval ns (upd a v x) f=eval ns a f :=
 zAK w hf fun i hi=>zR (by omega)
theorem zBE(w:Wf n ns){a:Nat->Bool}{f:Nat}(h:2<=f)(hf:Ref ns f):eval ns (upd a (tv n ns f) false) f=eval ns a (at_ n ns f).low:=by
 rw[zl w _ h hf];rw[show(at_ n ns f).v=tv n ns f from rfl,zs];simp only[Bool.false_eq_true,if_false];exact zA0 w (w.ref_low hf) (w.tv_low h hf)
theorem zAk(w:Wf n ns){a:Nat->Bool}{f:Nat}(h:2<=f)(hf:Ref ns f):eval ns (upd a (tv n ns f) true) f=eval ns a (at_ n ns f).high:=by
 rw[zl w _ h hf];rw[show(at_ n ns f).v=tv n ns f from rfl,zs];simp only[if_true];exact zA0 w (w.ref_high hf) (w.tv_high h hf)
theorem zFM(w:Wf n ns):∀(s f g:Nat),f<s->g<s->Ref ns f->Ref ns g->(∀a,eval ns a f=eval ns a g)->f=g:=by
 intro s
 induction s with
 |zero=>intro f g h;omega
 |succ s ih =>
  have key:∀f g,f<s+1->Ref ns f->Ref ns g->(∀a,eval ns a f=eval ns a g)->2<=f->tv n ns f<tv n ns g->False:=by
   intro f g hs hf hg he h JA;have JD:(at_ n ns f).low≠(at_ n ns f).high:=by rw[zC6 h hf];exact w.ne _ _
   apply JD;have h1:=w.lt_low h hf;have h2:=w.lt_high h hf;refine ih _ _ (by omega) (by omega) (w.ref_low hf) (w.ref_high hf) fun a=>?_;rw[<-zBE w h hf,<-zAk w h hf,he,he,zA0 w hg JA,zA0 w hg JA]
  intro f g JC JB hf hg he;rcases Nat.lt_or_ge f 2 with h|h
  ·rcases Nat.lt_or_ge g 2 with h'|h'
   ·have e:=he (fun _=>false);have h1:f=0\/f=1:=by omega
    have h2:g=0\/g=1:=by omega
    rcases h1 with rfl|rfl<;>rcases h2 with rfl|rfl<;>simp[zN,zg] at e ⊢
   ·exact absurd (key g f JB hg hf (fun a=>(he a).symm) h' (by rw[zHK h];exact w.tv_var h' hg)) id
  ·rcases Nat.lt_or_ge g 2 with h'|h'
   ·exact absurd (key f g JC hf hg he h (by rw[zHK h'];exact w.tv_var h hf)) id
   ·rcases Nat.lt_trichotomy (tv n ns f) (tv n ns g) with h3|h3|h3
    ·exact absurd (key f g JC hf hg he h h3) id
    ·have h1:=w.lt_low h hf;have h2:=w.lt_high h hf;have JF:=w.lt_low h' hg;have JE:=w.lt_high h' hg;have el:(at_ n ns f).low=(at_ n ns g).low:=ih _ _ (by omega) (by omega) (w.ref_low hf) (w.ref_low hg) fun a=>by rw[<-zBE w h hf,<-zBE w h' hg,he,h3]
     have eh:(at_ n ns f).high=(at_ n ns g).high:=ih _ _ (by omega) (by omega) (w.ref_high hf) (w.ref_high hg) fun a=>by rw[<-zAk w h hf,<-zAk w h' hg,he,h3]
     have ev:(at_ n ns f).v=(at_ n ns g).v:=h3;have e:at_ n ns f=at_ n ns g:=by cases hx:at_ n ns f;cases hy:at_ n ns g;rw[hx,hy] at el eh ev;simp at el eh ev;simp[el,eh,ev]
     rw[zC6 h hf,zC6 h' hg] at e;have:=(List.getElem_inj w.nodup).1 e;omega
    ·exact absurd (key g f JB hg hf (fun a=>(he a).symm) h' h3) id
theorem zTn(w:Wf n ns){f g:Nat}(hf:Ref ns f)(hg:Ref ns g)(he:∀a,eval ns a f=eval ns a g):f=g :=
 zFM w (f+g+1) f g (by omega) (by omega) hf hg he
theorem zN1(w:Wf n ns){f:Nat}(h:2<=f)(hf:Ref ns f):∃a,eval ns (upd a (tv n ns f) false) f≠eval ns (upd a (tv n ns f) true) f:=by
 rcases Classical.em (∃a,eval ns (upd a (tv n ns f) false) f≠eval ns (upd a (tv n ns f) true) f) with h1|h1
 ·exact h1
 exfalso;have JA:(at_ n ns f).low≠(at_ n ns f).high:=by rw[zC6 h hf];exact w.ne _ _
 refine JA (zTn w (w.ref_low hf) (w.ref_high hf) fun a=>?_);rw[<-zBE w h hf,<-zAk w h hf];rcases Classical.em (eval ns (upd a (tv n ns f) false) f=eval ns (upd a (tv n ns f) true) f) with h2|h2
 ·exact h2
 ·exact absurd ⟨a,h2⟩ h1
theorem zKx(w:Wf n ns){f v:Nat}(hf:Ref ns f)(hv:v<=n)(hd:∀a b:Nat->Bool,(∀i,v<=i->a i=b i)->eval ns a f=eval ns b f):v<=tv n ns f:=by
 rcases Nat.lt_or_ge f 2 with h|h
 ·rw[zHK h];exact hv
 rcases Nat.lt_or_ge (tv n ns f) v with h1|h1
 ·obtain⟨a,ha⟩:=zN1 w h hf;exact absurd (hd _ _ fun i hi=>by rw[zR (by omega),zR (by omega)]) ha
 ·exact h1
theorem zOf{ms:Ns}{f:Nat}(hf:Ref ns f):at_ n (ns++ms) f=at_ n ns f:=by
 rcases Nat.lt_or_ge f 2 with h|h
 ·rw[zJJ h,zJJ h]
 ·have JA:Ref (ns++ms) f:=by unfold Ref at *;simp;omega
  rw[zC6 h hf,zC6 h JA,List.getElem_append_left]
theorem zHL{ms:Ns}{f:Nat}(hf:Ref ns f):tv n (ns++ms) f=tv n ns f:=by rw[tv,tv,zOf hf]
theorem Ref.app{ms:Ns}{f:Nat}(hf:Ref ns f):Ref (ns++ms) f:=by unfold Ref at *;simp;omega
theorem zQI{ms:Ns}(w:Wf n ns)(w':Wf n (ns++ms))(a:Nat->Bool):∀{f:Nat},Ref ns f->eval (ns++ms) a f=eval ns a f:=by
 intro f
 induction f using Nat.strongRecOn with
 |ind f ih =>
  intro hf;rcases Nat.lt_or_ge f 2 with h|h
  ·have:f=0\/f=1:=by omega
   rcases this with rfl|rfl
   ·rw[zN,zN]
   ·rw[zg,zg]
  ·rw[zl w a h hf,zl w' a h hf.app,zOf hf,ih _ (w.lt_high h hf) (w.ref_high hf),ih _ (w.lt_low h hf) (w.ref_low hf)]
end
structure Ext(n:Nat)(ns ns':Ns):Prop where
 pre:∃ms,ns'=ns++ms
 wf:Wf n ns'
section
variable {n:Nat} {ns ns' ns2:Ns}
theorem Ext.refl(w:Wf n ns):Ext n ns ns:=⟨⟨[],by simp⟩,w⟩
theorem Ext.trans(h:Ext n ns ns')(k:Ext n ns' ns2):Ext n ns ns2:=by
 obtain⟨⟨ms,rfl⟩,_⟩:=h;obtain⟨⟨ms',rfl⟩,w⟩:=k;exact⟨⟨ms++ms',by simp⟩,w⟩
theorem Ext.ref(h:Ext n ns ns'){f:Nat}(hf:Ref ns f):Ref ns' f:=by
 obtain⟨⟨ms,rfl⟩,_⟩:=h;exact hf.app
theorem Ext.eval(h:Ext n ns ns')(w:Wf n ns)(a:Nat->Bool){f:Nat}(hf:Ref ns f):Bd.eval ns' a f=Bd.eval ns a f:=by
 obtain⟨⟨ms,rfl⟩,w'⟩:=h;exact zQI w w' a hf
theorem Ext.at(h:Ext n ns ns'){f:Nat}(hf:Ref ns f):at_ n ns' f=at_ n ns f:=by
 obtain⟨⟨ms,rfl⟩,_⟩:=h;exact zOf hf
theorem Ext.tv(h:Ext n ns ns'){f:Nat}(hf:Ref ns f):Bd.tv n ns' f=Bd.tv n ns f:=by
 obtain⟨⟨ms,rfl⟩,_⟩:=h;exact zHL hf
theorem Wf.snoc(w:Wf n ns){v l h:Nat}(hv:v<n)(JB:l≠h)(hl:Ref ns l)(hh:Ref ns h)(ol:v<Bd.tv n ns l)(oh:v<Bd.tv n ns h)(hx:(⟨v,l,h⟩:Nd)∉ns):Wf n (ns++[⟨v,l,h⟩]):=by
 have split:∀k (hk:k<(ns++[(⟨v,l,h⟩:Nd)]).length),(∃JA:k<ns.length,(ns++[(⟨v,l,h⟩:Nd)])[k]=ns[k])\/(k=ns.length/\(ns++[(⟨v,l,h⟩:Nd)])[k]=⟨v,l,h⟩):=by
  intro k hk;rcases Nat.lt_or_ge k ns.length with h1|h1
  ·exact .inl ⟨h1,by rw[List.getElem_append_left]⟩
  ·have:k=ns.length:=by simp at hk;omega
   subst this;exact .inr ⟨rfl,by simp⟩
 have rl:∀k (hk:k<ns.length),Ref ns ns[k].low:=fun k hk=>by have:=w.low k hk;unfold Ref;omega
 have rh:∀k (hk:k<ns.length),Ref ns ns[k].high:=fun k hk=>by have:=w.high k hk;unfold Ref;omega
 refine⟨?_,?_,?_,?_,?_,?_,?_⟩
 ·intro k hk;rcases split k hk with⟨JA,e⟩|⟨_,e⟩<;>rw[e]
  ·exact w.var k JA
  ·exact hv
 ·intro k hk;rcases split k hk with⟨JA,e⟩|⟨_,e⟩<;>rw[e]
  ·exact w.ne k JA
  ·exact JB
 ·intro k hk;rcases split k hk with⟨JA,e⟩|⟨rfl,e⟩<;>rw[e]
  ·exact w.low k JA
  ·exact hl
 ·intro k hk;rcases split k hk with⟨JA,e⟩|⟨rfl,e⟩<;>rw[e]
  ·exact w.high k JA
  ·exact hh
 ·intro k hk;rcases split k hk with⟨JA,e⟩|⟨_,e⟩<;>rw[e]
  ·rw[zHL (rl k JA)];exact w.ordl k JA
  ·rw[zHL hl];exact ol
 ·intro k hk;rcases split k hk with⟨JA,e⟩|⟨_,e⟩<;>rw[e]
  ·rw[zHL (rh k JA)];exact w.ordh k JA
  ·rw[zHL hh];exact oh
 ·rw[List.nodup_append];refine⟨w.nodup,by simp,fun a ha b hb=>?_⟩;simp at hb;subst hb;exact fun e=>hx (e ▸ ha)
end
end
def opB(op:Nat)(x y:Bool):Bool:=if op=0 then x&&y else if op=1 then x||y else x != y
theorem zJ4(op:Nat)(x y:Bool):opB op x y=opB op y x:=by
 unfold opB;split
 ·cases x<;>cases y<;>rfl
 ·split<;>cases x<;>cases y<;>rfl
def sh(op f g:Nat):Nat×Bool :=
 if op=0 then(if f=0\/g=0 then(0,true) else if f=1\/f=g then(g,true) else(f,decide (g=1)))
 else if op=1 then(if f=1\/g=1 then(1,true) else if f=0\/f=g then(g,true) else(f,decide (g=0)))
 else if f=g then(0,true) else if f=0 then(g,true) else(f,decide (g=0))
def lo(n:Nat)(ns:Ns)(v x:Nat):Nat:=if v<tv n ns x then x else(at_ n ns x).low
def hi(n:Nat)(ns:Ns)(v x:Nat):Nat:=if v<tv n ns x then x else(at_ n ns x).high
theorem Ref.zero(ns:Ns):Ref ns 0:=by unfold Ref;omega
theorem Ref.one(ns:Ns):Ref ns 1:=by unfold Ref;omega
section
variable {n:Nat} {ns:Ns}
theorem sh_ok{op f g r:Nat}(h:sh op f g=(r,true))(hf:Ref ns f)(hg:Ref ns g):Ref ns r/\∀a,eval ns a r=opB op (eval ns a f) (eval ns a g):=by
 unfold sh at h;unfold opB;split at h
 ·rename_i h0;simp only[h0,if_true];split at h
  ·rename_i h1;cases h;refine⟨Ref.zero ns,fun a=>?_⟩;rcases h1 with rfl|rfl<;>simp[zN]
  ·split at h
   ·rename_i h1;cases h;refine⟨hg,fun a=>?_⟩;rcases h1 with rfl|rfl<;>simp[zg]
   ·simp only[Prod.mk.injEq,decide_eq_true_eq] at h;obtain⟨rfl,rfl⟩:=h;exact⟨hf,fun a=>by simp[zg]⟩
 ·rename_i h0;simp only[h0,if_false];split at h
  ·rename_i h1;simp only[h1,if_true];split at h
   ·rename_i h1;cases h;refine⟨Ref.one ns,fun a=>?_⟩;rcases h1 with rfl|rfl<;>simp[zg]
   ·split at h
    ·rename_i h1;cases h;refine⟨hg,fun a=>?_⟩;rcases h1 with rfl|rfl<;>simp[zN]
    ·simp only[Prod.mk.injEq,decide_eq_true_eq] at h;obtain⟨rfl,rfl⟩:=h;exact⟨hf,fun a=>by simp[zN]⟩
  ·rename_i h1;simp only[h1,if_false];split at h
   ·rename_i h1;cases h;subst h1;exact⟨Ref.zero ns,fun a=>by simp[zN]⟩
   ·split at h
    ·rename_i h1;cases h;subst h1;exact⟨hg,fun a=>by simp[zN]⟩
    ·simp only[Prod.mk.injEq,decide_eq_true_eq] at h;obtain⟨rfl,rfl⟩:=h;exact⟨hf,fun a=>by simp[zN]⟩
theorem zSD{op f g r:Nat}(h:sh op f g=(r,false))(JA:f<=g):2<=g:=by
 unfold sh at h;split at h
 ·split at h
  ·cases h
  ·split at h
   ·cases h
   ·have:¬g=1:=by simpa using congrArg Prod.snd h
    omega
 ·split at h
  ·split at h
   ·cases h
   ·split at h
    ·cases h
    ·have:¬g=0:=by simpa using congrArg Prod.snd h
     omega
  ·split at h
   ·cases h
   ·split at h
    ·cases h
    ·have:¬g=0:=by simpa using congrArg Prod.snd h
     omega
theorem zH6(w:Wf n ns){f:Nat}(hf:Ref ns f)(h:n<=tv n ns f):f<2:=by
 rcases Nat.lt_or_ge f 2 with h1|h1
 ·exact h1
 ·have:=w.tv_var h1 hf;omega
structure Cof(n:Nat)(ns:Ns)(v x l h:Nat):Prop where
 rl:Ref ns l
 rh:Ref ns h
 tl:v<tv n ns l
 th:v<tv n ns h
 ev:∀a,eval ns a x=if a v then eval ns a h else eval ns a l
theorem zGI(w:Wf n ns){v x:Nat}(hx:Ref ns x)(hv:v<=tv n ns x)(hn:v<n):Cof n ns v x (lo n ns v x) (hi n ns v x):=by
 unfold lo hi;by_cases h:v<tv n ns x
 ·simp only[h,if_true];exact⟨hx,hx,h,h,fun a=>by split<;>rfl⟩
 ·simp only[h,if_false];have e:v=tv n ns x:=by omega
  have h2:2<=x:=by
   rcases Nat.lt_or_ge x 2 with h1|h1
   ·rw[zHK h1] at e;omega
   ·exact h1
  exact⟨w.ref_low hx,w.ref_high hx,by rw[e];exact w.tv_low h2 hx,by rw[e];exact w.tv_high h2 hx,fun a=>by rw[e];exact zl w a h2 hx⟩
end
def mkF(lim:Nat)(ns:Ns)(v l h:Nat):Option Nat×Ns :=
 if l=h then(some l,ns) else
 match ns.findIdx? fun d=>decide (d=⟨v,l,h⟩) with
 |some k=>(some (k+2),ns)
 |none=>if lim<=ns.length then(none,ns) else(some (ns.length+2),ns++[⟨v,l,h⟩])
structure MkOk(n cap:Nat)(ns:Ns)(v l h:Nat)(r:Option Nat)(ns':Ns):Prop where
 ext:Ext n ns ns'
 len:ns'.length<=ns.length+1
 lim:ns.length<=cap->ns'.length<=cap
 ok:∀x,r=some x->Ref ns' x/\v<=tv n ns' x/\∀a,eval ns' a x=if a v then eval ns' a h else eval ns' a l
 full:r=none->cap<=ns.length/\ns'=ns
theorem zGh{lim:Nat}{ns:Ns}{v l h x z:Nat}(hx:(mkF lim ns v l h).1=some x)(h1:ns.length+2<=z)(h2:z<(mkF lim ns v l h).2.length+2):z=x:=by
 unfold mkF at hx h2;by_cases JA:l=h
 ·simp only[JA,if_true] at h2;omega
 ·simp only[JA,if_false] at hx h2;cases hf:ns.findIdx? fun d=>decide (d=⟨v,l,h⟩) with
  |some k=>rw[hf] at h2;simp only at h2;omega
  |none =>
   rw[hf] at hx h2;simp only at hx h2;by_cases hc:lim<=ns.length
   ·rw[if_pos hc] at hx;cases hx
   ·rw[if_neg hc] at hx h2;simp at hx h2;omega
theorem zF6{n lim:Nat}{ns:Ns}(w:Wf n ns){v l h:Nat}(hv:v<n)(hl:Ref ns l)(hh:Ref ns h)(tl:v<tv n ns l)(th:v<tv n ns h):MkOk n lim ns v l h (mkF lim ns v l h).1 (mkF lim ns v l h).2:=by
 unfold mkF;by_cases JC:l=h
 ·simp only[JC,if_true];refine⟨Ext.refl w,by omega,fun h=>h,fun x hx=>?_,by simp⟩;simp only[Option.some.injEq] at hx;subst hx;exact⟨hh,by omega,fun a=>by split<;>rfl⟩
 ·simp only[JC,if_false];cases hf:ns.findIdx? fun d=>decide (d=⟨v,l,h⟩) with
  |some k =>
   rw[List.findIdx?_eq_some_iff_getElem] at hf;obtain⟨hk,he,_⟩:=hf;have he:ns[k]=⟨v,l,h⟩:=by simpa using he
   refine⟨Ext.refl w,by simp,fun h=>h,fun x hx=>?_,by simp⟩;simp only[Option.some.injEq] at hx;subst hx;have hr:Ref ns (k+2):=by unfold Ref;omega
   have JB:at_ n ns (k+2)=⟨v,l,h⟩:=by rw[zC6 (by omega) hr];simpa using he
   refine⟨hr,by rw[tv,JB];exact Nat.le_refl _,fun a=>?_⟩;rw[zl w a (by omega) hr,JB]
  |none =>
   rw[List.findIdx?_eq_none_iff] at hf;have hx:(⟨v,l,h⟩:Nd)∉ns:=fun hm=>by simpa using hf _ hm
   by_cases JA:lim<=ns.length
   ·simp only[JA,if_true];exact⟨Ext.refl w,by omega,fun h=>h,fun x hx=>by simp at hx,fun _=>⟨JA,rfl⟩⟩
   ·simp only[JA,if_false];have w':=w.snoc hv JC hl hh tl th hx;refine⟨⟨⟨_,rfl⟩,w'⟩,by simp,fun _=>by simp;omega,fun x hx=>?_,by simp⟩;simp only[Option.some.injEq] at hx;subst hx;have hr:Ref (ns++[(⟨v,l,h⟩:Nd)]) (ns.length+2):=by unfold Ref;simp
    have JB:at_ n (ns++[(⟨v,l,h⟩:Nd)]) (ns.length+2)=⟨v,l,h⟩:=by rw[zC6 (by omega) hr];simp
    refine⟨hr,by rw[tv,JB];exact Nat.le_refl _,fun a=>?_⟩;rw[zl w' a (by omega) hr,JB]
theorem zAG{α:Type}[DecidableEq α]:∀(xs ys:List α),xs.Nodup->(∀x∈xs,x∈ys)->xs.length<=ys.length
 |[],ys,_,_=>by simp
 |x::xs,ys,hn,hs=>by rw[List.nodup_cons] at hn;have hx:x∈ys:=hs x (by simp);have:=zAG xs (ys.erase x) hn.2 (fun y hy=>by have JA:y≠x:=fun e=>hn.1 (e ▸ hy);exact(List.mem_erase_of_ne JA).2 (hs y (by simp[hy])));rw[List.length_erase_of_mem hx] at this;have:0<ys.length:=List.length_pos_of_mem hx;simp;omega
abbrev zIQ:=List ((Nat×Nat)×Nat)
def zHA(op:Nat)(ns:Ns)(M:zIQ):Prop:=∀q∈M,Ref ns q.1.1/\Ref ns q.1.2/\Ref ns q.2/\∀a,eval ns a q.2=opB op (eval ns a q.1.1) (eval ns a q.1.2)
theorem zHA.ext{n op:Nat}{ns ns':Ns}{M:zIQ}(h:zHA op ns M)(w:Wf n ns)(hx:Ext n ns ns'):zHA op ns' M:=fun q hq=>by
 obtain⟨h1,h2,h3,h4⟩:=h q hq;exact⟨hx.ref h1,hx.ref h2,hx.ref h3,fun a=>by rw[hx.eval w a h1,hx.eval w a h2,hx.eval w a h3,h4]⟩
theorem zNA{ns:Ns}{M:zIQ}{N:Nat}(hN:ns.length+2<=N)(hr:∀q∈M,Ref ns q.1.1/\Ref ns q.1.2)(hn:(M.map (·.1)).Nodup):M.length<=N*N:=by
 have h1:((M.map (·.1)).map fun p=>p.1*N+p.2).Nodup:=by
  rw[List.nodup_iff_pairwise_ne,List.pairwise_map];refine List.Pairwise.imp_of_mem ?_ (List.nodup_iff_pairwise_ne.1 hn);intro a b ha hb JB he;obtain⟨q,hq,rfl⟩:=List.mem_map.1 ha;obtain⟨q',JA,rfl⟩:=List.mem_map.1 hb;obtain⟨r1,r2⟩:=hr q hq;obtain⟨r3,r4⟩:=hr q' JA;unfold Ref at *
  apply JB;have e2:q.1.2=q'.1.2:=by have:=congrArg (·%N) he;simp only[Nat.mul_add_mod_self_right] at this;rwa[Nat.mod_eq_of_lt (by omega),Nat.mod_eq_of_lt (by omega)] at this
  have e1:q.1.1=q'.1.1:=by rw[e2] at he;have h3:q.1.1*N=q'.1.1*N:=Nat.add_right_cancel he;exact Nat.eq_of_mul_eq_mul_right (by omega) h3
  exact Prod.ext e1 e2
 have h2:=zAG _ (List.range (N*N)) h1 (fun x hx=>by
  obtain⟨p,hp,rfl⟩:=List.mem_map.1 hx;obtain⟨q,hq,rfl⟩:=List.mem_map.1 hp;obtain⟨r1,r2⟩:=hr q hq;unfold Ref at *
  rw[List.mem_range]
  calc q.1.1*N+q.1.2<q.1.1*N+N:=by omega
   _=(q.1.1+1)*N:=by rw[Nat.add_mul];omega
   _<=N*N:=Nat.mul_le_mul_right _ (by omega))
 simpa using h2
def Sn(op:Nat)(S:Nat->Nat->Prop)(x y:Nat):Prop:=(sh op (min x y) (max x y)).2=true\/S (min x y) (max x y)
def Clo(n op:Nat)(ns:Ns)(S:Nat->Nat->Prop):Prop:=∀f g,S f g->Ref ns f/\Ref ns g /\
 Sn op S (lo n ns (min (tv n ns f) (tv n ns g)) f) (lo n ns (min (tv n ns f) (tv n ns g)) g)/\Sn op S (hi n ns (min (tv n ns f) (tv n ns g)) f) (hi n ns (min (tv n ns f) (tv n ns g)) g)
theorem zRA{n:Nat}{ns ns':Ns}(hx:Ext n ns ns'){v x:Nat}(h:Ref ns x):lo n ns' v x=lo n ns v x:=by unfold lo;rw[hx.tv h,hx.at h]
theorem zD1{n:Nat}{ns ns':Ns}(hx:Ext n ns ns'){v x:Nat}(h:Ref ns x):hi n ns' v x=hi n ns v x:=by unfold hi;rw[hx.tv h,hx.at h]
theorem Clo.ext{n op:Nat}{ns ns':Ns}{S:Nat->Nat->Prop}(h:Clo n op ns S)(hx:Ext n ns ns'):Clo n op ns' S:=fun f g hS=>by
 obtain⟨h1,h2,h3,h4⟩:=h f g hS;rw[hx.tv h1,hx.tv h2,zRA hx h1,zRA hx h2,zD1 hx h1,zD1 hx h2];exact⟨hx.ref h1,hx.ref h2,h3,h4⟩
structure zFg(n cap op:Nat)(S:Nat->Nat->Prop)(ns:Ns)(M:zIQ)(f g:Nat)(r:Option Nat)(ns':Ns)(M':zIQ):Prop where
 ext:Ext n ns ns'
 lim:ns'.length<=cap
 mem:zHA op ns' M'
 ok:∀x,r=some x->Ref ns' x/\∀a,eval ns' a x=opB op (eval ns a f) (eval ns a g)
 grow:ns'.length+M.length<=ns.length+M'.length
 sub:∀q∈M',(∃q'∈M,q'.1=q.1)\/(S q.1.1 q.1.2/\min (tv n ns f) (tv n ns g)<=min (tv n ns' q.1.1) (tv n ns' q.1.2))
 full:r=none->cap<=ns'.length/\∃x y,S x y/\∀q∈M',q.1≠(x,y)
 mono:∀q∈M,q∈M'
 fr:∀z,ns.length+2<=z->z<ns'.length+2->∃q∈M',q.2=z/\S q.1.1 q.1.2
theorem zFg.swap{n cap op:Nat}{S:Nat->Nat->Prop}{ns ns':Ns}{M M':zIQ}{f g:Nat}{r:Option Nat}(h:zFg n cap op S ns M f g r ns' M'):zFg n cap op S ns M g f r ns' M' :=
 ⟨h.ext,h.lim,h.mem,fun x hx=>⟨(h.ok x hx).1,fun a=>by rw[(h.ok x hx).2 a,zJ4]⟩,h.grow,fun q hq=>by
  rcases h.sub q hq with h1|⟨h1,h2⟩
  ·exact .inl h1
  ·exact .inr ⟨h1,by omega⟩,h.full,h.mono,h.fr⟩
end Go.Bd
section
namespace Go.Bd
section
variable {n cap op:Nat} {S:Nat->Nat->Prop} {ns ns1 ns2:Ns} {M M1 M2:zIQ} {p q:Nat}
structure zFb(n op:Nat)(S:Nat->Nat->Prop)(ns:Ns)(M:zIQ)(p q v:Nat):Prop where
 w:Wf n ns
 rp:Ref ns p
 rq:Ref ns q
 ev:v=min (tv n ns p) (tv n ns q)
 vn:v<n
 s:S p q
 nokey:∀x∈M,x.1≠(p,q)
 cp:Cof n ns v p (lo n ns v p) (hi n ns v p)
 cq:Cof n ns v q (lo n ns v q) (hi n ns v q)
theorem zFb.mk'(w:Wf n ns)(rp:Ref ns p)(rq:Ref ns q)(s:S p q)(JA:p<=q)(hs:(sh op p q).2=false)(nokey:∀x∈M,x.1≠(p,q)):zFb n op S ns M p q (min (tv n ns p) (tv n ns q)):=by
 have h2:2<=q:=zSD (r:=(sh op p q).1) (by rw[<-hs]) JA;have hv:min (tv n ns p) (tv n ns q)<n:=by have:=w.tv_var h2 rq;omega
 exact⟨w,rp,rq,rfl,hv,s,nokey,zGI w rp (by omega) hv,zGI w rq (by omega) hv⟩
theorem zWi{v:Nat}(h:zFb n op S ns M p q v)(hl:zFg n cap op S ns M (lo n ns v p) (lo n ns v q) none ns1 M1):zFg n cap op S ns M p q none ns1 M1:=by
 refine⟨hl.ext,hl.lim,hl.mem,fun x hx=>(by cases hx),hl.grow,fun x hx=>?_,fun _=>hl.full rfl,hl.mono,hl.fr⟩;rcases hl.sub x hx with h1|⟨h1,h2⟩
 ·exact .inl h1
 ·have:=h.cp.tl;have:=h.cq.tl;exact .inr ⟨h1,by rw[<-h.ev];omega⟩
structure zWt(n cap op:Nat)(S:Nat->Nat->Prop)(ns:Ns)(M:zIQ)(v:Nat)(ns2:Ns)(M2:zIQ):Prop where
 ext:Ext n ns ns2
 lim:ns2.length<=cap
 mem:zHA op ns2 M2
 grow:ns2.length+M.length<=ns.length+M2.length
 sub:∀q∈M2,(∃q'∈M,q'.1=q.1)\/(S q.1.1 q.1.2/\v+1<=min (tv n ns2 q.1.1) (tv n ns2 q.1.2))
 mono:∀q∈M,q∈M2
 fr:∀z,ns.length+2<=z->z<ns2.length+2->∃q∈M2,q.2=z/\S q.1.1 q.1.2
theorem zKh{v:Nat}{l:Nat}{r:Option Nat}(h:zFb n op S ns M p q v)(hl:zFg n cap op S ns M (lo n ns v p) (lo n ns v q) (some l) ns1 M1)(hh:zFg n cap op S ns1 M1 (hi n ns1 v p) (hi n ns1 v q) r ns2 M2):zWt n cap op S ns M v ns2 M2:=by
 refine⟨hl.ext.trans hh.ext,hh.lim,hh.mem,?_,fun x hx=>?_,fun q hq=>hh.mono q (hl.mono q hq),fun z h1 h2=>?_⟩
 rotate_left 2
 ·by_cases hz:z<ns1.length+2
  ·obtain⟨q,hq,e⟩:=hl.fr z h1 hz;exact⟨q,hh.mono q hq,e⟩
  ·exact hh.fr z (by omega) h2
 ·have:=hl.grow;have:=hh.grow;omega
 ·rcases hh.sub x hx with⟨y,hy,e⟩|⟨h1,h2⟩
  ·rcases hl.sub y hy with⟨z,hz,e2⟩|⟨h3,h4⟩
   ·exact .inl ⟨z,hz,e2.trans e⟩
   ·have:=h.cp.tl;have:=h.cq.tl;obtain⟨r1,r2,_⟩:=hl.mem y hy;refine .inr ⟨by rw[<-e];exact h3,?_⟩;rw[<-e,hh.ext.tv r1,hh.ext.tv r2];omega
  ·rw[zD1 hl.ext h.rp,zD1 hl.ext h.rq,hl.ext.tv h.cp.rh,hl.ext.tv h.cq.rh] at h2;have:=h.cp.th;have:=h.cq.th;exact .inr ⟨h1,by omega⟩
theorem zTv{v:Nat}{l:Nat}(h:zFb n op S ns M p q v)(hl:zFg n cap op S ns M (lo n ns v p) (lo n ns v q) (some l) ns1 M1)(hh:zFg n cap op S ns1 M1 (hi n ns1 v p) (hi n ns1 v q) none ns2 M2):zFg n cap op S ns M p q none ns2 M2:=by
 obtain⟨m1,m2,m3,m4,m5,m6,m7⟩:=zKh h hl hh;refine⟨m1,m2,m3,fun x hx=>(by cases hx),m4,fun x hx=>?_,fun _=>hh.full rfl,m6,m7⟩;rcases m5 x hx with h1|⟨h1,h2⟩
 ·exact .inl h1
 ·exact .inr ⟨h1,by rw[<-h.ev];omega⟩
theorem zHm{v:Nat}(h:zFb n op S ns M p q v)(hm:zWt n cap op S ns M v ns2 M2):∀x∈M2,x.1≠(p,q):=fun x hx e=>by
 rcases hm.sub x hx with⟨y,hy,e2⟩|⟨_,h2⟩
 ·exact h.nokey y hy (e2.trans e)
 ·have e1:x.1.1=p:=by rw[e]
  have e2:x.1.2=q:=by rw[e]
  rw[e1,e2,hm.ext.tv h.rp,hm.ext.tv h.rq,<-h.ev] at h2;omega
theorem zJL{v l JA:Nat}(h:zFb n op S ns M p q v)(hl:zFg n cap op S ns M (lo n ns v p) (lo n ns v q) (some l) ns1 M1)(hh:zFg n cap op S ns1 M1 (hi n ns1 v p) (hi n ns1 v q) (some JA) ns2 M2) :
  Ref ns2 l/\Ref ns2 JA/\v<tv n ns2 l/\v<tv n ns2 JA/\∀a,(if a v then eval ns2 a JA else eval ns2 a l)=opB op (eval ns2 a p) (eval ns2 a q):=by
 obtain⟨rl,el⟩:=hl.ok l rfl;obtain⟨rh,eh⟩:=hh.ok JA rfl;have w1:=hl.ext.wf;have w2:=hh.ext.wf;have el2:∀a,eval ns2 a l=opB op (eval ns a (lo n ns v p)) (eval ns a (lo n ns v q)):=fun a=>by rw[hh.ext.eval w1 a rl,el]
 have eh2:∀a,eval ns2 a JA=opB op (eval ns a (hi n ns v p)) (eval ns a (hi n ns v q)):=fun a=>by rw[eh,zD1 hl.ext h.rp,zD1 hl.ext h.rq,hl.ext.eval h.w a h.cp.rh,hl.ext.eval h.w a h.cq.rh]
 have rl2:=hh.ext.ref rl;refine⟨rl2,rh,?_,?_,fun a=>?_⟩
 ·have:=h.cp.tl;have:=h.cq.tl;have:=h.vn;exact zKx w2 rl2 (by omega) fun a b JB=>by rw[el2,el2,zAK h.w h.cp.rl (fun i hi=>JB i (by omega)),zAK h.w h.cq.rl (fun i hi=>JB i (by omega))]
 ·have:=h.cp.th;have:=h.cq.th;have:=h.vn;exact zKx w2 rh (by omega) fun a b JB=>by rw[eh2,eh2,zAK h.w h.cp.rh (fun i hi=>JB i (by omega)),zAK h.w h.cq.rh (fun i hi=>JB i (by omega))]
 ·have e:=hl.ext.trans hh.ext;rw[e.eval h.w a h.rp,e.eval h.w a h.rq,el2,eh2,h.cp.ev a,h.cq.ev a];split<;>rfl
theorem zTw{v l JA:Nat}(h:zFb n op S ns M p q v)(hl:zFg n cap op S ns M (lo n ns v p) (lo n ns v q) (some l) ns1 M1)(hh:zFg n cap op S ns1 M1 (hi n ns1 v p) (hi n ns1 v q) (some JA) ns2 M2)
  (hk:(mkF cap ns2 v l JA).1=none):zFg n cap op S ns M p q none (mkF cap ns2 v l JA).2 M2:=by
 have hm:=zKh h hl hh;obtain⟨a1,a2,a3,a4,a5⟩:=zJL h hl hh;have mk:=zF6 (lim:=cap) hm.ext.wf h.vn a1 a2 a3 a4;obtain⟨f1,f2⟩:=mk.full hk;rw[f2];refine⟨hm.ext,hm.lim,hm.mem,fun x hx=>(by cases hx),hm.grow,fun x hx=>?_,fun _=>⟨f1,p,q,h.s,zHm h hm⟩,hm.mono,hm.fr⟩;rcases hm.sub x hx with h1|⟨h1,h2⟩
 ·exact .inl h1
 ·exact .inr ⟨h1,by rw[<-h.ev];omega⟩
theorem zTx{v l JA x:Nat}(h:zFb n op S ns M p q v)(hl:zFg n cap op S ns M (lo n ns v p) (lo n ns v q) (some l) ns1 M1)(hh:zFg n cap op S ns1 M1 (hi n ns1 v p) (hi n ns1 v q) (some JA) ns2 M2)
  (hk:(mkF cap ns2 v l JA).1=some x):zFg n cap op S ns M p q (some x) (mkF cap ns2 v l JA).2 (M2++[((p,q),x)]):=by
 have hm:=zKh h hl hh;obtain⟨a1,a2,a3,a4,a5⟩:=zJL h hl hh;have mk:=zF6 (lim:=cap) hm.ext.wf h.vn a1 a2 a3 a4;obtain⟨rx,tx,ex⟩:=mk.ok x hk;have w2:=hm.ext.wf;have e3:=hm.ext.trans mk.ext;have hx:∀a,eval (mkF cap ns2 v l JA).2 a x=opB op (eval (mkF cap ns2 v l JA).2 a p) (eval (mkF cap ns2 v l JA).2 a q):=fun a=>by rw[ex a,mk.ext.eval w2 a a2,mk.ext.eval w2 a a1,a5 a,mk.ext.eval w2 a (hm.ext.ref h.rp),mk.ext.eval w2 a (hm.ext.ref h.rq)]
 refine⟨e3,mk.lim hm.lim,fun y hy=>?_,fun y hy=>?_,?_,fun y hy=>?_,(fun hn=>by cases hn),fun y hy=>List.mem_append_left _ (hm.mono y hy),fun z h1 h2=>?_⟩
 rotate_left 4
 ·by_cases hz:z<ns2.length+2
  ·obtain⟨y,hy,e⟩:=hm.fr z h1 hz;exact⟨y,List.mem_append_left _ hy,e⟩
  ·exact⟨((p,q),x),by simp,(zGh hk (by omega) h2).symm,h.s⟩
 ·rcases List.mem_append.1 hy with h1|h1
  ·exact(hm.mem.ext w2 mk.ext) y h1
  ·simp at h1;subst h1;exact⟨e3.ref h.rp,e3.ref h.rq,rx,hx⟩
 ·simp only[Option.some.injEq] at hy;subst hy;exact⟨rx,fun a=>by rw[hx a,e3.eval h.w a h.rp,e3.eval h.w a h.rq]⟩
 ·have:=hm.grow;have:=mk.len;simp;omega
 ·rcases List.mem_append.1 hy with h1|h1
  ·rcases hm.sub y h1 with h2|⟨h2,h3⟩
   ·exact .inl h2
   ·obtain⟨r1,r2,_⟩:=hm.mem y h1;exact .inr ⟨h2,by rw[mk.ext.tv r1,mk.ext.tv r2,<-h.ev];omega⟩
  ·simp at h1;subst h1;exact .inr ⟨h.s,by rw[e3.tv h.rp,e3.tv h.rq];exact Nat.le_refl _⟩
theorem zQe{r:Nat}(w:Wf n ns)(JA:ns.length<=cap)(rp:Ref ns p)(rq:Ref ns q)(hM:zHA op ns M)(hs:sh op p q=(r,true)):zFg n cap op S ns M p q (some r) ns M:=by
 obtain⟨h1,h2⟩:=sh_ok hs rp rq;exact⟨Ext.refl w,JA,hM,fun x hx=>by simp only[Option.some.injEq] at hx;subst hx;exact⟨h1,h2⟩,Nat.le_refl _,fun x hx=>.inl ⟨x,hx,rfl⟩,fun h=>(by cases h),fun _ h=>h,fun z h1 h2=>by omega⟩
theorem zQf{r:Nat}(w:Wf n ns)(JA:ns.length<=cap)(hM:zHA op ns M)(hk:((p,q),r)∈M):zFg n cap op S ns M p q (some r) ns M:=by
 obtain⟨_,_,h1,h2⟩:=hM _ hk;exact⟨Ext.refl w,JA,hM,fun x hx=>by simp only[Option.some.injEq] at hx;subst hx;exact⟨h1,h2⟩,Nat.le_refl _,fun x hx=>.inl ⟨x,hx,rfl⟩,fun h=>(by cases h),fun _ h=>h,fun z h1 h2=>by omega⟩
end
end Go.Bd
namespace Go.Bd
structure zJS(n cap op:Nat)(S:Nat->Nat->Prop)(ns:Ns)(f g:Nat)(r:Option Nat)(ns':Ns):Prop where
 ext:Ext n ns ns'
 lim:ns'.length<=cap
 ok:∀x,r=some x->Ref ns' x/\∀a,eval ns' a x=opB op (eval ns a f) (eval ns a g)
 cnt:∀L:List (Nat×Nat),(∀x y,S x y->(x,y)∈L)->ns'.length<=ns.length+L.length/\(r=none->cap<ns.length+L.length)
 fr:∀z,ns.length+2<=z->z<ns'.length+2->∃x y,S x y/\Ref ns' x/\Ref ns' y/\∀a,eval ns' a z=opB op (eval ns' a x) (eval ns' a y)
 hit:r=none->cap<=ns'.length
theorem zIG{n cap op:Nat}{S:Nat->Nat->Prop}{ns ns':Ns}{M':zIQ}{f g:Nat}{r:Option Nat}(h:zFg n cap op S ns [] f g r ns' M')(hn:(M'.map (·.1)).Nodup):zJS n cap op S ns f g r ns':=by
 refine⟨h.ext,h.lim,h.ok,fun L hL=>?_,fun z h1 h2=>?_,fun hr=>(h.full hr).1⟩
 rotate_left
 ·obtain⟨q,hq,rfl,hS⟩:=h.fr z h1 h2;obtain⟨a1,a2,_,a3⟩:=h.mem q hq;exact⟨q.1.1,q.1.2,hS,a1,a2,a3⟩
 have JA:∀x∈M'.map (·.1),x∈L:=fun x hx=>by
  obtain⟨q,hq,rfl⟩:=List.mem_map.1 hx;rcases h.sub q hq with⟨q',JD,_⟩|⟨h1,_⟩
  ·cases JD
  ·exact hL _ _ h1
 have hg:=h.grow;simp at hg;have JC:=zAG _ L hn JA;simp at JC;refine⟨by omega,fun hr=>?_⟩;obtain⟨h1,x,y,h2,h3⟩:=h.full hr;have JB:((x,y)::M'.map (·.1)).Nodup:=by rw[List.nodup_cons];refine⟨fun hm=>?_,hn⟩;obtain⟨q,hq,e⟩:=List.mem_map.1 hm;exact h3 q hq e
 have:=zAG _ L JB (fun z hz=>by
  rcases List.mem_cons.1 hz with rfl|hz
  ·exact hL _ _ h2
  ·exact JA z hz)
 simp at this;omega
end Go.Bd
namespace Go.Bd
def pfx(a:Nat->Bool)(k:Nat)(b:Nat->Bool):Nat->Bool:=fun i=>if i<k then a i else b i
theorem zCW(a b:Nat->Bool):pfx a 0 b=b:=by funext i;simp[pfx]
def IsC(G H:(Nat->Bool)->Bool):Prop:=∃k a,∀b,H b=G (pfx a k b)
theorem IsC.refl(G:(Nat->Bool)->Bool):IsC G G:=⟨0,fun _=>false,fun b=>by rw[zCW]⟩
theorem IsC.trans{F G H:(Nat->Bool)->Bool}(h1:IsC F G)(h2:IsC G H):IsC F H:=by
 obtain⟨k1,a1,e1⟩:=h1;obtain⟨k2,a2,e2⟩:=h2;refine⟨max k1 k2,fun i=>if i<k1 then a1 i else a2 i,fun b=>?_⟩;rw[e2,e1];congr 1;funext i;simp only[pfx];by_cases h1:i<k1
 ·rw[if_pos h1,if_pos (by omega),if_pos h1]
 ·rw[if_neg h1];by_cases h2:i<k2
  ·rw[if_pos h2,if_pos (by omega),if_neg h1]
  ·rw[if_neg h2,if_neg (by omega)]
theorem IsC.congr{G G' H H':(Nat->Bool)->Bool}(h:IsC G H)(e:∀b,G b=G' b)(e':∀b,H b=H' b):IsC G' H':=by
 obtain⟨k,a,h⟩:=h;exact⟨k,a,fun b=>by rw[<-e',h,e]⟩
section
variable {n:Nat} {ns:Ns}
theorem zDq(w:Wf n ns){G:(Nat->Bool)->Bool}{x y v k:Nat}{a:Nat->Bool}{t:Bool}(hx:Ref ns x)(hy:Ref ns y)(JC:k<=v)(JB:v<=tv n ns x)(JA:v+1<=tv n ns y)(hG:∀b,eval ns b x=G (pfx a k b))(he:∀b,eval ns (upd b v t) x=eval ns (upd b v t) y) :
  ∀b,eval ns b y=G (pfx (fun i=>if i<k then a i else(t&&decide (i=v))) (v+1) b):=fun b=>by
 have e1:eval ns b y=eval ns (upd b v t) y:=zAK w hy fun i hi=>(zR (by omega)).symm;have e2:eval ns (upd b v t) x=eval ns (fun i=>if i<v+1 then(t&&decide (i=v)) else b i) x:=zAK w hx fun i hi=>by
  show upd b v t i=if i<v+1 then(t&&decide (i=v)) else b i;by_cases h:i=v
  ·subst h;rw[zs,if_pos (by omega)];simp
  ·rw[zR h,if_neg (by omega)]
 rw[e1,<-he,e2,hG];congr 1;funext i;simp only[pfx];by_cases h:i<k
 ·rw[if_pos h,if_pos (by omega),if_pos h]
 ·rw[if_neg h];by_cases h2:i<v+1
  ·rw[if_pos h2,if_pos h2,if_neg h]
  ·rw[if_neg h2,if_neg h2]
def PS(n:Nat)(ns:Ns)(f g x y:Nat):Prop:=Ref ns x/\Ref ns y/\∃k a,k<=tv n ns x/\k<=tv n ns y /\
 (((∀b,eval ns b x=eval ns (pfx a k b) f)/\∀b,eval ns b y=eval ns (pfx a k b) g)\/((∀b,eval ns b x=eval ns (pfx a k b) g)/\∀b,eval ns b y=eval ns (pfx a k b) f))
theorem PS.swap{f g x y:Nat}(h:PS n ns f g x y):PS n ns f g y x:=by
 obtain⟨h1,h2,k,a,h3,h4,h5⟩:=h;exact⟨h2,h1,k,a,h4,h3,h5.elim (fun h=>.inr ⟨h.2,h.1⟩) fun h=>.inl ⟨h.2,h.1⟩⟩
theorem PS.mm{f g x y:Nat}(h:PS n ns f g x y):PS n ns f g (min x y) (max x y):=by
 rcases Nat.le_total x y with h1|h1
 ·rw[Nat.min_eq_left h1,Nat.max_eq_right h1];exact h
 ·rw[Nat.min_eq_right h1,Nat.max_eq_left h1];exact h.swap
theorem zDG(w:Wf n ns)(op:Nat){f g:Nat}(hf:Ref ns f)(hg:Ref ns g):Sn op (PS n ns f g) f g/\Clo n op ns (PS n ns f g):=by
 refine⟨.inr (PS.mm ⟨hf,hg,0,fun _=>false,Nat.zero_le _,Nat.zero_le _,.inl ⟨fun b=>by rw[zCW],fun b=>by rw[zCW]⟩⟩),fun x y h=>?_⟩;obtain⟨rx,ry,k,a,kx,ky,JD⟩:=h;obtain⟨v,hv⟩:∃v,v=min (tv n ns x) (tv n ns y):=⟨_,rfl⟩;rw[<-hv];have JB:v<=tv n ns x:=by omega
 have JA:v<=tv n ns y:=by omega
 refine⟨rx,ry,?_⟩;by_cases JF:v<n
 ·have cx:=zGI w rx JB JF;have cy:=zGI w ry JA JF;have key:∀{t:Bool} {p q:Nat},Ref ns p->Ref ns q->v+1<=tv n ns p->v+1<=tv n ns q->(∀b,eval ns (upd b v t) x=eval ns (upd b v t) p)->(∀b,eval ns (upd b v t) y=eval ns (upd b v t) q)->Sn op (PS n ns f g) p q:=fun {t p q} rp rq tp tq ep eq=>by
   refine .inr (PS.mm ⟨rp,rq,v+1,(fun i=>if i<k then a i else(t&&decide (i=v))),tp,tq,?_⟩);rcases JD with⟨h1,h2⟩|⟨h1,h2⟩
   ·exact .inl ⟨zDq w (G:=fun c=>eval ns c f) rx rp (by omega) JB tp h1 ep,zDq w (G:=fun c=>eval ns c g) ry rq (by omega) JA tq h2 eq⟩
   ·exact .inr ⟨zDq w (G:=fun c=>eval ns c g) rx rp (by omega) JB tp h1 ep,zDq w (G:=fun c=>eval ns c f) ry rq (by omega) JA tq h2 eq⟩
  refine⟨key (t:=false) cx.rl cy.rl (by have:=cx.tl;omega) (by have:=cy.tl;omega) (fun b=>?_) (fun b=>?_),key (t:=true) cx.rh cy.rh (by have:=cx.th;omega) (by have:=cy.th;omega) (fun b=>?_) (fun b=>?_)⟩
  ·rw[cx.ev,zs];simp
  ·rw[cy.ev,zs];simp
  ·rw[cx.ev,zs];simp
  ·rw[cy.ev,zs];simp
 ·have JE:x<2:=by apply Decidable.byContradiction;intro h;have:=w.tv_var (show 2<=x by omega) rx;omega
  have JC:y<2:=by apply Decidable.byContradiction;intro h;have:=w.tv_var (show 2<=y by omega) ry;omega
  have hS:PS n ns f g x y:=⟨rx,ry,k,a,kx,ky,JD⟩;have elx:∀z,z<2->lo n ns v z=z/\hi n ns v z=z:=fun z hz=>by unfold lo hi;rw[zJJ hz];constructor<;>split<;>rfl
  rw[(elx x JE).1,(elx y JC).1,(elx x JE).2,(elx y JC).2];exact⟨.inr hS.mm,.inr hS.mm⟩
theorem Clo.and{op:Nat}{S T:Nat->Nat->Prop}(h1:Clo n op ns S)(h2:Clo n op ns T):Clo n op ns fun x y=>S x y/\T x y:=fun x y h=>by
 obtain⟨a1,a2,a3,a4⟩:=h1 x y h.1;obtain⟨_,_,b3,b4⟩:=h2 x y h.2;have key:∀{p q:Nat},Sn op S p q->Sn op T p q->Sn op (fun x y=>S x y/\T x y) p q:=fun h k=>by
  rcases h with h|h
  ·exact .inl h
  ·rcases k with k|k
   ·exact .inl k
   ·exact .inr ⟨h,k⟩
 exact⟨a1,a2,key a3 b3,key a4 b4⟩
theorem Sn.and{op:Nat}{S T:Nat->Nat->Prop}{p q:Nat}(h:Sn op S p q)(k:Sn op T p q):Sn op (fun x y=>S x y/\T x y) p q:=by
 rcases h with h|h
 ·exact .inl h
 ·rcases k with k|k
  ·exact .inl k
  ·exact .inr ⟨h,k⟩
theorem zJS.new{cap op:Nat}{S:Nat->Nat->Prop}{f g:Nat}{r:Option Nat}{ns':Ns}(h:zJS n cap op S ns f g r ns')(w:Wf n ns)(hS:∀x y,S x y->PS n ns f g x y) :
  ∀z,ns.length+2<=z->z<ns'.length+2->IsC (fun c=>opB op (eval ns c f) (eval ns c g)) fun b=>eval ns' b z:=fun z h1 h2=>by
 obtain⟨x,y,hs,_,_,e⟩:=h.fr z h1 h2;obtain⟨rx,ry,k,a,_,_,JA⟩:=hS x y hs;refine⟨k,a,fun b=>?_⟩;show eval ns' b z=opB op (eval ns (pfx a k b) f) (eval ns (pfx a k b) g);rw[e,h.ext.eval w b rx,h.ext.eval w b ry];rcases JA with⟨e1,e2⟩|⟨e1,e2⟩
 ·rw[e1,e2]
 ·rw[e1,e2,zJ4]
theorem zGo(w:Wf n ns){f:Nat}(hf:Ref ns f)(h2:2<=f):IsC (fun c=>eval ns c f) fun c=>eval ns c (at_ n ns f).low :=
 ⟨_,_,zDq w (G:=fun c=>eval ns c f) (k:=0) (a:=fun _=>false) (t:=false) hf (w.ref_low hf) (Nat.zero_le _) (Nat.le_refl _) (w.tv_low h2 hf) (fun b=>by rw[zCW]) fun b=>by rw[zBE w h2 hf];exact(zA0 w (w.ref_low hf) (w.tv_low h2 hf)).symm⟩
theorem zKF(w:Wf n ns){f:Nat}(hf:Ref ns f)(h2:2<=f):IsC (fun c=>eval ns c f) fun c=>eval ns c (at_ n ns f).high :=
 ⟨_,_,zDq w (G:=fun c=>eval ns c f) (k:=0) (a:=fun _=>false) (t:=true) hf (w.ref_high hf) (Nat.zero_le _) (Nat.le_refl _) (w.tv_high h2 hf) (fun b=>by rw[zCW]) fun b=>by rw[zAk w h2 hf];exact(zA0 w (w.ref_high hf) (w.tv_high h2 hf)).symm⟩
end
end Go.Bd
end
namespace Go.Bd
section
def Off(inn:Nat->Bool)(a c:Nat->Bool):Prop:=∀i,inn i=false->c i=a i
def qS(op:Nat)(inn:Nat->Bool)(F:(Nat->Bool)->Bool)(a:Nat->Bool):Prop :=
 if op=1 then ∃c,Off inn a c/\F c=true else ∀c,Off inn a c->F c=true
theorem zEF{op:Nat}{inn:Nat->Bool}{F:(Nat->Bool)->Bool}{k:Nat}(hF:∀a b:Nat->Bool,(∀i,k<=i->a i=b i)->F a=F b){a b:Nat->Bool}(JA:∀i,k<=i->a i=b i)(h:qS op inn F a):qS op inn F b:=by
 have mv:∀{a b:Nat->Bool},(∀i,k<=i->a i=b i)->∀c,Off inn a c->∃c',Off inn b c'/\F c'=F c:=by
  intro a b JA c hc;refine⟨fun i=>if k<=i then c i else b i,fun i hi=>?_,hF _ _ fun i hi=>by simp[hi]⟩;by_cases hk:k<=i
  ·simp only[hk,if_true];rw[hc i hi,JA i hk]
  ·simp only[hk,if_false]
 unfold qS at *
 split
 ·rename_i h1;rw[if_pos h1] at h;obtain⟨c,hc,JB⟩:=h;obtain⟨c',h2,h3⟩:=mv JA c hc;exact⟨c',h2,by rw[h3];exact JB⟩
 ·rename_i h1;rw[if_neg h1] at h;intro c hc;obtain⟨c',h2,h3⟩:=mv (fun i hi=>(JA i hi).symm) c hc;rw[<-h3];exact h c' h2
theorem zJv{op:Nat}{inn:Nat->Bool}{b:Bool}{F:(Nat->Bool)->Bool}(hF:∀a,F a=b)(a:Nat->Bool):qS op inn F a<->b=true:=by
 unfold qS;split
 ·constructor
  ·rintro⟨c,_,h⟩;rw[hF] at h;exact h
  ·intro h;exact⟨a,fun _ _=>rfl,by rw[hF];exact h⟩
 ·constructor
  ·intro h;have:=h a (fun _ _=>rfl);rwa[hF] at this
  ·intro h c _;rw[hF];exact h
section
variable {op v:Nat} {inn:Nat->Bool} {F L H:(Nat->Bool)->Bool}
theorem zU5(hF:∀a,F a=if a v then H a else L a)(hv:inn v=false)(a:Nat->Bool):qS op inn F a<->if a v then qS op inn H a else qS op inn L a:=by
 unfold qS;split
 ·split
  ·rename_i JA;constructor
   ·rintro⟨c,hc,h⟩;exact⟨c,hc,by rw[hF,hc v hv,JA] at h;simpa using h⟩
   ·rintro⟨c,hc,h⟩;exact⟨c,hc,by rw[hF,hc v hv,JA];simpa using h⟩
  ·rename_i JA;have JA:a v=false:=by simpa using JA
   constructor
   ·rintro⟨c,hc,h⟩;exact⟨c,hc,by rw[hF,hc v hv,JA] at h;simpa using h⟩
   ·rintro⟨c,hc,h⟩;exact⟨c,hc,by rw[hF,hc v hv,JA];simpa using h⟩
 ·split
  ·rename_i JA;constructor
   ·intro h c hc;have:=h c hc;rw[hF,hc v hv,JA] at this;simpa using this
   ·intro h c hc;rw[hF,hc v hv,JA];simpa using h c hc
  ·rename_i JA;have JA:a v=false:=by simpa using JA
   constructor
   ·intro h c hc;have:=h c hc;rw[hF,hc v hv,JA] at this;simpa using this
   ·intro h c hc;rw[hF,hc v hv,JA];simpa using h c hc
theorem qS_in(JA:op<=1)(hF:∀a,F a=if a v then H a else L a)(hL:∀a x,L (upd a v x)=L a)(hH:∀a x,H (upd a v x)=H a)(hv:inn v=true){a:Nat->Bool}{x y:Bool}
  (hx:x=true<->qS op inn L a) (hy:y=true<->qS op inn H a):qS op inn F a<->opB op x y=true:=by
 have off:∀{c:Nat->Bool} (z:Bool),Off inn a c->Off inn a (upd c v z):=fun z hc i hi=>by
  by_cases h:i=v
  ·subst h;rw[hv] at hi;cases hi
  ·rw[zR h];exact hc i hi
 have e1:∀c,F (upd c v true)=H c:=fun c=>by rw[hF,zs];simp[hH]
 have e0:∀c,F (upd c v false)=L c:=fun c=>by rw[hF,zs];simp[hL]
 rcases Nat.lt_or_ge op 1 with h|h
 ·have:op=0:=by omega
  subst this;simp only[opB,if_true,Bool.and_eq_true,hx,hy];simp only[qS];simp only[show ¬(0:Nat)=1 by omega,if_false];constructor
  ·intro h;exact⟨fun c hc=>by rw[<-e0];exact h _ (off false hc),fun c hc=>by rw[<-e1];exact h _ (off true hc)⟩
  ·rintro⟨h1,h2⟩ c hc;rw[hF];split
   ·exact h2 c hc
   ·exact h1 c hc
 ·have:op=1:=by omega
  subst this;simp only[opB,show ¬(1:Nat)=0 by omega,if_false,if_true,Bool.or_eq_true,hx,hy];simp only[qS,if_true];constructor
  ·rintro⟨c,hc,h⟩;rw[hF] at h;split at h
   ·exact .inr ⟨c,hc,h⟩
   ·exact .inl ⟨c,hc,h⟩
  ·rintro (⟨c,hc,h⟩|⟨c,hc,h⟩)
   ·exact⟨_,off false hc,by rw[e0];exact h⟩
   ·exact⟨_,off true hc,by rw[e1];exact h⟩
end
def zGb(n op:Nat)(ns:Ns):Nat->Nat->Nat->List (Nat×Nat)
 |0,_,_=>[]
 |d+1,f,g =>
  if(sh op (min f g) (max f g)).2=true then [] else
  (min f g,max f g)::(zGb n op ns d (lo n ns (min (tv n ns (min f g)) (tv n ns (max f g))) (min f g)) (lo n ns (min (tv n ns (min f g)) (tv n ns (max f g))) (max f g)) ++
   zGb n op ns d (hi n ns (min (tv n ns (min f g)) (tv n ns (max f g))) (min f g)) (hi n ns (min (tv n ns (min f g)) (tv n ns (max f g))) (max f g)))
theorem zEs(n op:Nat)(ns:Ns):∀d f g,(zGb n op ns d f g).length<=2^d-1
 |0,f,g=>by simp[zGb]
 |d+1,f,g=>by
  unfold zGb;split
  ·simp
  ·have h1:=zEs n op ns d (lo n ns (min (tv n ns (min f g)) (tv n ns (max f g))) (min f g)) (lo n ns (min (tv n ns (min f g)) (tv n ns (max f g))) (max f g));have h2:=zEs n op ns d (hi n ns (min (tv n ns (min f g)) (tv n ns (max f g))) (min f g)) (hi n ns (min (tv n ns (min f g)) (tv n ns (max f g))) (max f g));have h3:0<2^d:=Nat.two_pow_pos d;rw[Nat.pow_succ];simp only[List.length_cons,List.length_append];omega
theorem zEt{n op:Nat}{ns:Ns}(w:Wf n ns):∀d f g,Ref ns f->Ref ns g->n<=d+min (tv n ns f) (tv n ns g) ->
  Sn op (fun x y=>(x,y)∈zGb n op ns d f g) f g/\Clo n op ns (fun x y=>(x,y)∈zGb n op ns d f g)
 |0,f,g,hf,hg,hd=>by
  have hc:∀x,Ref ns x->n<=tv n ns x->x<2:=fun x hx h=>zH6 w hx h;have h1:=hc f hf (by omega);have h2:=hc g hg (by omega);refine⟨.inl ?_,fun x y h=>by simp[zGb] at h⟩;cases hs:sh op (min f g) (max f g) with
  |mk r t =>
  cases t with
  |true=>rfl
  |false=>have:=zSD hs (by omega);omega
 |d+1,f,g,hf,hg,hd=>by
  have hp:Ref ns (min f g):=by unfold Ref at *;omega
  have hq:Ref ns (max f g):=by unfold Ref at *;omega
  have hm:min (tv n ns (min f g)) (tv n ns (max f g))=min (tv n ns f) (tv n ns g):=by
   rcases Nat.le_total f g with h|h
   ·rw[Nat.min_eq_left h,Nat.max_eq_right h]
   ·rw[Nat.min_eq_right h,Nat.max_eq_left h,Nat.min_comm]
  unfold zGb;by_cases hs:(sh op (min f g) (max f g)).2=true
  ·rw[if_pos hs];exact⟨.inl hs,fun x y h=>by simp at h⟩
  ·rw[if_neg hs];have h2:2<=max f g:=zSD (r:=(sh op (min f g) (max f g)).1) (f:=min f g) (op:=op) (by
    cases hh:sh op (min f g) (max f g) with
    |mk r t=>rw[hh] at hs;simp at hs;rw[hs]) (by omega)
   have hv:min (tv n ns (min f g)) (tv n ns (max f g))<n:=by have:=w.tv_var h2 hq;omega
   obtain⟨v,JB⟩:∃v,v=min (tv n ns (min f g)) (tv n ns (max f g)):=⟨_,rfl⟩;rw[<-JB] at hv hm ⊢;have cp:=zGI w hp (v:=v) (by omega) hv;have cq:=zGI w hq (v:=v) (by omega) hv;have i1:=zEt (op:=op) w d _ _ cp.rl cq.rl (by have:=cp.tl;have:=cq.tl;omega);have i2:=zEt (op:=op) w d _ _ cp.rh cq.rh (by have:=cp.th;have:=cq.th;omega);have mono:∀{S T:Nat->Nat->Prop},(∀x y,S x y->T x y)->∀{x y},Sn op S x y->Sn op T x y:=fun h _ _ hS=>hS.imp id (h _ _);refine⟨.inr (by simp),fun x y JA=>?_⟩;rcases List.mem_cons.1 JA with e|JA
   ·simp only[Prod.mk.injEq] at e;obtain⟨rfl,rfl⟩:=e;rw[<-JB];exact⟨hp,hq,mono (fun x y h=>by simp[h]) i1.1,mono (fun x y h=>by simp[h]) i2.1⟩
   ·rcases List.mem_append.1 JA with h|h
    ·obtain⟨a1,a2,a3,a4⟩:=i1.2 x y h;exact⟨a1,a2,mono (fun x y h=>by simp[h]) a3,mono (fun x y h=>by simp[h]) a4⟩
    ·obtain⟨a1,a2,a3,a4⟩:=i2.2 x y h;exact⟨a1,a2,mono (fun x y h=>by simp[h]) a3,mono (fun x y h=>by simp[h]) a4⟩
abbrev zFZ:=List (Nat×Nat)
def zRn(op:Nat)(inn:Nat->Bool)(ns:Ns)(M:zFZ):Prop:=∀q∈M,Ref ns q.1/\Ref ns q.2/\∀a,eval ns a q.2=true<->qS op inn (fun c=>eval ns c q.1) a
theorem zRn.ext{n op:Nat}{inn:Nat->Bool}{ns ns':Ns}{M:zFZ}(h:zRn op inn ns M)(w:Wf n ns)(hx:Ext n ns ns'):zRn op inn ns' M:=fun q hq=>by
 obtain⟨h1,h2,h3⟩:=h q hq;refine⟨hx.ref h1,hx.ref h2,fun a=>?_⟩;rw[hx.eval w a h2,h3];have:(fun c=>eval ns' c q.1)=fun c=>eval ns c q.1:=funext fun c=>hx.eval w c h1;rw[this]
def qB(d:Nat):Nat:=d*2^d
structure QOk(n cap op:Nat)(inn:Nat->Bool)(ns:Ns)(f:Nat)(r:Option Nat)(ns':Ns)(M':zFZ):Prop where
 ext:Ext n ns ns'
 lim:ns'.length<=cap
 mem:zRn op inn ns' M'
 ok:∀x,r=some x->Ref ns' x/\∀a,eval ns' a x=true<->qS op inn (fun c=>eval ns c f) a
 cnt:ns'.length<=ns.length+qB (n-tv n ns f)
 full:r=none->cap<ns.length+qB (n-tv n ns f)
 fr:∀z,ns.length+2<=z->z<ns'.length+2->∃H G:(Nat->Bool)->Bool,IsC (fun c=>eval ns c f) H/\(∀a,G a=true<->qS op inn H a)/\IsC G fun b=>eval ns' b z
 hit:r=none->cap<=ns'.length
theorem zDf{ns:Ns}{M:zFZ}{N:Nat}(hN:ns.length+2<=N)(hr:∀q∈M,Ref ns q.1)(hn:(M.map (·.1)).Nodup):M.length<=N:=by
 have:=zAG _ (List.range N) hn (fun x hx=>by obtain⟨q,hq,rfl⟩:=List.mem_map.1 hx;have:=hr q hq;unfold Ref at this;exact List.mem_range.2 (by omega));simpa using this
section
variable {n cap op:Nat} {inn:Nat->Bool} {ns ns1 ns2:Ns} {M M1 M2:zFZ} {f:Nat}
theorem zMm{d:Nat}(h:0<d):qB (d-1)+qB (d-1)+2^(d-1)<=qB d:=by
 unfold qB;obtain⟨e,rfl⟩:∃e,d=e+1:=⟨d-1,by omega⟩;rw[Nat.add_sub_cancel,Nat.pow_succ,Nat.add_mul,Nat.one_mul];have:e*2^e+e*2^e=e*(2^e*2):=by rw[<-Nat.mul_assoc,Nat.mul_two]
 omega
theorem zEm{a b:Nat}(h:a<=b):qB a<=qB b:=Nat.mul_le_mul h (Nat.pow_le_pow_right (by omega) h)
theorem zSV(w:Wf n ns)(JA:ns.length<=cap)(hf:Ref ns f)(h2:f<2)(hM:zRn op inn ns M):QOk n cap op inn ns f (some f) ns M:=by
 refine⟨Ext.refl w,JA,hM,fun x hx=>?_,by omega,fun h=>(by cases h),fun z h1 h2=>by omega,fun h=>by cases h⟩;simp only[Option.some.injEq] at hx;subst hx;refine⟨hf,fun a=>?_⟩;have:f=0\/f=1:=by omega
 rcases this with rfl|rfl
 ·rw[zJv (b:=false) (fun a=>zN ns a),zN]
 ·rw[zJv (b:=true) (fun a=>zg ns a),zg]
theorem zSU{r:Nat}(w:Wf n ns)(JA:ns.length<=cap)(hM:zRn op inn ns M)(hk:(f,r)∈M):QOk n cap op inn ns f (some r) ns M:=by
 obtain⟨_,h1,h2⟩:=hM _ hk;exact⟨Ext.refl w,JA,hM,fun x hx=>by simp only[Option.some.injEq] at hx;subst hx;exact⟨h1,h2⟩,by omega,fun h=>(by cases h),fun z h1 h2=>by omega,fun h=>by cases h⟩
theorem zQ3{F G:(Nat->Bool)->Bool}(h:∀c,F c=G c)(a:Nat->Bool):qS op inn F a<->qS op inn G a:=by
 have:F=G:=funext h;rw[this]
structure QMid(n cap op:Nat)(inn:Nat->Bool)(ns:Ns)(f:Nat)(ns2:Ns)(M2:zFZ)(l h:Nat):Prop where
 ext:Ext n ns ns2
 lim:ns2.length<=cap
 mem:zRn op inn ns2 M2
 cnt:ns2.length<=ns.length+(qB (n-tv n ns f-1)+qB (n-tv n ns f-1))
 rl:Ref ns2 l
 rh:Ref ns2 h
 el:∀a,eval ns2 a l=true<->qS op inn (fun c=>eval ns c (at_ n ns f).low) a
 eh:∀a,eval ns2 a h=true<->qS op inn (fun c=>eval ns c (at_ n ns f).high) a
 tl:tv n ns f<tv n ns2 l
 th:tv n ns f<tv n ns2 h
 fr:∀z,ns.length+2<=z->z<ns2.length+2->∃H G:(Nat->Bool)->Bool,IsC (fun c=>eval ns c f) H/\(∀a,G a=true<->qS op inn H a)/\IsC G fun b=>eval ns2 b z
theorem zU4{rl rh:Option Nat}(w:Wf n ns)(hf:Ref ns f)(h2:2<=f)(hl:QOk n cap op inn ns (at_ n ns f).low rl ns1 M1)(hh:QOk n cap op inn ns1 (at_ n ns f).high rh ns2 M2) :
  ∀z,ns.length+2<=z->z<ns2.length+2->∃H G:(Nat->Bool)->Bool,IsC (fun c=>eval ns c f) H/\(∀a,G a=true<->qS op inn H a)/\IsC G fun b=>eval ns2 b z:=fun z h1 h3=>by
 by_cases hz:z<ns1.length+2
 ·obtain⟨H,G,a1,a2,a3⟩:=hl.fr z h1 hz;exact⟨H,G,(zGo w hf h2).trans a1,a2,a3.congr (fun _=>rfl) fun b=>(hh.ext.eval hl.ext.wf b hz).symm⟩
 ·obtain⟨H,G,a1,a2,a3⟩:=hh.fr z (by omega) h3;exact⟨H,G,(zKF w hf h2).trans (a1.congr (fun c=>hl.ext.eval w c (w.ref_high hf)) fun _=>rfl),a2,a3⟩
theorem q_low(w:Wf n ns)(hf:Ref ns f)(h2:2<=f)(hl:QOk n cap op inn ns (at_ n ns f).low none ns1 M1):QOk n cap op inn ns f none ns1 M1:=by
 have t1:=w.tv_low h2 hf;have:=zEm (show n-tv n ns (at_ n ns f).low<=n-tv n ns f by omega);have c1:=hl.cnt;have c2:=hl.full rfl;exact⟨hl.ext,hl.lim,hl.mem,fun x hx=>(by cases hx),by omega,fun _=>by omega,fun z h1 h3=>by obtain⟨H,G,a1,a2,a3⟩:=hl.fr z h1 h3;exact⟨H,G,(zGo w hf h2).trans a1,a2,a3⟩,hl.hit⟩
theorem zU3{l:Nat}(w:Wf n ns)(hf:Ref ns f)(h2:2<=f)(hl:QOk n cap op inn ns (at_ n ns f).low (some l) ns1 M1)(hh:QOk n cap op inn ns1 (at_ n ns f).high none ns2 M2):QOk n cap op inn ns f none ns2 M2:=by
 have t1:=w.tv_low h2 hf;have t2:=w.tv_high h2 hf;have tvn:=w.tv_var h2 hf;have e:=hl.ext.tv (w.ref_high hf);have b0:=zMm (show 0<n-tv n ns f by omega);have JA:=Nat.two_pow_pos (n-tv n ns f-1);have b1:=zEm (show n-tv n ns (at_ n ns f).low<=n-tv n ns f-1 by omega);have b2:=zEm (show n-tv n ns1 (at_ n ns f).high<=n-tv n ns f-1 by omega);have c1:=hl.cnt;have c2:=hh.cnt;have c3:=hh.full rfl;exact⟨hl.ext.trans hh.ext,hh.lim,hh.mem,fun x hx=>(by cases hx),by omega,fun _=>by omega,zU4 w hf h2 hl hh,hh.hit⟩
theorem q_mid{l h:Nat}(w:Wf n ns)(hf:Ref ns f)(h2:2<=f)(hl:QOk n cap op inn ns (at_ n ns f).low (some l) ns1 M1)(hh:QOk n cap op inn ns1 (at_ n ns f).high (some h) ns2 M2):QMid n cap op inn ns f ns2 M2 l h:=by
 have t1:=w.tv_low h2 hf;have t2:=w.tv_high h2 hf;have tvn:=w.tv_var h2 hf;have e:=hl.ext.tv (w.ref_high hf);have b1:=zEm (show n-tv n ns (at_ n ns f).low<=n-tv n ns f-1 by omega);have b2:=zEm (show n-tv n ns1 (at_ n ns f).high<=n-tv n ns f-1 by omega);have c1:=hl.cnt;have c2:=hh.cnt;obtain⟨rl,el⟩:=hl.ok l rfl;obtain⟨rh,eh⟩:=hh.ok h rfl;have el2:∀a,eval ns2 a l=true<->qS op inn (fun c=>eval ns c (at_ n ns f).low) a:=fun a=>by rw[hh.ext.eval hl.ext.wf a rl,el]
 have eh2:∀a,eval ns2 a h=true<->qS op inn (fun c=>eval ns c (at_ n ns f).high) a:=fun a=>by rw[eh];exact zQ3 (fun c=>hl.ext.eval w c (w.ref_high hf)) a
 have w2:=hh.ext.wf;have rl2:=hh.ext.ref rl;have bb:∀(x y:Bool),(x=true<->y=true)->x=y:=fun x y h=>by cases x<;>cases y<;>simp_all
 refine⟨hl.ext.trans hh.ext,hh.lim,hh.mem,by omega,rl2,rh,el2,eh2,?_,?_,zU4 w hf h2 hl hh⟩
 ·refine zKx w2 rl2 (by omega) fun a b JA=>bb _ _ ?_;rw[el2,el2];have hF:∀a b:Nat->Bool,(∀i,tv n ns f+1<=i->a i=b i)->eval ns a (at_ n ns f).low=eval ns b (at_ n ns f).low:=fun a b h=>zAK w (w.ref_low hf) fun i hi=>h i (by omega);exact⟨zEF hF JA,zEF hF fun i hi=>(JA i hi).symm⟩
 ·refine zKx w2 rh (by omega) fun a b JA=>bb _ _ ?_;rw[eh2,eh2];have hF:∀a b:Nat->Bool,(∀i,tv n ns f+1<=i->a i=b i)->eval ns a (at_ n ns f).high=eval ns b (at_ n ns f).high:=fun a b h=>zAK w (w.ref_high hf) fun i hi=>h i (by omega);exact⟨zEF hF JA,zEF hF fun i hi=>(JA i hi).symm⟩
theorem zJu{l h:Nat}{r:Option Nat}{JA:Ns}{M3:zFZ}(w:Wf n ns)(hf:Ref ns f)(h2:2<=f)(hm:QMid n cap op inn ns f ns2 M2 l h)(hx:Ext n ns2 JA)(JD:JA.length<=cap)
  (hc:JA.length<=ns2.length+2^(n-tv n ns f-1)) (JG:r=none->cap<ns2.length+2^(n-tv n ns f-1))
  (JF:∀x,r=some x->Ref JA x/\∀a,eval JA a x=true<->qS op inn (fun c=>eval ns c f) a) (JH:∀q∈M3,q∈M2\/∃x,r=some x/\q=(f,x))
  (JC:∀z,ns2.length+2<=z->z<JA.length+2->∃G:(Nat->Bool)->Bool,(∀a,G a=true<->qS op inn (fun c=>eval ns c f) a)/\IsC G fun b=>eval JA b z) (JE:r=none->cap<=JA.length) :
  QOk n cap op inn ns f r JA M3:=by
 have tvn:=w.tv_var h2 hf;have b0:=zMm (show 0<n-tv n ns f by omega);have JI:=Nat.two_pow_pos (n-tv n ns f-1);have c1:=hm.cnt;have JB:=hm.ext.trans hx;refine⟨JB,JD,?_,JF,by omega,fun hr=>(by have:=JG hr;omega),fun z h1 h3=>?_,JE⟩
 rotate_left
 ·by_cases hz:z<ns2.length+2
  ·obtain⟨H,G,a1,a2,a3⟩:=hm.fr z h1 hz;exact⟨H,G,a1,a2,a3.congr (fun _=>rfl) fun b=>(hx.eval hm.ext.wf b hz).symm⟩
  ·obtain⟨G,a2,a3⟩:=JC z (by omega) h3;exact⟨_,G,IsC.refl _,a2,a3⟩
 have hM:=hm.mem.ext hm.ext.wf hx;intro q hq;rcases JH q hq with h1|⟨x,rfl,rfl⟩
 ·exact hM q h1
 ·obtain⟨h3,h4⟩:=JF x rfl;refine⟨JB.ref hf,h3,fun a=>?_⟩;rw[h4];exact(zQ3 (fun c=>JB.eval w c hf) a).symm
theorem zJt{l h:Nat}(w:Wf n ns)(hf:Ref ns f)(h2:2<=f)(JA:op<=1)(hm:QMid n cap op inn ns f ns2 M2 l h)(hv:inn (tv n ns f)=true)(a:Nat->Bool) :
  (opB op (eval ns2 a l) (eval ns2 a h)=true)<->qS op inn (fun c=>eval ns c f) a :=
 (qS_in JA (fun a=>zl w a h2 hf) (fun a x=>zA0 w (w.ref_low hf) (w.tv_low h2 hf)) (fun a x=>zA0 w (w.ref_high hf) (w.tv_high h2 hf)) hv (hm.el a) (hm.eh a)).symm
theorem zMl{l h:Nat}(w:Wf n ns)(hf:Ref ns f)(h2:2<=f)(hm:QMid n cap op inn ns f ns2 M2 l h)(hv:inn (tv n ns f)=false)(a:Nat->Bool) :
  ((if a (tv n ns f) then eval ns2 a h else eval ns2 a l)=true)<->qS op inn (fun c=>eval ns c f) a:=by
 rw[zU5 (fun a=>zl w a h2 hf) hv a];show _<->if a (tv n ns f)=true then _ else _;split
 ·exact hm.eh a
 ·exact hm.el a
end
end
def num:Nat->Nat->((Nat->Bool)->Bool)->Nat
 |0,_,F=>if F (fun _=>false) then 1 else 0
 |d+1,k,F=>num d (k+1) (fun a=>F (upd a k false))+num d (k+1) (fun a=>F (upd a k true))
theorem zBl:∀(d k:Nat) {F G:(Nat->Bool)->Bool},(∀a,F a=G a)->num d k F=num d k G
 |0,k,F,G,h=>by rw[num,num,h]
 |d+1,k,F,G,h=>by rw[num,num,zBl d (k+1) (fun a=>h _),zBl d (k+1) (fun a=>h _)]
theorem zPg{d k:Nat}{F:(Nat->Bool)->Bool}(h:∀a x,F (upd a k x)=F a):num (d+1) k F=2*num d (k+1) F:=by
 rw[num,zBl d (k+1) (fun a=>h a false),zBl d (k+1) (fun a=>h a true)];omega
theorem zEw{F:(Nat->Bool)->Bool}{d:Nat}:∀(j k:Nat),(∀i a x,k<=i->i<k+j->F (upd a i x)=F a)->num (d+j) k F=2^j*num d (k+j) F
 |0,k,_=>by simp
 |j+1,k,h=>by have:=zEw (F:=F) (d:=d) j (k+1) (fun i a x h1 h2=>h i a x (by omega) (by omega));rw[show d+(j+1)=(d+j)+1 by omega,zPg (fun a x=>h k a x (by omega) (by omega)),this,Nat.pow_succ,show k+1+j=k+(j+1) by omega];rw[Nat.mul_comm (2^j) 2,Nat.mul_assoc]
def cnt(n:Nat)(ns:Ns)(f:Nat):Nat :=
 if h:f<2 then f else
  let d:=at_ n ns f
  if hl:d.low<f/\d.high<f then cnt n ns d.low*2^(tv n ns d.low-d.v-1)+cnt n ns d.high*2^(tv n ns d.high-d.v-1) else 0
 termination_by f
 decreasing_by
 ·exact hl.1
 ·exact hl.2
section
variable {n:Nat} {ns:Ns}
theorem zRa{f:Nat}(h:f<2):cnt n ns f=f:=by unfold cnt;rw[dif_pos h]
theorem zKb(w:Wf n ns){f:Nat}(h:2<=f)(hf:Ref ns f):cnt n ns f=cnt n ns (at_ n ns f).low*2^(tv n ns (at_ n ns f).low-tv n ns f-1)+cnt n ns (at_ n ns f).high*2^(tv n ns (at_ n ns f).high-tv n ns f-1):=by
 conv=>lhs;unfold cnt
 rw[dif_neg (by omega)];simp only;rw[dif_pos ⟨w.lt_low h hf,w.lt_high h hf⟩];rfl
theorem zTg(w:Wf n ns):∀{f:Nat},Ref ns f->cnt n ns f=num (n-tv n ns f) (tv n ns f) (fun a=>eval ns a f):=by
 intro f
 induction f using Nat.strongRecOn with
 |ind f ih =>
  intro hf;rcases Nat.lt_or_ge f 2 with h|h
  ·rw[zRa h,zHK h,Nat.sub_self,num];have:f=0\/f=1:=by omega
   rcases this with rfl|rfl
   ·simp[zN]
   ·simp[zg]
  ·have tvn:=w.tv_var h hf;have tl:=w.tv_low h hf;have th:=w.tv_high h hf;have rl:=w.ref_low hf;have rh:=w.ref_high hf;have bl:=w.tv_le rl;have bh:=w.tv_le rh;have key:∀x,Ref ns x->tv n ns f<tv n ns x->num (n-tv n ns f-1) (tv n ns f+1) (fun a=>eval ns a x)=num (n-tv n ns x) (tv n ns x) (fun a=>eval ns a x)*2^(tv n ns x-tv n ns f-1):=by intro x hx JA;have bx:=w.tv_le hx;have:=zEw (F:=fun a=>eval ns a x) (d:=n-tv n ns x) (tv n ns x-tv n ns f-1) (tv n ns f+1) (fun i a y h1 h2=>zA0 w hx (by omega));rw[show n-tv n ns f-1=(n-tv n ns x)+(tv n ns x-tv n ns f-1) by omega,this,show tv n ns f+1+(tv n ns x-tv n ns f-1)=tv n ns x by omega,Nat.mul_comm]
   rw[zKb w h hf,ih _ (w.lt_low h hf) rl,ih _ (w.lt_high h hf) rh,<-key _ rl tl,<-key _ rh th];obtain⟨d,hd⟩:∃d,n-tv n ns f=d+1:=⟨n-tv n ns f-1,by omega⟩;rw[hd,num,Nat.add_sub_cancel,zBl d _ (fun a=>zBE w h hf),zBl d _ (fun a=>zAk w h hf)]
theorem zTh(w:Wf n ns){f:Nat}(hf:Ref ns f):cnt n ns f*2^tv n ns f=num n 0 (fun a=>eval ns a f):=by
 have bx:=w.tv_le hf;have:=zEw (F:=fun a=>eval ns a f) (d:=n-tv n ns f) (tv n ns f) 0 (fun i a y h1 h2=>zA0 w hf (by omega));have e:(n-tv n ns f)+tv n ns f=n:=by omega
 rw[e] at this;rw[this,Nat.zero_add,<-zTg w hf,Nat.mul_comm]
end
def many:Nat:=1099511627777
theorem zEJ(x k:Nat):min (min x many*2^k) many=min (x*2^k) many:=by
 rcases Nat.le_total x many with h|h
 ·rw[Nat.min_eq_left h]
 ·have hp:=Nat.two_pow_pos k;rw[Nat.min_eq_right h];have h1:many<=many*2^k:=Nat.le_mul_of_pos_right _ hp;have h2:many*2^k<=x*2^k:=Nat.mul_le_mul_right _ h;omega
theorem zPl(x y:Nat):min (min x many+min y many) many=min (x+y) many:=by omega
end Go.Bd
namespace Go.Sy
section
def zIM(g:Nat->Bool):Nat->Nat
 |0=>0
 |k+1=>2*zIM g k+(if g k=true then 1 else 0)
theorem zDc(g:Nat->Bool):∀w,zIM g w<2^w
 |0=>by simp[zIM]
 |w+1=>by have:=zDc g w;unfold zIM;rw[Nat.pow_succ];split<;>omega
theorem zBj{g h:Nat->Bool}:∀w,(∀k,k<w->g k=h k)->zIM g w=zIM h w
 |0,_=>rfl
 |w+1,e=>by unfold zIM;rw[zBj w fun k hk=>e k (by omega),e w (by omega)]
theorem zBK{g:Nat->Bool}:∀(w x:Nat),x<2^w->((∀k,k<w->g k=x.testBit (w-1-k))<->zIM g w=x)
 |0,x,h=>by
  have:x=0:=by simpa using h
  subst this;simp[zIM]
 |w+1,x,h=>by
  rw[Nat.pow_succ] at h;have ih:=zBK (g:=g) w (x/2) (by omega);have e:∀k,k<w->x.testBit (w+1-1-k)=(x/2).testBit (w-1-k):=fun k hk=>by rw[show w+1-1-k=(w-1-k)+1 by omega,Nat.testBit_succ]
  have e0:x.testBit (w+1-1-w)=decide (x%2=1):=by rw[show w+1-1-w=0 by omega,Nat.testBit_zero]
  constructor
  ·intro h1;have h2:=ih.1 fun k hk=>by rw[h1 k (by omega),e k hk]
   have h3:=h1 w (by omega);rw[e0] at h3;unfold zIM;rw[h2,h3];by_cases hx:x%2=1
   ·simp[hx];omega
   ·simp[hx];omega
  ·intro h1 k hk;unfold zIM at h1;have hb:(if g w=true then 1 else 0:Nat)<=1:=by split<;>omega
   have h2:zIM g w=x/2:=by omega
   by_cases JA:k<w
   ·rw[e k JA];exact ih.2 h2 k JA
   ·have:k=w:=by omega
    subst this;rw[e0];cases hg:g k with
    |true =>
     rw[hg] at h1;simp at h1
     symm
     rw[decide_eq_true_iff];omega
    |false =>
     rw[hg] at h1;simp at h1
     symm
     rw[decide_eq_false_iff_not];omega
theorem zL7{w x:Nat}(h:x<2^w):zIM (fun k=>x.testBit (w-1-k)) w=x:=(zBK w x h).1 fun k _=>rfl
def wd(n:Nat):Nat:=if n<=1 then 0 else if n<=2 then 1 else if n<=4 then 2 else if n<=8 then 3 else if n<=16 then 4 else if n<=32 then 5 else 6
theorem zFi(n:Nat):wd n<=6:=by unfold wd;(repeat' split)<;>omega
theorem zKt{n:Nat}(h:n<=64):n<=2^wd n:=by
 unfold wd
 (repeat' split)<;>simp<;>omega
theorem zUV{n w:Nat}(h:w<wd n):2^w<n:=by
 unfold wd at h;have key:w=0\/w=1\/w=2\/w=3\/w=4\/w=5:=by
  (repeat' split at h)<;>omega
 rcases key with rfl|rfl|rfl|rfl|rfl|rfl<;>simp<;>(repeat' split at h)<;>omega
theorem zRs{n w:Nat}(h:n<=64)(hw:w<=wd n):2^w<n<->w<wd n:=by
 refine⟨fun h1=>?_,zUV⟩;apply Nat.lt_of_le_of_ne hw;intro e;subst e;have:=zKt h;omega
def bP(vars:List Nat)(v:Nat):Nat:=((vars.take v).map wd).sum
def zD(vars:List Nat):Nat:=(vars.map wd).sum
theorem zC4{vars:List Nat}{v n:Nat}(h:vars[v]? = some n):bP vars (v+1)=bP vars v+wd n:=by
 unfold bP;rw[List.take_add_one,h,List.map_append,List.sum_append];simp
theorem zBn(vars:List Nat):bP vars vars.length=zD vars:=by unfold bP zD;rw[List.take_length]
theorem zAl{vars:List Nat}{u v:Nat}(h:u<=v):bP vars u<=bP vars v:=by
 have e:vars.take u=(vars.take v).take u:=by rw[List.take_take,Nat.min_eq_left h]
 unfold bP;rw[e];have:∀(l:List Nat) (k:Nat),((l.take k).map wd).sum<=(l.map wd).sum:=fun l k=>by
  conv=>rhs;rw[<-List.take_append_drop k l,List.map_append,List.sum_append]
  omega
 exact this _ _
theorem zQb{vars:List Nat}{v n k:Nat}(h:vars[v]? = some n)(hk:k<wd n):bP vars v+k<zD vars:=by
 have h1:=zC4 h;have h2:=(List.getElem?_eq_some_iff.1 h).1;have h3:=zAl (vars:=vars) (show v+1<=vars.length by omega);rw[zBn] at h3;omega
theorem zJ7(vars:List Nat):zD vars<=6*vars.length:=by
 unfold zD
 induction vars with
 |nil=>simp
 |cons n l ih =>have:=zFi n;simp only[List.map_cons,List.sum_cons,List.length_cons];omega
def vOf:List Nat->Nat->Nat
 |[],_=>0
 |n::l,p=>if p<wd n then 0 else vOf l (p-wd n)+1
theorem zQn:∀{vars:List Nat} {v n k:Nat},vars[v]? = some n->k<wd n->vOf vars (bP vars v+k)=v
 |[],v,n,k,h,_=>by simp at h
 |m::l,0,n,k,h,hk=>by simp at h;subst h;unfold vOf bP;simp[hk]
 |m::l,v+1,n,k,h,hk=>by
  have h:l[v]? = some n:=by simpa using h
  have e:bP (m::l) (v+1)=wd m+bP l v:=by unfold bP;simp
  unfold vOf;rw[e,if_neg (by omega),show wd m+bP l v+k-wd m=bP l v+k by omega,zQn h hk]
def rv(vars:List Nat)(a:Nat->Bool)(nx v:Nat):Nat:=zIM (fun k=>a (2*(bP vars v+k)+nx)) (wd (vars.getD v 0))
theorem zK9(vars:List Nat)(a:Nat->Bool)(nx v:Nat):rv vars a nx v<2^wd (vars.getD v 0):=zDc _ _
def rs(vars:List Nat)(a:Nat->Bool)(nx:Nat):List Nat:=(List.range vars.length).map (rv vars a nx)
theorem zB2(vars:List Nat)(a:Nat->Bool)(nx:Nat):(rs vars a nx).length=vars.length:=by simp[rs]
theorem zCe{vars:List Nat}{a:Nat->Bool}{nx v:Nat}(h:v<vars.length):(rs vars a nx).getD v 0=rv vars a nx v:=by simp[rs,List.getD,h]
def mk2(vars:List Nat)(x y:List Nat)(i:Nat):Bool :=
 let v:=vOf vars (i/2)
 ((if i%2=0 then x else y).getD v 0).testBit (wd (vars.getD v 0)-1-(i/2-bP vars v))
theorem zQ9{vars x y:List Nat}{v n k nx:Nat}(h:vars[v]? = some n)(hk:k<wd n)(hn:nx<2):mk2 vars x y (2*(bP vars v+k)+nx)=((if nx=0 then x else y).getD v 0).testBit (wd n-1-k):=by
 have e1:(2*(bP vars v+k)+nx)/2=bP vars v+k:=by omega
 have e2:(2*(bP vars v+k)+nx)%2=nx:=by omega
 have e3:vars.getD v 0=n:=by simp[List.getD,h]
 unfold mk2;simp only[e1,e2,zQn h hk,e3];rw[show bP vars v+k-bP vars v=k by omega]
theorem zUy{vars x y:List Nat}{v nx:Nat}(hv:v<vars.length)(hn:nx<2)(hx:(if nx=0 then x else y).getD v 0<2^wd (vars.getD v 0)):rv vars (mk2 vars x y) nx v=(if nx=0 then x else y).getD v 0:=by
 obtain⟨n,h⟩:∃n,vars[v]? = some n:=⟨_,List.getElem?_eq_getElem hv⟩;have e3:vars.getD v 0=n:=by simp[List.getD,h]
 rw[e3] at hx;unfold rv;rw[e3];rw[zBj _ fun k hk=>zQ9 h hk hn];exact zL7 hx
end
end Go.Sy
namespace Go.W
section
open Go
def zSX(types:Array TypeInfo)(t:TypeId):Bool :=
 match Region.shape types t with
 |some (.pointer _)|some .unsafePointer|some (.struct _)|some (.array ..)=>true
 |_=>false
def zLR:Operand->Bool
 |.const (.pointer none)=>true
 |_=>false
def cls(types:Array TypeInfo):Op->Nat
 |.move _|.assign _|.pick ..|.build ..|.nilCheck _|.fieldAddr ..|.field ..|.indexAddr ..|.index ..|.extract ..|.unOp ..|.makeInterface ..
 |.makeFunc ..|.slice ..|.typeAssert ..=>0
 |.binOp op t _ y _=>match op with
  |.eql|.neq=>if zSX types t && !zLR y then 1 else 0
  |_=>0
 |.convert src dst _=>match Region.shape types src,Region.shape types dst with
  |some (.slice _),_|_,some (.slice _)|none,_|_,none=>2
  |_,_=>0
 |.load ..|.lookup ..=>1
 |.alloc ..|.box ..|.buildSlice ..|.makeMap ..|.makeSlice ..=>3
 |.call { callee:=.builtin b,argTypes,.. }=>match b with
  |.len|.cap=>match (argTypes[0]?).bind (Region.shape types) with
   |some .string|some (.slice _)|some (.array ..)=>0
   |_=>1
  |.min|.max=>0
  |_=>2
 |_=>2
section
variable (P:Program)
def stepE(o:Oper)(a:Act)(w:World)(K:Value->World->Prop):Prop :=
 match (execOp a.eval o).run P w with
 |.ok (.value v) w'=>K v w'
 |.ok .skip w'=>K undef w'
 |.ok (.enter f args) w'=>Calls P f args w' fun e w''=>∃v,e=.returned v/\K v w''
 |_=>False
def zFW(o:Oper)(a:Act)(v:Value):Prop:=∀w',(execOp a.eval o).run P w'=.ok (.value v) w'
def _root_.Go.W.zFf(w w':World):Prop:=∀(b:Nat) (o:Obj),w.heap[b]? = some o->w'.heap[b]? = some o
def zII(o:Oper)(a:Act)(w:World)(v:Value):Prop:=∀w',zFf w w'->(execOp a.eval o).run P w'=.ok (.value v) w'
def zT2(o:Oper)(a:Act)(w:World)(v:Value)(w':World):Prop:=(execOp a.eval o).run P w=.ok (.value v) w'/\zFf w w'
def zCv(c:Nat)(o:Oper)(a:Act)(w:World)(K:Value->World->Prop):Prop :=
 match c with
 |0=>∃v,zFW P o a v/\K v w
 |1=>∃v,zII P o a w v/\K v w
 |3=>∃v w',zT2 P o a w v w'/\K v w'
 |_=>stepE P o a w K
end
theorem zFf.refl(w:World):zFf w w:=fun _ _ h=>h
theorem zFf.trans{a b c:World}(h:zFf a b)(k:zFf b c):zFf a c:=fun i o hi=>k i o (h i o hi)
section
variable {P:Program} {types:Array TypeInfo} {ops:Array Oper}
theorem zK1{o:Oper}{a:Act}{w:World}{K K':Value->World->Prop}(h:∀v w,K v w->K' v w)(hh:stepE P o a w K):stepE P o a w K':=by
 unfold stepE at *
 generalize (execOp a.eval o).run P w=r at *
 cases r with
 |ok n w' =>
  cases n<;>simp only at hh ⊢
  case value v=>exact h _ _ hh
  case skip=>exact h _ _ hh
  case enter f args=>exact hh.mono fun e w'' ⟨v,he,hk⟩=>⟨v,he,h _ _ hk⟩
 |halt x w'=>simp only at hh
theorem zFw{c:Nat}{o:Oper}{a:Act}{w:World}{K K':Value->World->Prop}(h:∀v w,K v w->K' v w)(hh:zCv P c o a w K):zCv P c o a w K':=by
 unfold zCv at *
 split at hh
 ·obtain⟨v,hv,hk⟩:=hh;exact⟨v,hv,h _ _ hk⟩
 ·obtain⟨v,hv,hk⟩:=hh;exact⟨v,hv,h _ _ hk⟩
 ·obtain⟨v,w',hv,hk⟩:=hh;exact⟨v,w',hv,h _ _ hk⟩
 ·exact zK1 h hh
theorem zFW.stepE{o:Oper}{a:Act}{v:Value}{w:World}{K:Value->World->Prop}(h:zFW P o a v)(hk:K v w):stepE P o a w K:=by
 unfold Go.W.stepE;rw[h w];exact hk
theorem zII.stepE{o:Oper}{a:Act}{v:Value}{w:World}{K:Value->World->Prop}(h:zII P o a w v)(hk:K v w):stepE P o a w K:=by
 unfold Go.W.stepE;rw[h w (zFf.refl w)];exact hk
theorem zT2.stepE{o:Oper}{a:Act}{v:Value}{w w':World}{K:Value->World->Prop}(h:zT2 P o a w v w')(hk:K v w'):stepE P o a w K:=by
 unfold Go.W.stepE;rw[h.1];exact hk
theorem zFW.unique{o:Oper}{a:Act}{v u:Value}(h:zFW P o a v)(h':zFW P o a u):v=u:=by
 have h1:=h default;rw[h' default] at h1;injection h1 with h2 _;injection h2 with h3;exact h3.symm
theorem zK0{o:Oper}{a:Act}{w:World}{K:Value->World->Prop}(h:stepE P o a w K):∃v w',K v w':=by
 unfold stepE at h;generalize (execOp a.eval o).run P w=r at h;cases r with
 |ok n w' =>
  cases n<;>simp only at h
  case value v=>exact⟨_,_,h⟩
  case skip=>exact⟨_,_,h⟩
  case enter f args =>
   obtain⟨e,w'',fr,⟨v,_,hk⟩,_⟩:=h [];exact⟨v,w'',hk⟩
 |halt x w'=>simp only at h
theorem zK2{c:Nat}{o:Oper}{a:Act}{w:World}{K:Value->World->Prop}(h:zCv P c o a w K):∃v w',K v w':=by
 unfold zCv at h;split at h
 ·obtain⟨v,hv,hk⟩:=h;exact⟨v,w,hk⟩
 ·obtain⟨v,hv,hk⟩:=h;exact⟨v,w,hk⟩
 ·obtain⟨v,w',hv,hk⟩:=h;exact⟨v,w',hk⟩
 ·exact zK0 h
theorem zPD{c:Nat}{o:Oper}{a:Act}{w:World}{K:Act->World->Prop}{Q:Exit->Act->World->Prop}(h:zCv P c o a w fun v w'=>K (a.put o.dst v) w'):o.wp P a w K Q:=by
 have h':stepE P o a w fun v w'=>K (a.put o.dst v) w':=by
  unfold zCv at h;split at h
  ·obtain⟨v,hv,hk⟩:=h;exact hv.stepE hk
  ·obtain⟨v,hv,hk⟩:=h;exact hv.stepE hk
  ·obtain⟨v,w',hv,hk⟩:=h;exact hv.stepE hk
  ·exact h
 unfold Oper.wp;unfold stepE at h';generalize (execOp a.eval o).run P w=r at *
 cases r with
 |ok n w' =>
  cases n<;>simp only at h'<;>simp only[Oper.upon]
  case value v=>exact h'
  case skip=>exact h'
  case enter f args=>exact h'.mono fun e w'' ⟨v,he,hk⟩=>by subst he;exact hk
 |halt x w'=>simp only at h'
def zz(ops:Array Oper)(o:Oper)(a:Act):Bool:=Region.wanted o (yielded ops a.tmps)
def stI(P:Program)(types:Array TypeInfo)(ops:Array Oper)(i:Nat)(K:Act->World->Prop)(a:Act)(w:World):Prop :=
 match ops[i]? with
 |none=>K a w
 |some o=>if zz ops o a then zCv P (cls types o.op) o a w (fun v w'=>K (a.put o.dst v) w') else K (a.put o.dst undef) w
theorem zCU{i:Nat}{K K':Act->World->Prop}{a:Act}{w:World}(h:∀a w,K a w->K' a w)(hh:stI P types ops i K a w):stI P types ops i K' a w:=by
 unfold stI at *
 split
 ·exact h _ _ (by simpa[*] using hh)
 ·rename_i o ho;simp only[ho] at hh;split
  ·rename_i hw;simp only[hw,if_true] at hh;exact zFw (fun _ _=>h _ _) hh
  ·rename_i hw;simp only[hw] at hh;exact h _ _ hh
def zBo(P:Program)(types:Array TypeInfo)(ops:Array Oper)(o:Oper)(a:Act)(v:Value):Prop :=
 (zz ops o a=true/\zFW P o a v)\/(zz ops o a=false/\v=undef)
theorem zBo.unique{o:Oper}{a:Act}{v u:Value}(h:zBo P types ops o a v)(h':zBo P types ops o a u):v=u:=by
 rcases h with⟨h1,h2⟩|⟨h1,h2⟩<;>rcases h' with⟨h3,h4⟩|⟨h3,h4⟩
 ·exact h2.unique h4
 ·rw[h1] at h3;cases h3
 ·rw[h1] at h3;cases h3
 ·rw[h2,h4]
theorem zEB{i:Nat}{o:Oper}{K:Act->World->Prop}{a:Act}{w:World}(hi:ops[i]? = some o)(hc:cls types o.op=0) :
  stI P types ops i K a w<->∃v,zBo P types ops o a v/\K (a.put o.dst v) w:=by
 unfold stI;simp only[hi,hc,zCv];cases hw:zz ops o a
 ·simp only[Bool.false_eq_true,if_false];constructor
  ·intro h;exact⟨undef,.inr ⟨hw,rfl⟩,h⟩
  ·rintro⟨v,⟨h1,_⟩|⟨_,rfl⟩,h⟩
   ·rw[hw] at h1;cases h1
   ·exact h
 ·simp only[if_true];constructor
  ·rintro⟨v,hv,h⟩;exact⟨v,.inl ⟨hw,hv⟩,h⟩
  ·rintro⟨v,⟨_,hv⟩|⟨h1,_⟩,h⟩
   ·exact⟨v,hv,h⟩
   ·rw[hw] at h1;cases h1
def zCr(P:Program)(types:Array TypeInfo)(ops:Array Oper)(o:Oper)(a:Act)(w:World)(v:Value):Prop :=
 (zz ops o a=true/\zII P o a w v)\/(zz ops o a=false/\v=undef)
theorem zCT{i:Nat}{o:Oper}{K:Act->World->Prop}{a:Act}{w:World}(hi:ops[i]? = some o)(hc:cls types o.op=1) :
  stI P types ops i K a w<->∃v,zCr P types ops o a w v/\K (a.put o.dst v) w:=by
 unfold stI;simp only[hi,hc,zCv];cases hw:zz ops o a
 ·simp only[Bool.false_eq_true,if_false];constructor
  ·intro h;exact⟨undef,.inr ⟨hw,rfl⟩,h⟩
  ·rintro⟨v,⟨h1,_⟩|⟨_,rfl⟩,h⟩
   ·rw[hw] at h1;cases h1
   ·exact h
 ·simp only[if_true];constructor
  ·rintro⟨v,hv,h⟩;exact⟨v,.inl ⟨hw,hv⟩,h⟩
  ·rintro⟨v,⟨_,hv⟩|⟨h1,_⟩,h⟩
   ·exact⟨v,hv,h⟩
   ·rw[hw] at h1;cases h1
def zLq(P:Program)(types:Array TypeInfo)(ops:Array Oper)(o:Oper)(a:Act)(w:World)(v:Value)(w':World):Prop :=
 (zz ops o a=true/\zT2 P o a w v w')\/(zz ops o a=false/\v=undef/\w'=w)
theorem zMJ{i:Nat}{o:Oper}{K:Act->World->Prop}{a:Act}{w:World}(hi:ops[i]? = some o)(hc:cls types o.op=3) :
  stI P types ops i K a w<->∃v w',zLq P types ops o a w v w'/\K (a.put o.dst v) w':=by
 unfold stI;simp only[hi,hc,zCv];cases hw:zz ops o a
 ·simp only[Bool.false_eq_true,if_false];constructor
  ·intro h;exact⟨undef,w,.inr ⟨hw,rfl,rfl⟩,h⟩
  ·rintro⟨v,w',⟨h1,_⟩|⟨_,rfl,rfl⟩,h⟩
   ·rw[hw] at h1;cases h1
   ·exact h
 ·simp only[if_true];constructor
  ·rintro⟨v,w',hv,h⟩;exact⟨v,w',.inl ⟨hw,hv⟩,h⟩
  ·rintro⟨v,w',⟨_,hv⟩|⟨h1,_⟩,h⟩
   ·exact⟨v,w',hv,h⟩
   ·rw[hw] at h1;cases h1
theorem zLq.ext{o:Oper}{a:Act}{w w':World}{v:Value}(h:zLq P types ops o a w v w'):zFf w w':=by
 rcases h with⟨_,h⟩|⟨_,_,rfl⟩
 ·exact h.2
 ·exact zFf.refl _
theorem zCr.ext{o:Oper}{a:Act}{w w':World}{v:Value}(h:zCr P types ops o a w v)(he:zFf w w'):zCr P types ops o a w' v:=by
 rcases h with⟨h1,h⟩|h
 ·exact .inl ⟨h1,fun w'' h2=>h w'' (he.trans h2)⟩
 ·exact .inr h
section
variable {oi oj:Oper}
theorem zEQ(JA:∀cs b,oj.op≠.select cs b)(JB:oi.apart ops oj=true)(a:Act)(v:Value):execOp (a.put oi.dst v).eval oj=execOp a.eval oj :=
 execOp_put (ops:=ops) oj JA a oi.dst v (Oper.apart_spec JB).1
theorem zFG(JA:∀cs b,oi.op≠.select cs b)(JB:oi.apart ops oj=true)(a:Act)(v:Value):execOp (a.put oj.dst v).eval oi=execOp a.eval oi :=
 execOp_put (ops:=ops) oi JA a oj.dst v (Oper.apart_spec JB).2.2
theorem zBr(JA:oi.apart ops oj=true)(a:Act)(v:Value):zz ops oj (a.put oi.dst v)=zz ops oj a :=
 wanted_put oj a oi.dst v (Oper.apart_spec JA).1
theorem zCt(JA:oi.apart ops oj=true)(a:Act)(v:Value):zz ops oi (a.put oj.dst v)=zz ops oi a :=
 wanted_put oi a oj.dst v (Oper.apart_spec JA).2.2
theorem zDe(JA:oi.apart ops oj=true)(a:Act)(v u:Value):(a.put oi.dst v).put oj.dst u=(a.put oj.dst u).put oi.dst v :=
 Act.put_comm a v u (Oper.apart_spec JA).2.1
theorem zFX(JA:∀cs b,oj.op≠.select cs b)(JB:oi.apart ops oj=true)(a:Act)(v u:Value):zBo P types ops oj (a.put oi.dst v) u<->zBo P types ops oj a u:=by
 unfold zBo zFW;rw[zBr JB,zEQ JA JB]
theorem zJR(JA:∀cs b,oi.op≠.select cs b)(JB:oi.apart ops oj=true)(a:Act)(v u:Value):zBo P types ops oi (a.put oj.dst v) u<->zBo P types ops oi a u:=by
 unfold zBo zFW;rw[zCt JB,zFG JA JB]
theorem zJQ(JA:∀cs b,oj.op≠.select cs b)(JB:oi.apart ops oj=true)(a:Act)(w:World)(v u:Value):zCr P types ops oj (a.put oi.dst v) w u<->zCr P types ops oj a w u:=by
 unfold zCr zII;rw[zBr JB,zEQ JA JB]
theorem zFV(JA:∀cs b,oi.op≠.select cs b)(JB:oi.apart ops oj=true)(a:Act)(w:World)(v u:Value):zCr P types ops oi (a.put oj.dst v) w u<->zCr P types ops oi a w u:=by
 unfold zCr zII;rw[zCt JB,zFG JA JB]
theorem zLp(JA:∀cs b,oj.op≠.select cs b)(JB:oi.apart ops oj=true)(a:Act)(w w':World)(v u:Value):zLq P types ops oj (a.put oi.dst v) w u w'<->zLq P types ops oj a w u w':=by
 unfold zLq zT2;rw[zBr JB,zEQ JA JB]
theorem zR6{j:Nat}(hj:ops[j]? = some oj)(JB:∀cs b,oj.op≠.select cs b)(JA:oi.apart ops oj=true){K:Act->World->Prop}{a:Act}{w:World}{v:Value} :
  stI P types ops j K (a.put oi.dst v) w<->stI P types ops j (fun a' w'=>K (a'.put oi.dst v) w') a w:=by
 unfold stI;simp only[hj,zBr JA];split
 ·unfold zCv stepE zFW zII zT2;simp only[zEQ JB JA,zDe JA]
 ·rw[zDe JA]
theorem zPG{i:Nat}(hi:ops[i]? = some oi)(JB:∀cs b,oi.op≠.select cs b)(JA:oi.apart ops oj=true){K:Act->World->Prop}{a:Act}{w:World}{v:Value} :
  stI P types ops i K (a.put oj.dst v) w<->stI P types ops i (fun a' w'=>K (a'.put oj.dst v) w') a w:=by
 unfold stI;simp only[hi,zCt JA];split
 ·unfold zCv stepE zFW zII zT2;simp only[zFG JB JA,<-zDe JA]
 ·rw[<-zDe JA]
theorem zMK{i:Nat}(hi:ops[i]? = some oi){K:Act->World->Prop}{F:Act->Prop}{a:Act}{w:World}(hF:∀v,F (a.put oi.dst v))(h:stI P types ops i K a w) :
  stI P types ops i (fun a' w'=>F a'/\K a' w') a w:=by
 unfold stI at *
 simp only[hi] at *
 split
 ·rename_i hw;simp only[hw,if_true] at h;exact zFw (fun v w' hk=>⟨hF v,hk⟩) h
 ·rename_i hw;simp only[hw] at h;exact⟨hF _,h⟩
theorem zPF{i:Nat}(hi:ops[i]? = some oi){K:Act->World->Prop}{a:Act}{w:World}(h:stI P types ops i K a w):∃v w',K (a.put oi.dst v) w':=by
 unfold stI at h;simp only[hi] at h;split at h
 ·exact zK2 h
 ·exact⟨_,_,h⟩
theorem zPH{i j:Nat}(hi:ops[i]? = some oi)(hj:ops[j]? = some oj)(JA:oi.apart ops oj=true)
  (JD:∀cs b,oi.op≠.select cs b) (JB:∀cs b,oj.op≠.select cs b)
  (hc:cls types oi.op=0\/cls types oj.op=0\/(cls types oi.op=1/\cls types oj.op=1)\/(cls types oi.op=1/\cls types oj.op=3)) {K:Act->World->Prop} {a:Act} {w:World}
  (h:stI P types ops i (stI P types ops j K) a w):stI P types ops j (stI P types ops i K) a w:=by
 rcases hc with hc|hc|⟨hc,JC⟩|⟨hc,JC⟩
 ·obtain⟨v,hv,hk⟩:=(zEB hi hc).1 h;rw[zR6 hj JB JA] at hk;refine zCU ?_ (zMK (F:=fun a'=>zBo P types ops oi a' v) hj (fun u=>(zJR JD JA _ _ _).2 hv) hk);exact fun a' w' ⟨h1,h2⟩=>(zEB hi hc).2 ⟨v,h1,h2⟩
 ·have h1:stI P types ops i (fun a' w'=>∃u,zBo P types ops oj a' u/\K (a'.put oj.dst u) w') a w:=zCU (fun a' w' hh=>(zEB hj hc).1 hh) h;obtain⟨v,w',u,hu,_⟩:=zPF hi h1;rw[zFX JB JA] at hu;refine(zEB hj hc).2 ⟨u,hu,?_⟩;rw[zPG hi JD JA];refine zCU ?_ (zMK (F:=fun a'=>zBo P types ops oj a' u) hi (fun v=>(zFX JB JA _ _ _).2 hu) h1);rintro a' w' ⟨h2,u',h3,h4⟩;rw[h2.unique h3];exact h4
 ·obtain⟨v,hv,hk⟩:=(zCT hi hc).1 h;obtain⟨u,hu,hk⟩:=(zCT hj JC).1 hk;rw[zJQ JB JA] at hu;refine(zCT hj JC).2 ⟨u,hu,(zCT hi hc).2 ⟨v,(zFV JD JA _ _ _ _).2 hv,?_⟩⟩;rw[<-zDe JA];exact hk
 ·obtain⟨v,hv,hk⟩:=(zCT hi hc).1 h;obtain⟨u,w',hu,hk⟩:=(zMJ hj JC).1 hk;rw[zLp JB JA] at hu;refine(zMJ hj JC).2 ⟨u,w',hu,(zCT hi hc).2 ⟨v,(zFV JD JA _ _ _ _).2 (hv.ext hu.ext),?_⟩⟩;rw[<-zDe JA];exact hk
end
def wpN(P:Program)(types:Array TypeInfo)(ops:Array Oper)(Q:Act->World->Prop):List Nat->Act->World->Prop
 |[],a,w=>Q a w
 |i::l,a,w=>stI P types ops i (wpN P types ops Q l) a w
theorem zIS{i:Nat}{K:Act->World->Prop}{Q:Exit->Act->World->Prop}{a:Act}{w:World}(h:stI P types ops i K a w):wpOp P ops Q i K a w:=by
 unfold stI at h;unfold wpOp;split
 ·simpa[*] using h
 ·rename_i o ho;simp only[ho,zz] at h;split
  ·rename_i hw;simp only[hw,if_true] at h;exact .inl (zPD h)
  ·rename_i hw;simp only[hw] at h;exact h
theorem zCR{Q:Exit->Act->World->Prop}:∀(l:List Nat) (a:Act) (w:World),wpN P types ops (fun a w=>Q .normal a w) l a w->wpOps P ops Q l a w
 |[],_,_,h=>h
 |i::l,a,w,h=>by rw[wpOps_cons];exact zIS (zCU (fun a' w' hh=>zCR l a' w' hh) h)
def zGH(types:Array TypeInfo)(ops:Array Oper)(i j:Nat):Bool :=
 match ops[i]?,ops[j]? with
 |some oi,some oj=>!(oi.op matches .select ..) && !(oj.op matches .select ..)&&oi.apart ops oj &&
  (cls types oi.op==0||cls types oj.op==0||(cls types oi.op==1&&(cls types oj.op==1||cls types oj.op==3)))
 |_,_=>false
theorem zOz{Q:Act->World->Prop}{i j:Nat}(hc:zGH types ops i j=true){l:List Nat}{a:Act}{w:World}(h:wpN P types ops Q (i::j::l) a w):wpN P types ops Q (j::i::l) a w:=by
 unfold zGH at hc;split at hc
 ·rename_i oi oj hi hj;simp only[Bool.and_eq_true,Bool.or_eq_true,beq_iff_eq,Bool.not_eq_true'] at hc;obtain⟨⟨⟨h1,h2⟩,h3⟩,h4⟩:=hc;refine zPH hi hj h3 (fun cs b he=>by rw[he] at h1;cases h1) (fun cs b he=>by rw[he] at h2;cases h2) ?_ h;rcases h4 with (h4|h4)|⟨h4,h5|h5⟩
  ·exact .inl h4
  ·exact .inr (.inl h4)
  ·exact .inr (.inr (.inl ⟨h4,h5⟩))
  ·exact .inr (.inr (.inr ⟨h4,h5⟩))
 ·cases hc
theorem zHH{Q:Act->World->Prop}{i:Nat}{l2:List Nat}:∀(l1:List Nat) (a:Act) (w:World),(∀k∈l1,zGH types ops i k=true)->wpN P types ops Q (i::(l1++l2)) a w->wpN P types ops Q (l1++i::l2) a w
 |[],_,_,_,h=>h
 |k::l1,a,w,hc,h=>by have h1:wpN P types ops Q (k::i::(l1++l2)) a w:=zOz (hc k (by simp)) h;exact zCU (fun a' w' hh=>zHH l1 a' w' (fun x hx=>hc x (by simp[hx])) hh) h1
def zLo(D:List Nat):List Nat->Prop
 |[]=>True
 |i::l=>(∀k∈l,(D.getD i 0).testBit k=false)/\zLo D l
theorem zLo.drop_mid{D:List Nat}{i:Nat}{l2:List Nat}:∀(l1:List Nat),zLo D (l1++i::l2)->zLo D (l1++l2)
 |[],h=>h.2
 |k::l1,h=>⟨fun x hx=>h.1 x (List.mem_append.2 ((List.mem_append.1 hx).imp id (List.mem_cons_of_mem _))),zLo.drop_mid l1 h.2⟩
theorem zLo.mid{D:List Nat}{i:Nat}{l2:List Nat}:∀(l1:List Nat),zLo D (l1++i::l2)->∀k∈l1,(D.getD k 0).testBit i=false
 |[],_,_,hk=>by cases hk
 |x::l1,h,k,hk=>by
  rcases List.mem_cons.1 hk with rfl|hk
  ·exact h.1 i (by simp)
  ·exact zLo.mid l1 h.2 k hk
def Free(types:Array TypeInfo)(ops:Array Oper)(D:List Nat):List Nat->Prop
 |[]=>True
 |i::l=>(∀k∈l,(D.getD k 0).testBit i=true\/zGH types ops i k=true)/\Free types ops D l
theorem zFu{Q:Act->World->Prop}{D:List Nat}:∀(rep l:List Nat) (a:Act) (w:World),rep.Perm l->Free types ops D rep->zLo D l->wpN P types ops Q rep a w->wpN P types ops Q l a w:=by
 intro rep
 induction rep with
 |nil=>intro l a w hp _ _ h;rw[List.nil_perm.1 hp];exact h
 |cons i rep ih =>
  intro l a w hp hf hl h;have JA:i∈l:=hp.subset (by simp);obtain⟨l1,l2,rfl⟩:=List.append_of_mem JA;have JB:rep.Perm (l1++l2):=by have:=hp.trans List.perm_middle;exact List.Perm.cons_inv this
  have hc:∀k∈l1,zGH types ops i k=true:=by
   intro k hk;have JC:k∈rep:=JB.symm.subset (by simp[hk]);rcases hf.1 k JC with h1|h1
   ·rw[zLo.mid l1 hl k hk] at h1;cases h1
   ·exact h1
  refine zHH l1 a w hc ?_;exact zCU (fun a' w' hh=>ih (l1++l2) a' w' JB hf.2 (zLo.drop_mid l1 hl) hh) h
theorem zNh(ops:Array Oper):∀(fuel t:Nat) (listed:Array Bool),listed.size=ops.size ->
  (Region.linearise.go .any ops fuel t listed []).Nodup/\(∀i∈Region.linearise.go .any ops fuel t listed [],i<ops.size/\listed.getD i true=false) /\
  (∀l1 i l2,Region.linearise.go .any ops fuel t listed []=l1++i::l2->∀o,ops[i]? = some o->∀e∈o.after,Region.binds .any e=true->listed.getD e.on false=true\/e.on∈l1):=by
 intro fuel
 induction fuel with
 |zero=>intro t listed _;simp[Region.linearise.go]
 |succ fuel ih =>
  intro t listed JD;simp only[Region.linearise.go];change _/\_/\_;have JI:((List.range ops.size).filter fun i=>!listed.getD i true&&((ops[i]?).map (·.after.all fun e=>!Region.binds .any e||listed.getD e.on false)).getD false)=Region.ready .any ops listed:=rfl;rw[JI];cases hi:(Region.ready .any ops listed)[t%(Region.ready .any ops listed).length]? with
  |none=>simp
  |some i =>
   simp only[];rw[linearise_go_acc,List.reverse_singleton,List.singleton_append];have JK:=List.mem_of_getElem? hi;obtain⟨JC,oi,JE,hall⟩:=mem_ready.1 JK;have JF:i<ops.size:=(Array.getElem?_eq_some_iff.1 JE).1;obtain⟨h1,h2,h3⟩:=ih (t/(Region.ready .any ops listed).length) (listed.setIfInBounds i true) (by simpa using JD);refine⟨?_,?_,?_⟩
   ·refine List.nodup_cons.2 ⟨fun hm=>?_,h1⟩;have:=(h2 i hm).2;have JA:(listed.setIfInBounds i true).getD i true=true:=by simp only[Array.getD_eq_getD_getElem?];rw[Array.getElem?_setIfInBounds];simp[JD,JF]
    rw[JA] at this;cases this
   ·intro j hj;rcases List.mem_cons.1 hj with rfl|hj
    ·exact⟨JF,JC⟩
    ·obtain⟨h4,h5⟩:=h2 j hj;refine⟨h4,?_⟩;by_cases JG:i=j
     ·subst JG;exact JC
     ·rw[getD_set_ne true JG] at h5;exact h5
   ·intro l1 k l2 he o ho e JH hb;cases l1 with
    |nil =>simp only[List.nil_append,List.cons.injEq] at he;obtain⟨rfl,_⟩:=he;have:o=oi:=Option.some.inj (ho.symm.trans JE);subst this;exact .inl (hall e JH hb)
    |cons x l1 =>
     simp only[List.cons_append,List.cons.injEq] at he;obtain⟨rfl,he⟩:=he;rcases h3 l1 k l2 he o ho e JH hb with h4|h4
     ·by_cases JB:i=e.on
      ·exact .inr (by simp[JB])
      ·rw[getD_set_ne false JB] at h4;exact .inl h4
     ·exact .inr (by simp[h4])
def zFT(ops:Array Oper):Bool :=
 (List.range ops.size).all fun j =>
  match ops[j]? with
  |none=>false
  |some o=>o.after.toList.all fun e=>!Region.binds .any e||decide (e.on<j)
theorem zFS(h:zFT ops=true){j:Nat}{o:Oper}(hj:ops[j]? = some o):∀e∈o.after,Region.binds .any e=true->e.on<j:=by
 have JA:j<ops.size:=(Array.getElem?_eq_some_iff.1 hj).1;have h1:=List.all_eq_true.1 h j (List.mem_range.2 JA);simp only[hj] at h1;intro e he hb;have:=List.all_eq_true.1 h1 e (by simpa using he);simpa[hb] using this
theorem zNi(hk:zFT ops=true):∀(fuel t:Nat) (listed:Array Bool),listed.size=ops.size->fuel<=(listed.toList.filter (fun b=>!b)).length ->
  (Region.linearise.go .any ops fuel t listed []).length=fuel:=by
 intro fuel
 induction fuel with
 |zero=>intro t listed _ _;simp[Region.linearise.go]
 |succ fuel ih =>
  intro t listed JM hf;simp only[Region.linearise.go];have JQ:((List.range ops.size).filter fun i=>!listed.getD i true&&((ops[i]?).map (·.after.all fun e=>!Region.binds .any e||listed.getD e.on false)).getD false)=Region.ready .any ops listed:=rfl;rw[JQ]
  -- the first that is not listed is ready
  have JS:Region.ready .any ops listed≠[]:=by
   have JX:∃j,j<listed.size/\listed.getD j true=false:=by
    have JB:0<(listed.toList.filter (fun b=>!b)).length:=by omega
    obtain⟨b,hb⟩:=List.exists_mem_of_length_pos JB;have JP:=List.mem_filter.1 hb;obtain⟨j,hj,JT⟩:=List.getElem_of_mem JP.1;refine⟨j,by simpa using hj,?_⟩;have:j<listed.size:=by simpa using hj
    simp[Array.getD_eq_getD_getElem?,this];have h2:listed[j]=b:=by simpa using JT
    rw[h2];simpa using JP.2
   have JC:∀n j,j<n->j<listed.size->listed.getD j true=false->Region.ready .any ops listed≠[]:=by
    intro n
    induction n with
    |zero=>intro j hj;omega
    |succ n ihn =>
     intro j hj JY JK;have JN:ops[j]? = some ops[j]:=Array.getElem?_eq_getElem (by omega);by_cases hall:∀e∈(ops[j]).after,Region.binds .any e=true->listed.getD e.on false=true
     ·intro JH;have:j∈Region.ready .any ops listed:=mem_ready.2 ⟨JK,_,JN,hall⟩;rw[JH] at this;cases this
     ·have⟨e,JA⟩:=Classical.not_forall.1 hall;have⟨he,JA⟩:=Classical.not_forall.1 JA;have⟨hb,JA⟩:=Classical.not_forall.1 JA;have JI:=zFS hk JN e he hb;refine ihn e.on (by omega) (by omega) ?_;have h0:e.on<listed.size:=by omega
      simp[Array.getD_eq_getD_getElem?,h0] at JA ⊢;exact JA
   obtain⟨j,hj,JK⟩:=JX;exact JC (j+1) j (Nat.lt_succ_self j) hj JK
  have JB:0<(Region.ready .any ops listed).length:=List.length_pos_iff.2 JS;have JI:t%(Region.ready .any ops listed).length<(Region.ready .any ops listed).length:=Nat.mod_lt _ JB;rw[List.getElem?_eq_getElem JI];simp only[];rw[linearise_go_acc,List.reverse_singleton,List.singleton_append,List.length_cons];have JO:(Region.ready .any ops listed)[t%(Region.ready .any ops listed).length]∈Region.ready .any ops listed:=List.getElem_mem JI;generalize (Region.ready .any ops listed)[t%(Region.ready .any ops listed).length]=i at JO;obtain⟨JL,oi,JR,_⟩:=mem_ready.1 JO;have JU:i<ops.size:=(Array.getElem?_eq_some_iff.1 JR).1;congr 1;refine ih _ _ (by simpa using JM) ?_;have JE:(listed.setIfInBounds i true).toList=listed.toList.set i true:=by simp
  rw[JE];have JV:i<listed.toList.length:=by simpa[JM] using JU
  have JW:listed.toList[i]=false:=by
   have:i<listed.size:=by omega
   simp[Array.getD_eq_getD_getElem?,this] at JL;simpa using JL
  have JF:=List.take_append_drop i listed.toList;have JG:listed.toList.set i true=listed.toList.take i++true::listed.toList.drop (i+1):=by rw[List.set_eq_take_append_cons_drop,if_pos JV]
  have JD:listed.toList=listed.toList.take i++listed.toList[i]::listed.toList.drop (i+1):=by rw[List.getElem_cons_drop,List.take_append_drop]
  rw[JG];rw[JD,JW] at hf;simp only[List.filter_append,List.length_append,List.filter_cons,Bool.not_false,Bool.not_true,if_true,Bool.false_eq_true,if_false,List.length_cons] at hf ⊢;omega
theorem zFy(hk:zFT ops=true)(t:Nat):∃l,Region.linearise .any ops t=l/\l.Perm (List.range ops.size) /\
  ∀l1 i l2,l=l1++i::l2->∀o,ops[i]? = some o->∀e∈o.after,Region.binds .any e=true->e.on∈l1:=by
 refine⟨_,rfl,?_,?_⟩
 ·obtain⟨h1,h2,_⟩:=zNh ops ops.size t (Array.replicate ops.size false) (by simp);have JB:=zNi hk ops.size t (Array.replicate ops.size false) (by simp) (by simp);have JA:(Region.linearise .any ops t) ⊆ List.range ops.size:=fun i hi=>List.mem_range.2 (h2 i hi).1;refine(List.perm_ext_iff_of_nodup h1 List.nodup_range).2 fun j=>⟨fun hj=>JA hj,fun hj=>?_⟩;refine Classical.byContradiction fun JC=>?_;have h3:(j::Region.linearise .any ops t).Nodup:=List.nodup_cons.2 ⟨JC,h1⟩;have h4:=h3.length_le_of_subset (l₂:=List.range ops.size) (fun x hx=>by
   rcases List.mem_cons.1 hx with rfl|hx
   ·exact hj
   ·exact JA hx)
  rw[List.length_cons,List.length_range] at h4;have h5:(Region.linearise .any ops t).length=ops.size:=JB;omega
 ·intro l1 i l2 he o ho e JD hb;rcases(zNh ops ops.size t (Array.replicate ops.size false) (by simp)).2.2 l1 i l2 he o ho e JD hb with h|h
  ·rw[getD_replicate_false'] at h;cases h
  ·exact h
 where
 getD_replicate_false' {m j:Nat}:(Array.replicate m false).getD j false=false:=by
  rcases Nat.lt_or_ge j m with h|h
  ·simp[h]
  ·simp[h]
def zCQ(l:List Nat)(i j:Nat):Prop:=∃l1 l2,l=l1++j::l2/\i∈l1
theorem zAD{j:Nat}:∀{l1 l2 r1 r2:List Nat},(l1++j::l2).Nodup->l1++j::l2=r1++j::r2->l1=r1/\l2=r2
 |[],l2,[],r2,_,h=>by simpa using h
 |[],l2,x::r1,r2,hn,h=>by simp only[List.nil_append,List.cons_append,List.cons.injEq] at h;obtain⟨rfl,rfl⟩:=h;exact absurd (by simp) (List.nodup_cons.1 hn).1
 |x::l1,l2,[],r2,hn,h=>by simp only[List.nil_append,List.cons_append,List.cons.injEq] at h;obtain⟨rfl,_⟩:=h;rw[List.cons_append] at hn;exact absurd (by simp) (List.nodup_cons.1 hn).1
 |x::l1,l2,y::r1,r2,hn,h=>by simp only[List.cons_append,List.cons.injEq] at h;obtain⟨rfl,h⟩:=h;rw[List.cons_append] at hn;obtain⟨rfl,rfl⟩:=zAD (List.nodup_cons.1 hn).2 h;exact⟨rfl,rfl⟩
theorem zCQ.trans{l:List Nat}(hn:l.Nodup){a b c:Nat}(h:zCQ l a b)(k:zCQ l b c):zCQ l a c:=by
 obtain⟨l1,l2,rfl,ha⟩:=h;obtain⟨r1,r2,he,hb⟩:=k;obtain⟨s1,s2,rfl⟩:=List.append_of_mem hb;have JA:l1++b::l2=s1++b::(s2++c::r2):=by rw[he];simp
 obtain⟨rfl,rfl⟩:=zAD hn JA;exact⟨l1++b::s2,r2,by simp,by simp[ha]⟩
theorem zOd{l:List Nat}(hn:l.Nodup){i j:Nat}(hi:i∈l)(hj:j∈l)(JA:i≠j):zCQ l i j\/zCQ l j i:=by
 obtain⟨l1,l2,rfl⟩:=List.append_of_mem hj;rcases List.mem_append.1 hi with h|h
 ·exact .inl ⟨l1,l2,rfl,h⟩
 ·rcases List.mem_cons.1 h with h|h
  ·exact absurd h JA
  ·obtain⟨s1,s2,rfl⟩:=List.append_of_mem h;exact .inr ⟨l1++j::s1,s2,by simp,by simp⟩
def zFa(D:List Nat)(n:Nat)(l:List Nat):Prop:=∀j,j<n->∀i,i<n->(D.getD j 0).testBit i=true->zCQ l i j
theorem zDE{D:List Nat}{n:Nat}{l:List Nat}(hn:l.Nodup)(JA:∀i∈l,i<n)(h:zFa D n l):zLo D l:=by
 have key:∀(l2 l1:List Nat),l=l1++l2->zLo D l2:=by
  intro l2
  induction l2 with
  |nil=>intro _ _;trivial
  |cons i l2 ih =>
   intro l1 he;refine⟨fun k hk=>?_,ih (l1++[i]) (by rw[he];simp)⟩;cases hb:(D.getD i 0).testBit k with
   |false=>rfl
   |true =>obtain⟨r1,r2,JC,JB⟩:=h i (JA i (by rw[he];simp)) k (JA k (by rw[he];simp[hk])) hb;rw[he] at hn;obtain⟨rfl,rfl⟩:=zAD hn (he.symm.trans JC);have h1:=(List.nodup_append.1 hn).2.2 k JB k (by simp[hk]);exact absurd rfl h1
 exact key l [] rfl
def zKP(n:Nat)(D:List Nat)(i j:Nat):List Nat :=
 (List.range n).map fun x=>if x==j||(D.getD x 0).testBit j then D.getD x 0 ||| (2^i ||| D.getD i 0) else D.getD x 0
theorem zD0{D:List Nat}{n:Nat}{l:List Nat}(hn:l.Nodup){i j:Nat}(hi:i<n)(hj:j<n)(h:zFa D n l)(hb:zCQ l i j):zFa (zKP n D i j) n l:=by
 intro x hx y hy JA;unfold zKP at JA;rw[List.getD_eq_getElem?_getD,List.getElem?_map,List.getElem?_range hx] at JA;simp only[Option.map_some,Option.getD_some] at JA;split at JA
 ·rename_i hc;simp only[Bool.or_eq_true,beq_iff_eq] at hc;simp only[Nat.testBit_or,Nat.testBit_two_pow,Bool.or_eq_true,decide_eq_true_eq] at JA;have JB:zCQ l i x:=by
   rcases hc with rfl|hc
   ·exact hb
   ·exact hb.trans hn (h x hx j hj hc)
  rcases JA with h1|rfl|h1
  ·exact h x hx y hy h1
  ·exact JB
  ·exact(h i hi y hy h1).trans hn JB
 ·exact h x hx y hy JA
def zFR(types:Array TypeInfo)(ops:Array Oper)(D:List Nat):List Nat->Option (Nat×Nat)
 |[]=>none
 |i::l=>match l.find? fun k=>!(D.getD k 0).testBit i && !zGH types ops i k with
  |some k=>some (i,k)
  |none=>zFR types ops D l
theorem zBO{D:List Nat}:∀{l:List Nat},zFR types ops D l=none->Free types ops D l
 |[],_=>trivial
 |i::l,h=>by
  unfold zFR at h;split at h
  ·cases h
  ·rename_i hf;refine⟨fun k hk=>?_,zBO h⟩;have:=List.find?_eq_none.1 hf k hk;simp only[Bool.and_eq_true,Bool.not_eq_true',not_and,Bool.not_eq_false] at this;cases hb:(D.getD k 0).testBit i with
   |true=>exact .inl rfl
   |false=>exact .inr (this hb)
def zJY(types:Array TypeInfo)(ops:Array Oper)(D:List Nat)(done:List Nat)(quick:Bool):Option Nat :=
 (List.range ops.size).find? fun i=>!done.contains i&&(!quick||decide (cls types (ops.getD i default).op<2)) &&
  (List.range ops.size).all fun k=>!(D.getD i 0).testBit k||done.contains k
def topo(types:Array TypeInfo)(ops:Array Oper)(D:List Nat):Nat->List Nat->List Nat
 |0,done=>done.reverse
 |f+1,done=>match zJY types ops D done true with
  |some i=>topo types ops D f (i::done)
  |none=>match zJY types ops D done false with
   |some i=>topo types ops D f (i::done)
   |none=>done.reverse
def zHd(types:Array TypeInfo)(ops:Array Oper):Nat->List Nat->Option (List (List Nat))
 |0,_=>none
 |f+1,D =>
  let text:=List.range ops.size
  match zFR types ops D text with
  |none=>some [text]
  |some _ =>
  let rep:=topo types ops D ops.size []
  match zFR types ops D rep with
  |none=>if rep.isPerm (List.range ops.size) then some [rep] else none
  |some (i,k)=>if i<ops.size/\k<ops.size/\i≠k then match zHd types ops f (zKP ops.size D i k),zHd types ops f (zKP ops.size D k i) with
   |some a,some b=>some (a++b)
   |_,_=>none
   else none
theorem zLC{Q:Act->World->Prop}{a:Act}{w:World}:∀(f:Nat) (D:List Nat) (reps:List (List Nat)),zHd types ops f D=some reps->(∀rep∈reps,wpN P types ops Q rep a w) ->
  ∀l:List Nat,l.Perm (List.range ops.size)->zFa D ops.size l->wpN P types ops Q l a w:=by
 intro f
 induction f with
 |zero=>intro D reps h;cases h
 |succ f ih =>
  intro D reps h hall l hl hD;have JD:l.Nodup:=hl.symm.nodup List.nodup_range;have JE:∀i∈l,i<ops.size:=fun i hi=>List.mem_range.1 (hl.subset hi);simp only[zHd] at h;split at h
  ·rename_i JA;simp only[Option.some.injEq] at h;subst h;exact zFu _ l a w hl.symm (zBO JA) (zDE JD JE hD) (hall _ (by simp))
  ·split at h
   ·rename_i JA;split at h
    ·rename_i JC;simp only[Option.some.injEq] at h;subst h;exact zFu _ l a w ((List.isPerm_iff.1 JC).trans hl.symm) (zBO JA) (zDE JD JE hD) (hall _ (by simp))
    ·cases h
   ·rename_i i k JA;split at h
    ·rename_i JB;split at h
     ·rename_i ra rb ha hb;simp only[Option.some.injEq] at h;subst h;have JG:i∈l:=hl.symm.subset (List.mem_range.2 JB.1);have JF:k∈l:=hl.symm.subset (List.mem_range.2 JB.2.1);rcases zOd JD JG JF JB.2.2 with h1|h1
      ·exact ih _ _ ha (fun rep hr=>hall rep (by simp[hr])) l hl (zD0 JD JB.1 JB.2.1 hD h1)
      ·exact ih _ _ hb (fun rep hr=>hall rep (by simp[hr])) l hl (zD0 JD JB.2.1 JB.1 hD h1)
     ·cases h
    ·cases h
def zIB(ops:Array Oper)(cert:List Nat):Bool :=
 (List.range ops.size).all fun j =>
  match ops[j]? with
  |none=>false
  |some o=>(List.range ops.size).all fun i=>!(cert.getD j 0).testBit i ||
    o.after.toList.any fun e=>Region.binds .any e&&(e.on==i||(cert.getD e.on 0).testBit i)
theorem zJF{cert:List Nat}(h:zIB ops cert=true){j:Nat}{o:Oper}(hj:ops[j]? = some o) :
  ∀i,i<ops.size->(cert.getD j 0).testBit i=true->∃e∈o.after,Region.binds .any e=true/\(e.on=i\/(cert.getD e.on 0).testBit i=true):=by
 have JA:j<ops.size:=(Array.getElem?_eq_some_iff.1 hj).1;have h1:=List.all_eq_true.1 h j (List.mem_range.2 JA);simp only[hj] at h1;intro i hi ht;have:=List.all_eq_true.1 h1 i (List.mem_range.2 hi);simp only[ht,Bool.not_true,Bool.false_or] at this;obtain⟨e,he,hb⟩:=List.any_eq_true.1 this;simp only[Bool.and_eq_true,Bool.or_eq_true,beq_iff_eq] at hb;exact⟨e,by simpa using he,hb.1,hb.2⟩
theorem zGB{cert:List Nat}(hb:zFT ops=true)(hc:zIB ops cert=true){l:List Nat}(hl:l.Perm (List.range ops.size))
  (he:∀l1 i l2,l=l1++i::l2->∀o,ops[i]? = some o->∀e∈o.after,Region.binds .any e=true->e.on∈l1):zFa cert ops.size l:=by
 have JG:l.Nodup:=hl.symm.nodup List.nodup_range;have key:∀n j,j<n->j<ops.size->∀i,i<ops.size->(cert.getD j 0).testBit i=true->zCQ l i j:=by
  intro n
  induction n with
  |zero=>intro j hj;omega
  |succ n ih =>
   intro j hj JD i hi JC;have JB:ops[j]? = some ops[j]:=Array.getElem?_eq_getElem JD;obtain⟨l1,l2,JA⟩:=List.append_of_mem (hl.symm.subset (List.mem_range.2 JD));obtain⟨e,JE,JF,h⟩:=zJF hc JB i hi JC;have h1:=he l1 j l2 JA _ JB e JE JF;have h2:zCQ l e.on j:=⟨l1,l2,JA,h1⟩;rcases h with rfl|h
   ·exact h2
   ·have JH:=zFS hb JB e JE JF;exact(ih e.on (by omega) (by omega) i hi h).trans JG h2
 exact fun j hj=>key (j+1) j (Nat.lt_succ_self j) hj
def zDx(ops:Array Oper):List Nat :=
 ops.toList.foldl (fun acc o=>acc++[o.after.toList.foldl (fun s e=>if Region.binds .any e then s ||| 2^e.on ||| acc.getD e.on 0 else s) 0]) []
def zEG(types:Array TypeInfo)(ops:Array Oper):Option (List (List Nat)) :=
 if zFT ops&&zIB ops (zDx ops) then zHd types ops 12 (zDx ops) else none
theorem zD4{id:Nat}{Q:Exit->Act->World->Prop}{a:Act}{w:World}{reps:List (List Nat)}(hm:P.follows .mixedOrders=true)(ho:zEG types ops=some reps)
  (h:∀rep∈reps,wpN P types ops (fun a' w'=>Q .normal a' w') rep a { w with drawn:=w.drawn+1 }):(Code.region id ops true).wp P Q a w:=by
 unfold zEG at ho;split at ho
 ·rename_i JA;simp only[Bool.and_eq_true] at JA;refine wp_region_draw fun t=>?_;simp only[Region.schedule,hm,Bool.true_or,if_true];obtain⟨l,hl,hp,he⟩:=zFy JA.1 t;rw[hl];exact zCR _ _ _ (zLC 12 _ _ ho h l hp (zGB JA.1 JA.2 hp he))
 ·cases ho
theorem zFh{id:Nat}{Q:Exit->Act->World->Prop}{a:Act}{w:World}
  (h:wpN P types ops (fun a' w'=>Q .normal a' w') (List.range ops.size) a w):(Code.region id ops false).wp P Q a w :=
 wp_region (zCR _ _ _ h)
end
end
end Go.W
