/-
  A part of the proof of this claim's statement (BdPlain, BdOps, BdAp): plain theorems; no conditions beyond those each names.
-/
section
set_option linter.unusedVariables false
set_option linter.unusedSimpArgs false
namespace Go.Bd
structure Nd where
 v:Nat
 low:Nat
 high:Nat
 deriving DecidableEq,Inhabited
abbrev Ns:=List Nd
def at_ (n:Nat) (ns:Ns) (f:Nat):Nd:=if f < 2 then ⟨n,f,f⟩ else ns.getD (f - 2) default
def tv (n:Nat) (ns:Ns) (f:Nat):Nat:=(at_ n ns f).v
def Ref (ns:Ns) (f:Nat):Prop:=f < ns.length+2
structure Wf (n:Nat) (ns:Ns):Prop where
 var:∀ k (h:k < ns.length),ns[k].v < n
 ne:∀ k (h:k < ns.length),ns[k].low≠ns[k].high
 low:∀ k (h:k < ns.length),ns[k].low < k+2
 high:∀ k (h:k < ns.length),ns[k].high < k+2
 ordl:∀ k (h:k < ns.length),ns[k].v < tv n ns ns[k].low
 ordh:∀ k (h:k < ns.length),ns[k].v < tv n ns ns[k].high
 nodup:ns.Nodup
theorem Wf.nil (n:Nat):Wf n []:=⟨by simp,by simp,by simp,by simp,by simp,by simp,by simp⟩
theorem at_lt {n:Nat} {ns:Ns} {f:Nat} (h:f < 2):at_ n ns f=⟨n,f,f⟩:=by simp [at_,h]
theorem at_ge {n:Nat} {ns:Ns} {f:Nat} (h:2≤f) (hf:Ref ns f):at_ n ns f=ns[f - 2]'(by unfold Ref at hf; omega):=by
 have h2:¬ f < 2:=by omega
 simp only [at_,h2,if_false]
 unfold Ref at hf
 have:f - 2 < ns.length:=by omega
 simp [List.getD,List.getElem?_eq_getElem this]
def eval (ns:Ns) (a:Nat→Bool) (f:Nat):Bool :=
 if h:f < 2 then decide (f=1) else
  let d:=ns.getD (f - 2) default
  if hl:d.low < f∧d.high < f then (if a d.v then eval ns a d.high else eval ns a d.low) else false
 termination_by f
 decreasing_by
 ·exact hl.2
 ·exact hl.1
theorem eval_zero (ns:Ns) (a:Nat→Bool):eval ns a 0=false:=by unfold eval; simp
theorem eval_one (ns:Ns) (a:Nat→Bool):eval ns a 1=true:=by unfold eval; simp
section
variable {n:Nat} {ns:Ns}
theorem Wf.lt_low (w:Wf n ns) {f:Nat} (h:2≤f) (hf:Ref ns f):(at_ n ns f).low < f:=by
 have hk:f - 2 < ns.length:=by unfold Ref at hf; omega
 rw [at_ge h hf]
 have:=w.low (f - 2) hk; omega
theorem Wf.lt_high (w:Wf n ns) {f:Nat} (h:2≤f) (hf:Ref ns f):(at_ n ns f).high < f:=by
 have hk:f - 2 < ns.length:=by unfold Ref at hf; omega
 rw [at_ge h hf]
 have:=w.high (f - 2) hk; omega
theorem eval_node (w:Wf n ns) (a:Nat→Bool) {f:Nat} (h:2≤f) (hf:Ref ns f):eval ns a f=if a (at_ n ns f).v then eval ns a (at_ n ns f).high else eval ns a (at_ n ns f).low:=by
 have h1:=w.lt_low h hf
 have h2:=w.lt_high h hf
 have hk:¬ f < 2:=by omega
 have e:at_ n ns f=ns.getD (f - 2) default:=by simp [at_,hk]
 rw [e] at h1 h2 ⊢
 conv=>lhs; unfold eval
 rw [dif_neg hk]
 simp only
 rw [dif_pos ⟨h1,h2⟩]
theorem Wf.ref_low (w:Wf n ns) {f:Nat} (hf:Ref ns f):Ref ns (at_ n ns f).low:=by
 rcases Nat.lt_or_ge f 2 with h | h
 ·rw [at_lt h]; exact hf
 ·have:=w.lt_low h hf; unfold Ref at *; omega
theorem Wf.ref_high (w:Wf n ns) {f:Nat} (hf:Ref ns f):Ref ns (at_ n ns f).high:=by
 rcases Nat.lt_or_ge f 2 with h | h
 ·rw [at_lt h]; exact hf
 ·have:=w.lt_high h hf; unfold Ref at *; omega
theorem tv_lt {f:Nat} (h:f < 2):tv n ns f=n:=by simp [tv,at_lt h]
theorem Wf.tv_var (w:Wf n ns) {f:Nat} (h:2≤f) (hf:Ref ns f):tv n ns f < n:=by
 rw [tv,at_ge h hf]; exact w.var _ _
theorem Wf.tv_le (w:Wf n ns) {f:Nat} (hf:Ref ns f):tv n ns f≤n:=by
 rcases Nat.lt_or_ge f 2 with h | h
 ·rw [tv_lt h]; exact Nat.le_refl _
 ·exact Nat.le_of_lt (w.tv_var h hf)
theorem Wf.tv_low (w:Wf n ns) {f:Nat} (h:2≤f) (hf:Ref ns f):tv n ns f < tv n ns (at_ n ns f).low:=by
 rw [tv,at_ge h hf]; exact w.ordl _ _
theorem Wf.tv_high (w:Wf n ns) {f:Nat} (h:2≤f) (hf:Ref ns f):tv n ns f < tv n ns (at_ n ns f).high:=by
 rw [tv,at_ge h hf]; exact w.ordh _ _
theorem eval_congr (w:Wf n ns) {a b:Nat→Bool}:∀ {f:Nat},Ref ns f→(∀ i,tv n ns f≤i→a i=b i)→eval ns a f=eval ns b f:=by
 intro f
 induction f using Nat.strongRecOn with
 | ind f ih =>
  intro hf hab
  rcases Nat.lt_or_ge f 2 with h | h
  ·have:f=0∨f=1:=by omega
   rcases this with rfl | rfl
   ·rw [eval_zero,eval_zero]
   ·rw [eval_one,eval_one]
  ·rw [eval_node w a h hf,eval_node w b h hf,hab (at_ n ns f).v (Nat.le_refl _)]
   have hl:=w.tv_low h hf
   have hh:=w.tv_high h hf
   rw [ih _ (w.lt_high h hf) (w.ref_high hf) (fun i hi=>hab i (by omega)),ih _ (w.lt_low h hf) (w.ref_low hf) (fun i hi=>hab i (by omega))]
def upd (a:Nat→Bool) (v:Nat) (x:Bool):Nat→Bool:=fun i=>if i=v then x else a i
@[simp] theorem upd_same (a:Nat→Bool) (v:Nat) (x:Bool):upd a v x v=x:=by simp [upd]
theorem upd_ne {a:Nat→Bool} {v i:Nat} {x:Bool} (h:i≠v):upd a v x i=a i:=by simp [upd,h]
theorem eval_upd (w:Wf n ns) {a:Nat→Bool} {f v:Nat} {x:Bool} (hf:Ref ns f) (h:v < tv n ns f):eval ns (upd a v x) f=eval ns a f :=
 eval_congr w hf fun i hi=>upd_ne (by omega)
theorem eval_low (w:Wf n ns) {a:Nat→Bool} {f:Nat} (h:2≤f) (hf:Ref ns f):eval ns (upd a (tv n ns f) false) f=eval ns a (at_ n ns f).low:=by
 rw [eval_node w _ h hf]
 rw [show (at_ n ns f).v=tv n ns f from rfl,upd_same]
 simp only [Bool.false_eq_true,if_false]
 exact eval_upd w (w.ref_low hf) (w.tv_low h hf)
theorem eval_high (w:Wf n ns) {a:Nat→Bool} {f:Nat} (h:2≤f) (hf:Ref ns f):eval ns (upd a (tv n ns f) true) f=eval ns a (at_ n ns f).high:=by
 rw [eval_node w _ h hf]
 rw [show (at_ n ns f).v=tv n ns f from rfl,upd_same]
 simp only [if_true]
 exact eval_upd w (w.ref_high hf) (w.tv_high h hf)
theorem canon_aux (w:Wf n ns):∀ (s f g:Nat),f < s→g < s→Ref ns f→Ref ns g→(∀ a,eval ns a f=eval ns a g)→f=g:=by
 intro s
 induction s with
 | zero=>intro f g h; omega
 | succ s ih =>
  have key:∀ f g,f < s+1→Ref ns f→Ref ns g→(∀ a,eval ns a f=eval ns a g)→2≤f→tv n ns f < tv n ns g→False:=by
   intro f g hs hf hg he h hlt
   have hne:(at_ n ns f).low≠(at_ n ns f).high:=by rw [at_ge h hf]; exact w.ne _ _
   apply hne
   have h1:=w.lt_low h hf
   have h2:=w.lt_high h hf
   refine ih _ _ (by omega) (by omega) (w.ref_low hf) (w.ref_high hf) fun a=>?_
   rw [← eval_low w h hf,← eval_high w h hf,he,he,eval_upd w hg hlt,eval_upd w hg hlt]
  intro f g hfs hgs hf hg he
  rcases Nat.lt_or_ge f 2 with h | h
  ·rcases Nat.lt_or_ge g 2 with h' | h'
   ·have e:=he (fun _=>false)
    have h1:f=0∨f=1:=by omega
    have h2:g=0∨g=1:=by omega
    rcases h1 with rfl | rfl <;> rcases h2 with rfl | rfl <;> simp [eval_zero,eval_one] at e ⊢
   ·exact absurd (key g f hgs hg hf (fun a=>(he a).symm) h' (by rw [tv_lt h]; exact w.tv_var h' hg)) id
  ·rcases Nat.lt_or_ge g 2 with h' | h'
   ·exact absurd (key f g hfs hf hg he h (by rw [tv_lt h']; exact w.tv_var h hf)) id
   ·rcases Nat.lt_trichotomy (tv n ns f) (tv n ns g) with h3 | h3 | h3
    ·exact absurd (key f g hfs hf hg he h h3) id
    ·have h1:=w.lt_low h hf
     have h2:=w.lt_high h hf
     have h1':=w.lt_low h' hg
     have h2':=w.lt_high h' hg
     have el:(at_ n ns f).low=(at_ n ns g).low:=ih _ _ (by omega) (by omega) (w.ref_low hf) (w.ref_low hg) fun a=>by
      rw [← eval_low w h hf,← eval_low w h' hg,he,h3]
     have eh:(at_ n ns f).high=(at_ n ns g).high:=ih _ _ (by omega) (by omega) (w.ref_high hf) (w.ref_high hg) fun a=>by
      rw [← eval_high w h hf,← eval_high w h' hg,he,h3]
     have ev:(at_ n ns f).v=(at_ n ns g).v:=h3
     have e:at_ n ns f=at_ n ns g:=by
      cases hx:at_ n ns f; cases hy:at_ n ns g
      rw [hx,hy] at el eh ev
      simp at el eh ev
      simp [el,eh,ev]
     rw [at_ge h hf,at_ge h' hg] at e
     have:=(List.getElem_inj w.nodup).1 e
     omega
    ·exact absurd (key g f hgs hg hf (fun a=>(he a).symm) h' h3) id
theorem canon (w:Wf n ns) {f g:Nat} (hf:Ref ns f) (hg:Ref ns g) (he:∀ a,eval ns a f=eval ns a g):f=g :=
 canon_aux w (f+g+1) f g (by omega) (by omega) hf hg he
theorem dep_top (w:Wf n ns) {f:Nat} (h:2≤f) (hf:Ref ns f):∃ a,eval ns (upd a (tv n ns f) false) f≠eval ns (upd a (tv n ns f) true) f:=by
 rcases Classical.em (∃ a,eval ns (upd a (tv n ns f) false) f≠eval ns (upd a (tv n ns f) true) f) with h1 | h1
 ·exact h1
 exfalso
 have hne:(at_ n ns f).low≠(at_ n ns f).high:=by rw [at_ge h hf]; exact w.ne _ _
 refine hne (canon w (w.ref_low hf) (w.ref_high hf) fun a=>?_)
 rw [← eval_low w h hf,← eval_high w h hf]
 rcases Classical.em (eval ns (upd a (tv n ns f) false) f=eval ns (upd a (tv n ns f) true) f) with h2 | h2
 ·exact h2
 ·exact absurd ⟨a,h2⟩ h1
theorem tv_ge (w:Wf n ns) {f v:Nat} (hf:Ref ns f) (hv:v≤n) (hd:∀ a b:Nat→Bool,(∀ i,v≤i→a i=b i)→eval ns a f=eval ns b f):v≤tv n ns f:=by
 rcases Nat.lt_or_ge f 2 with h | h
 ·rw [tv_lt h]; exact hv
 rcases Nat.lt_or_ge (tv n ns f) v with h1 | h1
 ·obtain ⟨a,ha⟩:=dep_top w h hf
  exact absurd (hd _ _ fun i hi=>by rw [upd_ne (by omega),upd_ne (by omega)]) ha
 ·exact h1
theorem at_app {ms:Ns} {f:Nat} (hf:Ref ns f):at_ n (ns ++ ms) f=at_ n ns f:=by
 rcases Nat.lt_or_ge f 2 with h | h
 ·rw [at_lt h,at_lt h]
 ·have hf':Ref (ns ++ ms) f:=by unfold Ref at *; simp; omega
  rw [at_ge h hf,at_ge h hf',List.getElem_append_left]
theorem tv_app {ms:Ns} {f:Nat} (hf:Ref ns f):tv n (ns ++ ms) f=tv n ns f:=by rw [tv,tv,at_app hf]
theorem Ref.app {ms:Ns} {f:Nat} (hf:Ref ns f):Ref (ns ++ ms) f:=by unfold Ref at *; simp; omega
theorem eval_app {ms:Ns} (w:Wf n ns) (w':Wf n (ns ++ ms)) (a:Nat→Bool):∀ {f:Nat},Ref ns f→eval (ns ++ ms) a f=eval ns a f:=by
 intro f
 induction f using Nat.strongRecOn with
 | ind f ih =>
  intro hf
  rcases Nat.lt_or_ge f 2 with h | h
  ·have:f=0∨f=1:=by omega
   rcases this with rfl | rfl
   ·rw [eval_zero,eval_zero]
   ·rw [eval_one,eval_one]
  ·rw [eval_node w a h hf,eval_node w' a h hf.app,at_app hf,ih _ (w.lt_high h hf) (w.ref_high hf),ih _ (w.lt_low h hf) (w.ref_low hf)]
end
structure Ext (n:Nat) (ns ns':Ns):Prop where
 pre:∃ ms,ns'=ns ++ ms
 wf:Wf n ns'
section
variable {n:Nat} {ns ns' ns2:Ns}
theorem Ext.refl (w:Wf n ns):Ext n ns ns:=⟨⟨[],by simp⟩,w⟩
theorem Ext.trans (h:Ext n ns ns') (k:Ext n ns' ns2):Ext n ns ns2:=by
 obtain ⟨⟨ms,rfl⟩,_⟩:=h
 obtain ⟨⟨ms',rfl⟩,w⟩:=k
 exact ⟨⟨ms ++ ms',by simp⟩,w⟩
theorem Ext.ref (h:Ext n ns ns') {f:Nat} (hf:Ref ns f):Ref ns' f:=by
 obtain ⟨⟨ms,rfl⟩,_⟩:=h; exact hf.app
theorem Ext.eval (h:Ext n ns ns') (w:Wf n ns) (a:Nat→Bool) {f:Nat} (hf:Ref ns f):Bd.eval ns' a f=Bd.eval ns a f:=by
 obtain ⟨⟨ms,rfl⟩,w'⟩:=h; exact eval_app w w' a hf
theorem Ext.at (h:Ext n ns ns') {f:Nat} (hf:Ref ns f):at_ n ns' f=at_ n ns f:=by
 obtain ⟨⟨ms,rfl⟩,_⟩:=h; exact at_app hf
theorem Ext.tv (h:Ext n ns ns') {f:Nat} (hf:Ref ns f):Bd.tv n ns' f=Bd.tv n ns f:=by
 obtain ⟨⟨ms,rfl⟩,_⟩:=h; exact tv_app hf
theorem Wf.snoc (w:Wf n ns) {v l h:Nat} (hv:v < n) (hne:l≠h) (hl:Ref ns l) (hh:Ref ns h) (ol:v < Bd.tv n ns l) (oh:v < Bd.tv n ns h) (hx:(⟨v,l,h⟩:Nd) ∉ ns):Wf n (ns ++ [⟨v,l,h⟩]):=by
 have split:∀ k (hk:k < (ns ++ [(⟨v,l,h⟩:Nd)]).length),(∃ hk':k < ns.length,(ns ++ [(⟨v,l,h⟩:Nd)])[k]=ns[k])∨(k=ns.length∧(ns ++ [(⟨v,l,h⟩:Nd)])[k]=⟨v,l,h⟩):=by
  intro k hk
  rcases Nat.lt_or_ge k ns.length with h1 | h1
  ·exact .inl ⟨h1,by rw [List.getElem_append_left]⟩
  ·have:k=ns.length:=by simp at hk; omega
   subst this
   exact .inr ⟨rfl,by simp⟩
 have rl:∀ k (hk:k < ns.length),Ref ns ns[k].low:=fun k hk=>by have:=w.low k hk; unfold Ref; omega
 have rh:∀ k (hk:k < ns.length),Ref ns ns[k].high:=fun k hk=>by have:=w.high k hk; unfold Ref; omega
 refine ⟨?_,?_,?_,?_,?_,?_,?_⟩
 ·intro k hk
  rcases split k hk with ⟨hk',e⟩ | ⟨_,e⟩ <;> rw [e]
  ·exact w.var k hk'
  ·exact hv
 ·intro k hk
  rcases split k hk with ⟨hk',e⟩ | ⟨_,e⟩ <;> rw [e]
  ·exact w.ne k hk'
  ·exact hne
 ·intro k hk
  rcases split k hk with ⟨hk',e⟩ | ⟨rfl,e⟩ <;> rw [e]
  ·exact w.low k hk'
  ·exact hl
 ·intro k hk
  rcases split k hk with ⟨hk',e⟩ | ⟨rfl,e⟩ <;> rw [e]
  ·exact w.high k hk'
  ·exact hh
 ·intro k hk
  rcases split k hk with ⟨hk',e⟩ | ⟨_,e⟩ <;> rw [e]
  ·rw [tv_app (rl k hk')]; exact w.ordl k hk'
  ·rw [tv_app hl]; exact ol
 ·intro k hk
  rcases split k hk with ⟨hk',e⟩ | ⟨_,e⟩ <;> rw [e]
  ·rw [tv_app (rh k hk')]; exact w.ordh k hk'
  ·rw [tv_app hh]; exact oh
 ·rw [List.nodup_append]
  refine ⟨w.nodup,by simp,fun a ha b hb=>?_⟩
  simp at hb
  subst hb
  exact fun e=>hx (e ▸ ha)
end
end Go.Bd
end
section
set_option linter.unusedVariables false
set_option linter.unusedSimpArgs false
namespace Go.Bd
def opB (op:Nat) (x y:Bool):Bool:=if op=0 then x && y else if op=1 then x || y else x != y
theorem opB_comm (op:Nat) (x y:Bool):opB op x y=opB op y x:=by
 unfold opB; split
 ·cases x <;> cases y <;> rfl
 ·split <;> cases x <;> cases y <;> rfl
def sh (op f g:Nat):Nat × Bool :=
 if op=0 then (if f=0∨g=0 then (0,true) else if f=1∨f=g then (g,true) else (f,decide (g=1)))
 else if op=1 then (if f=1∨g=1 then (1,true) else if f=0∨f=g then (g,true) else (f,decide (g=0)))
 else if f=g then (0,true) else if f=0 then (g,true) else (f,decide (g=0))
def lo (n:Nat) (ns:Ns) (v x:Nat):Nat:=if v < tv n ns x then x else (at_ n ns x).low
def hi (n:Nat) (ns:Ns) (v x:Nat):Nat:=if v < tv n ns x then x else (at_ n ns x).high
theorem Ref.zero (ns:Ns):Ref ns 0:=by unfold Ref; omega
theorem Ref.one (ns:Ns):Ref ns 1:=by unfold Ref; omega
section
variable {n:Nat} {ns:Ns}
theorem sh_ok {op f g r:Nat} (h:sh op f g=(r,true)) (hf:Ref ns f) (hg:Ref ns g):Ref ns r∧∀ a,eval ns a r=opB op (eval ns a f) (eval ns a g):=by
 unfold sh at h
 unfold opB
 split at h
 ·rename_i h0
  simp only [h0,if_true]
  split at h
  ·rename_i h1
   cases h
   refine ⟨Ref.zero ns,fun a=>?_⟩
   rcases h1 with rfl | rfl <;> simp [eval_zero]
  ·split at h
   ·rename_i h1
    cases h
    refine ⟨hg,fun a=>?_⟩
    rcases h1 with rfl | rfl <;> simp [eval_one]
   ·simp only [Prod.mk.injEq,decide_eq_true_eq] at h
    obtain ⟨rfl,rfl⟩:=h
    exact ⟨hf,fun a=>by simp [eval_one]⟩
 ·rename_i h0
  simp only [h0,if_false]
  split at h
  ·rename_i h1
   simp only [h1,if_true]
   split at h
   ·rename_i h1
    cases h
    refine ⟨Ref.one ns,fun a=>?_⟩
    rcases h1 with rfl | rfl <;> simp [eval_one]
   ·split at h
    ·rename_i h1
     cases h
     refine ⟨hg,fun a=>?_⟩
     rcases h1 with rfl | rfl <;> simp [eval_zero]
    ·simp only [Prod.mk.injEq,decide_eq_true_eq] at h
     obtain ⟨rfl,rfl⟩:=h
     exact ⟨hf,fun a=>by simp [eval_zero]⟩
  ·rename_i h1
   simp only [h1,if_false]
   split at h
   ·rename_i h1
    cases h
    subst h1
    exact ⟨Ref.zero ns,fun a=>by simp [eval_zero]⟩
   ·split at h
    ·rename_i h1
     cases h
     subst h1
     exact ⟨hg,fun a=>by simp [eval_zero]⟩
    ·simp only [Prod.mk.injEq,decide_eq_true_eq] at h
     obtain ⟨rfl,rfl⟩:=h
     exact ⟨hf,fun a=>by simp [eval_zero]⟩
theorem sh_no {op f g r:Nat} (h:sh op f g=(r,false)) (hfg:f≤g):2≤g:=by
 unfold sh at h
 split at h
 ·split at h
  ·cases h
  ·split at h
   ·cases h
   ·have:¬ g=1:=by simpa using congrArg Prod.snd h
    omega
 ·split at h
  ·split at h
   ·cases h
   ·split at h
    ·cases h
    ·have:¬ g=0:=by simpa using congrArg Prod.snd h
     omega
  ·split at h
   ·cases h
   ·split at h
    ·cases h
    ·have:¬ g=0:=by simpa using congrArg Prod.snd h
     omega
theorem const_of_top (w:Wf n ns) {f:Nat} (hf:Ref ns f) (h:n≤tv n ns f):f < 2:=by
 rcases Nat.lt_or_ge f 2 with h1 | h1
 ·exact h1
 ·have:=w.tv_var h1 hf; omega
structure Cof (n:Nat) (ns:Ns) (v x l h:Nat):Prop where
 rl:Ref ns l
 rh:Ref ns h
 tl:v < tv n ns l
 th:v < tv n ns h
 ev:∀ a,eval ns a x=if a v then eval ns a h else eval ns a l
theorem cof_of (w:Wf n ns) {v x:Nat} (hx:Ref ns x) (hv:v≤tv n ns x) (hn:v < n):Cof n ns v x (lo n ns v x) (hi n ns v x):=by
 unfold lo hi
 by_cases h:v < tv n ns x
 ·simp only [h,if_true]
  exact ⟨hx,hx,h,h,fun a=>by split <;> rfl⟩
 ·simp only [h,if_false]
  have e:v=tv n ns x:=by omega
  have h2:2≤x:=by
   rcases Nat.lt_or_ge x 2 with h1 | h1
   ·rw [tv_lt h1] at e; omega
   ·exact h1
  exact ⟨w.ref_low hx,w.ref_high hx,by rw [e]; exact w.tv_low h2 hx,by rw [e]; exact w.tv_high h2 hx,fun a=>by rw [e]; exact eval_node w a h2 hx⟩
end
def mkF (lim:Nat) (ns:Ns) (v l h:Nat):Option Nat × Ns :=
 if l=h then (some l,ns) else
 match ns.findIdx? fun d=>decide (d=⟨v,l,h⟩) with
 | some k=>(some (k+2),ns)
 | none=>if lim≤ns.length then (none,ns) else (some (ns.length+2),ns ++ [⟨v,l,h⟩])
structure MkOk (n cap:Nat) (ns:Ns) (v l h:Nat) (r:Option Nat) (ns':Ns):Prop where
 ext:Ext n ns ns'
 len:ns'.length≤ns.length+1
 lim:ns.length≤cap→ns'.length≤cap
 ok:∀ x,r=some x→Ref ns' x∧v≤tv n ns' x∧∀ a,eval ns' a x=if a v then eval ns' a h else eval ns' a l
 full:r=none→cap≤ns.length∧ns'=ns
theorem mkF_new {lim:Nat} {ns:Ns} {v l h x z:Nat} (hx:(mkF lim ns v l h).1=some x) (h1:ns.length+2≤z) (h2:z < (mkF lim ns v l h).2.length+2):z=x:=by
 unfold mkF at hx h2
 by_cases hlh:l=h
 ·simp only [hlh,if_true] at h2
  omega
 ·simp only [hlh,if_false] at hx h2
  cases hf:ns.findIdx? fun d=>decide (d=⟨v,l,h⟩) with
  | some k=>rw [hf] at h2; simp only at h2; omega
  | none =>
   rw [hf] at hx h2
   simp only at hx h2
   by_cases hc:lim≤ns.length
   ·rw [if_pos hc] at hx; cases hx
   ·rw [if_neg hc] at hx h2
    simp at hx h2
    omega
theorem mkF_ok {n lim:Nat} {ns:Ns} (w:Wf n ns) {v l h:Nat} (hv:v < n) (hl:Ref ns l) (hh:Ref ns h) (tl:v < tv n ns l) (th:v < tv n ns h):MkOk n lim ns v l h (mkF lim ns v l h).1 (mkF lim ns v l h).2:=by
 unfold mkF
 by_cases hlh:l=h
 ·simp only [hlh,if_true]
  refine ⟨Ext.refl w,by omega,fun h=>h,fun x hx=>?_,by simp⟩
  simp only [Option.some.injEq] at hx
  subst hx
  exact ⟨hh,by omega,fun a=>by split <;> rfl⟩
 ·simp only [hlh,if_false]
  cases hf:ns.findIdx? fun d=>decide (d=⟨v,l,h⟩) with
  | some k =>
   rw [List.findIdx?_eq_some_iff_getElem] at hf
   obtain ⟨hk,he,_⟩:=hf
   have he:ns[k]=⟨v,l,h⟩:=by simpa using he
   refine ⟨Ext.refl w,by simp,fun h=>h,fun x hx=>?_,by simp⟩
   simp only [Option.some.injEq] at hx
   subst hx
   have hr:Ref ns (k+2):=by unfold Ref; omega
   have hat:at_ n ns (k+2)=⟨v,l,h⟩:=by rw [at_ge (by omega) hr]; simpa using he
   refine ⟨hr,by rw [tv,hat]; exact Nat.le_refl _,fun a=>?_⟩
   rw [eval_node w a (by omega) hr,hat]
  | none =>
   rw [List.findIdx?_eq_none_iff] at hf
   have hx:(⟨v,l,h⟩:Nd) ∉ ns:=fun hm=>by simpa using hf _ hm
   by_cases hlim:lim≤ns.length
   ·simp only [hlim,if_true]
    exact ⟨Ext.refl w,by omega,fun h=>h,fun x hx=>by simp at hx,fun _=>⟨hlim,rfl⟩⟩
   ·simp only [hlim,if_false]
    have w':=w.snoc hv hlh hl hh tl th hx
    refine ⟨⟨⟨_,rfl⟩,w'⟩,by simp,fun _=>by simp; omega,fun x hx=>?_,by simp⟩
    simp only [Option.some.injEq] at hx
    subst hx
    have hr:Ref (ns ++ [(⟨v,l,h⟩:Nd)]) (ns.length+2):=by unfold Ref; simp
    have hat:at_ n (ns ++ [(⟨v,l,h⟩:Nd)]) (ns.length+2)=⟨v,l,h⟩:=by rw [at_ge (by omega) hr]; simp
    refine ⟨hr,by rw [tv,hat]; exact Nat.le_refl _,fun a=>?_⟩
    rw [eval_node w' a (by omega) hr,hat]
theorem nodup_len {α:Type} [DecidableEq α]:∀ (xs ys:List α),xs.Nodup→(∀ x ∈ xs,x ∈ ys)→xs.length≤ys.length
 | [],ys,_,_=>by simp
 | x :: xs,ys,hn,hs=>by
  rw [List.nodup_cons] at hn
  have hx:x ∈ ys:=hs x (by simp)
  have:=nodup_len xs (ys.erase x) hn.2 (fun y hy=>by
   have hne:y≠x:=fun e=>hn.1 (e ▸ hy)
   exact (List.mem_erase_of_ne hne).2 (hs y (by simp [hy])))
  rw [List.length_erase_of_mem hx] at this
  have:0 < ys.length:=List.length_pos_of_mem hx
  simp; omega
abbrev Mem2:=List ((Nat × Nat) × Nat)
def MemOk (op:Nat) (ns:Ns) (M:Mem2):Prop:=∀ q ∈ M,Ref ns q.1.1∧Ref ns q.1.2∧Ref ns q.2∧∀ a,eval ns a q.2=opB op (eval ns a q.1.1) (eval ns a q.1.2)
theorem MemOk.ext {n op:Nat} {ns ns':Ns} {M:Mem2} (h:MemOk op ns M) (w:Wf n ns) (hx:Ext n ns ns'):MemOk op ns' M:=fun q hq=>by
 obtain ⟨h1,h2,h3,h4⟩:=h q hq
 exact ⟨hx.ref h1,hx.ref h2,hx.ref h3,fun a=>by rw [hx.eval w a h1,hx.eval w a h2,hx.eval w a h3,h4]⟩
theorem mem_small {ns:Ns} {M:Mem2} {N:Nat} (hN:ns.length+2≤N) (hr:∀ q ∈ M,Ref ns q.1.1∧Ref ns q.1.2) (hn:(M.map (·.1)).Nodup):M.length≤N * N:=by
 have h1:((M.map (·.1)).map fun p=>p.1 * N+p.2).Nodup:=by
  rw [List.nodup_iff_pairwise_ne,List.pairwise_map]
  refine List.Pairwise.imp_of_mem ?_ (List.nodup_iff_pairwise_ne.1 hn)
  intro a b ha hb hab he
  obtain ⟨q,hq,rfl⟩:=List.mem_map.1 ha
  obtain ⟨q',hq',rfl⟩:=List.mem_map.1 hb
  obtain ⟨r1,r2⟩:=hr q hq
  obtain ⟨r3,r4⟩:=hr q' hq'
  unfold Ref at *
  apply hab
  have e2:q.1.2=q'.1.2:=by
   have:=congrArg (· % N) he
   simp only [Nat.mul_add_mod_self_right] at this
   rwa [Nat.mod_eq_of_lt (by omega),Nat.mod_eq_of_lt (by omega)] at this
  have e1:q.1.1=q'.1.1:=by
   rw [e2] at he
   have h3:q.1.1 * N=q'.1.1 * N:=Nat.add_right_cancel he
   exact Nat.eq_of_mul_eq_mul_right (by omega) h3
  exact Prod.ext e1 e2
 have h2:=nodup_len _ (List.range (N * N)) h1 (fun x hx=>by
  obtain ⟨p,hp,rfl⟩:=List.mem_map.1 hx
  obtain ⟨q,hq,rfl⟩:=List.mem_map.1 hp
  obtain ⟨r1,r2⟩:=hr q hq
  unfold Ref at *
  rw [List.mem_range]
  calc q.1.1 * N+q.1.2 < q.1.1 * N+N:=by omega
   _=(q.1.1+1) * N:=by rw [Nat.add_mul]; omega
   _≤N * N:=Nat.mul_le_mul_right _ (by omega))
 simpa using h2
def Sn (op:Nat) (S:Nat→Nat→Prop) (x y:Nat):Prop:=(sh op (min x y) (max x y)).2=true∨S (min x y) (max x y)
def Clo (n op:Nat) (ns:Ns) (S:Nat→Nat→Prop):Prop:=∀ f g,S f g→Ref ns f∧Ref ns g ∧
 Sn op S (lo n ns (min (tv n ns f) (tv n ns g)) f) (lo n ns (min (tv n ns f) (tv n ns g)) g)∧Sn op S (hi n ns (min (tv n ns f) (tv n ns g)) f) (hi n ns (min (tv n ns f) (tv n ns g)) g)
theorem lo_ext {n:Nat} {ns ns':Ns} (hx:Ext n ns ns') {v x:Nat} (h:Ref ns x):lo n ns' v x=lo n ns v x:=by unfold lo; rw [hx.tv h,hx.at h]
theorem hi_ext {n:Nat} {ns ns':Ns} (hx:Ext n ns ns') {v x:Nat} (h:Ref ns x):hi n ns' v x=hi n ns v x:=by unfold hi; rw [hx.tv h,hx.at h]
theorem Clo.ext {n op:Nat} {ns ns':Ns} {S:Nat→Nat→Prop} (h:Clo n op ns S) (hx:Ext n ns ns'):Clo n op ns' S:=fun f g hS=>by
 obtain ⟨h1,h2,h3,h4⟩:=h f g hS
 rw [hx.tv h1,hx.tv h2,lo_ext hx h1,lo_ext hx h2,hi_ext hx h1,hi_ext hx h2]
 exact ⟨hx.ref h1,hx.ref h2,h3,h4⟩
structure ApOk (n cap op:Nat) (S:Nat→Nat→Prop) (ns:Ns) (M:Mem2) (f g:Nat) (r:Option Nat) (ns':Ns) (M':Mem2):Prop where
 ext:Ext n ns ns'
 lim:ns'.length≤cap
 mem:MemOk op ns' M'
 ok:∀ x,r=some x→Ref ns' x∧∀ a,eval ns' a x=opB op (eval ns a f) (eval ns a g)
 grow:ns'.length+M.length≤ns.length+M'.length
 sub:∀ q ∈ M',(∃ q' ∈ M,q'.1=q.1)∨(S q.1.1 q.1.2∧min (tv n ns f) (tv n ns g)≤min (tv n ns' q.1.1) (tv n ns' q.1.2))
 full:r=none→cap≤ns'.length∧∃ x y,S x y∧∀ q ∈ M',q.1≠(x,y)
 mono:∀ q ∈ M,q ∈ M'
 fr:∀ z,ns.length+2≤z→z < ns'.length+2→∃ q ∈ M',q.2=z∧S q.1.1 q.1.2
theorem ApOk.swap {n cap op:Nat} {S:Nat→Nat→Prop} {ns ns':Ns} {M M':Mem2} {f g:Nat} {r:Option Nat} (h:ApOk n cap op S ns M f g r ns' M'):ApOk n cap op S ns M g f r ns' M' :=
 ⟨h.ext,h.lim,h.mem,fun x hx=>⟨(h.ok x hx).1,fun a=>by rw [(h.ok x hx).2 a,opB_comm]⟩,h.grow,fun q hq=>by
  rcases h.sub q hq with h1 | ⟨h1,h2⟩
  ·exact .inl h1
  ·exact .inr ⟨h1,by omega⟩,h.full,h.mono,h.fr⟩
end Go.Bd
end
section
set_option linter.unusedVariables false
set_option linter.unusedSimpArgs false
namespace Go.Bd
section
variable {n cap op:Nat} {S:Nat→Nat→Prop} {ns ns1 ns2:Ns} {M M1 M2:Mem2} {p q:Nat}
structure ApPre (n op:Nat) (S:Nat→Nat→Prop) (ns:Ns) (M:Mem2) (p q v:Nat):Prop where
 w:Wf n ns
 rp:Ref ns p
 rq:Ref ns q
 ev:v=min (tv n ns p) (tv n ns q)
 vn:v < n
 s:S p q
 nokey:∀ x ∈ M,x.1≠(p,q)
 cp:Cof n ns v p (lo n ns v p) (hi n ns v p)
 cq:Cof n ns v q (lo n ns v q) (hi n ns v q)
theorem ApPre.mk' (w:Wf n ns) (rp:Ref ns p) (rq:Ref ns q) (s:S p q) (hpq:p≤q) (hs:(sh op p q).2=false) (nokey:∀ x ∈ M,x.1≠(p,q)):ApPre n op S ns M p q (min (tv n ns p) (tv n ns q)):=by
 have h2:2≤q:=sh_no (r:=(sh op p q).1) (by rw [← hs]) hpq
 have hv:min (tv n ns p) (tv n ns q) < n:=by have:=w.tv_var h2 rq; omega
 exact ⟨w,rp,rq,rfl,hv,s,nokey,cof_of w rp (by omega) hv,cof_of w rq (by omega) hv⟩
theorem ap_low {v:Nat} (h:ApPre n op S ns M p q v) (hl:ApOk n cap op S ns M (lo n ns v p) (lo n ns v q) none ns1 M1):ApOk n cap op S ns M p q none ns1 M1:=by
 refine ⟨hl.ext,hl.lim,hl.mem,fun x hx=>(by cases hx),hl.grow,fun x hx=>?_,fun _=>hl.full rfl,hl.mono,hl.fr⟩
 rcases hl.sub x hx with h1 | ⟨h1,h2⟩
 ·exact .inl h1
 ·have:=h.cp.tl; have:=h.cq.tl
  exact .inr ⟨h1,by rw [← h.ev]; omega⟩
structure ApMid (n cap op:Nat) (S:Nat→Nat→Prop) (ns:Ns) (M:Mem2) (v:Nat) (ns2:Ns) (M2:Mem2):Prop where
 ext:Ext n ns ns2
 lim:ns2.length≤cap
 mem:MemOk op ns2 M2
 grow:ns2.length+M.length≤ns.length+M2.length
 sub:∀ q ∈ M2,(∃ q' ∈ M,q'.1=q.1)∨(S q.1.1 q.1.2∧v+1≤min (tv n ns2 q.1.1) (tv n ns2 q.1.2))
 mono:∀ q ∈ M,q ∈ M2
 fr:∀ z,ns.length+2≤z→z < ns2.length+2→∃ q ∈ M2,q.2=z∧S q.1.1 q.1.2
theorem ap_mid {v:Nat} {l:Nat} {r:Option Nat} (h:ApPre n op S ns M p q v) (hl:ApOk n cap op S ns M (lo n ns v p) (lo n ns v q) (some l) ns1 M1) (hh:ApOk n cap op S ns1 M1 (hi n ns1 v p) (hi n ns1 v q) r ns2 M2):ApMid n cap op S ns M v ns2 M2:=by
 refine ⟨hl.ext.trans hh.ext,hh.lim,hh.mem,?_,fun x hx=>?_,fun q hq=>hh.mono q (hl.mono q hq),fun z h1 h2=>?_⟩
 rotate_left 2
 ·by_cases hz:z < ns1.length+2
  ·obtain ⟨q,hq,e⟩:=hl.fr z h1 hz
   exact ⟨q,hh.mono q hq,e⟩
  ·exact hh.fr z (by omega) h2
 ·have:=hl.grow; have:=hh.grow; omega
 ·rcases hh.sub x hx with ⟨y,hy,e⟩ | ⟨h1,h2⟩
  ·rcases hl.sub y hy with ⟨z,hz,e2⟩ | ⟨h3,h4⟩
   ·exact .inl ⟨z,hz,e2.trans e⟩
   ·have:=h.cp.tl; have:=h.cq.tl
    obtain ⟨r1,r2,_⟩:=hl.mem y hy
    refine .inr ⟨by rw [← e]; exact h3,?_⟩
    rw [← e,hh.ext.tv r1,hh.ext.tv r2]; omega
  ·rw [hi_ext hl.ext h.rp,hi_ext hl.ext h.rq,hl.ext.tv h.cp.rh,hl.ext.tv h.cq.rh] at h2
   have:=h.cp.th; have:=h.cq.th
   exact .inr ⟨h1,by omega⟩
theorem ap_high {v:Nat} {l:Nat} (h:ApPre n op S ns M p q v) (hl:ApOk n cap op S ns M (lo n ns v p) (lo n ns v q) (some l) ns1 M1) (hh:ApOk n cap op S ns1 M1 (hi n ns1 v p) (hi n ns1 v q) none ns2 M2):ApOk n cap op S ns M p q none ns2 M2:=by
 obtain ⟨m1,m2,m3,m4,m5,m6,m7⟩:=ap_mid h hl hh
 refine ⟨m1,m2,m3,fun x hx=>(by cases hx),m4,fun x hx=>?_,fun _=>hh.full rfl,m6,m7⟩
 rcases m5 x hx with h1 | ⟨h1,h2⟩
 ·exact .inl h1
 ·exact .inr ⟨h1,by rw [← h.ev]; omega⟩
theorem mid_nokey {v:Nat} (h:ApPre n op S ns M p q v) (hm:ApMid n cap op S ns M v ns2 M2):∀ x ∈ M2,x.1≠(p,q):=fun x hx e=>by
 rcases hm.sub x hx with ⟨y,hy,e2⟩ | ⟨_,h2⟩
 ·exact h.nokey y hy (e2.trans e)
 ·have e1:x.1.1=p:=by rw [e]
  have e2:x.1.2=q:=by rw [e]
  rw [e1,e2,hm.ext.tv h.rp,hm.ext.tv h.rq,← h.ev] at h2
  omega
theorem ap_make {v l hgh:Nat} (h:ApPre n op S ns M p q v) (hl:ApOk n cap op S ns M (lo n ns v p) (lo n ns v q) (some l) ns1 M1) (hh:ApOk n cap op S ns1 M1 (hi n ns1 v p) (hi n ns1 v q) (some hgh) ns2 M2) :
  Ref ns2 l∧Ref ns2 hgh∧v < tv n ns2 l∧v < tv n ns2 hgh∧∀ a,(if a v then eval ns2 a hgh else eval ns2 a l)=opB op (eval ns2 a p) (eval ns2 a q):=by
 obtain ⟨rl,el⟩:=hl.ok l rfl
 obtain ⟨rh,eh⟩:=hh.ok hgh rfl
 have w1:=hl.ext.wf
 have w2:=hh.ext.wf
 have el2:∀ a,eval ns2 a l=opB op (eval ns a (lo n ns v p)) (eval ns a (lo n ns v q)):=fun a=>by
  rw [hh.ext.eval w1 a rl,el]
 have eh2:∀ a,eval ns2 a hgh=opB op (eval ns a (hi n ns v p)) (eval ns a (hi n ns v q)):=fun a=>by
  rw [eh,hi_ext hl.ext h.rp,hi_ext hl.ext h.rq,hl.ext.eval h.w a h.cp.rh,hl.ext.eval h.w a h.cq.rh]
 have rl2:=hh.ext.ref rl
 refine ⟨rl2,rh,?_,?_,fun a=>?_⟩
 ·have:=h.cp.tl; have:=h.cq.tl; have:=h.vn
  exact tv_ge w2 rl2 (by omega) fun a b hab=>by
   rw [el2,el2,eval_congr h.w h.cp.rl (fun i hi=>hab i (by omega)),eval_congr h.w h.cq.rl (fun i hi=>hab i (by omega))]
 ·have:=h.cp.th; have:=h.cq.th; have:=h.vn
  exact tv_ge w2 rh (by omega) fun a b hab=>by
   rw [eh2,eh2,eval_congr h.w h.cp.rh (fun i hi=>hab i (by omega)),eval_congr h.w h.cq.rh (fun i hi=>hab i (by omega))]
 ·have e:=hl.ext.trans hh.ext
  rw [e.eval h.w a h.rp,e.eval h.w a h.rq,el2,eh2,h.cp.ev a,h.cq.ev a]
  split <;> rfl
theorem ap_full {v l hgh:Nat} (h:ApPre n op S ns M p q v) (hl:ApOk n cap op S ns M (lo n ns v p) (lo n ns v q) (some l) ns1 M1) (hh:ApOk n cap op S ns1 M1 (hi n ns1 v p) (hi n ns1 v q) (some hgh) ns2 M2)
  (hk:(mkF cap ns2 v l hgh).1=none):ApOk n cap op S ns M p q none (mkF cap ns2 v l hgh).2 M2:=by
 have hm:=ap_mid h hl hh
 obtain ⟨a1,a2,a3,a4,a5⟩:=ap_make h hl hh
 have mk:=mkF_ok (lim:=cap) hm.ext.wf h.vn a1 a2 a3 a4
 obtain ⟨f1,f2⟩:=mk.full hk
 rw [f2]
 refine ⟨hm.ext,hm.lim,hm.mem,fun x hx=>(by cases hx),hm.grow,fun x hx=>?_,fun _=>⟨f1,p,q,h.s,mid_nokey h hm⟩,hm.mono,hm.fr⟩
 rcases hm.sub x hx with h1 | ⟨h1,h2⟩
 ·exact .inl h1
 ·exact .inr ⟨h1,by rw [← h.ev]; omega⟩
theorem ap_done {v l hgh x:Nat} (h:ApPre n op S ns M p q v) (hl:ApOk n cap op S ns M (lo n ns v p) (lo n ns v q) (some l) ns1 M1) (hh:ApOk n cap op S ns1 M1 (hi n ns1 v p) (hi n ns1 v q) (some hgh) ns2 M2)
  (hk:(mkF cap ns2 v l hgh).1=some x):ApOk n cap op S ns M p q (some x) (mkF cap ns2 v l hgh).2 (M2 ++ [((p,q),x)]):=by
 have hm:=ap_mid h hl hh
 obtain ⟨a1,a2,a3,a4,a5⟩:=ap_make h hl hh
 have mk:=mkF_ok (lim:=cap) hm.ext.wf h.vn a1 a2 a3 a4
 obtain ⟨rx,tx,ex⟩:=mk.ok x hk
 have w2:=hm.ext.wf
 have e3:=hm.ext.trans mk.ext
 have hx:∀ a,eval (mkF cap ns2 v l hgh).2 a x=opB op (eval (mkF cap ns2 v l hgh).2 a p) (eval (mkF cap ns2 v l hgh).2 a q):=fun a=>by
  rw [ex a,mk.ext.eval w2 a a2,mk.ext.eval w2 a a1,a5 a,mk.ext.eval w2 a (hm.ext.ref h.rp),mk.ext.eval w2 a (hm.ext.ref h.rq)]
 refine ⟨e3,mk.lim hm.lim,fun y hy=>?_,fun y hy=>?_,?_,fun y hy=>?_,(fun hn=>by cases hn),fun y hy=>List.mem_append_left _ (hm.mono y hy),fun z h1 h2=>?_⟩
 rotate_left 4
 ·by_cases hz:z < ns2.length+2
  ·obtain ⟨y,hy,e⟩:=hm.fr z h1 hz
   exact ⟨y,List.mem_append_left _ hy,e⟩
  ·exact ⟨((p,q),x),by simp,(mkF_new hk (by omega) h2).symm,h.s⟩
 ·rcases List.mem_append.1 hy with h1 | h1
  ·exact (hm.mem.ext w2 mk.ext) y h1
  ·simp at h1; subst h1
   exact ⟨e3.ref h.rp,e3.ref h.rq,rx,hx⟩
 ·simp only [Option.some.injEq] at hy
  subst hy
  exact ⟨rx,fun a=>by rw [hx a,e3.eval h.w a h.rp,e3.eval h.w a h.rq]⟩
 ·have:=hm.grow; have:=mk.len
  simp; omega
 ·rcases List.mem_append.1 hy with h1 | h1
  ·rcases hm.sub y h1 with h2 | ⟨h2,h3⟩
   ·exact .inl h2
   ·obtain ⟨r1,r2,_⟩:=hm.mem y h1
    exact .inr ⟨h2,by rw [mk.ext.tv r1,mk.ext.tv r2,← h.ev]; omega⟩
  ·simp at h1; subst h1
   exact .inr ⟨h.s,by rw [e3.tv h.rp,e3.tv h.rq]; exact Nat.le_refl _⟩
theorem ap_short {r:Nat} (w:Wf n ns) (hlim:ns.length≤cap) (rp:Ref ns p) (rq:Ref ns q) (hM:MemOk op ns M) (hs:sh op p q=(r,true)):ApOk n cap op S ns M p q (some r) ns M:=by
 obtain ⟨h1,h2⟩:=sh_ok hs rp rq
 exact ⟨Ext.refl w,hlim,hM,fun x hx=>by simp only [Option.some.injEq] at hx; subst hx; exact ⟨h1,h2⟩,Nat.le_refl _,fun x hx=>.inl ⟨x,hx,rfl⟩,fun h=>(by cases h),fun _ h=>h,fun z h1 h2=>by omega⟩
theorem ap_known {r:Nat} (w:Wf n ns) (hlim:ns.length≤cap) (hM:MemOk op ns M) (hk:((p,q),r) ∈ M):ApOk n cap op S ns M p q (some r) ns M:=by
 obtain ⟨_,_,h1,h2⟩:=hM _ hk
 exact ⟨Ext.refl w,hlim,hM,fun x hx=>by simp only [Option.some.injEq] at hx; subst hx; exact ⟨h1,h2⟩,Nat.le_refl _,fun x hx=>.inl ⟨x,hx,rfl⟩,fun h=>(by cases h),fun _ h=>h,fun z h1 h2=>by omega⟩
end
end Go.Bd
namespace Go.Bd
structure BinOk (n cap op:Nat) (S:Nat→Nat→Prop) (ns:Ns) (f g:Nat) (r:Option Nat) (ns':Ns):Prop where
 ext:Ext n ns ns'
 lim:ns'.length≤cap
 ok:∀ x,r=some x→Ref ns' x∧∀ a,eval ns' a x=opB op (eval ns a f) (eval ns a g)
 cnt:∀ L:List (Nat × Nat),(∀ x y,S x y→(x,y) ∈ L)→ns'.length≤ns.length+L.length∧(r=none→cap < ns.length+L.length)
 fr:∀ z,ns.length+2≤z→z < ns'.length+2→∃ x y,S x y∧Ref ns' x∧Ref ns' y∧∀ a,eval ns' a z=opB op (eval ns' a x) (eval ns' a y)
 hit:r=none→cap≤ns'.length
theorem bin_of_ap {n cap op:Nat} {S:Nat→Nat→Prop} {ns ns':Ns} {M':Mem2} {f g:Nat} {r:Option Nat} (h:ApOk n cap op S ns [] f g r ns' M') (hn:(M'.map (·.1)).Nodup):BinOk n cap op S ns f g r ns':=by
 refine ⟨h.ext,h.lim,h.ok,fun L hL=>?_,fun z h1 h2=>?_,fun hr=>(h.full hr).1⟩
 rotate_left
 ·obtain ⟨q,hq,rfl,hS⟩:=h.fr z h1 h2
  obtain ⟨a1,a2,_,a3⟩:=h.mem q hq
  exact ⟨q.1.1,q.1.2,hS,a1,a2,a3⟩
 have hsub:∀ x ∈ M'.map (·.1),x ∈ L:=fun x hx=>by
  obtain ⟨q,hq,rfl⟩:=List.mem_map.1 hx
  rcases h.sub q hq with ⟨q',hq',_⟩ | ⟨h1,_⟩
  ·cases hq'
  ·exact hL _ _ h1
 have hg:=h.grow
 simp at hg
 have hlen:=nodup_len _ L hn hsub
 simp at hlen
 refine ⟨by omega,fun hr=>?_⟩
 obtain ⟨h1,x,y,h2,h3⟩:=h.full hr
 have hcons:((x,y) :: M'.map (·.1)).Nodup:=by
  rw [List.nodup_cons]
  refine ⟨fun hm=>?_,hn⟩
  obtain ⟨q,hq,e⟩:=List.mem_map.1 hm
  exact h3 q hq e
 have:=nodup_len _ L hcons (fun z hz=>by
  rcases List.mem_cons.1 hz with rfl | hz
  ·exact hL _ _ h2
  ·exact hsub z hz)
 simp at this
 omega
end Go.Bd
namespace Go.Bd
def pfx (a:Nat→Bool) (k:Nat) (b:Nat→Bool):Nat→Bool:=fun i=>if i < k then a i else b i
theorem pfx_zero (a b:Nat→Bool):pfx a 0 b=b:=by funext i; simp [pfx]
def IsC (G H:(Nat→Bool)→Bool):Prop:=∃ k a,∀ b,H b=G (pfx a k b)
theorem IsC.refl (G:(Nat→Bool)→Bool):IsC G G:=⟨0,fun _=>false,fun b=>by rw [pfx_zero]⟩
theorem IsC.trans {F G H:(Nat→Bool)→Bool} (h1:IsC F G) (h2:IsC G H):IsC F H:=by
 obtain ⟨k1,a1,e1⟩:=h1
 obtain ⟨k2,a2,e2⟩:=h2
 refine ⟨max k1 k2,fun i=>if i < k1 then a1 i else a2 i,fun b=>?_⟩
 rw [e2,e1]
 congr 1
 funext i
 simp only [pfx]
 by_cases h1:i < k1
 ·rw [if_pos h1,if_pos (by omega),if_pos h1]
 ·rw [if_neg h1]
  by_cases h2:i < k2
  ·rw [if_pos h2,if_pos (by omega),if_neg h1]
  ·rw [if_neg h2,if_neg (by omega)]
theorem IsC.congr {G G' H H':(Nat→Bool)→Bool} (h:IsC G H) (e:∀ b,G b=G' b) (e':∀ b,H b=H' b):IsC G' H':=by
 obtain ⟨k,a,h⟩:=h
 exact ⟨k,a,fun b=>by rw [← e',h,e]⟩
section
variable {n:Nat} {ns:Ns}
theorem cof_pfx (w:Wf n ns) {G:(Nat→Bool)→Bool} {x y v k:Nat} {a:Nat→Bool} {t:Bool} (hx:Ref ns x) (hy:Ref ns y) (hkv:k≤v) (hvx:v≤tv n ns x) (hvy:v+1≤tv n ns y) (hG:∀ b,eval ns b x=G (pfx a k b)) (he:∀ b,eval ns (upd b v t) x=eval ns (upd b v t) y) :
  ∀ b,eval ns b y=G (pfx (fun i=>if i < k then a i else (t && decide (i=v))) (v+1) b):=fun b=>by
 have e1:eval ns b y=eval ns (upd b v t) y:=eval_congr w hy fun i hi=>(upd_ne (by omega)).symm
 have e2:eval ns (upd b v t) x=eval ns (fun i=>if i < v+1 then (t && decide (i=v)) else b i) x:=eval_congr w hx fun i hi=>by
  show upd b v t i=if i < v+1 then (t && decide (i=v)) else b i
  by_cases h:i=v
  ·subst h
   rw [upd_same,if_pos (by omega)]
   simp
  ·rw [upd_ne h,if_neg (by omega)]
 rw [e1,← he,e2,hG]
 congr 1
 funext i
 simp only [pfx]
 by_cases h:i < k
 ·rw [if_pos h,if_pos (by omega),if_pos h]
 ·rw [if_neg h]
  by_cases h2:i < v+1
  ·rw [if_pos h2,if_pos h2,if_neg h]
  ·rw [if_neg h2,if_neg h2]
def PS (n:Nat) (ns:Ns) (f g x y:Nat):Prop:=Ref ns x∧Ref ns y∧∃ k a,k≤tv n ns x∧k≤tv n ns y ∧
 (((∀ b,eval ns b x=eval ns (pfx a k b) f)∧∀ b,eval ns b y=eval ns (pfx a k b) g)∨((∀ b,eval ns b x=eval ns (pfx a k b) g)∧∀ b,eval ns b y=eval ns (pfx a k b) f))
theorem PS.swap {f g x y:Nat} (h:PS n ns f g x y):PS n ns f g y x:=by
 obtain ⟨h1,h2,k,a,h3,h4,h5⟩:=h
 exact ⟨h2,h1,k,a,h4,h3,h5.elim (fun h=>.inr ⟨h.2,h.1⟩) fun h=>.inl ⟨h.2,h.1⟩⟩
theorem PS.mm {f g x y:Nat} (h:PS n ns f g x y):PS n ns f g (min x y) (max x y):=by
 rcases Nat.le_total x y with h1 | h1
 ·rw [Nat.min_eq_left h1,Nat.max_eq_right h1]; exact h
 ·rw [Nat.min_eq_right h1,Nat.max_eq_left h1]; exact h.swap
theorem ps_clo (w:Wf n ns) (op:Nat) {f g:Nat} (hf:Ref ns f) (hg:Ref ns g):Sn op (PS n ns f g) f g∧Clo n op ns (PS n ns f g):=by
 refine ⟨.inr (PS.mm ⟨hf,hg,0,fun _=>false,Nat.zero_le _,Nat.zero_le _,.inl ⟨fun b=>by rw [pfx_zero],fun b=>by rw [pfx_zero]⟩⟩),fun x y h=>?_⟩
 obtain ⟨rx,ry,k,a,kx,ky,hxy⟩:=h
 obtain ⟨v,hv⟩:∃ v,v=min (tv n ns x) (tv n ns y):=⟨_,rfl⟩
 rw [← hv]
 have hvx:v≤tv n ns x:=by omega
 have hvy:v≤tv n ns y:=by omega
 refine ⟨rx,ry,?_⟩
 by_cases hvn:v < n
 ·have cx:=cof_of w rx hvx hvn
  have cy:=cof_of w ry hvy hvn
  have key:∀ {t:Bool} {p q:Nat},Ref ns p→Ref ns q→v+1≤tv n ns p→v+1≤tv n ns q→(∀ b,eval ns (upd b v t) x=eval ns (upd b v t) p)→(∀ b,eval ns (upd b v t) y=eval ns (upd b v t) q)→Sn op (PS n ns f g) p q:=fun {t p q} rp rq tp tq ep eq=>by
   refine .inr (PS.mm ⟨rp,rq,v+1,(fun i=>if i < k then a i else (t && decide (i=v))),tp,tq,?_⟩)
   rcases hxy with ⟨h1,h2⟩ | ⟨h1,h2⟩
   ·exact .inl ⟨cof_pfx w (G:=fun c=>eval ns c f) rx rp (by omega) hvx tp h1 ep,cof_pfx w (G:=fun c=>eval ns c g) ry rq (by omega) hvy tq h2 eq⟩
   ·exact .inr ⟨cof_pfx w (G:=fun c=>eval ns c g) rx rp (by omega) hvx tp h1 ep,cof_pfx w (G:=fun c=>eval ns c f) ry rq (by omega) hvy tq h2 eq⟩
  refine ⟨key (t:=false) cx.rl cy.rl (by have:=cx.tl; omega) (by have:=cy.tl; omega) (fun b=>?_) (fun b=>?_),key (t:=true) cx.rh cy.rh (by have:=cx.th; omega) (by have:=cy.th; omega) (fun b=>?_) (fun b=>?_)⟩
  ·rw [cx.ev,upd_same]; simp
  ·rw [cy.ev,upd_same]; simp
  ·rw [cx.ev,upd_same]; simp
  ·rw [cy.ev,upd_same]; simp
 ·have hx2:x < 2:=by
   apply Decidable.byContradiction
   intro h
   have:=w.tv_var (show 2≤x by omega) rx
   omega
  have hy2:y < 2:=by
   apply Decidable.byContradiction
   intro h
   have:=w.tv_var (show 2≤y by omega) ry
   omega
  have hS:PS n ns f g x y:=⟨rx,ry,k,a,kx,ky,hxy⟩
  have elx:∀ z,z < 2→lo n ns v z=z∧hi n ns v z=z:=fun z hz=>by
   unfold lo hi
   rw [at_lt hz]
   constructor <;> split <;> rfl
  rw [(elx x hx2).1,(elx y hy2).1,(elx x hx2).2,(elx y hy2).2]
  exact ⟨.inr hS.mm,.inr hS.mm⟩
theorem Clo.and {op:Nat} {S T:Nat→Nat→Prop} (h1:Clo n op ns S) (h2:Clo n op ns T):Clo n op ns fun x y=>S x y∧T x y:=fun x y h=>by
 obtain ⟨a1,a2,a3,a4⟩:=h1 x y h.1
 obtain ⟨_,_,b3,b4⟩:=h2 x y h.2
 have key:∀ {p q:Nat},Sn op S p q→Sn op T p q→Sn op (fun x y=>S x y∧T x y) p q:=fun h k=>by
  rcases h with h | h
  ·exact .inl h
  ·rcases k with k | k
   ·exact .inl k
   ·exact .inr ⟨h,k⟩
 exact ⟨a1,a2,key a3 b3,key a4 b4⟩
theorem Sn.and {op:Nat} {S T:Nat→Nat→Prop} {p q:Nat} (h:Sn op S p q) (k:Sn op T p q):Sn op (fun x y=>S x y∧T x y) p q:=by
 rcases h with h | h
 ·exact .inl h
 ·rcases k with k | k
  ·exact .inl k
  ·exact .inr ⟨h,k⟩
theorem BinOk.new {cap op:Nat} {S:Nat→Nat→Prop} {f g:Nat} {r:Option Nat} {ns':Ns} (h:BinOk n cap op S ns f g r ns') (w:Wf n ns) (hS:∀ x y,S x y→PS n ns f g x y) :
  ∀ z,ns.length+2≤z→z < ns'.length+2→IsC (fun c=>opB op (eval ns c f) (eval ns c g)) fun b=>eval ns' b z:=fun z h1 h2=>by
 obtain ⟨x,y,hs,_,_,e⟩:=h.fr z h1 h2
 obtain ⟨rx,ry,k,a,_,_,hxy⟩:=hS x y hs
 refine ⟨k,a,fun b=>?_⟩
 show eval ns' b z=opB op (eval ns (pfx a k b) f) (eval ns (pfx a k b) g)
 rw [e,h.ext.eval w b rx,h.ext.eval w b ry]
 rcases hxy with ⟨e1,e2⟩ | ⟨e1,e2⟩
 ·rw [e1,e2]
 ·rw [e1,e2,opB_comm]
theorem isc_low (w:Wf n ns) {f:Nat} (hf:Ref ns f) (h2:2≤f):IsC (fun c=>eval ns c f) fun c=>eval ns c (at_ n ns f).low :=
 ⟨_,_,cof_pfx w (G:=fun c=>eval ns c f) (k:=0) (a:=fun _=>false) (t:=false) hf (w.ref_low hf) (Nat.zero_le _) (Nat.le_refl _) (w.tv_low h2 hf) (fun b=>by rw [pfx_zero]) fun b=>by
  rw [eval_low w h2 hf]
  exact (eval_upd w (w.ref_low hf) (w.tv_low h2 hf)).symm⟩
theorem isc_high (w:Wf n ns) {f:Nat} (hf:Ref ns f) (h2:2≤f):IsC (fun c=>eval ns c f) fun c=>eval ns c (at_ n ns f).high :=
 ⟨_,_,cof_pfx w (G:=fun c=>eval ns c f) (k:=0) (a:=fun _=>false) (t:=true) hf (w.ref_high hf) (Nat.zero_le _) (Nat.le_refl _) (w.tv_high h2 hf) (fun b=>by rw [pfx_zero]) fun b=>by
  rw [eval_high w h2 hf]
  exact (eval_upd w (w.ref_high hf) (w.tv_high h2 hf)).symm⟩
end
end Go.Bd
end
