/-
  A part of the proof of this claim's statement (BdIt, BdPk, BdWE, BdW7, BdW8, BdEx, BdW9, BdWA, BdWB): plain theorems; no conditions beyond those each names.
-/
import Derived.Test.YtkhfdmelcpfgoaaGreatPk14
import Derived.Test.YtkhfdmelcpfgoaaGreatPk10
import Derived.Test.YtkhfdmelcpfgoaaGreatPk02
section
set_option linter.unusedVariables false
set_option linter.unusedSimpArgs false
namespace Go.Bd
abbrev K3:=Nat × Nat × Nat
abbrev Mem3:=List (K3 × Nat)
section
variable {n cap:Nat} {ns ns1 ns2:Ns} {M M1 M2:Mem3} {f g h:Nat}
theorem two_half {d:Nat} (h:0 < d):2 ^ (d - 1)+2 ^ (d - 1)=2 ^ d:=by
 obtain ⟨e,rfl⟩:∃ e,d=e+1:=⟨d - 1,by omega⟩
 rw [Nat.add_sub_cancel,Nat.pow_succ]; omega
theorem two_mono {a b:Nat} (h:a≤b):2 ^ a≤2 ^ b:=Nat.pow_le_pow_right (by omega) h
variable {v:Nat}
end
def MemC (σ:(Nat→Bool)→Nat→Bool) (ns:Ns) (M:Mem1):Prop:=∀ q ∈ M,Ref ns q.1∧Ref ns q.2∧∀ a,eval ns a q.2=eval ns (σ a) q.1
theorem MemC.ext {n:Nat} {σ:(Nat→Bool)→Nat→Bool} {ns ns':Ns} {M:Mem1} (h:MemC σ ns M) (w:Wf n ns) (hx:Ext n ns ns'):MemC σ ns' M:=fun q hq=>by
 obtain ⟨h1,h2,h3⟩:=h q hq
 exact ⟨hx.ref h1,hx.ref h2,fun a=>by rw [hx.eval w a h2,hx.eval w _ h1,h3]⟩
structure ChOk (n cap:Nat) (σ:(Nat→Bool)→Nat→Bool) (ns:Ns) (f:Nat) (r:Option Nat) (ns':Ns) (M':Mem1):Prop where
 ext:Ext n ns ns'
 lim:ns'.length≤cap
 mem:MemC σ ns' M'
 ok:∀ x,r=some x→Ref ns' x∧∀ a,eval ns' a x=eval ns (σ a) f
 cnt:ns'.length+1≤ns.length+2 ^ (n - tv n ns f)
 full:r=none→cap < ns.length+2 ^ (n - tv n ns f)
 fr:∀ z,ns.length+2≤z→z < ns'.length+2→∃ H:(Nat→Bool)→Bool,IsC (fun c=>eval ns c f) H∧∀ b,eval ns' b z=H (σ b)
 hit:r=none→cap≤ns'.length
section
variable {n cap:Nat} {σ:(Nat→Bool)→Nat→Bool} {ns ns1 ns2:Ns} {M M1 M2:Mem1} {f:Nat}
theorem c_short {x:Nat} (w:Wf n ns) (hlim:ns.length≤cap) (hM:MemC σ ns M) (hx:Ref ns x) (he:∀ a,eval ns a x=eval ns (σ a) f):ChOk n cap σ ns f (some x) ns M:=by
 have:=Nat.two_pow_pos (n - tv n ns f)
 exact ⟨Ext.refl w,hlim,hM,fun y hy=>by simp only [Option.some.injEq] at hy; subst hy; exact ⟨hx,he⟩,by omega,fun h=>(by cases h),fun z h1 h2=>by omega,fun h=>by cases h⟩
theorem c_const (w:Wf n ns) (hlim:ns.length≤cap) (hM:MemC σ ns M) (hf:Ref ns f) (h2:f < 2):ChOk n cap σ ns f (some f) ns M:=by
 refine c_short w hlim hM hf fun a=>?_
 have:f=0∨f=1:=by omega
 rcases this with rfl | rfl
 ·rw [eval_zero,eval_zero]
 ·rw [eval_one,eval_one]
theorem c_known {x:Nat} (w:Wf n ns) (hlim:ns.length≤cap) (hM:MemC σ ns M) (hk:(f,x) ∈ M):ChOk n cap σ ns f (some x) ns M:=by
 obtain ⟨_,h1,h2⟩:=hM _ hk
 exact c_short w hlim hM h1 h2
structure CPre (n:Nat) (σ:(Nat→Bool)→Nat→Bool) (ns:Ns) (f u:Nat):Prop where
 w:Wf n ns
 rf:Ref ns f
 h2:2≤f
 un:u < n
 su:∀ a,σ a (tv n ns f)=a u
 il:∀ a b:Nat→Bool,(∀ i,u+1≤i→a i=b i)→eval ns (σ a) (at_ n ns f).low=eval ns (σ b) (at_ n ns f).low
 ih:∀ a b:Nat→Bool,(∀ i,u+1≤i→a i=b i)→eval ns (σ a) (at_ n ns f).high=eval ns (σ b) (at_ n ns f).high
variable {u:Nat}
theorem c_low (w:Wf n ns) (hf:Ref ns f) (h2:2≤f) (hl:ChOk n cap σ ns (at_ n ns f).low none ns1 M1):ChOk n cap σ ns f none ns1 M1:=by
 have t1:=w.tv_low h2 hf
 have:=two_mono (show n - tv n ns (at_ n ns f).low≤n - tv n ns f by omega)
 have:=hl.cnt; have:=hl.full rfl
 exact ⟨hl.ext,hl.lim,hl.mem,fun x hx=>(by cases hx),by omega,fun _=>by omega,fun z h1 h3=>by
  obtain ⟨H,a1,a2⟩:=hl.fr z h1 h3
  exact ⟨H,(isc_low w hf h2).trans a1,a2⟩,hl.hit⟩
theorem c_fr2 {rl rh:Option Nat} (w:Wf n ns) (hf:Ref ns f) (h2:2≤f) (hl:ChOk n cap σ ns (at_ n ns f).low rl ns1 M1) (hh:ChOk n cap σ ns1 (at_ n ns f).high rh ns2 M2) :
  ∀ z,ns.length+2≤z→z < ns2.length+2→∃ H:(Nat→Bool)→Bool,IsC (fun c=>eval ns c f) H∧∀ b,eval ns2 b z=H (σ b):=fun z h1 h3=>by
 by_cases hz:z < ns1.length+2
 ·obtain ⟨H,a1,a2⟩:=hl.fr z h1 hz
  exact ⟨H,(isc_low w hf h2).trans a1,fun b=>by rw [hh.ext.eval hl.ext.wf b hz,a2]⟩
 ·obtain ⟨H,a1,a2⟩:=hh.fr z (by omega) h3
  exact ⟨H,(isc_high w hf h2).trans (a1.congr (fun c=>hl.ext.eval w c (w.ref_high hf)) fun _=>rfl),a2⟩
theorem c_high {l:Nat} (w:Wf n ns) (hf:Ref ns f) (h2:2≤f) (hl:ChOk n cap σ ns (at_ n ns f).low (some l) ns1 M1) (hh:ChOk n cap σ ns1 (at_ n ns f).high none ns2 M2):ChOk n cap σ ns f none ns2 M2:=by
 have t1:=w.tv_low h2 hf
 have t2:=w.tv_high h2 hf
 have tvn:=w.tv_var h2 hf
 have e:=hl.ext.tv (w.ref_high hf)
 have b0:=two_half (show 0 < n - tv n ns f by omega)
 have b1:=two_mono (show n - tv n ns (at_ n ns f).low≤n - tv n ns f - 1 by omega)
 have b2:=two_mono (show n - tv n ns1 (at_ n ns f).high≤n - tv n ns f - 1 by omega)
 have:=hl.cnt; have:=hh.cnt; have:=hh.full rfl
 exact ⟨hl.ext.trans hh.ext,hh.lim,hh.mem,fun x hx=>(by cases hx),by omega,fun _=>by omega,c_fr2 w hf h2 hl hh,hh.hit⟩
structure CMid (n cap:Nat) (σ:(Nat→Bool)→Nat→Bool) (ns:Ns) (f u:Nat) (ns2:Ns) (M2:Mem1) (l k:Nat):Prop where
 ext:Ext n ns ns2
 lim:ns2.length≤cap
 mem:MemC σ ns2 M2
 cnt:ns2.length+2≤ns.length+2 ^ (n - tv n ns f)
 rl:Ref ns2 l
 rk:Ref ns2 k
 tl:u < tv n ns2 l
 tk:u < tv n ns2 k
 ev:∀ a,(if a u then eval ns2 a k else eval ns2 a l)=eval ns (σ a) f
 fr:∀ z,ns.length+2≤z→z < ns2.length+2→∃ H:(Nat→Bool)→Bool,IsC (fun c=>eval ns c f) H∧∀ b,eval ns2 b z=H (σ b)
theorem c_mid {l k:Nat} (p:CPre n σ ns f u) (hl:ChOk n cap σ ns (at_ n ns f).low (some l) ns1 M1) (hh:ChOk n cap σ ns1 (at_ n ns f).high (some k) ns2 M2):CMid n cap σ ns f u ns2 M2 l k:=by
 have t1:=p.w.tv_low p.h2 p.rf
 have t2:=p.w.tv_high p.h2 p.rf
 have tvn:=p.w.tv_var p.h2 p.rf
 have un:=p.un
 have e:=hl.ext.tv (p.w.ref_high p.rf)
 have b0:=two_half (show 0 < n - tv n ns f by omega)
 have b1:=two_mono (show n - tv n ns (at_ n ns f).low≤n - tv n ns f - 1 by omega)
 have b2:=two_mono (show n - tv n ns1 (at_ n ns f).high≤n - tv n ns f - 1 by omega)
 have:=hl.cnt; have:=hh.cnt
 obtain ⟨rl,el⟩:=hl.ok l rfl
 obtain ⟨rk,ek⟩:=hh.ok k rfl
 have w2:=hh.ext.wf
 have el2:∀ a,eval ns2 a l=eval ns (σ a) (at_ n ns f).low:=fun a=>by rw [hh.ext.eval hl.ext.wf a rl,el]
 have ek2:∀ a,eval ns2 a k=eval ns (σ a) (at_ n ns f).high:=fun a=>by rw [ek,hl.ext.eval p.w _ (p.w.ref_high p.rf)]
 have rl2:=hh.ext.ref rl
 refine ⟨hl.ext.trans hh.ext,hh.lim,hh.mem,by omega,rl2,rk,?_,?_,fun a=>?_,c_fr2 p.w p.rf p.h2 hl hh⟩
 ·exact tv_ge w2 rl2 (by omega) fun a b hab=>by rw [el2,el2]; exact p.il a b hab
 ·exact tv_ge w2 rk (by omega) fun a b hab=>by rw [ek2,ek2]; exact p.ih a b hab
 ·rw [el2,ek2,eval_node p.w _ p.h2 p.rf,show (at_ n ns f).v=tv n ns f from rfl,p.su]
theorem c_full {l k:Nat} (p:CPre n σ ns f u) (hm:CMid n cap σ ns f u ns2 M2 l k) (hk:(mkF cap ns2 u l k).1=none):ChOk n cap σ ns f none (mkF cap ns2 u l k).2 M2:=by
 have mk:=mkF_ok (lim:=cap) hm.ext.wf p.un hm.rl hm.rk hm.tl hm.tk
 obtain ⟨f1,f2⟩:=mk.full hk
 rw [f2]
 have:=hm.cnt
 exact ⟨hm.ext,hm.lim,hm.mem,fun x hx=>(by cases hx),by omega,fun _=>by omega,hm.fr,fun _=>f1⟩
theorem c_done {l k x:Nat} {M3:Mem1} (p:CPre n σ ns f u) (hm:CMid n cap σ ns f u ns2 M2 l k) (hk:(mkF cap ns2 u l k).1=some x) (hM3:∀ q ∈ M3,q ∈ M2∨q=(f,x)):ChOk n cap σ ns f (some x) (mkF cap ns2 u l k).2 M3:=by
 have mk:=mkF_ok (lim:=cap) hm.ext.wf p.un hm.rl hm.rk hm.tl hm.tk
 obtain ⟨rx,_,ex⟩:=mk.ok x hk
 have w2:=hm.ext.wf
 have e3:=hm.ext.trans mk.ext
 have ex2:∀ a,eval (mkF cap ns2 u l k).2 a x=eval ns (σ a) f:=fun a=>by
  rw [ex,mk.ext.eval w2 a hm.rk,mk.ext.eval w2 a hm.rl,hm.ev]
 have:=hm.cnt; have:=mk.len
 refine ⟨e3,mk.lim hm.lim,?_,fun y hy=>by simp only [Option.some.injEq] at hy; subst hy; exact ⟨rx,ex2⟩,by omega,fun h=>(by cases h),fun z h1 h3=>?_,fun h=>by cases h⟩
 rotate_left
 ·by_cases hz:z < ns2.length+2
  ·obtain ⟨H,a1,a2⟩:=hm.fr z h1 hz
   exact ⟨H,a1,fun b=>by rw [mk.ext.eval w2 b hz,a2]⟩
  ·have e:=mkF_new hk (by omega) h3
   subst e
   exact ⟨_,IsC.refl _,ex2⟩
 intro q hq
 rcases hM3 q hq with h1 | rfl
 ·exact (hm.mem.ext w2 mk.ext) q h1
 ·exact ⟨e3.ref p.rf,rx,fun a=>by rw [ex2,e3.eval p.w _ p.rf]⟩
theorem eval_reach (w:Wf n ns) {S:Nat→Prop} {a b:Nat→Bool} (hab:∀ i,S i→a i=b i):∀ {f:Nat},Ref ns f→(∀ y,Rch n ns f y→S (tv n ns y))→eval ns a f=eval ns b f:=by
 intro f
 induction f using Nat.strongRecOn with
 | ind f ih =>
  intro hf hS
  rcases Nat.lt_or_ge f 2 with h | h
  ·have:f=0∨f=1:=by omega
   rcases this with rfl | rfl
   ·rw [eval_zero,eval_zero]
   ·rw [eval_one,eval_one]
  ·rw [eval_node w a h hf,eval_node w b h hf,hab (at_ n ns f).v (hS f (.self h)),ih _ (w.lt_high h hf) (w.ref_high hf) (fun y hy=>hS y (.high h hy)),ih _ (w.lt_low h hf) (w.ref_low hf) (fun y hy=>hS y (.low h hy))]
theorem Rch.tv_le (w:Wf n ns) {f y:Nat} (h:Rch n ns f y) (hf:Ref ns f):tv n ns f≤tv n ns y:=by
 induction h with
 | self h=>exact Nat.le_refl _
 | low h _ ih=>have:=ih (w.ref_low hf); have:=w.tv_low h hf; omega
 | high h _ ih=>have:=ih (w.ref_high hf); have:=w.tv_high h hf; omega
def Asc (n:Nat) (S:Nat→Prop) (to:Nat→Nat):Prop:=(∀ u,S u→to u < n)∧∀ u v,S u→S v→u < v→to u < to v
theorem CPre.ren {S:Nat→Prop} {to:Nat→Nat} (w:Wf n ns) (hf:Ref ns f) (h2:2≤f) (hS:∀ y,Rch n ns f y→S (tv n ns y)) (ha:Asc n S to):CPre n (fun a i=>a (to i)) ns f (to (tv n ns f)):=by
 have sf:=hS f (.self h2)
 have t1:=w.tv_low h2 hf
 have t2:=w.tv_high h2 hf
 have key:∀ {a c:Nat→Bool} {x:Nat},Ref ns x→tv n ns f < tv n ns x→(∀ y,Rch n ns x y→S (tv n ns y))→(∀ i,to (tv n ns f)+1≤i→a i=c i)→eval ns (fun i=>a (to i)) x=eval ns (fun i=>c (to i)) x:=by
  intro a c x hx hlt hSx h
  refine eval_reach w (S:=fun i=>S i∧tv n ns x≤i) (fun i hi=>h _ ?_) hx fun y hy=>⟨hSx y hy,hy.tv_le w hx⟩
  exact ha.2 _ _ sf hi.1 (by omega)
 exact ⟨w,hf,h2,ha.1 _ sf,fun a=>rfl,fun a c h=>key (w.ref_low hf) t1 (fun y hy=>hS y (.low h2 hy)) h,fun a c h=>key (w.ref_high hf) t2 (fun y hy=>hS y (.high h2 hy)) h⟩
end
end Go.Bd
end
section
set_option linter.unusedVariables false
set_option linter.unusedSimpArgs false
namespace Go.Bd
section
variable {n:Nat} {ns:Ns}
theorem upd_comm {a:Nat→Bool} {u v:Nat} {x y:Bool} (h:u≠v):upd (upd a u x) v y=upd (upd a v y) u x:=by
 funext i
 unfold upd
 by_cases h1:i=v
 ·subst h1; rw [if_pos rfl,if_neg (fun e=>h e.symm),if_pos rfl]
 ·by_cases h2:i=u
  ·simp [h1,h2,h]
  ·simp [h1,h2]
theorem reach_dep (w:Wf n ns) (v:Nat):∀ {f:Nat},Ref ns f→((∃ y,Rch n ns f y∧tv n ns y=v)↔∃ a,eval ns (upd a v false) f≠eval ns (upd a v true) f):=by
 intro f hf
 constructor
 ·rintro ⟨y,hr,rfl⟩
  induction hr with
  | self h=>exact dep_top w h hf
  | @low f y h k ih =>
   obtain ⟨a,ha⟩:=ih (w.ref_low hf)
   have h1:=k.tv_le w (w.ref_low hf)
   have h2:=w.tv_low h hf
   refine ⟨upd a (tv n ns f) false,?_⟩
   rw [upd_comm (u:=tv n ns f) (y:=false) (by omega),upd_comm (u:=tv n ns f) (y:=true) (by omega),eval_low w h hf,eval_low w h hf]
   exact ha
  | @high f y h k ih =>
   obtain ⟨a,ha⟩:=ih (w.ref_high hf)
   have h1:=k.tv_le w (w.ref_high hf)
   have h2:=w.tv_high h hf
   refine ⟨upd a (tv n ns f) true,?_⟩
   rw [upd_comm (u:=tv n ns f) (y:=false) (by omega),upd_comm (u:=tv n ns f) (y:=true) (by omega),eval_high w h hf,eval_high w h hf]
   exact ha
 ·rintro ⟨a,ha⟩
  rcases Classical.em (∃ y,Rch n ns f y∧tv n ns y=v) with h | h
  ·exact h
  ·exact absurd (eval_reach w (S:=fun i=>i≠v) (fun i hi=>by rw [upd_ne hi,upd_ne hi]) hf (fun y hy e=>h ⟨y,hy,e⟩)) ha
end
def pickF (n:Nat) (ns:Ns) (f:Nat):Nat→Bool :=
 if h:f < 2 then fun _=>false else
  let d:=at_ n ns f
  if hl:d.low < f∧d.high < f then (if d.low=0 then upd (pickF n ns d.high) d.v true else pickF n ns d.low) else fun _=>false
 termination_by f
 decreasing_by
 ·exact hl.2
 ·exact hl.1
section
variable {n:Nat} {ns:Ns}
theorem pick_lt {f:Nat} (h:f < 2):pickF n ns f=fun _=>false:=by unfold pickF; rw [dif_pos h]
theorem pick_node (w:Wf n ns) {f:Nat} (h:2≤f) (hf:Ref ns f):pickF n ns f=if (at_ n ns f).low=0 then upd (pickF n ns (at_ n ns f).high) (tv n ns f) true else pickF n ns (at_ n ns f).low:=by
 conv=>lhs; unfold pickF
 rw [dif_neg (by omega)]
 simp only
 rw [dif_pos ⟨w.lt_low h hf,w.lt_high h hf⟩]
 rfl
theorem pick_low (w:Wf n ns):∀ {f:Nat},Ref ns f→∀ i,i < tv n ns f→pickF n ns f i=false:=by
 intro f
 induction f using Nat.strongRecOn with
 | ind f ih =>
  intro hf i hi
  rcases Nat.lt_or_ge f 2 with h | h
  ·rw [pick_lt h]
  ·rw [pick_node w h hf]
   split
   ·rw [upd_ne (by omega)]
    exact ih _ (w.lt_high h hf) (w.ref_high hf) i (by have:=w.tv_high h hf; omega)
   ·exact ih _ (w.lt_low h hf) (w.ref_low hf) i (by have:=w.tv_low h hf; omega)
theorem pick_true (w:Wf n ns):∀ {f:Nat},Ref ns f→f≠0→eval ns (pickF n ns f) f=true:=by
 intro f
 induction f using Nat.strongRecOn with
 | ind f ih =>
  intro hf h0
  rcases Nat.lt_or_ge f 2 with h | h
  ·have:f=1:=by omega
   subst this
   rw [eval_one]
  ·rw [pick_node w h hf]
   have hne:(at_ n ns f).low≠(at_ n ns f).high:=by rw [at_ge h hf]; exact w.ne _ _
   by_cases hl:(at_ n ns f).low=0
   ·rw [if_pos hl,eval_high w h hf]
    exact ih _ (w.lt_high h hf) (w.ref_high hf) (by omega)
   ·rw [if_neg hl,eval_node w _ h hf,show (at_ n ns f).v=tv n ns f from rfl,pick_low w (w.ref_low hf) _ (w.tv_low h hf)]
    exact ih _ (w.lt_low h hf) (w.ref_low hf) hl
end
abbrev Fc:=Nat × Nat
section
variable {n:Nat} {ns:Ns}
end
end Go.Bd
namespace Go.Bd
section
variable {n:Nat} {ns ns':Ns}
theorem Rch.of_ext (w:Wf n ns) (hx:Ext n ns ns') {f y:Nat} (h:Rch n ns' f y) (hf:Ref ns f):Rch n ns f y:=by
 induction h with
 | self h=>exact .self h
 | low h _ ih=>rw [hx.at hf] at ih; exact .low h (ih (w.ref_low hf))
 | high h _ ih=>rw [hx.at hf] at ih; exact .high h (ih (w.ref_high hf))
theorem sup_ext (w:Wf n ns) (hx:Ext n ns ns') {S:Nat→Prop} {f:Nat} (hf:Ref ns f) (hS:∀ y,Rch n ns f y→S (tv n ns y)):∀ y,Rch n ns' f y→S (tv n ns' y):=fun y hy=>by
 have:=hy.of_ext w hx hf
 rw [hx.tv (this.ref w hf)]; exact hS y this
end
end Go.Bd
end
section
set_option maxRecDepth 100000
set_option linter.unusedSimpArgs false
set_option linter.unusedVariables false
namespace Go.Proofs.YtkhfdmelcpfgoaaGreat
open Go Go.W Go.Bd Go.Maps
theorem e_eq (a b:Nat):((a:Int) == (b:Int))=decide (a=b):=by
 by_cases h:a=b
 ·simp [h]
 ·have:((a:Int) == b)=false:=by rw [beq_eq_false_iff_ne]; omega
  rw [this]; simp [h]
theorem e_eq0 (a:Nat):((a:Int) == 0)=decide (a=0):=e_eq a 0
open Go Go.W Go.Bd Go.Maps
def ChPost (m n lim:Nat) (σ:(Nat→Bool)→Nat→Bool) (ns:Ns) (f b:Nat) (B:Asr) (w:World) (F:List Nat) (v:Value) (w':World):Prop :=
 ∃ r ns' M',v=optV r∧ChOk n lim σ ns f r ns' M'∧At w F (Star (MgrA m n lim ns') (Star (MemB b M') B)) w'
set_option maxHeartbeats 4000000 in
theorem change_ren (m n lim b:Nat) (v0 v1:Int) (tov:Value) (xs:List Int) (S:Nat→Prop) (to:Nat→Nat) (htov:∃ a k c,tov=.slice (some a) k c) (hto:∀ i,S i→xs[i]?=some ((to i:Nat):Int)) (hasc:Asc n S to) (w:World) (F:List Nat):∀ (d f:Nat) (ns:Ns) (M:Mem1) (B:Asr) (w1:World),Lcl B→Wf n ns→Bnd n lim ns→Ref ns f→f≤d→Go.Bd.MemC (fun a i=>a (to i)) ns M→(∀ y,Rch n ns f y→S (tv n ns y))→(∀ w' F',B w' F'→Vw w' tov iv xs) →
  At w F (Star (MgrA m n lim ns) (Star (MemB b M) B)) w1 →
  Calls Tryz.prog 121 [.pointer (some ⟨m,0,none⟩),.int .i64 (f:Nat),.int .i64 v0,.int .i64 v1,tov,.map (some b)].toArray w1 fun e w'=>∃ v,e=.returned v∧ChPost m n lim (fun a i=>a (to i)) ns f b B w F v w':=by
 intro d
 induction d using Nat.strongRecOn with
 | ind d ih =>
 intro f ns M B w1 hB hw hb hf hd hM hS hR hA
 obtain ⟨hbn,hbl,hbs⟩:=hb
 have hb':Bnd n lim ns:=⟨hbn,hbl,hbs⟩
 have hLV:Lcl B:=hB
 have hLX:Lcl (Star (MgrA m n lim ns) (Star (MemB b M) B)):=Lcl.mgr.star (Lcl.map.star hLV)
 have hrf:f≤1048578:=by unfold Ref at hf; omega
 refine enter Tryz.func121 mixed low121 (Nat.le_of_ble_eq_true rfl) ?_
 simp only [L121]
 by_cases h2:f < 2
 ·have h2':(f:Int) < 2:=by omega
  simp [h2']
  exact ⟨some f,ns,M,rfl,c_const hw hbs hM hf h2,hA⟩
 have h2':¬ (f:Int) < 2:=by omega
 have hf2:2≤f:=by omega
 simp [h2']
 refine MapM.look2 (x:=f) hA.drop.map bkeyI Tryz.underlying76 zint (show i64ok f by unfold i64ok; omega) ?_
 cases hgm:getM M f with
 | some r =>
  simp [natV]
  exact ⟨some r,ns,M,rfl,c_known hw hbs hM (getM_in hgm),hA⟩
 | none =>
 simp
 refine cl_of (at_spec m n lim f ns w1 (MgrA.rd hA) hb' hf) ?_
 rintro v w2 ⟨rfl,k2⟩
 have h3:=(hA.kp0 hLX k2).alloc (.cells #[.int .i64 0,.int .i64 0,.int .i64 0] 137) hLX
 simp [ndV,bn_len]
 refine h3.st hLX (by simp [en,ints]) (by simp [en,ints]) fun w4 h4=>?_
 have e3:∀ d:Nd,wrAt #[.int .i64 0,.int .i64 0,.int .i64 0] 0 (en d)=(en d).toArray:=fun d=>by simp [en,ints]
 rw [e3] at h4
 obtain ⟨t,ht⟩:∃ t,t=w2.heap.size:=⟨_,rfl⟩
 rw [← ht] at h4 ⊢
 have h5:=h4.tor3
 have hLT:Lcl (Star (ObjA t (.cells (en (at_ n ns f)).toArray 137 (0,0))) B):=Lcl.obj.star hB
 have hot:=h4.obj
 have l1:=hw.lt_low hf2 hf
 have l2:=hw.lt_high hf2 hf
 have tvn:=hw.tv_var hf2 hf
 have etv:tv n ns f=(at_ n ns f).v:=rfl
 have brl:(at_ n ns f).low≤1048578:=by omega
 have brh:(at_ n ns f).high≤1048578:=by omega
 obtain ⟨ta,tk,tc,rfl⟩:=htov
 have hRT:∀ w' F',Star (ObjA t (.cells (en (at_ n ns f)).toArray 137 (0,0))) B w' F'→Vw w' (.slice (some ta) tk tc) iv xs:=fun w' F' h=>by
  obtain ⟨_,Fb,_,h2,_⟩:=h
  exact hR _ _ h2
 simp [cell_blk hot,en,ints]
 refine cl_of (ih (d - 1) (by omega) (at_ n ns f).low ns M _ w4 hLT hw hb' (hw.ref_low hf) (by omega) hM (fun y hy=>hS y (.low hf2 hy)) hRT h5) ?_
 rintro _ w6 ⟨r1,ns1,M1,rfl,hl,h6⟩
 have drp:∀ {nsx:Ns} {Mx:Mem1} {wx:World},At w F (Star (MgrA m n lim nsx) (Star (MemB b Mx) (Star (ObjA t (.cells (en (at_ n ns f)).toArray 137 (0,0))) B))) wx→At w F (Star (MgrA m n lim nsx) (Star (MemB b Mx) B)) wx:=fun h=>h.by (Imp.un (Imp.un Imp.dr))
 cases r1 with
 | none =>
  simp [optV,bnoV,berrV]
  exact ⟨none,ns1,M1,rfl,c_low hw hf hf2 hl,drp h6⟩
 | some l =>
 have hw1:=hl.ext.wf
 have hb1:Bnd n lim ns1:=⟨hbn,hbl,hl.lim⟩
 have hot:=h6.drop.drop.obj
 simp [optV,okV,cell_blk hot,en,ints]
 refine cl_of (ih (d - 1) (by omega) (at_ n ns f).high ns1 M1 _ w6 hLT hw1 hb1 (hl.ext.ref (hw.ref_high hf)) (by omega) hl.mem (sup_ext hw hl.ext (hw.ref_high hf) (fun y hy=>hS y (.high hf2 hy))) hRT h6) ?_
 rintro _ w7 ⟨r2,ns2,M2,rfl,hh,h7⟩
 cases r2 with
 | none =>
  simp [optV,bnoV,berrV]
  exact ⟨none,ns2,M2,rfl,c_high hw hf hf2 hl hh,drp h7⟩
 | some h =>
 have hpre:=CPre.ren hw hf hf2 hS hasc
 have hm:=c_mid hpre hl hh
 have hw2:=hm.ext.wf
 have hb2:Bnd n lim ns2:=⟨hbn,hbl,hm.lim⟩
 have hl2:=hm.lim
 have hot:=h7.drop.drop.obj
 have hlr:l≤2000000:=by have:=hm.rl; unfold Ref at this; omega
 have hhr:h≤2000000:=by have:=hm.rk; unfold Ref at this; omega
 have hml:M2.length≤1048578:=mem1_small (ns:=ns2) (N:=1048578) (by omega) (fun q hq=>(hm.mem q hq).1) (MapM.nodup h7.drop.map)
 obtain ⟨_,hq,_⟩:=h7.drop.drop.drop.ex
 have hvw:=hR _ _ hq
 have sv:=hto _ (hS f (.self hf2))
 have un:=hpre.un
 have hix:(tv n ns f) < xs.length:=(List.getElem?_eq_some_iff.1 sv).1
 rw [etv] at sv un hix
 have hcv:=iv_cell hvw sv
 have etk:tk=xs.length:=by
  rcases hvw with ⟨h1,_⟩ | ⟨a,cap,h1,_⟩
  ·cases h1
  ·injection h1
 have hlt:((at_ n ns f).v:Int) < tk:=by omega
 have hlt':(at_ n ns f).v < tk:=by omega
 simp [Value.adr] at hcv
 simp [optV,okV,cell_blk hot,en,ints,hcv,hlt,hlt']
 rw [← etv]
 refine cl_of (make_spec m n lim ns2 (to (tv n ns f)) l h (Lcl.map.star hLT) h7 hb2 (by have:=hpre.un; omega) hlr hhr) ?_
 rintro _ w9 ⟨rfl,h9⟩
 cases hk:(mkF lim ns2 (to (tv n ns f)) l h).1 with
 | none =>
  simp [optV,bnoV,berrV]
  exact ⟨none,_,M2,rfl,c_full hpre hm hk,drp h9⟩
 | some x =>
  simp [optV,okV]
  refine At.put (x:=f) (v:=x) (Lcl.mgr.star hLT) h9.rot bkeyI Tryz.underlying76 (show i64ok f by unfold i64ok; omega) (by unfold maxLen; omega) fun w12 h12=>?_
  simp
  exact ⟨some x,_,_,rfl,c_done hpre hm hk (fun q hq=>putM_mem hq),drp h12.rot⟩
end Go.Proofs.YtkhfdmelcpfgoaaGreat
end
section
set_option maxRecDepth 100000
set_option linter.unusedSimpArgs false
set_option linter.unusedVariables false
namespace Go.Proofs.YtkhfdmelcpfgoaaGreat
open Go Go.W Go.Bd Go.Maps
section
variable {p:Value} {w:World} {R:Value→World→Prop}
theorem not_of {f:Int} (h:Calls Tryz.prog 94 [p,.int .i64 2,.int .i64 f,.int .i64 1].toArray w fun e w'=>∃ v,e=.returned v∧R v w') (hR:∀ v w',R v w'→∃ a b,v=.tuple #[a,b]) :
  Calls Tryz.prog 81 [p,.int .i64 f].toArray w fun e w'=>∃ v,e=.returned v∧R v w':=by
 refine enter Tryz.func81 mixed low81 (Nat.le_of_ble_eq_true rfl) ?_
 simp only [L81]
 simp
 refine cl_of h ?_
 intro v w2 h2
 obtain ⟨a,b,rfl⟩:=hR v w2 h2
 simp
 exact h2
theorem and_of {f g:Int} (h:Calls Tryz.prog 94 [p,.int .i64 0,.int .i64 f,.int .i64 g].toArray w fun e w'=>∃ v,e=.returned v∧R v w') (hR:∀ v w',R v w'→∃ a b,v=.tuple #[a,b]) :
  Calls Tryz.prog 72 [p,.int .i64 f,.int .i64 g].toArray w fun e w'=>∃ v,e=.returned v∧R v w':=by
 refine enter Tryz.func72 mixed low72 (Nat.le_of_ble_eq_true rfl) ?_
 simp only [L72]
 simp
 refine cl_of h ?_
 intro v w2 h2
 obtain ⟨a,b,rfl⟩:=hR v w2 h2
 simp
 exact h2
theorem or_of {f g:Int} (h:Calls Tryz.prog 94 [p,.int .i64 1,.int .i64 f,.int .i64 g].toArray w fun e w'=>∃ v,e=.returned v∧R v w') (hR:∀ v w',R v w'→∃ a b,v=.tuple #[a,b]) :
  Calls Tryz.prog 71 [p,.int .i64 f,.int .i64 g].toArray w fun e w'=>∃ v,e=.returned v∧R v w':=by
 refine enter Tryz.func71 mixed low71 (Nat.le_of_ble_eq_true rfl) ?_
 simp only [L71]
 simp
 refine cl_of h ?_
 intro v w2 h2
 obtain ⟨a,b,rfl⟩:=hR v w2 h2
 simp
 exact h2
theorem exists_of {f:Int} {u:Value} (h:Calls Tryz.prog 136 [p,.int .i64 1,.int .i64 f,u].toArray w fun e w'=>∃ v,e=.returned v∧R v w') (hR:∀ v w',R v w'→∃ a b,v=.tuple #[a,b]) :
  Calls Tryz.prog 123 [p,.int .i64 f,u].toArray w fun e w'=>∃ v,e=.returned v∧R v w':=by
 refine enter Tryz.func123 mixed low123 (Nat.le_of_ble_eq_true rfl) ?_
 simp only [L123]
 simp
 refine cl_of h ?_
 intro v w2 h2
 obtain ⟨a,b,rfl⟩:=hR v w2 h2
 simp
 exact h2
theorem optV_tup (r:Option Nat):∃ a b,optV r=.tuple #[a,b]:=by cases r <;> exact ⟨_,_,rfl⟩
end
theorem times_spec (n p:Nat) (w:World) (hn:n≤many) (hp:p≤100000):Calls Tryz.prog 84 [.int .i64 (n:Nat),.int .i64 (p:Nat)].toArray w fun e w'=>∃ v,e=.returned v∧v=.int .i64 ((min (n * 2 ^ p) many:Nat):Int)∧Kp [] w w':=by
 refine enter Tryz.func84 mixed low84 (Nat.le_of_ble_eq_true rfl) ?_
 simp only [L84]
 simp
 have hm:many=1099511627777:=rfl
 refine loop_inv (fun q ρ w1=>∃ x:Nat,ρ 0=.int .i64 (x:Nat)∧ρ 1=.int .i64 (q:Nat)∧x≤many∧q≤p∧min (x * 2 ^ q) many=min (n * 2 ^ p) many∧w1=w) p
  ⟨n,by simp,by simp,hn,Nat.le_refl _,rfl,rfl⟩ ?_
 rintro q ρ w1 ⟨x,g0,g1,hx,hq,he,rfl⟩
 by_cases h1:q=0
 ·subst h1
  simp [g0,g1]
  refine ⟨?_,Kp.refl _ _⟩
  rw [← he]; simp; omega
 have h1':(0:Int) < q:=by omega
 have h1'':0 < q:=by omega
 by_cases h2:x=0
 ·subst h2
  simp [g0,g1,h1',h1'']
  refine ⟨?_,Kp.refl _ _⟩
  rw [← he]; simp
 have h2':(0:Int) < x:=by omega
 have h2'':0 < x:=by omega
 have hpq:2≤2 ^ q:=by
  obtain ⟨e,rfl⟩:∃ e,q=e+1:=⟨q - 1,by omega⟩
  have:=Nat.two_pow_pos e
  rw [Nat.pow_succ]; omega
 by_cases h3:x < many
 ·have h3':(x:Int) < 1099511627777:=by omega
  have h3'':x < 1099511627777:=by omega
  have e1:min (2 * (x:Int)) 1099511627777=((min (2 * x) many:Nat):Int):=by omega
  have e2:(q:Int) - 1=((q - 1:Nat):Int):=by omega
  simp (disch:=omega) [g0,g1,h1',h1'',h2',h2'',h3',h3'',wrap_i64]
  refine ⟨q - 1,by omega,min (2 * x) many,by omega,by omega,by omega,by omega,?_⟩
  rw [many_mul,← he]
  have:2 * x * 2 ^ (q - 1)=x * 2 ^ q:=by
   obtain ⟨e,rfl⟩:∃ e,q=e+1:=⟨q - 1,by omega⟩
   rw [Nat.add_sub_cancel,Nat.pow_succ,Nat.mul_comm 2 x,Nat.mul_assoc,Nat.mul_comm 2]
  rw [this]
 ·have h3':¬ (x:Int) < 1099511627777:=by omega
  have h3'':¬ x < 1099511627777:=by omega
  have h4:x=many:=by omega
  simp [g0,g1,h1',h1'',h2',h2'',h3',h3'']
  refine ⟨?_,Kp.refl _ _⟩
  rw [← he,h4]
  have:many≤many * 2 ^ q:=Nat.le_mul_of_pos_right _ (by omega)
  omega
end Go.Proofs.YtkhfdmelcpfgoaaGreat
end
section
set_option maxRecDepth 100000
set_option linter.unusedSimpArgs false
set_option linter.unusedVariables false
namespace Go.Proofs.YtkhfdmelcpfgoaaGreat
open Go Go.W Go.Bd Go.Maps
def MemC (n:Nat) (ns:Ns) (M:Mem1):Prop:=∀ q ∈ M,Ref ns q.1∧q.2=min (cnt n ns q.1) many
def CPost (m n lim:Nat) (ns:Ns) (f b:Nat) (B:Asr) (w:World) (F:List Nat) (v:Value) (w':World):Prop :=
 v=natV (min (cnt n ns f) many)∧∃ M',MemC n ns M'∧At w F (Star (MgrA m n lim ns) (Star (MemB b M') B)) w'
set_option maxHeartbeats 4000000 in
theorem count_aux (m n lim b:Nat) (ns:Ns) (hw:Wf n ns) (hb:Bnd n lim ns) (w:World) (F:List Nat):∀ (d f:Nat) (M:Mem1) (B:Asr) (w1:World),Lcl B→Ref ns f→f≤d→MemC n ns M →
  At w F (Star (MgrA m n lim ns) (Star (MemB b M) B)) w1 →
  Calls Tryz.prog 85 [.pointer (some ⟨m,0,none⟩),.int .i64 (f:Nat),.map (some b)].toArray w1 fun e w'=>∃ v,e=.returned v∧CPost m n lim ns f b B w F v w':=by
 intro d
 induction d using Nat.strongRecOn with
 | ind d ih =>
 intro f M B w1 hB hf hd hM hA
 obtain ⟨hbn,hbl,hbs⟩:=hb
 have hb':Bnd n lim ns:=⟨hbn,hbl,hbs⟩
 have hLX:∀ M,Lcl (Star (MgrA m n lim ns) (Star (MemB b M) B)):=fun M=>Lcl.mgr.star (Lcl.map.star hB)
 have hrf:f≤1048578:=by unfold Ref at hf; omega
 have hmany:many=1099511627777:=rfl
 refine enter Tryz.func85 mixed low85 (Nat.le_of_ble_eq_true rfl) ?_
 simp only [L85]
 by_cases h2:f < 2
 ·have h2':(f:Int) < 2:=by omega
  simp [h2']
  refine ⟨?_,M,hM,hA⟩
  rw [cnt_lt h2]
  unfold natV
  congr 1
  omega
 have h2':¬ (f:Int) < 2:=by omega
 simp [h2']
 refine MapM.look2 (x:=f) hA.drop.map bkeyI Tryz.underlying76 zint (show i64ok f by unfold i64ok; omega) ?_
 cases hgm:getM M f with
 | some r =>
  simp [natV]
  have:=(hM _ (getM_in hgm)).2
  simp only at this
  refine ⟨?_,M,hM,hA⟩
  unfold natV
  rw [this]
 | none =>
 simp
 refine cl_of (at_spec m n lim f ns w1 (MgrA.rd hA) hb' hf) ?_
 rintro v w2 ⟨rfl,k2⟩
 have h3:=(hA.kp0 (hLX M) k2).alloc (.cells #[.int .i64 0,.int .i64 0,.int .i64 0] 137) (hLX M)
 simp [ndV,bn_len]
 refine h3.st (hLX M) (by simp [en,ints]) (by simp [en,ints]) fun w4 h4=>?_
 have e3:∀ d:Nd,wrAt #[.int .i64 0,.int .i64 0,.int .i64 0] 0 (en d)=(en d).toArray:=fun d=>by simp [en,ints]
 rw [e3] at h4
 obtain ⟨t,ht⟩:∃ t,t=w2.heap.size:=⟨_,rfl⟩
 rw [← ht] at h4 ⊢
 have h5:=h4.tor3
 have hLT:Lcl (Star (ObjA t (.cells (en (at_ n ns f)).toArray 137 (0,0))) B):=Lcl.obj.star hB
 have hLY:∀ M,Lcl (Star (MgrA m n lim ns) (Star (MemB b M) (Star (ObjA t (.cells (en (at_ n ns f)).toArray 137 (0,0))) B))):=fun M=>Lcl.mgr.star (Lcl.map.star hLT)
 have hf2:2≤f:=by omega
 have l1:=hw.lt_low hf2 hf
 have l2:=hw.lt_high hf2 hf
 have tvn:=hw.tv_var hf2 hf
 have rl:=hw.ref_low hf
 have rh:=hw.ref_high hf
 have tl:=hw.tv_low hf2 hf
 have th:=hw.tv_high hf2 hf
 have bl:=hw.tv_le rl
 have bh:=hw.tv_le rh
 have etv:tv n ns f=(at_ n ns f).v:=rfl
 obtain ⟨nd,hnd⟩:∃ nd,nd=at_ n ns f:=⟨_,rfl⟩
 rw [← hnd] at h5 hLT hLY l1 l2 rl rh tl th bl bh etv
 refine any_text (fun _ w'=>∃ M',MemC n ns M'∧At w F (Star (MgrA m n lim ns) (Star (MemB b M') (Star (ObjA t (.cells (en nd).toArray 137 (0,0))) B))) w') (by kernel_rfl) ⟨M,hM,h5.drew (hLY M)⟩ ?_
 have cell:∀ {M':Mem1} {w':World},At w F (Star (MgrA m n lim ns) (Star (MemB b M') (Star (ObjA t (.cells (en nd).toArray 137 (0,0))) B))) w'→w'.heap[t]?=some (.cells (en nd).toArray 137 (0,0)):=fun h=>h.drop.drop.obj
 have callC:∀ x,x < f→Ref ns x→∀ w',(∃ M',MemC n ns M'∧At w F (Star (MgrA m n lim ns) (Star (MemB b M') (Star (ObjA t (.cells (en nd).toArray 137 (0,0))) B))) w') →
   Calls Tryz.prog 85 [.pointer (some ⟨m,0,none⟩),.int .i64 (x:Nat),.map (some b)].toArray w' fun e w''=>∃ v,e=.returned v∧(v=natV (min (cnt n ns x) many)∧∃ M',MemC n ns M'∧At w F (Star (MgrA m n lim ns) (Star (MemB b M') (Star (ObjA t (.cells (en nd).toArray 137 (0,0))) B))) w''):=by
  rintro x hx hr w' ⟨M',hM',h'⟩
  exact ih (d - 1) (by omega) x M' _ w' hLT hr (by omega) hM' h'
 have callA:∀ x,Ref ns x→∀ w',(∃ M',MemC n ns M'∧At w F (Star (MgrA m n lim ns) (Star (MemB b M') (Star (ObjA t (.cells (en nd).toArray 137 (0,0))) B))) w') →
   Calls Tryz.prog 86 [.pointer (some ⟨m,0,none⟩),.int .i64 (x:Nat)].toArray w' fun e w''=>∃ v,e=.returned v∧(v=ndV (at_ n ns x)∧∃ M',MemC n ns M'∧At w F (Star (MgrA m n lim ns) (Star (MemB b M') (Star (ObjA t (.cells (en nd).toArray 137 (0,0))) B))) w''):=by
  rintro x hr w' ⟨M',hM',h'⟩
  refine (at_spec m n lim x ns w' (MgrA.rd h') hb' hr).mono ?_
  rintro e w'' ⟨v,rfl,rfl,k⟩
  exact ⟨_,rfl,rfl,M',hM',h'.kp0 (hLY M') k⟩
 have callT:∀ x p,x≤many→p≤100000→∀ w',(∃ M',MemC n ns M'∧At w F (Star (MgrA m n lim ns) (Star (MemB b M') (Star (ObjA t (.cells (en nd).toArray 137 (0,0))) B))) w') →
   Calls Tryz.prog 84 [.int .i64 (x:Nat),.int .i64 (p:Nat)].toArray w' fun e w''=>∃ v,e=.returned v∧(v=natV (min (x * 2 ^ p) many)∧∃ M',MemC n ns M'∧At w F (Star (MgrA m n lim ns) (Star (MemB b M') (Star (ObjA t (.cells (en nd).toArray 137 (0,0))) B))) w''):=by
  rintro x p hx hp w' ⟨M',hM',h'⟩
  refine (times_spec x p w' hx hp).mono ?_
  rintro e w'' ⟨v,rfl,rfl,k⟩
  exact ⟨_,rfl,rfl,M',hM',h'.kp0 (hLY M') k⟩
 have etl:tv n ns nd.low=(at_ n ns nd.low).v:=rfl
 have eth:tv n ns nd.high=(at_ n ns nd.high).v:=rfl
 simp
 refine rdA_mk (.int .i64 (nd.low:Nat)) (fun k' w' hS=>?_) ?_
 ·obtain ⟨M',hM',h'⟩:=hS
  simp [cell_blk (cell h'),en,ints]
 simp
 refine efA_mk (natV (min (cnt n ns nd.low) many)) (fun w' hS=>?_) ?_
 ·simp
  refine cl_of (callC nd.low (by omega) rl w' hS) ?_
  rintro v w'' ⟨rfl,h⟩
  exact ⟨rfl,h⟩
 simp
 refine rdA_mk (.int .i64 (nd.low:Nat)) (fun k' w' hS=>?_) ?_
 ·obtain ⟨M',hM',h'⟩:=hS
  simp [cell_blk (cell h'),en,ints]
 simp
 refine efA_mk (ndV (at_ n ns nd.low)) (fun w' hS=>?_) ?_
 ·simp
  refine cl_of (callA nd.low rl w' hS) ?_
  rintro v w'' ⟨rfl,h⟩
  exact ⟨rfl,h⟩
 simp [ndV,en,ints]
 refine rdA_mk (.int .i64 (nd.v:Nat)) (fun k' w' hS=>?_) ?_
 ·obtain ⟨M',hM',h'⟩:=hS
  simp [cell_blk (cell h'),en,ints]
 simp (disch:=omega) [wrap_i64]
 refine efA_mk (natV (min (min (cnt n ns nd.low) many * 2 ^ (tv n ns nd.low - nd.v - 1)) many)) (fun w' hS=>?_) ?_
 ·simp [natV]
  have e1:(((at_ n ns nd.low).v:Int) - nd.v - 1)=((tv n ns nd.low - nd.v - 1:Nat):Int):=by
   have:tv n ns nd.low=(at_ n ns nd.low).v:=rfl
   omega
  rw [e1]
  refine cl_of (callT (min (cnt n ns nd.low) many) (tv n ns nd.low - nd.v - 1) (by omega) (by omega) w' hS) ?_
  rintro v w'' ⟨rfl,h⟩
  exact ⟨rfl,h⟩
 simp
 refine rdA_mk (.int .i64 (nd.high:Nat)) (fun k' w' hS=>?_) ?_
 ·obtain ⟨M',hM',h'⟩:=hS
  simp [cell_blk (cell h'),en,ints]
 simp
 refine efA_mk (natV (min (cnt n ns nd.high) many)) (fun w' hS=>?_) ?_
 ·simp
  refine cl_of (callC nd.high (by omega) rh w' hS) ?_
  rintro v w'' ⟨rfl,h⟩
  exact ⟨rfl,h⟩
 simp
 refine rdA_mk (.int .i64 (nd.high:Nat)) (fun k' w' hS=>?_) ?_
 ·obtain ⟨M',hM',h'⟩:=hS
  simp [cell_blk (cell h'),en,ints]
 simp
 refine efA_mk (ndV (at_ n ns nd.high)) (fun w' hS=>?_) ?_
 ·simp
  refine cl_of (callA nd.high rh w' hS) ?_
  rintro v w'' ⟨rfl,h⟩
  exact ⟨rfl,h⟩
 simp [ndV,en,ints]
 refine rdA_mk (.int .i64 (nd.v:Nat)) (fun k' w' hS=>?_) ?_
 ·obtain ⟨M',hM',h'⟩:=hS
  simp [cell_blk (cell h'),en,ints]
 simp (disch:=omega) [wrap_i64]
 refine efA_mk (natV (min (min (cnt n ns nd.high) many * 2 ^ (tv n ns nd.high - nd.v - 1)) many)) (fun w' hS=>?_) ?_
 ·simp [natV]
  have e1:(((at_ n ns nd.high).v:Int) - nd.v - 1)=((tv n ns nd.high - nd.v - 1:Nat):Int):=by
   have:tv n ns nd.high=(at_ n ns nd.high).v:=rfl
   omega
  rw [e1]
  refine cl_of (callT (min (cnt n ns nd.high) many) (tv n ns nd.high - nd.v - 1) (by omega) (by omega) w' hS) ?_
  rintro v w'' ⟨rfl,h⟩
  exact ⟨rfl,h⟩
 have hcn:=cnt_node hw hf2 hf
 rw [← hnd,etv] at hcn
 simp (disch:=omega) [natV,wrap_i64]
 intro w' M' hM' h'
 have ev:(min (((min (min (cnt n ns nd.low) many * 2 ^ (tv n ns nd.low - nd.v - 1)) many:Nat):Int)+((min (min (cnt n ns nd.high) many * 2 ^ (tv n ns nd.high - nd.v - 1)) many:Nat):Int)) 1099511627777:Int)=((min (cnt n ns f) many:Nat):Int):=by
  rw [many_mul,many_mul,hcn,← many_add]; omega
 rw [ev]
 have hml:M'.length≤1048578:=mem1_small (ns:=ns) (N:=1048578) (by omega) (fun q hq=>(hM' q hq).1) (MapM.nodup h'.drop.map)
 refine At.put (x:=f) (v:=min (cnt n ns f) many) (Lcl.mgr.star hLT) h'.rot bkeyI Tryz.underlying76 (show i64ok f by unfold i64ok; omega) (by unfold maxLen; omega) fun w12 h12=>?_
 simp
 refine ⟨rfl,_,?_,(h12.rot).by (Imp.un (Imp.un Imp.dr))⟩
 intro q hq
 rcases putM_mem hq with h1 | rfl
 ·exact hM' q h1
 ·exact ⟨hf,rfl⟩
def cntV (x:Nat):Value:=if x < many then okV x else bnoV 5
theorem Count_spec {w w1:World} {F:List Nat} {B:Asr} (m n lim:Nat) (ns:Ns) (f:Nat) (hB:Lcl B) (hA:At w F (Star (MgrA m n lim ns) B) w1) (hw:Wf n ns) (hb:Bnd n lim ns) (hf:Ref ns f) :
  Calls Tryz.prog 61 [.pointer (some ⟨m,0,none⟩),.int .i64 (f:Nat)].toArray w1 fun e w'=>∃ x,e=.returned x∧x=cntV (num n 0 fun a=>eval ns a f)∧At w F (Star (MgrA m n lim ns) B) w':=by
 have hbn:=hb.hn
 have hmany:many=1099511627777:=rfl
 refine enter Tryz.func61 mixed low61 (Nat.le_of_ble_eq_true rfl) ?_
 simp only [L61]
 have hl:Lcl (Star (MgrA m n lim ns) B):=Lcl.mgr.star hB
 have h1:=lit_ints (xs:=[(f:Int)]) (cs:=#[.int .i64 f]) hl hA rfl (by simp) rfl
 simp [rowOf]
 refine cl_of (check_spec m n lim ns _ [(f:Int)] _ (MgrA.rd h1.drop) hb h1.own.vw (by simp)) ?_
 rintro u w2 ⟨rfl,k2⟩
 have h2:=(h1.drop).kp0 hl k2
 have hr:[(f:Int)].all (refB ns)=true:=by
  unfold Ref at hf
  simp [refB]; omega
 rw [hr]
 have h3:=(h2.newmap (ek:=natV) (ev:=natV) (ok:=i64ok) hl).rot
 simp [bchkV]
 refine cl_of (count_aux m n lim _ ns hw hb w F f f [] B _ hB hf (Nat.le_refl _) (fun q hq=>by cases hq) h3) ?_
 rintro _ w4 ⟨rfl,M',hM',h4⟩
 have h5:=h4.by (Imp.un Imp.dr)
 have htv:=hw.tv_le hf
 simp
 refine cl_of (at_spec m n lim f ns w4 (MgrA.rd h5) hb hf) ?_
 rintro _ w6 ⟨rfl,k6⟩
 have h6:=h5.kp0 hl k6
 have etv:tv n ns f=(at_ n ns f).v:=rfl
 simp [ndV,en,ints,natV]
 refine cl_of (times_spec (min (cnt n ns f) many) (at_ n ns f).v w6 (by omega) (by omega)) ?_
 rintro _ w7 ⟨rfl,k7⟩
 have h7:=h6.kp0 hl k7
 have hc:=cnt_all hw hf
 rw [etv] at hc
 obtain ⟨c,hce⟩:∃ c,c=num n 0 fun a=>eval ns a f:=⟨_,rfl⟩
 rw [← hce] at hc ⊢
 have e:min (min (cnt n ns f) many * 2 ^ (at_ n ns f).v) many=min c many:=by rw [many_mul,hc]
 rw [e]
 by_cases hlt:c < many
 ·have h8:¬ (1099511627777:Int)≤((min c many:Nat):Int):=by omega
  have h9:min c many=c:=by omega
  simp [h8]
  rw [h9]
  exact ⟨by simp [cntV,hlt,okV],h7⟩
 ·have h8:(1099511627777:Int)≤((min c many:Nat):Int):=by omega
  simp [h8]
  exact ⟨by simp [cntV,hlt,bnoV,berrV],h7⟩
end Go.Proofs.YtkhfdmelcpfgoaaGreat
end
section
set_option linter.unusedVariables false
set_option linter.unusedSimpArgs false
namespace Go.Bd
def ex1:Ns:=[⟨0,0,1⟩]
def ex2:Ns:=[⟨0,0,1⟩,⟨1,0,1⟩]
end Go.Bd
end
section
set_option maxRecDepth 100000
set_option linter.unusedSimpArgs false
set_option linter.unusedVariables false
namespace Go.Proofs.YtkhfdmelcpfgoaaGreat
open Go Go.W Go.Bd Go.Maps
theorem bnum_err (c:Int) (w:World):Calls Tryz.prog 21 [berrV c].toArray w fun e w'=>∃ x,e=.returned x∧x=.int .i64 c∧Kp [] w w':=by
 refine enter Tryz.func21 mixed low21 (Nat.le_of_ble_eq_true rfl) ?_
 simp only [L21]
 simp [berrV]
 exact Kp.refl _ _
theorem is_err (c k:Int) (w:World):Calls Tryz.prog 19 [berrV c,.int .i64 k].toArray w fun e w'=>∃ x,e=.returned x∧x=.bool (decide (c=k))∧Kp [] w w':=by
 refine enter Tryz.func19 mixed low19 (Nat.le_of_ble_eq_true rfl) ?_
 simp only [L19]
 simp [berrV]
 refine cl_of (bnum_err c w) ?_
 rintro v w2 ⟨rfl,k2⟩
 simp
 refine ⟨?_,k2⟩
 by_cases h:c=k <;> simp [h]
end Go.Proofs.YtkhfdmelcpfgoaaGreat
end
section
set_option maxRecDepth 100000
set_option linter.unusedSimpArgs false
set_option linter.unusedVariables false
namespace Go.Proofs.YtkhfdmelcpfgoaaGreat
open Go Go.W Go.Bd Go.Maps
theorem lit_vw {w:World} {xs:List Int} {cs:Array Value} {k:Nat} (hcs:cs.toList=xs.flatMap iv) (hx:xs.length≤1000000) (hk:k=xs.length) :
  Vw (w.alloc (.cells cs 3)) (.slice (some ⟨w.heap.size,0,none⟩) k k) iv xs :=
 (lit_ints Lcl.emp (At.start (A:=Emp) (F:=[]) (w:=w) rfl) hcs hx hk).own.vw
theorem check_lit {m n lim:Nat} {ns:Ns} {w:World} (xs:List Int) {cs:Array Value} {k:Nat} (h:MgrF w m n lim ns) (hb:Bnd n lim ns) (hcs:cs.toList=xs.flatMap iv) (hx:xs.length≤1000000) (hk:k=xs.length) :
  Calls Tryz.prog 83 [.pointer (some ⟨m,0,none⟩),.slice (some ⟨w.heap.size,0,none⟩) k k].toArray (w.alloc (.cells cs 3)) fun e w'=>∃ x,e=.returned x∧x=bchkV (xs.all (refB ns))∧Kp [] w w':=by
 have ka:Kp [] w (w.alloc (.cells cs 3)):=(Kp.refl _ _).alloc _
 refine (check_spec m n lim ns _ xs _ (h.kp0 ka) hb (lit_vw hcs hx hk) hx).mono ?_
 rintro e w' ⟨v,rfl,rfl,k⟩
 exact ⟨_,rfl,rfl,ka.trans0 k⟩
section
variable {m n lim:Nat} {ns:Ns} {w:World}
theorem eval_spec (f:Nat) (u:Value) (bs:List Bool) (h:MgrF w m n lim ns) (hb:Bnd n lim ns) (hw:Wf n ns) (hf:Ref ns f) (hu:Vw w u bv bs) (hn:bs.length≤1000000) :
  Calls Tryz.prog 124 [.pointer (some ⟨m,0,none⟩),.int .i64 (f:Nat),u].toArray w fun e w'=>∃ x,e=.returned x∧x=.tuple #[.bool (eval ns (inB bs) f),.nilIface]∧Kp [] w w':=by
 obtain ⟨hbn,hbl,hbs⟩:=hb
 refine enter Tryz.func124 mixed low124 (Nat.le_of_ble_eq_true rfl) ?_
 simp only [L124]
 simp [rowOf]
 refine cl_of (check_lit [(f:Int)] h ⟨hbn,hbl,hbs⟩ rfl (by simp) rfl) ?_
 rintro _ w2 ⟨rfl,k2⟩
 have hr:[(f:Int)].all (refB ns)=true:=by
  unfold Ref at hf
  simp [refB]; omega
 rw [hr]
 simp [bchkV]
 refine loop_inv (fun q ρ w1=>ρ 0=.pointer (some ⟨m,0,none⟩)∧ρ 1=.int .i64 (q:Nat)∧ρ 2=u∧Ref ns q∧eval ns (inB bs) q=eval ns (inB bs) f∧Kp [] w w1) f ⟨by simp,by simp,by simp,hf,rfl,k2⟩ ?_
 rintro q ρ w1 ⟨g0,g1,g2,hq,he,kp⟩
 by_cases h2:q < 2
 ·have h2':¬ (1:Int) < q:=by omega
  have h2'':¬ 1 < q:=by omega
  simp [g0,g1,g2,h2',h2'']
  refine ⟨?_,kp⟩
  rw [← he]
  have:q=0∨q=1:=by omega
  rcases this with rfl | rfl
  ·rw [eval_zero]; rfl
  ·rw [eval_one]; rfl
 ·have h2':(1:Int) < q:=by omega
  have h2'':1 < q:=by omega
  have hq':q < ns.length+2:=hq
  simp [g0,g1,g2,h2',h2'']
  refine cl_of (at_spec m n lim q ns w1 (h.kp0 kp) ⟨hbn,hbl,hbs⟩ hq) ?_
  rintro _ w3 ⟨rfl,k3⟩
  have k03:=kp.trans0 k3
  have l1:=hw.lt_low (by omega) hq
  have l2:=hw.lt_high (by omega) hq
  have rl:=hw.ref_low hq
  have rh:=hw.ref_high hq
  have ee:=eval_node hw (inB bs) (by omega) hq
  have tvn:=hw.tv_var (by omega) hq
  have etv:tv n ns q=(at_ n ns q).v:=rfl
  obtain ⟨nd,hnd⟩:∃ nd,nd=at_ n ns q:=⟨_,rfl⟩
  rw [← hnd] at l1 l2 rl rh ee etv ⊢
  simp [ndV,bn_len]
  refine st_obj alloc_new (by simp [en,ints]) (by simp [en,ints]) ?_
  intro w4 hk4 hs4 hb4
  have k04:Kp [] w w4:=k03.trans0 (((Kp.refl [] w3).alloc _).trans' hk4 (fun x hx=>.inr (by simp at hx; omega)))
  have hu4:=hu.kp0 k04
  have e3:wrAt #[.int .i64 0,.int .i64 0,.int .i64 0] 0 (en nd)=(en nd).toArray:=by simp [en,ints]
  rw [e3] at hb4
  simp [cell_blk hb4,en,ints,g2,hu4.len]
  by_cases hv:nd.v < bs.length
  ·have hv':(nd.v:Int) < bs.length:=by omega
   have hget:bs[nd.v]?=some bs[nd.v]:=List.getElem?_eq_getElem hv
   obtain ⟨bb,hbb⟩:∃ bb,bb=bs[nd.v]:=⟨_,rfl⟩
   rw [← hbb] at hget
   have hin:inB bs nd.v=bb:=by simp [inB,List.getD,hget]
   simp (disch:=omega) [hv,hv',hu4.idx,bv_cell hu4 hget,cell_blk hb4,g2,en,ints]
   rw [hin] at ee
   cases bb with
   | true =>
    simp [cell_blk hb4,g0,g1,g2,en,ints]
    exact ⟨nd.high,by omega,rfl,rh,by rw [← he,ee]; rfl,k04⟩
   | false =>
    simp [cell_blk hb4,g0,g1,g2,en,ints]
    exact ⟨nd.low,by omega,rfl,rl,by rw [← he,ee]; rfl,k04⟩
  ·have hv':¬ (nd.v:Int) < bs.length:=by omega
   have hin:inB bs nd.v=false:=by simp [inB,List.getD,List.getElem?_eq_none (Nat.le_of_not_lt hv)]
   rw [hin] at ee
   simp [hv,hv',g0,g1,g2]
   exact ⟨nd.low,by omega,rfl,rl,by rw [← he,ee]; rfl,k04⟩
end
end Go.Proofs.YtkhfdmelcpfgoaaGreat
end
section
set_option maxRecDepth 100000
set_option linter.unusedSimpArgs false
set_option linter.unusedVariables false
namespace Go.Proofs.YtkhfdmelcpfgoaaGreat
open Go Go.W Go.Bd Go.Maps
theorem bzbool (w:World):(zeroValue 4).run Tryz.prog w=.ok (.bool false) w:=Tryz.zeroValue4 w
abbrev SeenB (b:Nat) (M:MemR):Asr:=MapA b natV Value.bool i64ok M
theorem getM_all {M:MemR} {x:Nat} (ha:∀ q ∈ M,q.2=true):(((getM M x).map Value.bool).getD (.bool false))=.bool (decide (x ∈ keys M)):=by
 cases h:getM M x with
 | some r =>
  have h1:=getM_in h
  have h2:=ha _ h1
  simp only at h2
  have:x ∈ keys M:=List.mem_map.2 ⟨_,h1,rfl⟩
  simp [h2,this]
 | none =>
  have:x ∉ keys M:=fun hx=>by
   obtain ⟨q,hq,e⟩:=List.mem_map.1 hx
   simp only [getM,Option.map_eq_none_iff,List.find?_eq_none] at h
   exact h q hq (by simp [e])
  simp [this]
theorem putM_keys {M:MemR} {x y:Nat}:y ∈ keys (putM M x true)↔y ∈ keys M∨y=x:=by
 unfold putM keys
 split
 ·rename_i h
  rw [List.any_eq_true] at h
  obtain ⟨p,hp,e⟩:=h
  have e:p.1=x:=by simpa using e
  constructor
  ·intro hy
   obtain ⟨q,hq,rfl⟩:=List.mem_map.1 hy
   obtain ⟨p',hp',e'⟩:=List.mem_map.1 hq
   split at e'
   ·exact .inr (by rw [← e'])
   ·exact .inl (by rw [← e']; exact List.mem_map.2 ⟨_,hp',rfl⟩)
  ·have key:∀ y,y ∈ M.map (·.1)→y ∈ (M.map fun p=>if p.1=x then (x,true) else p).map (·.1):=fun y hy=>by
    obtain ⟨q,hq,rfl⟩:=List.mem_map.1 hy
    refine List.mem_map.2 ⟨_,List.mem_map.2 ⟨q,hq,rfl⟩,?_⟩
    split
    ·rename_i h; exact h.symm
    ·rfl
   rintro (hy | rfl)
   ·exact key y hy
   ·exact key y (List.mem_map.2 ⟨p,hp,e⟩)
 ·simp
theorem putM_all {M:MemR} {x:Nat} (ha:∀ q ∈ M,q.2=true):∀ q ∈ putM M x true,q.2=true:=fun q hq=>by
 rcases putM_mem hq with h | rfl
 ·exact ha q h
 ·rfl
theorem keys_small {ns:Ns} {M:MemR} {N:Nat} (hN:ns.length+2≤N) (hr:∀ x ∈ keys M,Ref ns x) (hn:(M.map (·.1)).Nodup):M.length≤N:=by
 have:=nodup_len _ (List.range N) hn (fun x hx=>by
  have:=hr x hx
  unfold Ref at this
  exact List.mem_range.2 (by omega))
 simpa using this
def RPost (m n lim:Nat) (ns:Ns) (f b:Nat) (M:MemR) (B:Asr) (w:World) (F:List Nat) (w':World):Prop :=
 ∃ M',ROk n ns f M M'∧(∀ x ∈ keys M',Ref ns x)∧At w F (Star (MgrA m n lim ns) (Star (SeenB b M') B)) w'
theorem reach_aux (m n lim b:Nat) (ns:Ns) (hw:Wf n ns) (hb:Bnd n lim ns) (w:World) (F:List Nat) (B:Asr) (hB:Lcl B):∀ (d f:Nat) (M:MemR) (w1:World),Ref ns f→f≤d→(∀ q ∈ M,q.2=true)→(∀ x ∈ keys M,Ref ns x) →
  At w F (Star (MgrA m n lim ns) (Star (SeenB b M) B)) w1 →
  Calls Tryz.prog 134 [.pointer (some ⟨m,0,none⟩),.int .i64 (f:Nat),.map (some b)].toArray w1 fun e w'=>∃ v,e=.returned v∧RPost m n lim ns f b M B w F w':=by
 intro d
 induction d using Nat.strongRecOn with
 | ind d ih =>
 intro f M w1 hf hd hM hR hA
 obtain ⟨hbn,hbl,hbs⟩:=hb
 have hb':Bnd n lim ns:=⟨hbn,hbl,hbs⟩
 have hLX:∀ M,Lcl (Star (MgrA m n lim ns) (Star (SeenB b M) B)):=fun M=>Lcl.mgr.star (Lcl.map.star hB)
 have hrf:f≤1048578:=by unfold Ref at hf; omega
 have hok:i64ok f:=by unfold i64ok; omega
 refine enter Tryz.func134 mixed low134 (Nat.le_of_ble_eq_true rfl) ?_
 simp only [L134]
 by_cases h2:f < 2
 ·have h2':(f:Int) < 2:=by omega
  simp [h2']
  exact ⟨M,ROk.same (.inl h2) hM,hR,hA⟩
 have h2':¬ (f:Int) < 2:=by omega
 simp [h2']
 refine MapM.look1 (x:=f) hA.drop.map bkeyI Tryz.underlying97 bzbool hok ?_
 rw [getM_all hM]
 by_cases hin:f ∈ keys M
 ·simp [hin,h2']
  exact ⟨M,ROk.same (.inr hin) hM,hR,hA⟩
 simp [hin,h2']
 have hf2:2≤f:=by omega
 have l1:=hw.lt_low hf2 hf
 have l2:=hw.lt_high hf2 hf
 have rl:=hw.ref_low hf
 have rh:=hw.ref_high hf
 have hml:M.length≤1048578:=keys_small (ns:=ns) (N:=1048578) (by omega) hR (MapM.nodup hA.drop.map)
 refine At.put (x:=f) (v:=true) (Lcl.mgr.star hB) hA.rot bkeyI Tryz.underlying97 hok (by unfold maxLen; omega) fun w2 h2=>?_
 have h3:=h2.rot
 simp
 refine cl_of (at_spec m n lim f ns w2 (MgrA.rd h3) hb' hf) ?_
 rintro _ w3 ⟨rfl,k3⟩
 have h4:=h3.kp0 (hLX _) k3
 simp [ndV,en,ints]
 have hR1:∀ x ∈ keys (putM M f true),Ref ns x:=fun x hx=>by
  rcases putM_keys.1 hx with h | rfl
  ·exact hR x h
  ·exact hf
 refine cl_of (ih (d - 1) (by omega) (at_ n ns f).low _ w3 rl (by omega) (putM_all hM) hR1 h4) ?_
 rintro v4 w4 ⟨M2,o2,hR2,h5⟩
 simp
 refine cl_of (at_spec m n lim f ns w4 (MgrA.rd h5) hb' hf) ?_
 rintro _ w5 ⟨rfl,k5⟩
 have h6:=h5.kp0 (hLX _) k5
 simp [ndV,en,ints]
 refine cl_of (ih (d - 1) (by omega) (at_ n ns f).high _ w5 rh (by omega) o2.all hR2 h6) ?_
 rintro v6 w6 ⟨M3,o3,hR3,h7⟩
 simp
 exact ⟨M3,ROk.node hf2 (fun x=>putM_keys) o2 o3,hR3,h7⟩
end Go.Proofs.YtkhfdmelcpfgoaaGreat
end
