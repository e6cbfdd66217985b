/-
  A part of the proof of this claim's statement (BdW6, BdR, BdT, BdIt, BdPk, BdWE, BdW7): plain theorems; no conditions beyond those each names.
-/
import Derived.Test.YtkhfdmelcpfgoaaGreatPk13
import Derived.Test.YtkhfdmelcpfgoaaGreatPk02
import Derived.Test.YtkhfdmelcpfgoaaGreatPk10
section
set_option maxRecDepth 100000
set_option linter.unusedSimpArgs false
set_option linter.unusedVariables false
namespace Go.Proofs.YtkhfdmelcpfgoaaGreat
open Go Go.W Go.Bd Go.Maps
def varB (n:Nat) (x:Int):Bool:=decide (0≤x) && decide (x < n)
theorem checkVars_spec (m n lim:Nat) (ns:Ns) (v:Value) (xs:List Int) (w:World) (h:MgrF w m n lim ns) (hv:Vw w v iv xs) (hx:xs.length≤1000000) :
  Calls Tryz.prog 122 [.pointer (some ⟨m,0,none⟩),v].toArray w fun e w'=>∃ x,e=.returned x∧x=bchkV (xs.all (varB n))∧Kp [] w w':=by
 refine enter Tryz.func122 mixed low122 (Nat.le_of_ble_eq_true rfl) ?_
 simp only [L122]
 simp [hv.len]
 refine range_loop (n:=xs.length) (by omega) (fun k ρ w1=>ρ 0=.pointer (some ⟨m,0,none⟩)∧ρ 7=v∧(∀ j x,j < k→xs[j]?=some x→varB n x=true)∧Kp [] w w1) (by simp) (by simp)
  ⟨by simp,by simp,by simp,Kp.refl _ _⟩ (by decide) (fun _ _ _ _ h=>by simpa using h) (fun _ _ _ _ h=>by simpa using h) ?_ ?_
 ·rintro k ρ w1 hk hc hlim ⟨g0,g7,hall,hkp⟩
  have hv1:=hv.kp0 hkp
  obtain ⟨nv,b,ho,hown,_⟩:=h.kp0 hkp
  have ek:xs[k]?=some xs[k]:=List.getElem?_eq_getElem hk
  obtain ⟨x,hxe⟩:∃ x,x=xs[k]:=⟨_,rfl⟩
  rw [← hxe] at ek
  have bad:varB n x=false→xs.all (varB n)=false:=fun h=>by
   rw [List.all_eq_false]
   exact ⟨x,List.mem_of_getElem? ek,by simp [h]⟩
  unfold mgrO at ho
  simp (disch:=omega) [g0,g7,hc,hv1.idx,iv_cell hv1 ek,cell_blk ho]
  by_cases h1:x < 0
  ·simp [h1]
   refine ⟨?_,hkp⟩
   rw [bad (by simp [varB]; omega)]; rfl
  by_cases h2:(n:Int)≤x
  ·simp (disch:=omega) [h1,h2,cell_blk ho,g0]
   refine ⟨?_,hkp⟩
   rw [bad (by simp [varB]; omega)]; rfl
  ·simp (disch:=omega) [h1,h2,cell_blk ho,hc,hlim,g0,g7]
   refine ⟨fun j y hj hy=>?_,hkp⟩
   rcases Nat.lt_or_ge j k with h3 | h3
   ·exact hall j y h3 hy
   ·have:j=k:=by omega
    subst this
    rw [ek] at hy
    rw [← Option.some.inj hy]
    simp [varB]; omega
 ·rintro ρ w1 ⟨g0,g7,hall,hkp⟩
  simp
  refine ⟨?_,hkp⟩
  have:xs.all (varB n)=true:=by
   rw [List.all_eq_true]
   intro x hx
   obtain ⟨j,hj⟩:=List.getElem?_of_mem hx
   exact hall j x (List.getElem?_eq_some_iff.1 hj).1 hj
  rw [this]; rfl
def insOf (n:Nat) (xs:List Int):List Bool:=xs.foldl (fun l v=>l.set v.toNat true) (List.replicate (n+1) false)
theorem insOf_len (n:Nat) (xs:List Int):(insOf n xs).length=n+1:=by
 have key:∀ (xs:List Int) (l:List Bool),(xs.foldl (fun l v=>l.set v.toNat true) l).length=l.length:=by
  intro xs
  induction xs with
  | nil=>intro l; rfl
  | cons x xs ih=>intro l; rw [List.foldl_cons,ih]; simp
 rw [insOf,key]; simp
theorem insOf_snoc (n:Nat) (xs:List Int) (x:Int):insOf n (xs ++ [x])=(insOf n xs).set x.toNat true:=by simp [insOf,List.foldl_append]
theorem insOf_take {n:Nat} {xs:List Int} {k:Nat} {x:Int} (h:xs[k]?=some x):insOf n (xs.take (k+1))=(insOf n (xs.take k)).set x.toNat true:=by
 have hk:=(List.getElem?_eq_some_iff.1 h).1
 rw [← insOf_snoc]
 congr 1
 rw [List.take_add_one,h]; rfl
def QuPost (m n lim op:Nat) (xs:List Int) (vv:Value) (ns:Ns) (f:Nat) (B:Asr) (w:World) (F:List Nat) (v:Value) (w':World):Prop :=
 ∃ r ns' M',v=optV r∧QOk n lim op (inB (insOf n xs)) ns f r ns' M'∧At w F (Star (MgrA m n lim ns') (Star (VwA vv iv xs) B)) w'
theorem quantified_spec {w w1:World} {F:List Nat} {B:Asr} (m n lim:Nat) (ns:Ns) (op f:Nat) (v:Value) (xs:List Int) (hop:op≤1) (hB:Lcl B) (hA:At w F (Star (MgrA m n lim ns) (Star (VwA v iv xs) B)) w1) (hw:Wf n ns) (hb:Bnd n lim ns) (hf:Ref ns f) (hx:xs.length≤1000000) (hv:xs.all (varB n)=true) :
  Calls Tryz.prog 136 [.pointer (some ⟨m,0,none⟩),.int .i64 (op:Nat),.int .i64 (f:Nat),v].toArray w1 fun e w'=>∃ x,e=.returned x∧QuPost m n lim op xs v ns f B w F x w':=by
 have hbn:=hb.hn
 refine enter Tryz.func136 mixed low136 (Nat.le_of_ble_eq_true rfl) ?_
 simp only [L136]
 have hl:Lcl (Star (MgrA m n lim ns) (Star (VwA v iv xs) B)):=Lcl.mgr.star (Lcl.vw.star hB)
 have h1:=lit_ints (xs:=[(f:Int)]) (cs:=#[.int .i64 f]) hl hA rfl (by simp) rfl
 simp [rowOf]
 refine cl_of (check_spec m n lim ns _ [(f:Int)] _ (MgrA.rd h1.drop) hb h1.own.vw (by simp)) ?_
 rintro u w2 ⟨rfl,k2⟩
 have h2:=(h1.drop).kp0 hl k2
 have hr:[(f:Int)].all (refB ns)=true:=by
  unfold Ref at hf
  simp [refB]; omega
 rw [hr]
 simp [bchkV]
 refine cl_of (checkVars_spec m n lim ns v xs _ (MgrA.rd h2) h2.drop.vw hx) ?_
 rintro u w3 ⟨rfl,k3⟩
 have h3:=h2.kp0 hl k3
 rw [hv]
 obtain ⟨nv,b,ho,hown,_⟩:=MgrA.rd h3
 unfold mgrO at ho
 have hn1:((n:Int)+1).toNat=n+1:=by omega
 have h4:=h3.made (E:=4) (enc:=bv) (x:=false) (z:=[.bool false]) (n:=n+1) hl rfl bv_len (by unfold maxLen; omega)
 simp (disch:=omega) [bchkV,cell_blk ho,wrap_i64,hn1]
 refine gd_mk (by omega) ?_
 simp [h3.drop.vw.len]
 obtain ⟨sv,hsv⟩:∃ sv,sv=Value.slice (some ⟨w3.heap.size,0,none⟩) (n+1) (n+1):=⟨_,rfl⟩
 rw [← hsv] at h4 ⊢
 have hall:∀ (j:Nat) (x:Int),xs[j]?=some x→0≤x∧x < n:=fun j x hj=>by
  have:=List.all_eq_true.1 hv x (List.mem_of_getElem? hj)
  simpa [varB] using this
 refine range_loop (n:=xs.length) (by omega) (fun k ρ w5=>ρ 0=.pointer (some ⟨m,0,none⟩)∧ρ 1=.int .i64 (op:Nat)∧ρ 2=.int .i64 (f:Nat)∧ρ 12=sv∧ρ 34=v ∧
   At w F (Star (OwnA sv 4 1 bv (insOf n (xs.take k))) (Star (MgrA m n lim ns) (Star (VwA v iv xs) B))) w5) (by simp) (by simp)
  ⟨by simp,by simp,by simp,by simp,by simp,h4⟩ (by decide) (fun _ _ _ _ h=>by simpa using h) (fun _ _ _ _ h=>by simpa using h) ?_ ?_
 ·rintro k ρ w5 hk hc hlim ⟨g0,g1,g2,g12,g34,h5⟩
  have ek:xs[k]?=some xs[k]:=List.getElem?_eq_getElem hk
  obtain ⟨x,hxe⟩:∃ x,x=xs[k]:=⟨_,rfl⟩
  rw [← hxe] at ek
  obtain ⟨x0,x1⟩:=hall k x ek
  have hvw:=h5.drop.drop.vw
  have hlen:=insOf_len n (xs.take k)
  have hxl:x < (insOf n (xs.take k)).length:=by rw [hlen]; omega
  simp (disch:=omega) [g0,g1,g2,g12,g34,hc,hvw.idx,iv_cell hvw ek,h5.own.idx x0 hxl]
  refine At.store1 (k:=x.toNat) (x:=true) hl h5 bv_len bv_one (by omega) rfl fun w6 h6=>?_
  rw [← insOf_take ek] at h6
  simp [g0,g1,g2,g12,g34,hc,hlim]
  exact h6
 ·rintro ρ w5 ⟨g0,g1,g2,g12,g34,h5⟩
  rw [List.take_length] at h5
  simp [g0,g1,g2,g12]
  have h6:=(h5.own_vw.newmap (ek:=natV) (ev:=natV) (ok:=i64ok) (Lcl.vw.star hl))
  have h7:=h6.by (Imp.trans (Imp.un Imp.sw) Imp.sw)
  have h8:At w F (Star (MgrA m n lim ns) (Star (MemB w5.heap.size []) (Star (VwA sv bv (insOf n xs)) (Star (VwA v iv xs) B)))) (w5.alloc (.map #[] 0)):=h7
  refine cl_of (quantify_aux m n lim op _ hop (insOf n xs) sv (insOf_len n xs) w F f f ns [] _ _ (Lcl.vw.star hB) hw hb hf (Nat.le_refl _) (fun q hq=>by cases hq) h8) ?_
  rintro _ w9 ⟨r,ns',M',rfl,hq,h9⟩
  cases r with
  | none=>simp [optV,bnoV,berrV]; exact ⟨none,ns',M',rfl,hq,h9.by (Imp.un (Imp.dr.trans Imp.dr))⟩
  | some y=>simp [optV,okV]; exact ⟨some y,ns',M',rfl,hq,h9.by (Imp.un (Imp.dr.trans Imp.dr))⟩
theorem insOf_get {n:Nat} {xs:List Int} (hv:∀ x ∈ xs,0≤x∧x < n) (i:Nat):inB (insOf n xs) i=decide ((i:Int) ∈ xs):=by
 have key:∀ k,k≤xs.length→inB (insOf n (xs.take k)) i=decide ((i:Int) ∈ xs.take k):=by
  intro k
  induction k with
  | zero=>intro _; simp [insOf,inB,List.getElem?_replicate]; split <;> rfl
  | succ k ih =>
   intro hk
   have ek:xs[k]?=some xs[k]:=List.getElem?_eq_getElem (by omega)
   have hx:=hv xs[k] (List.getElem_mem _)
   have hlen:=insOf_len n (xs.take k)
   have ht:xs.take (k+1)=xs.take k ++ [xs[k]]:=by rw [List.take_add_one,ek]; rfl
   have ih':=ih (by omega)
   rw [insOf_take ek,ht]
   simp only [inB,List.getD_eq_getElem?_getD,List.getElem?_set,List.mem_append,List.mem_singleton] at ih' ⊢
   by_cases he:xs[k].toNat=i
   ·have:(i:Int)=xs[k]:=by omega
    rw [if_pos he,if_pos (by omega)]
    simp [this]
   ·have:¬ (i:Int)=xs[k]:=by omega
    rw [if_neg he,ih']
    simp [this]
 have:=key xs.length (Nat.le_refl _)
 rwa [List.take_length] at this
end Go.Proofs.YtkhfdmelcpfgoaaGreat
end
section
set_option linter.unusedVariables false
set_option linter.unusedSimpArgs false
namespace Go.Bd
inductive Rch (n:Nat) (ns:Ns):Nat→Nat→Prop
 | self {f:Nat} (h:2≤f):Rch n ns f f
 | low {f y:Nat} (h:2≤f) (k:Rch n ns (at_ n ns f).low y):Rch n ns f y
 | high {f y:Nat} (h:2≤f) (k:Rch n ns (at_ n ns f).high y):Rch n ns f y
theorem Rch.ge {n:Nat} {ns:Ns} {f y:Nat} (h:Rch n ns f y):2≤y:=by
 induction h with
 | self h=>exact h
 | low _ _ ih=>exact ih
 | high _ _ ih=>exact ih
theorem Rch.ref {n:Nat} {ns:Ns} (w:Wf n ns) {f y:Nat} (h:Rch n ns f y) (hf:Ref ns f):Ref ns y:=by
 induction h with
 | self h=>exact hf
 | low h _ ih=>exact ih (w.ref_low hf)
 | high h _ ih=>exact ih (w.ref_high hf)
abbrev MemR:=List (Nat × Bool)
def keys (M:MemR):List Nat:=M.map (·.1)
structure ROk (n:Nat) (ns:Ns) (f:Nat) (M M':MemR):Prop where
 sub:∀ x ∈ keys M,x ∈ keys M'
 new:∀ x ∈ keys M',x ∈ keys M∨Rch n ns f x
 clo:∀ x ∈ keys M',x ∉ keys M→((at_ n ns x).low < 2∨(at_ n ns x).low ∈ keys M')∧((at_ n ns x).high < 2∨(at_ n ns x).high ∈ keys M')
 top:f < 2∨f ∈ keys M'
 all:∀ q ∈ M',q.2=true
section
variable {n:Nat} {ns:Ns} {f:Nat} {M M1 M2 M3:MemR}
theorem ROk.same (h:f < 2∨f ∈ keys M) (ha:∀ q ∈ M,q.2=true):ROk n ns f M M :=
 ⟨fun x hx=>hx,fun x hx=>.inl hx,fun x hx hn=>absurd hx hn,h,ha⟩
theorem ROk.node (h2:2≤f) (h1:∀ x,x ∈ keys M1↔x ∈ keys M∨x=f) (hl:ROk n ns (at_ n ns f).low M1 M2) (hh:ROk n ns (at_ n ns f).high M2 M3):ROk n ns f M M3:=by
 refine ⟨fun x hx=>hh.sub x (hl.sub x ((h1 x).2 (.inl hx))),fun x hx=>?_,fun x hx hn=>?_,.inr (hh.sub f (hl.sub f ((h1 f).2 (.inr rfl)))),hh.all⟩
 ·rcases hh.new x hx with h | h
  ·rcases hl.new x h with h | h
   ·rcases (h1 x).1 h with h | rfl
    ·exact .inl h
    ·exact .inr (.self h2)
   ·exact .inr (.low h2 h)
  ·exact .inr (.high h2 h)
 ·by_cases hx2:x ∈ keys M2
  ·by_cases hx1:x ∈ keys M1
   ·rcases (h1 x).1 hx1 with h | rfl
    ·exact absurd h hn
    ·refine ⟨?_,hh.top⟩
     rcases hl.top with h | h
     ·exact .inl h
     ·exact .inr (hh.sub _ h)
   ·obtain ⟨a,b⟩:=hl.clo x hx2 hx1
    exact ⟨a.imp_right (hh.sub _),b.imp_right (hh.sub _)⟩
  ·exact hh.clo x hx hx2
theorem ROk.all_rch (h:ROk n ns f [] M) (x:Nat):x ∈ keys M↔Rch n ns f x:=by
 constructor
 ·intro hx
  rcases h.new x hx with h | h
  ·cases h
  ·exact h
 ·intro hr
  have key:∀ g y,Rch n ns g y→(g < 2∨g ∈ keys M)→y ∈ keys M:=by
   intro g y hr
   induction hr with
   | self h2 =>
    rintro (h1 | h1)
    ·omega
    ·exact h1
   | low h2 k ih =>
    rintro (h1 | h1)
    ·omega
    ·exact ih (h.clo _ h1 (by simp [keys])).1
   | high h2 k ih =>
    rintro (h1 | h1)
    ·omega
    ·exact ih (h.clo _ h1 (by simp [keys])).2
  exact key f x hr h.top
end
end Go.Bd
end
section
set_option linter.unusedVariables false
set_option linter.unusedSimpArgs false
namespace Go.Bd
def Loc (n:Nat) (F:(Nat→Bool)→Bool):Prop:=∀ a b:Nat→Bool,(∀ i,i < n→a i=b i)→F a=F b
def rk:Nat→(Nat→Bool)→Nat
 | 0,_=>0
 | n+1,b=>2 * rk n b+(b n).toNat
theorem eval_loc {n:Nat} {ns:Ns} (w:Wf n ns):∀ {f:Nat},Ref ns f→Loc n (fun a=>eval ns a f):=by
 intro f
 induction f using Nat.strongRecOn with
 | ind f ih =>
  intro hf a b hab
  rcases Nat.lt_or_ge f 2 with h | h
  ·have:f=0∨f=1:=by omega
   rcases this with rfl | rfl
   ·show eval ns a 0=eval ns b 0
    rw [eval_zero,eval_zero]
   ·show eval ns a 1=eval ns b 1
    rw [eval_one,eval_one]
  ·show eval ns a f=eval ns b f
   rw [eval_node w a h hf,eval_node w b h hf,hab (at_ n ns f).v (w.tv_var h hf),show eval ns a (at_ n ns f).high=eval ns b (at_ n ns f).high from ih _ (w.lt_high h hf) (w.ref_high hf) a b hab,
    show eval ns a (at_ n ns f).low=eval ns b (at_ n ns f).low from ih _ (w.lt_low h hf) (w.ref_low hf) a b hab]
end Go.Bd
namespace Go.Bd
end Go.Bd
end
section
set_option linter.unusedVariables false
set_option linter.unusedSimpArgs false
namespace Go.Bd
abbrev K3:=Nat × Nat × Nat
abbrev Mem3:=List (K3 × Nat)
section
variable {n cap:Nat} {ns ns1 ns2:Ns} {M M1 M2:Mem3} {f g h:Nat}
theorem two_half {d:Nat} (h:0 < d):2 ^ (d - 1)+2 ^ (d - 1)=2 ^ d:=by
 obtain ⟨e,rfl⟩:∃ e,d=e+1:=⟨d - 1,by omega⟩
 rw [Nat.add_sub_cancel,Nat.pow_succ]; omega
theorem two_mono {a b:Nat} (h:a≤b):2 ^ a≤2 ^ b:=Nat.pow_le_pow_right (by omega) h
variable {v:Nat}
end
def MemC (σ:(Nat→Bool)→Nat→Bool) (ns:Ns) (M:Mem1):Prop:=∀ q ∈ M,Ref ns q.1∧Ref ns q.2∧∀ a,eval ns a q.2=eval ns (σ a) q.1
theorem MemC.ext {n:Nat} {σ:(Nat→Bool)→Nat→Bool} {ns ns':Ns} {M:Mem1} (h:MemC σ ns M) (w:Wf n ns) (hx:Ext n ns ns'):MemC σ ns' M:=fun q hq=>by
 obtain ⟨h1,h2,h3⟩:=h q hq
 exact ⟨hx.ref h1,hx.ref h2,fun a=>by rw [hx.eval w a h2,hx.eval w _ h1,h3]⟩
structure ChOk (n cap:Nat) (σ:(Nat→Bool)→Nat→Bool) (ns:Ns) (f:Nat) (r:Option Nat) (ns':Ns) (M':Mem1):Prop where
 ext:Ext n ns ns'
 lim:ns'.length≤cap
 mem:MemC σ ns' M'
 ok:∀ x,r=some x→Ref ns' x∧∀ a,eval ns' a x=eval ns (σ a) f
 cnt:ns'.length+1≤ns.length+2 ^ (n - tv n ns f)
 full:r=none→cap < ns.length+2 ^ (n - tv n ns f)
 fr:∀ z,ns.length+2≤z→z < ns'.length+2→∃ H:(Nat→Bool)→Bool,IsC (fun c=>eval ns c f) H∧∀ b,eval ns' b z=H (σ b)
 hit:r=none→cap≤ns'.length
section
variable {n cap:Nat} {σ:(Nat→Bool)→Nat→Bool} {ns ns1 ns2:Ns} {M M1 M2:Mem1} {f:Nat}
theorem c_short {x:Nat} (w:Wf n ns) (hlim:ns.length≤cap) (hM:MemC σ ns M) (hx:Ref ns x) (he:∀ a,eval ns a x=eval ns (σ a) f):ChOk n cap σ ns f (some x) ns M:=by
 have:=Nat.two_pow_pos (n - tv n ns f)
 exact ⟨Ext.refl w,hlim,hM,fun y hy=>by simp only [Option.some.injEq] at hy; subst hy; exact ⟨hx,he⟩,by omega,fun h=>(by cases h),fun z h1 h2=>by omega,fun h=>by cases h⟩
theorem c_const (w:Wf n ns) (hlim:ns.length≤cap) (hM:MemC σ ns M) (hf:Ref ns f) (h2:f < 2):ChOk n cap σ ns f (some f) ns M:=by
 refine c_short w hlim hM hf fun a=>?_
 have:f=0∨f=1:=by omega
 rcases this with rfl | rfl
 ·rw [eval_zero,eval_zero]
 ·rw [eval_one,eval_one]
theorem c_known {x:Nat} (w:Wf n ns) (hlim:ns.length≤cap) (hM:MemC σ ns M) (hk:(f,x) ∈ M):ChOk n cap σ ns f (some x) ns M:=by
 obtain ⟨_,h1,h2⟩:=hM _ hk
 exact c_short w hlim hM h1 h2
structure CPre (n:Nat) (σ:(Nat→Bool)→Nat→Bool) (ns:Ns) (f u:Nat):Prop where
 w:Wf n ns
 rf:Ref ns f
 h2:2≤f
 un:u < n
 su:∀ a,σ a (tv n ns f)=a u
 il:∀ a b:Nat→Bool,(∀ i,u+1≤i→a i=b i)→eval ns (σ a) (at_ n ns f).low=eval ns (σ b) (at_ n ns f).low
 ih:∀ a b:Nat→Bool,(∀ i,u+1≤i→a i=b i)→eval ns (σ a) (at_ n ns f).high=eval ns (σ b) (at_ n ns f).high
variable {u:Nat}
theorem c_low (w:Wf n ns) (hf:Ref ns f) (h2:2≤f) (hl:ChOk n cap σ ns (at_ n ns f).low none ns1 M1):ChOk n cap σ ns f none ns1 M1:=by
 have t1:=w.tv_low h2 hf
 have:=two_mono (show n - tv n ns (at_ n ns f).low≤n - tv n ns f by omega)
 have:=hl.cnt; have:=hl.full rfl
 exact ⟨hl.ext,hl.lim,hl.mem,fun x hx=>(by cases hx),by omega,fun _=>by omega,fun z h1 h3=>by
  obtain ⟨H,a1,a2⟩:=hl.fr z h1 h3
  exact ⟨H,(isc_low w hf h2).trans a1,a2⟩,hl.hit⟩
theorem c_fr2 {rl rh:Option Nat} (w:Wf n ns) (hf:Ref ns f) (h2:2≤f) (hl:ChOk n cap σ ns (at_ n ns f).low rl ns1 M1) (hh:ChOk n cap σ ns1 (at_ n ns f).high rh ns2 M2) :
  ∀ z,ns.length+2≤z→z < ns2.length+2→∃ H:(Nat→Bool)→Bool,IsC (fun c=>eval ns c f) H∧∀ b,eval ns2 b z=H (σ b):=fun z h1 h3=>by
 by_cases hz:z < ns1.length+2
 ·obtain ⟨H,a1,a2⟩:=hl.fr z h1 hz
  exact ⟨H,(isc_low w hf h2).trans a1,fun b=>by rw [hh.ext.eval hl.ext.wf b hz,a2]⟩
 ·obtain ⟨H,a1,a2⟩:=hh.fr z (by omega) h3
  exact ⟨H,(isc_high w hf h2).trans (a1.congr (fun c=>hl.ext.eval w c (w.ref_high hf)) fun _=>rfl),a2⟩
theorem c_high {l:Nat} (w:Wf n ns) (hf:Ref ns f) (h2:2≤f) (hl:ChOk n cap σ ns (at_ n ns f).low (some l) ns1 M1) (hh:ChOk n cap σ ns1 (at_ n ns f).high none ns2 M2):ChOk n cap σ ns f none ns2 M2:=by
 have t1:=w.tv_low h2 hf
 have t2:=w.tv_high h2 hf
 have tvn:=w.tv_var h2 hf
 have e:=hl.ext.tv (w.ref_high hf)
 have b0:=two_half (show 0 < n - tv n ns f by omega)
 have b1:=two_mono (show n - tv n ns (at_ n ns f).low≤n - tv n ns f - 1 by omega)
 have b2:=two_mono (show n - tv n ns1 (at_ n ns f).high≤n - tv n ns f - 1 by omega)
 have:=hl.cnt; have:=hh.cnt; have:=hh.full rfl
 exact ⟨hl.ext.trans hh.ext,hh.lim,hh.mem,fun x hx=>(by cases hx),by omega,fun _=>by omega,c_fr2 w hf h2 hl hh,hh.hit⟩
structure CMid (n cap:Nat) (σ:(Nat→Bool)→Nat→Bool) (ns:Ns) (f u:Nat) (ns2:Ns) (M2:Mem1) (l k:Nat):Prop where
 ext:Ext n ns ns2
 lim:ns2.length≤cap
 mem:MemC σ ns2 M2
 cnt:ns2.length+2≤ns.length+2 ^ (n - tv n ns f)
 rl:Ref ns2 l
 rk:Ref ns2 k
 tl:u < tv n ns2 l
 tk:u < tv n ns2 k
 ev:∀ a,(if a u then eval ns2 a k else eval ns2 a l)=eval ns (σ a) f
 fr:∀ z,ns.length+2≤z→z < ns2.length+2→∃ H:(Nat→Bool)→Bool,IsC (fun c=>eval ns c f) H∧∀ b,eval ns2 b z=H (σ b)
theorem c_mid {l k:Nat} (p:CPre n σ ns f u) (hl:ChOk n cap σ ns (at_ n ns f).low (some l) ns1 M1) (hh:ChOk n cap σ ns1 (at_ n ns f).high (some k) ns2 M2):CMid n cap σ ns f u ns2 M2 l k:=by
 have t1:=p.w.tv_low p.h2 p.rf
 have t2:=p.w.tv_high p.h2 p.rf
 have tvn:=p.w.tv_var p.h2 p.rf
 have un:=p.un
 have e:=hl.ext.tv (p.w.ref_high p.rf)
 have b0:=two_half (show 0 < n - tv n ns f by omega)
 have b1:=two_mono (show n - tv n ns (at_ n ns f).low≤n - tv n ns f - 1 by omega)
 have b2:=two_mono (show n - tv n ns1 (at_ n ns f).high≤n - tv n ns f - 1 by omega)
 have:=hl.cnt; have:=hh.cnt
 obtain ⟨rl,el⟩:=hl.ok l rfl
 obtain ⟨rk,ek⟩:=hh.ok k rfl
 have w2:=hh.ext.wf
 have el2:∀ a,eval ns2 a l=eval ns (σ a) (at_ n ns f).low:=fun a=>by rw [hh.ext.eval hl.ext.wf a rl,el]
 have ek2:∀ a,eval ns2 a k=eval ns (σ a) (at_ n ns f).high:=fun a=>by rw [ek,hl.ext.eval p.w _ (p.w.ref_high p.rf)]
 have rl2:=hh.ext.ref rl
 refine ⟨hl.ext.trans hh.ext,hh.lim,hh.mem,by omega,rl2,rk,?_,?_,fun a=>?_,c_fr2 p.w p.rf p.h2 hl hh⟩
 ·exact tv_ge w2 rl2 (by omega) fun a b hab=>by rw [el2,el2]; exact p.il a b hab
 ·exact tv_ge w2 rk (by omega) fun a b hab=>by rw [ek2,ek2]; exact p.ih a b hab
 ·rw [el2,ek2,eval_node p.w _ p.h2 p.rf,show (at_ n ns f).v=tv n ns f from rfl,p.su]
theorem c_full {l k:Nat} (p:CPre n σ ns f u) (hm:CMid n cap σ ns f u ns2 M2 l k) (hk:(mkF cap ns2 u l k).1=none):ChOk n cap σ ns f none (mkF cap ns2 u l k).2 M2:=by
 have mk:=mkF_ok (lim:=cap) hm.ext.wf p.un hm.rl hm.rk hm.tl hm.tk
 obtain ⟨f1,f2⟩:=mk.full hk
 rw [f2]
 have:=hm.cnt
 exact ⟨hm.ext,hm.lim,hm.mem,fun x hx=>(by cases hx),by omega,fun _=>by omega,hm.fr,fun _=>f1⟩
theorem c_done {l k x:Nat} {M3:Mem1} (p:CPre n σ ns f u) (hm:CMid n cap σ ns f u ns2 M2 l k) (hk:(mkF cap ns2 u l k).1=some x) (hM3:∀ q ∈ M3,q ∈ M2∨q=(f,x)):ChOk n cap σ ns f (some x) (mkF cap ns2 u l k).2 M3:=by
 have mk:=mkF_ok (lim:=cap) hm.ext.wf p.un hm.rl hm.rk hm.tl hm.tk
 obtain ⟨rx,_,ex⟩:=mk.ok x hk
 have w2:=hm.ext.wf
 have e3:=hm.ext.trans mk.ext
 have ex2:∀ a,eval (mkF cap ns2 u l k).2 a x=eval ns (σ a) f:=fun a=>by
  rw [ex,mk.ext.eval w2 a hm.rk,mk.ext.eval w2 a hm.rl,hm.ev]
 have:=hm.cnt; have:=mk.len
 refine ⟨e3,mk.lim hm.lim,?_,fun y hy=>by simp only [Option.some.injEq] at hy; subst hy; exact ⟨rx,ex2⟩,by omega,fun h=>(by cases h),fun z h1 h3=>?_,fun h=>by cases h⟩
 rotate_left
 ·by_cases hz:z < ns2.length+2
  ·obtain ⟨H,a1,a2⟩:=hm.fr z h1 hz
   exact ⟨H,a1,fun b=>by rw [mk.ext.eval w2 b hz,a2]⟩
  ·have e:=mkF_new hk (by omega) h3
   subst e
   exact ⟨_,IsC.refl _,ex2⟩
 intro q hq
 rcases hM3 q hq with h1 | rfl
 ·exact (hm.mem.ext w2 mk.ext) q h1
 ·exact ⟨e3.ref p.rf,rx,fun a=>by rw [ex2,e3.eval p.w _ p.rf]⟩
theorem eval_reach (w:Wf n ns) {S:Nat→Prop} {a b:Nat→Bool} (hab:∀ i,S i→a i=b i):∀ {f:Nat},Ref ns f→(∀ y,Rch n ns f y→S (tv n ns y))→eval ns a f=eval ns b f:=by
 intro f
 induction f using Nat.strongRecOn with
 | ind f ih =>
  intro hf hS
  rcases Nat.lt_or_ge f 2 with h | h
  ·have:f=0∨f=1:=by omega
   rcases this with rfl | rfl
   ·rw [eval_zero,eval_zero]
   ·rw [eval_one,eval_one]
  ·rw [eval_node w a h hf,eval_node w b h hf,hab (at_ n ns f).v (hS f (.self h)),ih _ (w.lt_high h hf) (w.ref_high hf) (fun y hy=>hS y (.high h hy)),ih _ (w.lt_low h hf) (w.ref_low hf) (fun y hy=>hS y (.low h hy))]
theorem Rch.tv_le (w:Wf n ns) {f y:Nat} (h:Rch n ns f y) (hf:Ref ns f):tv n ns f≤tv n ns y:=by
 induction h with
 | self h=>exact Nat.le_refl _
 | low h _ ih=>have:=ih (w.ref_low hf); have:=w.tv_low h hf; omega
 | high h _ ih=>have:=ih (w.ref_high hf); have:=w.tv_high h hf; omega
def Asc (n:Nat) (S:Nat→Prop) (to:Nat→Nat):Prop:=(∀ u,S u→to u < n)∧∀ u v,S u→S v→u < v→to u < to v
theorem CPre.ren {S:Nat→Prop} {to:Nat→Nat} (w:Wf n ns) (hf:Ref ns f) (h2:2≤f) (hS:∀ y,Rch n ns f y→S (tv n ns y)) (ha:Asc n S to):CPre n (fun a i=>a (to i)) ns f (to (tv n ns f)):=by
 have sf:=hS f (.self h2)
 have t1:=w.tv_low h2 hf
 have t2:=w.tv_high h2 hf
 have key:∀ {a c:Nat→Bool} {x:Nat},Ref ns x→tv n ns f < tv n ns x→(∀ y,Rch n ns x y→S (tv n ns y))→(∀ i,to (tv n ns f)+1≤i→a i=c i)→eval ns (fun i=>a (to i)) x=eval ns (fun i=>c (to i)) x:=by
  intro a c x hx hlt hSx h
  refine eval_reach w (S:=fun i=>S i∧tv n ns x≤i) (fun i hi=>h _ ?_) hx fun y hy=>⟨hSx y hy,hy.tv_le w hx⟩
  exact ha.2 _ _ sf hi.1 (by omega)
 exact ⟨w,hf,h2,ha.1 _ sf,fun a=>rfl,fun a c h=>key (w.ref_low hf) t1 (fun y hy=>hS y (.low h2 hy)) h,fun a c h=>key (w.ref_high hf) t2 (fun y hy=>hS y (.high h2 hy)) h⟩
end
end Go.Bd
end
section
set_option linter.unusedVariables false
set_option linter.unusedSimpArgs false
namespace Go.Bd
section
variable {n:Nat} {ns:Ns}
theorem upd_comm {a:Nat→Bool} {u v:Nat} {x y:Bool} (h:u≠v):upd (upd a u x) v y=upd (upd a v y) u x:=by
 funext i
 unfold upd
 by_cases h1:i=v
 ·subst h1; rw [if_pos rfl,if_neg (fun e=>h e.symm),if_pos rfl]
 ·by_cases h2:i=u
  ·simp [h1,h2,h]
  ·simp [h1,h2]
theorem reach_dep (w:Wf n ns) (v:Nat):∀ {f:Nat},Ref ns f→((∃ y,Rch n ns f y∧tv n ns y=v)↔∃ a,eval ns (upd a v false) f≠eval ns (upd a v true) f):=by
 intro f hf
 constructor
 ·rintro ⟨y,hr,rfl⟩
  induction hr with
  | self h=>exact dep_top w h hf
  | @low f y h k ih =>
   obtain ⟨a,ha⟩:=ih (w.ref_low hf)
   have h1:=k.tv_le w (w.ref_low hf)
   have h2:=w.tv_low h hf
   refine ⟨upd a (tv n ns f) false,?_⟩
   rw [upd_comm (u:=tv n ns f) (y:=false) (by omega),upd_comm (u:=tv n ns f) (y:=true) (by omega),eval_low w h hf,eval_low w h hf]
   exact ha
  | @high f y h k ih =>
   obtain ⟨a,ha⟩:=ih (w.ref_high hf)
   have h1:=k.tv_le w (w.ref_high hf)
   have h2:=w.tv_high h hf
   refine ⟨upd a (tv n ns f) true,?_⟩
   rw [upd_comm (u:=tv n ns f) (y:=false) (by omega),upd_comm (u:=tv n ns f) (y:=true) (by omega),eval_high w h hf,eval_high w h hf]
   exact ha
 ·rintro ⟨a,ha⟩
  rcases Classical.em (∃ y,Rch n ns f y∧tv n ns y=v) with h | h
  ·exact h
  ·exact absurd (eval_reach w (S:=fun i=>i≠v) (fun i hi=>by rw [upd_ne hi,upd_ne hi]) hf (fun y hy e=>h ⟨y,hy,e⟩)) ha
end
def pickF (n:Nat) (ns:Ns) (f:Nat):Nat→Bool :=
 if h:f < 2 then fun _=>false else
  let d:=at_ n ns f
  if hl:d.low < f∧d.high < f then (if d.low=0 then upd (pickF n ns d.high) d.v true else pickF n ns d.low) else fun _=>false
 termination_by f
 decreasing_by
 ·exact hl.2
 ·exact hl.1
section
variable {n:Nat} {ns:Ns}
theorem pick_lt {f:Nat} (h:f < 2):pickF n ns f=fun _=>false:=by unfold pickF; rw [dif_pos h]
theorem pick_node (w:Wf n ns) {f:Nat} (h:2≤f) (hf:Ref ns f):pickF n ns f=if (at_ n ns f).low=0 then upd (pickF n ns (at_ n ns f).high) (tv n ns f) true else pickF n ns (at_ n ns f).low:=by
 conv=>lhs; unfold pickF
 rw [dif_neg (by omega)]
 simp only
 rw [dif_pos ⟨w.lt_low h hf,w.lt_high h hf⟩]
 rfl
theorem pick_low (w:Wf n ns):∀ {f:Nat},Ref ns f→∀ i,i < tv n ns f→pickF n ns f i=false:=by
 intro f
 induction f using Nat.strongRecOn with
 | ind f ih =>
  intro hf i hi
  rcases Nat.lt_or_ge f 2 with h | h
  ·rw [pick_lt h]
  ·rw [pick_node w h hf]
   split
   ·rw [upd_ne (by omega)]
    exact ih _ (w.lt_high h hf) (w.ref_high hf) i (by have:=w.tv_high h hf; omega)
   ·exact ih _ (w.lt_low h hf) (w.ref_low hf) i (by have:=w.tv_low h hf; omega)
theorem pick_true (w:Wf n ns):∀ {f:Nat},Ref ns f→f≠0→eval ns (pickF n ns f) f=true:=by
 intro f
 induction f using Nat.strongRecOn with
 | ind f ih =>
  intro hf h0
  rcases Nat.lt_or_ge f 2 with h | h
  ·have:f=1:=by omega
   subst this
   rw [eval_one]
  ·rw [pick_node w h hf]
   have hne:(at_ n ns f).low≠(at_ n ns f).high:=by rw [at_ge h hf]; exact w.ne _ _
   by_cases hl:(at_ n ns f).low=0
   ·rw [if_pos hl,eval_high w h hf]
    exact ih _ (w.lt_high h hf) (w.ref_high hf) (by omega)
   ·rw [if_neg hl,eval_node w _ h hf,show (at_ n ns f).v=tv n ns f from rfl,pick_low w (w.ref_low hf) _ (w.tv_low h hf)]
    exact ih _ (w.lt_low h hf) (w.ref_low hf) hl
end
abbrev Fc:=Nat × Nat
section
variable {n:Nat} {ns:Ns}
end
end Go.Bd
namespace Go.Bd
section
variable {n:Nat} {ns ns':Ns}
theorem Rch.of_ext (w:Wf n ns) (hx:Ext n ns ns') {f y:Nat} (h:Rch n ns' f y) (hf:Ref ns f):Rch n ns f y:=by
 induction h with
 | self h=>exact .self h
 | low h _ ih=>rw [hx.at hf] at ih; exact .low h (ih (w.ref_low hf))
 | high h _ ih=>rw [hx.at hf] at ih; exact .high h (ih (w.ref_high hf))
theorem sup_ext (w:Wf n ns) (hx:Ext n ns ns') {S:Nat→Prop} {f:Nat} (hf:Ref ns f) (hS:∀ y,Rch n ns f y→S (tv n ns y)):∀ y,Rch n ns' f y→S (tv n ns' y):=fun y hy=>by
 have:=hy.of_ext w hx hf
 rw [hx.tv (this.ref w hf)]; exact hS y this
end
end Go.Bd
end
section
set_option maxRecDepth 100000
set_option linter.unusedSimpArgs false
set_option linter.unusedVariables false
namespace Go.Proofs.YtkhfdmelcpfgoaaGreat
open Go Go.W Go.Bd Go.Maps
theorem e_eq (a b:Nat):((a:Int) == (b:Int))=decide (a=b):=by
 by_cases h:a=b
 ·simp [h]
 ·have:((a:Int) == b)=false:=by rw [beq_eq_false_iff_ne]; omega
  rw [this]; simp [h]
theorem e_eq0 (a:Nat):((a:Int) == 0)=decide (a=0):=e_eq a 0
open Go Go.W Go.Bd Go.Maps
def ChPost (m n lim:Nat) (σ:(Nat→Bool)→Nat→Bool) (ns:Ns) (f b:Nat) (B:Asr) (w:World) (F:List Nat) (v:Value) (w':World):Prop :=
 ∃ r ns' M',v=optV r∧ChOk n lim σ ns f r ns' M'∧At w F (Star (MgrA m n lim ns') (Star (MemB b M') B)) w'
set_option maxHeartbeats 4000000 in
theorem change_ren (m n lim b:Nat) (v0 v1:Int) (tov:Value) (xs:List Int) (S:Nat→Prop) (to:Nat→Nat) (htov:∃ a k c,tov=.slice (some a) k c) (hto:∀ i,S i→xs[i]?=some ((to i:Nat):Int)) (hasc:Asc n S to) (w:World) (F:List Nat):∀ (d f:Nat) (ns:Ns) (M:Mem1) (B:Asr) (w1:World),Lcl B→Wf n ns→Bnd n lim ns→Ref ns f→f≤d→Go.Bd.MemC (fun a i=>a (to i)) ns M→(∀ y,Rch n ns f y→S (tv n ns y))→(∀ w' F',B w' F'→Vw w' tov iv xs) →
  At w F (Star (MgrA m n lim ns) (Star (MemB b M) B)) w1 →
  Calls Tryz.prog 121 [.pointer (some ⟨m,0,none⟩),.int .i64 (f:Nat),.int .i64 v0,.int .i64 v1,tov,.map (some b)].toArray w1 fun e w'=>∃ v,e=.returned v∧ChPost m n lim (fun a i=>a (to i)) ns f b B w F v w':=by
 intro d
 induction d using Nat.strongRecOn with
 | ind d ih =>
 intro f ns M B w1 hB hw hb hf hd hM hS hR hA
 obtain ⟨hbn,hbl,hbs⟩:=hb
 have hb':Bnd n lim ns:=⟨hbn,hbl,hbs⟩
 have hLV:Lcl B:=hB
 have hLX:Lcl (Star (MgrA m n lim ns) (Star (MemB b M) B)):=Lcl.mgr.star (Lcl.map.star hLV)
 have hrf:f≤1048578:=by unfold Ref at hf; omega
 refine enter Tryz.func121 mixed low121 (Nat.le_of_ble_eq_true rfl) ?_
 simp only [L121]
 by_cases h2:f < 2
 ·have h2':(f:Int) < 2:=by omega
  simp [h2']
  exact ⟨some f,ns,M,rfl,c_const hw hbs hM hf h2,hA⟩
 have h2':¬ (f:Int) < 2:=by omega
 have hf2:2≤f:=by omega
 simp [h2']
 refine MapM.look2 (x:=f) hA.drop.map bkeyI Tryz.underlying76 zint (show i64ok f by unfold i64ok; omega) ?_
 cases hgm:getM M f with
 | some r =>
  simp [natV]
  exact ⟨some r,ns,M,rfl,c_known hw hbs hM (getM_in hgm),hA⟩
 | none =>
 simp
 refine cl_of (at_spec m n lim f ns w1 (MgrA.rd hA) hb' hf) ?_
 rintro v w2 ⟨rfl,k2⟩
 have h3:=(hA.kp0 hLX k2).alloc (.cells #[.int .i64 0,.int .i64 0,.int .i64 0] 137) hLX
 simp [ndV,bn_len]
 refine h3.st hLX (by simp [en,ints]) (by simp [en,ints]) fun w4 h4=>?_
 have e3:∀ d:Nd,wrAt #[.int .i64 0,.int .i64 0,.int .i64 0] 0 (en d)=(en d).toArray:=fun d=>by simp [en,ints]
 rw [e3] at h4
 obtain ⟨t,ht⟩:∃ t,t=w2.heap.size:=⟨_,rfl⟩
 rw [← ht] at h4 ⊢
 have h5:=h4.tor3
 have hLT:Lcl (Star (ObjA t (.cells (en (at_ n ns f)).toArray 137 (0,0))) B):=Lcl.obj.star hB
 have hot:=h4.obj
 have l1:=hw.lt_low hf2 hf
 have l2:=hw.lt_high hf2 hf
 have tvn:=hw.tv_var hf2 hf
 have etv:tv n ns f=(at_ n ns f).v:=rfl
 have brl:(at_ n ns f).low≤1048578:=by omega
 have brh:(at_ n ns f).high≤1048578:=by omega
 obtain ⟨ta,tk,tc,rfl⟩:=htov
 have hRT:∀ w' F',Star (ObjA t (.cells (en (at_ n ns f)).toArray 137 (0,0))) B w' F'→Vw w' (.slice (some ta) tk tc) iv xs:=fun w' F' h=>by
  obtain ⟨_,Fb,_,h2,_⟩:=h
  exact hR _ _ h2
 simp [cell_blk hot,en,ints]
 refine cl_of (ih (d - 1) (by omega) (at_ n ns f).low ns M _ w4 hLT hw hb' (hw.ref_low hf) (by omega) hM (fun y hy=>hS y (.low hf2 hy)) hRT h5) ?_
 rintro _ w6 ⟨r1,ns1,M1,rfl,hl,h6⟩
 have drp:∀ {nsx:Ns} {Mx:Mem1} {wx:World},At w F (Star (MgrA m n lim nsx) (Star (MemB b Mx) (Star (ObjA t (.cells (en (at_ n ns f)).toArray 137 (0,0))) B))) wx→At w F (Star (MgrA m n lim nsx) (Star (MemB b Mx) B)) wx:=fun h=>h.by (Imp.un (Imp.un Imp.dr))
 cases r1 with
 | none =>
  simp [optV,bnoV,berrV]
  exact ⟨none,ns1,M1,rfl,c_low hw hf hf2 hl,drp h6⟩
 | some l =>
 have hw1:=hl.ext.wf
 have hb1:Bnd n lim ns1:=⟨hbn,hbl,hl.lim⟩
 have hot:=h6.drop.drop.obj
 simp [optV,okV,cell_blk hot,en,ints]
 refine cl_of (ih (d - 1) (by omega) (at_ n ns f).high ns1 M1 _ w6 hLT hw1 hb1 (hl.ext.ref (hw.ref_high hf)) (by omega) hl.mem (sup_ext hw hl.ext (hw.ref_high hf) (fun y hy=>hS y (.high hf2 hy))) hRT h6) ?_
 rintro _ w7 ⟨r2,ns2,M2,rfl,hh,h7⟩
 cases r2 with
 | none =>
  simp [optV,bnoV,berrV]
  exact ⟨none,ns2,M2,rfl,c_high hw hf hf2 hl hh,drp h7⟩
 | some h =>
 have hpre:=CPre.ren hw hf hf2 hS hasc
 have hm:=c_mid hpre hl hh
 have hw2:=hm.ext.wf
 have hb2:Bnd n lim ns2:=⟨hbn,hbl,hm.lim⟩
 have hl2:=hm.lim
 have hot:=h7.drop.drop.obj
 have hlr:l≤2000000:=by have:=hm.rl; unfold Ref at this; omega
 have hhr:h≤2000000:=by have:=hm.rk; unfold Ref at this; omega
 have hml:M2.length≤1048578:=mem1_small (ns:=ns2) (N:=1048578) (by omega) (fun q hq=>(hm.mem q hq).1) (MapM.nodup h7.drop.map)
 obtain ⟨_,hq,_⟩:=h7.drop.drop.drop.ex
 have hvw:=hR _ _ hq
 have sv:=hto _ (hS f (.self hf2))
 have un:=hpre.un
 have hix:(tv n ns f) < xs.length:=(List.getElem?_eq_some_iff.1 sv).1
 rw [etv] at sv un hix
 have hcv:=iv_cell hvw sv
 have etk:tk=xs.length:=by
  rcases hvw with ⟨h1,_⟩ | ⟨a,cap,h1,_⟩
  ·cases h1
  ·injection h1
 have hlt:((at_ n ns f).v:Int) < tk:=by omega
 have hlt':(at_ n ns f).v < tk:=by omega
 simp [Value.adr] at hcv
 simp [optV,okV,cell_blk hot,en,ints,hcv,hlt,hlt']
 rw [← etv]
 refine cl_of (make_spec m n lim ns2 (to (tv n ns f)) l h (Lcl.map.star hLT) h7 hb2 (by have:=hpre.un; omega) hlr hhr) ?_
 rintro _ w9 ⟨rfl,h9⟩
 cases hk:(mkF lim ns2 (to (tv n ns f)) l h).1 with
 | none =>
  simp [optV,bnoV,berrV]
  exact ⟨none,_,M2,rfl,c_full hpre hm hk,drp h9⟩
 | some x =>
  simp [optV,okV]
  refine At.put (x:=f) (v:=x) (Lcl.mgr.star hLT) h9.rot bkeyI Tryz.underlying76 (show i64ok f by unfold i64ok; omega) (by unfold maxLen; omega) fun w12 h12=>?_
  simp
  exact ⟨some x,_,_,rfl,c_done hpre hm hk (fun q hq=>putM_mem hq),drp h12.rot⟩
end Go.Proofs.YtkhfdmelcpfgoaaGreat
end
section
set_option maxRecDepth 100000
set_option linter.unusedSimpArgs false
set_option linter.unusedVariables false
namespace Go.Proofs.YtkhfdmelcpfgoaaGreat
open Go Go.W Go.Bd Go.Maps
section
variable {p:Value} {w:World} {R:Value→World→Prop}
theorem not_of {f:Int} (h:Calls Tryz.prog 94 [p,.int .i64 2,.int .i64 f,.int .i64 1].toArray w fun e w'=>∃ v,e=.returned v∧R v w') (hR:∀ v w',R v w'→∃ a b,v=.tuple #[a,b]) :
  Calls Tryz.prog 81 [p,.int .i64 f].toArray w fun e w'=>∃ v,e=.returned v∧R v w':=by
 refine enter Tryz.func81 mixed low81 (Nat.le_of_ble_eq_true rfl) ?_
 simp only [L81]
 simp
 refine cl_of h ?_
 intro v w2 h2
 obtain ⟨a,b,rfl⟩:=hR v w2 h2
 simp
 exact h2
theorem and_of {f g:Int} (h:Calls Tryz.prog 94 [p,.int .i64 0,.int .i64 f,.int .i64 g].toArray w fun e w'=>∃ v,e=.returned v∧R v w') (hR:∀ v w',R v w'→∃ a b,v=.tuple #[a,b]) :
  Calls Tryz.prog 72 [p,.int .i64 f,.int .i64 g].toArray w fun e w'=>∃ v,e=.returned v∧R v w':=by
 refine enter Tryz.func72 mixed low72 (Nat.le_of_ble_eq_true rfl) ?_
 simp only [L72]
 simp
 refine cl_of h ?_
 intro v w2 h2
 obtain ⟨a,b,rfl⟩:=hR v w2 h2
 simp
 exact h2
theorem or_of {f g:Int} (h:Calls Tryz.prog 94 [p,.int .i64 1,.int .i64 f,.int .i64 g].toArray w fun e w'=>∃ v,e=.returned v∧R v w') (hR:∀ v w',R v w'→∃ a b,v=.tuple #[a,b]) :
  Calls Tryz.prog 71 [p,.int .i64 f,.int .i64 g].toArray w fun e w'=>∃ v,e=.returned v∧R v w':=by
 refine enter Tryz.func71 mixed low71 (Nat.le_of_ble_eq_true rfl) ?_
 simp only [L71]
 simp
 refine cl_of h ?_
 intro v w2 h2
 obtain ⟨a,b,rfl⟩:=hR v w2 h2
 simp
 exact h2
theorem exists_of {f:Int} {u:Value} (h:Calls Tryz.prog 136 [p,.int .i64 1,.int .i64 f,u].toArray w fun e w'=>∃ v,e=.returned v∧R v w') (hR:∀ v w',R v w'→∃ a b,v=.tuple #[a,b]) :
  Calls Tryz.prog 123 [p,.int .i64 f,u].toArray w fun e w'=>∃ v,e=.returned v∧R v w':=by
 refine enter Tryz.func123 mixed low123 (Nat.le_of_ble_eq_true rfl) ?_
 simp only [L123]
 simp
 refine cl_of h ?_
 intro v w2 h2
 obtain ⟨a,b,rfl⟩:=hR v w2 h2
 simp
 exact h2
theorem optV_tup (r:Option Nat):∃ a b,optV r=.tuple #[a,b]:=by cases r <;> exact ⟨_,_,rfl⟩
end
theorem times_spec (n p:Nat) (w:World) (hn:n≤many) (hp:p≤100000):Calls Tryz.prog 84 [.int .i64 (n:Nat),.int .i64 (p:Nat)].toArray w fun e w'=>∃ v,e=.returned v∧v=.int .i64 ((min (n * 2 ^ p) many:Nat):Int)∧Kp [] w w':=by
 refine enter Tryz.func84 mixed low84 (Nat.le_of_ble_eq_true rfl) ?_
 simp only [L84]
 simp
 have hm:many=1099511627777:=rfl
 refine loop_inv (fun q ρ w1=>∃ x:Nat,ρ 0=.int .i64 (x:Nat)∧ρ 1=.int .i64 (q:Nat)∧x≤many∧q≤p∧min (x * 2 ^ q) many=min (n * 2 ^ p) many∧w1=w) p
  ⟨n,by simp,by simp,hn,Nat.le_refl _,rfl,rfl⟩ ?_
 rintro q ρ w1 ⟨x,g0,g1,hx,hq,he,rfl⟩
 by_cases h1:q=0
 ·subst h1
  simp [g0,g1]
  refine ⟨?_,Kp.refl _ _⟩
  rw [← he]; simp; omega
 have h1':(0:Int) < q:=by omega
 have h1'':0 < q:=by omega
 by_cases h2:x=0
 ·subst h2
  simp [g0,g1,h1',h1'']
  refine ⟨?_,Kp.refl _ _⟩
  rw [← he]; simp
 have h2':(0:Int) < x:=by omega
 have h2'':0 < x:=by omega
 have hpq:2≤2 ^ q:=by
  obtain ⟨e,rfl⟩:∃ e,q=e+1:=⟨q - 1,by omega⟩
  have:=Nat.two_pow_pos e
  rw [Nat.pow_succ]; omega
 by_cases h3:x < many
 ·have h3':(x:Int) < 1099511627777:=by omega
  have h3'':x < 1099511627777:=by omega
  have e1:min (2 * (x:Int)) 1099511627777=((min (2 * x) many:Nat):Int):=by omega
  have e2:(q:Int) - 1=((q - 1:Nat):Int):=by omega
  simp (disch:=omega) [g0,g1,h1',h1'',h2',h2'',h3',h3'',wrap_i64]
  refine ⟨q - 1,by omega,min (2 * x) many,by omega,by omega,by omega,by omega,?_⟩
  rw [many_mul,← he]
  have:2 * x * 2 ^ (q - 1)=x * 2 ^ q:=by
   obtain ⟨e,rfl⟩:∃ e,q=e+1:=⟨q - 1,by omega⟩
   rw [Nat.add_sub_cancel,Nat.pow_succ,Nat.mul_comm 2 x,Nat.mul_assoc,Nat.mul_comm 2]
  rw [this]
 ·have h3':¬ (x:Int) < 1099511627777:=by omega
  have h3'':¬ x < 1099511627777:=by omega
  have h4:x=many:=by omega
  simp [g0,g1,h1',h1'',h2',h2'',h3',h3'']
  refine ⟨?_,Kp.refl _ _⟩
  rw [← he,h4]
  have:many≤many * 2 ^ q:=Nat.le_mul_of_pos_right _ (by omega)
  omega
end Go.Proofs.YtkhfdmelcpfgoaaGreat
end
