/-
  A part of the proof of this claim's statement (BdAp, BdQ, BdC, SyPlain): plain theorems; no conditions beyond those each names.
-/
import Derived.Test.YtcoeknnghfajnaaGreatPk11
set_option maxRecDepth 100000
set_option linter.unusedSimpArgs false
set_option linter.unusedVariables false
set_option linter.unusedSectionVars false
section
namespace Go.Bd
section
variable {n cap op:Nat} {S:Nat→Nat→Prop} {ns ns1 ns2:Ns} {M M1 M2:Mem2} {p q:Nat}
structure ApPre (n op:Nat) (S:Nat→Nat→Prop) (ns:Ns) (M:Mem2) (p q v:Nat):Prop where
 w:Wf n ns
 rp:Ref ns p
 rq:Ref ns q
 ev:v=min (tv n ns p) (tv n ns q)
 vn:v < n
 s:S p q
 nokey:∀x ∈ M,x.1≠(p,q)
 cp:Cof n ns v p (lo n ns v p) (hi n ns v p)
 cq:Cof n ns v q (lo n ns v q) (hi n ns v q)
theorem ApPre.mk' (w:Wf n ns) (rp:Ref ns p) (rq:Ref ns q) (s:S p q) (hpq:p≤q) (hs:(sh op p q).2=false) (nokey:∀x ∈ M,x.1≠(p,q)):ApPre n op S ns M p q (min (tv n ns p) (tv n ns q)):=by
 have h2:2≤q:=sh_no (r:=(sh op p q).1) (by rw [←hs]) hpq
 have hv:min (tv n ns p) (tv n ns q) < n:=by have:=w.tv_var h2 rq; omega
 exact ⟨w,rp,rq,rfl,hv,s,nokey,cof_of w rp (by omega) hv,cof_of w rq (by omega) hv⟩
theorem ap_low {v:Nat} (h:ApPre n op S ns M p q v) (hl:ApOk n cap op S ns M (lo n ns v p) (lo n ns v q) none ns1 M1):ApOk n cap op S ns M p q none ns1 M1:=by
 refine ⟨hl.ext,hl.lim,hl.mem,fun x hx=>(by cases hx),hl.grow,fun x hx=>?_,fun _=>hl.full rfl,hl.mono,hl.fr⟩
 rcases hl.sub x hx with h1 | ⟨h1,h2⟩
 ·exact .inl h1
 ·have:=h.cp.tl; have:=h.cq.tl
  exact .inr ⟨h1,by rw [←h.ev]; omega⟩
structure ApMid (n cap op:Nat) (S:Nat→Nat→Prop) (ns:Ns) (M:Mem2) (v:Nat) (ns2:Ns) (M2:Mem2):Prop where
 ext:Ext n ns ns2
 lim:ns2.length≤cap
 mem:MemOk op ns2 M2
 grow:ns2.length+M.length≤ns.length+M2.length
 sub:∀q ∈ M2,(∃q' ∈ M,q'.1=q.1)∨(S q.1.1 q.1.2∧v+1≤min (tv n ns2 q.1.1) (tv n ns2 q.1.2))
 mono:∀q ∈ M,q ∈ M2
 fr:∀z,ns.length+2≤z→z < ns2.length+2→∃q ∈ M2,q.2=z∧S q.1.1 q.1.2
theorem ap_mid {v:Nat} {l:Nat} {r:Option Nat} (h:ApPre n op S ns M p q v) (hl:ApOk n cap op S ns M (lo n ns v p) (lo n ns v q) (some l) ns1 M1) (hh:ApOk n cap op S ns1 M1 (hi n ns1 v p) (hi n ns1 v q) r ns2 M2):ApMid n cap op S ns M v ns2 M2:=by
 refine ⟨hl.ext.trans hh.ext,hh.lim,hh.mem,?_,fun x hx=>?_,fun q hq=>hh.mono q (hl.mono q hq),fun z h1 h2=>?_⟩
 rotate_left 2
 ·by_cases hz:z < ns1.length+2
  ·obtain ⟨q,hq,e⟩:=hl.fr z h1 hz
   exact ⟨q,hh.mono q hq,e⟩
  ·exact hh.fr z (by omega) h2
 ·have:=hl.grow; have:=hh.grow; omega
 ·rcases hh.sub x hx with ⟨y,hy,e⟩ | ⟨h1,h2⟩
  ·rcases hl.sub y hy with ⟨z,hz,e2⟩ | ⟨h3,h4⟩
   ·exact .inl ⟨z,hz,e2.trans e⟩
   ·have:=h.cp.tl; have:=h.cq.tl
    obtain ⟨r1,r2,_⟩:=hl.mem y hy
    refine .inr ⟨by rw [←e]; exact h3,?_⟩
    rw [←e,hh.ext.tv r1,hh.ext.tv r2]; omega
  ·rw [hi_ext hl.ext h.rp,hi_ext hl.ext h.rq,hl.ext.tv h.cp.rh,hl.ext.tv h.cq.rh] at h2
   have:=h.cp.th; have:=h.cq.th
   exact .inr ⟨h1,by omega⟩
theorem ap_high {v:Nat} {l:Nat} (h:ApPre n op S ns M p q v) (hl:ApOk n cap op S ns M (lo n ns v p) (lo n ns v q) (some l) ns1 M1) (hh:ApOk n cap op S ns1 M1 (hi n ns1 v p) (hi n ns1 v q) none ns2 M2):ApOk n cap op S ns M p q none ns2 M2:=by
 obtain ⟨m1,m2,m3,m4,m5,m6,m7⟩:=ap_mid h hl hh
 refine ⟨m1,m2,m3,fun x hx=>(by cases hx),m4,fun x hx=>?_,fun _=>hh.full rfl,m6,m7⟩
 rcases m5 x hx with h1 | ⟨h1,h2⟩
 ·exact .inl h1
 ·exact .inr ⟨h1,by rw [←h.ev]; omega⟩
theorem mid_nokey {v:Nat} (h:ApPre n op S ns M p q v) (hm:ApMid n cap op S ns M v ns2 M2):∀x ∈ M2,x.1≠(p,q):=fun x hx e=>by
 rcases hm.sub x hx with ⟨y,hy,e2⟩ | ⟨_,h2⟩
 ·exact h.nokey y hy (e2.trans e)
 ·have e1:x.1.1=p:=by rw [e]
  have e2:x.1.2=q:=by rw [e]
  rw [e1,e2,hm.ext.tv h.rp,hm.ext.tv h.rq,←h.ev] at h2
  omega
theorem ap_make {v l hgh:Nat} (h:ApPre n op S ns M p q v) (hl:ApOk n cap op S ns M (lo n ns v p) (lo n ns v q) (some l) ns1 M1) (hh:ApOk n cap op S ns1 M1 (hi n ns1 v p) (hi n ns1 v q) (some hgh) ns2 M2) :
  Ref ns2 l∧Ref ns2 hgh∧v < tv n ns2 l∧v < tv n ns2 hgh∧∀a,(if a v then eval ns2 a hgh else eval ns2 a l)=opB op (eval ns2 a p) (eval ns2 a q):=by
 obtain ⟨rl,el⟩:=hl.ok l rfl
 obtain ⟨rh,eh⟩:=hh.ok hgh rfl
 have w1:=hl.ext.wf
 have w2:=hh.ext.wf
 have el2:∀a,eval ns2 a l=opB op (eval ns a (lo n ns v p)) (eval ns a (lo n ns v q)):=fun a=>by
  rw [hh.ext.eval w1 a rl,el]
 have eh2:∀a,eval ns2 a hgh=opB op (eval ns a (hi n ns v p)) (eval ns a (hi n ns v q)):=fun a=>by
  rw [eh,hi_ext hl.ext h.rp,hi_ext hl.ext h.rq,hl.ext.eval h.w a h.cp.rh,hl.ext.eval h.w a h.cq.rh]
 have rl2:=hh.ext.ref rl
 refine ⟨rl2,rh,?_,?_,fun a=>?_⟩
 ·have:=h.cp.tl; have:=h.cq.tl; have:=h.vn
  exact tv_ge w2 rl2 (by omega) fun a b hab=>by
   rw [el2,el2,eval_congr h.w h.cp.rl (fun i hi=>hab i (by omega)),eval_congr h.w h.cq.rl (fun i hi=>hab i (by omega))]
 ·have:=h.cp.th; have:=h.cq.th; have:=h.vn
  exact tv_ge w2 rh (by omega) fun a b hab=>by
   rw [eh2,eh2,eval_congr h.w h.cp.rh (fun i hi=>hab i (by omega)),eval_congr h.w h.cq.rh (fun i hi=>hab i (by omega))]
 ·have e:=hl.ext.trans hh.ext
  rw [e.eval h.w a h.rp,e.eval h.w a h.rq,el2,eh2,h.cp.ev a,h.cq.ev a]
  split <;> rfl
theorem ap_full {v l hgh:Nat} (h:ApPre n op S ns M p q v) (hl:ApOk n cap op S ns M (lo n ns v p) (lo n ns v q) (some l) ns1 M1) (hh:ApOk n cap op S ns1 M1 (hi n ns1 v p) (hi n ns1 v q) (some hgh) ns2 M2)
  (hk:(mkF cap ns2 v l hgh).1=none):ApOk n cap op S ns M p q none (mkF cap ns2 v l hgh).2 M2:=by
 have hm:=ap_mid h hl hh
 obtain ⟨a1,a2,a3,a4,a5⟩:=ap_make h hl hh
 have mk:=mkF_ok (lim:=cap) hm.ext.wf h.vn a1 a2 a3 a4
 obtain ⟨f1,f2⟩:=mk.full hk
 rw [f2]
 refine ⟨hm.ext,hm.lim,hm.mem,fun x hx=>(by cases hx),hm.grow,fun x hx=>?_,fun _=>⟨f1,p,q,h.s,mid_nokey h hm⟩,hm.mono,hm.fr⟩
 rcases hm.sub x hx with h1 | ⟨h1,h2⟩
 ·exact .inl h1
 ·exact .inr ⟨h1,by rw [←h.ev]; omega⟩
theorem ap_done {v l hgh x:Nat} (h:ApPre n op S ns M p q v) (hl:ApOk n cap op S ns M (lo n ns v p) (lo n ns v q) (some l) ns1 M1) (hh:ApOk n cap op S ns1 M1 (hi n ns1 v p) (hi n ns1 v q) (some hgh) ns2 M2)
  (hk:(mkF cap ns2 v l hgh).1=some x):ApOk n cap op S ns M p q (some x) (mkF cap ns2 v l hgh).2 (M2 ++ [((p,q),x)]):=by
 have hm:=ap_mid h hl hh
 obtain ⟨a1,a2,a3,a4,a5⟩:=ap_make h hl hh
 have mk:=mkF_ok (lim:=cap) hm.ext.wf h.vn a1 a2 a3 a4
 obtain ⟨rx,tx,ex⟩:=mk.ok x hk
 have w2:=hm.ext.wf
 have e3:=hm.ext.trans mk.ext
 have hx:∀a,eval (mkF cap ns2 v l hgh).2 a x=opB op (eval (mkF cap ns2 v l hgh).2 a p) (eval (mkF cap ns2 v l hgh).2 a q):=fun a=>by
  rw [ex a,mk.ext.eval w2 a a2,mk.ext.eval w2 a a1,a5 a,mk.ext.eval w2 a (hm.ext.ref h.rp),mk.ext.eval w2 a (hm.ext.ref h.rq)]
 refine ⟨e3,mk.lim hm.lim,fun y hy=>?_,fun y hy=>?_,?_,fun y hy=>?_,(fun hn=>by cases hn),fun y hy=>List.mem_append_left _ (hm.mono y hy),fun z h1 h2=>?_⟩
 rotate_left 4
 ·by_cases hz:z < ns2.length+2
  ·obtain ⟨y,hy,e⟩:=hm.fr z h1 hz
   exact ⟨y,List.mem_append_left _ hy,e⟩
  ·exact ⟨((p,q),x),by simp,(mkF_new hk (by omega) h2).symm,h.s⟩
 ·rcases List.mem_append.1 hy with h1 | h1
  ·exact (hm.mem.ext w2 mk.ext) y h1
  ·simp at h1; subst h1
   exact ⟨e3.ref h.rp,e3.ref h.rq,rx,hx⟩
 ·simp only [Option.some.injEq] at hy
  subst hy
  exact ⟨rx,fun a=>by rw [hx a,e3.eval h.w a h.rp,e3.eval h.w a h.rq]⟩
 ·have:=hm.grow; have:=mk.len
  simp; omega
 ·rcases List.mem_append.1 hy with h1 | h1
  ·rcases hm.sub y h1 with h2 | ⟨h2,h3⟩
   ·exact .inl h2
   ·obtain ⟨r1,r2,_⟩:=hm.mem y h1
    exact .inr ⟨h2,by rw [mk.ext.tv r1,mk.ext.tv r2,←h.ev]; omega⟩
  ·simp at h1; subst h1
   exact .inr ⟨h.s,by rw [e3.tv h.rp,e3.tv h.rq]; exact Nat.le_refl _⟩
theorem ap_short {r:Nat} (w:Wf n ns) (hlim:ns.length≤cap) (rp:Ref ns p) (rq:Ref ns q) (hM:MemOk op ns M) (hs:sh op p q=(r,true)):ApOk n cap op S ns M p q (some r) ns M:=by
 obtain ⟨h1,h2⟩:=sh_ok hs rp rq
 exact ⟨Ext.refl w,hlim,hM,fun x hx=>by simp only [Option.some.injEq] at hx; subst hx; exact ⟨h1,h2⟩,Nat.le_refl _,fun x hx=>.inl ⟨x,hx,rfl⟩,fun h=>(by cases h),fun _ h=>h,fun z h1 h2=>by omega⟩
theorem ap_known {r:Nat} (w:Wf n ns) (hlim:ns.length≤cap) (hM:MemOk op ns M) (hk:((p,q),r) ∈ M):ApOk n cap op S ns M p q (some r) ns M:=by
 obtain ⟨_,_,h1,h2⟩:=hM _ hk
 exact ⟨Ext.refl w,hlim,hM,fun x hx=>by simp only [Option.some.injEq] at hx; subst hx; exact ⟨h1,h2⟩,Nat.le_refl _,fun x hx=>.inl ⟨x,hx,rfl⟩,fun h=>(by cases h),fun _ h=>h,fun z h1 h2=>by omega⟩
end
end Go.Bd
namespace Go.Bd
structure BinOk (n cap op:Nat) (S:Nat→Nat→Prop) (ns:Ns) (f g:Nat) (r:Option Nat) (ns':Ns):Prop where
 ext:Ext n ns ns'
 lim:ns'.length≤cap
 ok:∀x,r=some x→Ref ns' x∧∀a,eval ns' a x=opB op (eval ns a f) (eval ns a g)
 cnt:∀L:List (Nat × Nat),(∀x y,S x y→(x,y) ∈ L)→ns'.length≤ns.length+L.length∧(r=none→cap < ns.length+L.length)
 fr:∀z,ns.length+2≤z→z < ns'.length+2→∃x y,S x y∧Ref ns' x∧Ref ns' y∧∀a,eval ns' a z=opB op (eval ns' a x) (eval ns' a y)
 hit:r=none→cap≤ns'.length
theorem bin_of_ap {n cap op:Nat} {S:Nat→Nat→Prop} {ns ns':Ns} {M':Mem2} {f g:Nat} {r:Option Nat} (h:ApOk n cap op S ns [] f g r ns' M') (hn:(M'.map (·.1)).Nodup):BinOk n cap op S ns f g r ns':=by
 refine ⟨h.ext,h.lim,h.ok,fun L hL=>?_,fun z h1 h2=>?_,fun hr=>(h.full hr).1⟩
 rotate_left
 ·obtain ⟨q,hq,rfl,hS⟩:=h.fr z h1 h2
  obtain ⟨a1,a2,_,a3⟩:=h.mem q hq
  exact ⟨q.1.1,q.1.2,hS,a1,a2,a3⟩
 have hsub:∀x ∈ M'.map (·.1),x ∈ L:=fun x hx=>by
  obtain ⟨q,hq,rfl⟩:=List.mem_map.1 hx
  rcases h.sub q hq with ⟨q',hq',_⟩ | ⟨h1,_⟩
  ·cases hq'
  ·exact hL _ _ h1
 have hg:=h.grow
 simp at hg
 have hlen:=nodup_len _ L hn hsub
 simp at hlen
 refine ⟨by omega,fun hr=>?_⟩
 obtain ⟨h1,x,y,h2,h3⟩:=h.full hr
 have hcons:((x,y) :: M'.map (·.1)).Nodup:=by
  rw [List.nodup_cons]
  refine ⟨fun hm=>?_,hn⟩
  obtain ⟨q,hq,e⟩:=List.mem_map.1 hm
  exact h3 q hq e
 have:=nodup_len _ L hcons (fun z hz=>by
  rcases List.mem_cons.1 hz with rfl | hz
  ·exact hL _ _ h2
  ·exact hsub z hz)
 simp at this
 omega
end Go.Bd
namespace Go.Bd
def pfx (a:Nat→Bool) (k:Nat) (b:Nat→Bool):Nat→Bool:=fun i=>if i < k then a i else b i
theorem pfx_zero (a b:Nat→Bool):pfx a 0 b=b:=by funext i; simp [pfx]
def IsC (G H:(Nat→Bool)→Bool):Prop:=∃k a,∀b,H b=G (pfx a k b)
theorem IsC.refl (G:(Nat→Bool)→Bool):IsC G G:=⟨0,fun _=>false,fun b=>by rw [pfx_zero]⟩
theorem IsC.trans {F G H:(Nat→Bool)→Bool} (h1:IsC F G) (h2:IsC G H):IsC F H:=by
 obtain ⟨k1,a1,e1⟩:=h1
 obtain ⟨k2,a2,e2⟩:=h2
 refine ⟨max k1 k2,fun i=>if i < k1 then a1 i else a2 i,fun b=>?_⟩
 rw [e2,e1]
 congr 1
 funext i
 simp only [pfx]
 by_cases h1:i < k1
 ·rw [if_pos h1,if_pos (by omega),if_pos h1]
 ·rw [if_neg h1]
  by_cases h2:i < k2
  ·rw [if_pos h2,if_pos (by omega),if_neg h1]
  ·rw [if_neg h2,if_neg (by omega)]
theorem IsC.congr {G G' H H':(Nat→Bool)→Bool} (h:IsC G H) (e:∀b,G b=G' b) (e':∀b,H b=H' b):IsC G' H':=by
 obtain ⟨k,a,h⟩:=h
 exact ⟨k,a,fun b=>by rw [←e',h,e]⟩
section
variable {n:Nat} {ns:Ns}
theorem cof_pfx (w:Wf n ns) {G:(Nat→Bool)→Bool} {x y v k:Nat} {a:Nat→Bool} {t:Bool} (hx:Ref ns x) (hy:Ref ns y) (hkv:k≤v) (hvx:v≤tv n ns x) (hvy:v+1≤tv n ns y) (hG:∀b,eval ns b x=G (pfx a k b)) (he:∀b,eval ns (upd b v t) x=eval ns (upd b v t) y) :
  ∀b,eval ns b y=G (pfx (fun i=>if i < k then a i else (t && decide (i=v))) (v+1) b):=fun b=>by
 have e1:eval ns b y=eval ns (upd b v t) y:=eval_congr w hy fun i hi=>(upd_ne (by omega)).symm
 have e2:eval ns (upd b v t) x=eval ns (fun i=>if i < v+1 then (t && decide (i=v)) else b i) x:=eval_congr w hx fun i hi=>by
  show upd b v t i=if i < v+1 then (t && decide (i=v)) else b i
  by_cases h:i=v
  ·subst h
   rw [upd_same,if_pos (by omega)]
   simp
  ·rw [upd_ne h,if_neg (by omega)]
 rw [e1,←he,e2,hG]
 congr 1
 funext i
 simp only [pfx]
 by_cases h:i < k
 ·rw [if_pos h,if_pos (by omega),if_pos h]
 ·rw [if_neg h]
  by_cases h2:i < v+1
  ·rw [if_pos h2,if_pos h2,if_neg h]
  ·rw [if_neg h2,if_neg h2]
def PS (n:Nat) (ns:Ns) (f g x y:Nat):Prop:=Ref ns x∧Ref ns y∧∃k a,k≤tv n ns x∧k≤tv n ns y ∧
 (((∀b,eval ns b x=eval ns (pfx a k b) f)∧∀b,eval ns b y=eval ns (pfx a k b) g)∨((∀b,eval ns b x=eval ns (pfx a k b) g)∧∀b,eval ns b y=eval ns (pfx a k b) f))
theorem PS.swap {f g x y:Nat} (h:PS n ns f g x y):PS n ns f g y x:=by
 obtain ⟨h1,h2,k,a,h3,h4,h5⟩:=h
 exact ⟨h2,h1,k,a,h4,h3,h5.elim (fun h=>.inr ⟨h.2,h.1⟩) fun h=>.inl ⟨h.2,h.1⟩⟩
theorem PS.mm {f g x y:Nat} (h:PS n ns f g x y):PS n ns f g (min x y) (max x y):=by
 rcases Nat.le_total x y with h1 | h1
 ·rw [Nat.min_eq_left h1,Nat.max_eq_right h1]; exact h
 ·rw [Nat.min_eq_right h1,Nat.max_eq_left h1]; exact h.swap
theorem ps_clo (w:Wf n ns) (op:Nat) {f g:Nat} (hf:Ref ns f) (hg:Ref ns g):Sn op (PS n ns f g) f g∧Clo n op ns (PS n ns f g):=by
 refine ⟨.inr (PS.mm ⟨hf,hg,0,fun _=>false,Nat.zero_le _,Nat.zero_le _,.inl ⟨fun b=>by rw [pfx_zero],fun b=>by rw [pfx_zero]⟩⟩),fun x y h=>?_⟩
 obtain ⟨rx,ry,k,a,kx,ky,hxy⟩:=h
 obtain ⟨v,hv⟩:∃v,v=min (tv n ns x) (tv n ns y):=⟨_,rfl⟩
 rw [←hv]
 have hvx:v≤tv n ns x:=by omega
 have hvy:v≤tv n ns y:=by omega
 refine ⟨rx,ry,?_⟩
 by_cases hvn:v < n
 ·have cx:=cof_of w rx hvx hvn
  have cy:=cof_of w ry hvy hvn
  have key:∀{t:Bool} {p q:Nat},Ref ns p→Ref ns q→v+1≤tv n ns p→v+1≤tv n ns q→(∀b,eval ns (upd b v t) x=eval ns (upd b v t) p)→(∀b,eval ns (upd b v t) y=eval ns (upd b v t) q)→Sn op (PS n ns f g) p q:=fun {t p q} rp rq tp tq ep eq=>by
   refine .inr (PS.mm ⟨rp,rq,v+1,(fun i=>if i < k then a i else (t && decide (i=v))),tp,tq,?_⟩)
   rcases hxy with ⟨h1,h2⟩ | ⟨h1,h2⟩
   ·exact .inl ⟨cof_pfx w (G:=fun c=>eval ns c f) rx rp (by omega) hvx tp h1 ep,cof_pfx w (G:=fun c=>eval ns c g) ry rq (by omega) hvy tq h2 eq⟩
   ·exact .inr ⟨cof_pfx w (G:=fun c=>eval ns c g) rx rp (by omega) hvx tp h1 ep,cof_pfx w (G:=fun c=>eval ns c f) ry rq (by omega) hvy tq h2 eq⟩
  refine ⟨key (t:=false) cx.rl cy.rl (by have:=cx.tl; omega) (by have:=cy.tl; omega) (fun b=>?_) (fun b=>?_),key (t:=true) cx.rh cy.rh (by have:=cx.th; omega) (by have:=cy.th; omega) (fun b=>?_) (fun b=>?_)⟩
  ·rw [cx.ev,upd_same]; simp
  ·rw [cy.ev,upd_same]; simp
  ·rw [cx.ev,upd_same]; simp
  ·rw [cy.ev,upd_same]; simp
 ·have hx2:x < 2:=by
   apply Decidable.byContradiction
   intro h
   have:=w.tv_var (show 2≤x by omega) rx
   omega
  have hy2:y < 2:=by
   apply Decidable.byContradiction
   intro h
   have:=w.tv_var (show 2≤y by omega) ry
   omega
  have hS:PS n ns f g x y:=⟨rx,ry,k,a,kx,ky,hxy⟩
  have elx:∀z,z < 2→lo n ns v z=z∧hi n ns v z=z:=fun z hz=>by
   unfold lo hi
   rw [at_lt hz]
   constructor <;> split <;> rfl
  rw [(elx x hx2).1,(elx y hy2).1,(elx x hx2).2,(elx y hy2).2]
  exact ⟨.inr hS.mm,.inr hS.mm⟩
theorem Clo.and {op:Nat} {S T:Nat→Nat→Prop} (h1:Clo n op ns S) (h2:Clo n op ns T):Clo n op ns fun x y=>S x y∧T x y:=fun x y h=>by
 obtain ⟨a1,a2,a3,a4⟩:=h1 x y h.1
 obtain ⟨_,_,b3,b4⟩:=h2 x y h.2
 have key:∀{p q:Nat},Sn op S p q→Sn op T p q→Sn op (fun x y=>S x y∧T x y) p q:=fun h k=>by
  rcases h with h | h
  ·exact .inl h
  ·rcases k with k | k
   ·exact .inl k
   ·exact .inr ⟨h,k⟩
 exact ⟨a1,a2,key a3 b3,key a4 b4⟩
theorem Sn.and {op:Nat} {S T:Nat→Nat→Prop} {p q:Nat} (h:Sn op S p q) (k:Sn op T p q):Sn op (fun x y=>S x y∧T x y) p q:=by
 rcases h with h | h
 ·exact .inl h
 ·rcases k with k | k
  ·exact .inl k
  ·exact .inr ⟨h,k⟩
theorem BinOk.new {cap op:Nat} {S:Nat→Nat→Prop} {f g:Nat} {r:Option Nat} {ns':Ns} (h:BinOk n cap op S ns f g r ns') (w:Wf n ns) (hS:∀x y,S x y→PS n ns f g x y) :
  ∀z,ns.length+2≤z→z < ns'.length+2→IsC (fun c=>opB op (eval ns c f) (eval ns c g)) fun b=>eval ns' b z:=fun z h1 h2=>by
 obtain ⟨x,y,hs,_,_,e⟩:=h.fr z h1 h2
 obtain ⟨rx,ry,k,a,_,_,hxy⟩:=hS x y hs
 refine ⟨k,a,fun b=>?_⟩
 show eval ns' b z=opB op (eval ns (pfx a k b) f) (eval ns (pfx a k b) g)
 rw [e,h.ext.eval w b rx,h.ext.eval w b ry]
 rcases hxy with ⟨e1,e2⟩ | ⟨e1,e2⟩
 ·rw [e1,e2]
 ·rw [e1,e2,opB_comm]
theorem isc_low (w:Wf n ns) {f:Nat} (hf:Ref ns f) (h2:2≤f):IsC (fun c=>eval ns c f) fun c=>eval ns c (at_ n ns f).low :=
 ⟨_,_,cof_pfx w (G:=fun c=>eval ns c f) (k:=0) (a:=fun _=>false) (t:=false) hf (w.ref_low hf) (Nat.zero_le _) (Nat.le_refl _) (w.tv_low h2 hf) (fun b=>by rw [pfx_zero]) fun b=>by
  rw [eval_low w h2 hf]
  exact (eval_upd w (w.ref_low hf) (w.tv_low h2 hf)).symm⟩
theorem isc_high (w:Wf n ns) {f:Nat} (hf:Ref ns f) (h2:2≤f):IsC (fun c=>eval ns c f) fun c=>eval ns c (at_ n ns f).high :=
 ⟨_,_,cof_pfx w (G:=fun c=>eval ns c f) (k:=0) (a:=fun _=>false) (t:=true) hf (w.ref_high hf) (Nat.zero_le _) (Nat.le_refl _) (w.tv_high h2 hf) (fun b=>by rw [pfx_zero]) fun b=>by
  rw [eval_high w h2 hf]
  exact (eval_upd w (w.ref_high hf) (w.tv_high h2 hf)).symm⟩
end
end Go.Bd
end
section
namespace Go.Bd
def Off (inn:Nat→Bool) (a c:Nat→Bool):Prop:=∀i,inn i=false→c i=a i
def qS (op:Nat) (inn:Nat→Bool) (F:(Nat→Bool)→Bool) (a:Nat→Bool):Prop :=
 if op=1 then ∃c,Off inn a c∧F c=true else ∀c,Off inn a c→F c=true
theorem qS_congr {op:Nat} {inn:Nat→Bool} {F:(Nat→Bool)→Bool} {k:Nat} (hF:∀a b:Nat→Bool,(∀i,k≤i→a i=b i)→F a=F b) {a b:Nat→Bool} (hab:∀i,k≤i→a i=b i) (h:qS op inn F a):qS op inn F b:=by
 have mv:∀{a b:Nat→Bool},(∀i,k≤i→a i=b i)→∀c,Off inn a c→∃c',Off inn b c'∧F c'=F c:=by
  intro a b hab c hc
  refine ⟨fun i=>if k≤i then c i else b i,fun i hi=>?_,hF _ _ fun i hi=>by simp [hi]⟩
  by_cases hk:k≤i
  ·simp only [hk,if_true]; rw [hc i hi,hab i hk]
  ·simp only [hk,if_false]
 unfold qS at *
 split
 ·rename_i h1
  rw [if_pos h1] at h
  obtain ⟨c,hc,hF1⟩:=h
  obtain ⟨c',h2,h3⟩:=mv hab c hc
  exact ⟨c',h2,by rw [h3]; exact hF1⟩
 ·rename_i h1
  rw [if_neg h1] at h
  intro c hc
  obtain ⟨c',h2,h3⟩:=mv (fun i hi=>(hab i hi).symm) c hc
  rw [←h3]; exact h c' h2
theorem qS_const {op:Nat} {inn:Nat→Bool} {b:Bool} {F:(Nat→Bool)→Bool} (hF:∀a,F a=b) (a:Nat→Bool):qS op inn F a↔b=true:=by
 unfold qS
 split
 ·constructor
  ·rintro ⟨c,_,h⟩; rw [hF] at h; exact h
  ·intro h; exact ⟨a,fun _ _=>rfl,by rw [hF]; exact h⟩
 ·constructor
  ·intro h; have:=h a (fun _ _=>rfl); rwa [hF] at this
  ·intro h c _; rw [hF]; exact h
section
variable {op v:Nat} {inn:Nat→Bool} {F L H:(Nat→Bool)→Bool}
theorem qS_out (hF:∀a,F a=if a v then H a else L a) (hv:inn v=false) (a:Nat→Bool):qS op inn F a↔if a v then qS op inn H a else qS op inn L a:=by
 unfold qS
 split
 ·split
  ·rename_i hav
   constructor
   ·rintro ⟨c,hc,h⟩; exact ⟨c,hc,by rw [hF,hc v hv,hav] at h; simpa using h⟩
   ·rintro ⟨c,hc,h⟩; exact ⟨c,hc,by rw [hF,hc v hv,hav]; simpa using h⟩
  ·rename_i hav
   have hav:a v=false:=by simpa using hav
   constructor
   ·rintro ⟨c,hc,h⟩; exact ⟨c,hc,by rw [hF,hc v hv,hav] at h; simpa using h⟩
   ·rintro ⟨c,hc,h⟩; exact ⟨c,hc,by rw [hF,hc v hv,hav]; simpa using h⟩
 ·split
  ·rename_i hav
   constructor
   ·intro h c hc; have:=h c hc; rw [hF,hc v hv,hav] at this; simpa using this
   ·intro h c hc; rw [hF,hc v hv,hav]; simpa using h c hc
  ·rename_i hav
   have hav:a v=false:=by simpa using hav
   constructor
   ·intro h c hc; have:=h c hc; rw [hF,hc v hv,hav] at this; simpa using this
   ·intro h c hc; rw [hF,hc v hv,hav]; simpa using h c hc
theorem qS_in (hop:op≤1) (hF:∀a,F a=if a v then H a else L a) (hL:∀a x,L (upd a v x)=L a) (hH:∀a x,H (upd a v x)=H a) (hv:inn v=true) {a:Nat→Bool} {x y:Bool}
  (hx:x=true↔qS op inn L a) (hy:y=true↔qS op inn H a):qS op inn F a↔opB op x y=true:=by
 have off:∀{c:Nat→Bool} (z:Bool),Off inn a c→Off inn a (upd c v z):=fun z hc i hi=>by
  by_cases h:i=v
  ·subst h; rw [hv] at hi; cases hi
  ·rw [upd_ne h]; exact hc i hi
 have e1:∀c,F (upd c v true)=H c:=fun c=>by rw [hF,upd_same]; simp [hH]
 have e0:∀c,F (upd c v false)=L c:=fun c=>by rw [hF,upd_same]; simp [hL]
 rcases Nat.lt_or_ge op 1 with h | h
 ·have:op=0:=by omega
  subst this
  simp only [opB,if_true,Bool.and_eq_true,hx,hy]
  simp only [qS]
  simp only [show ¬(0:Nat)=1 by omega,if_false]
  constructor
  ·intro h; exact ⟨fun c hc=>by rw [←e0]; exact h _ (off false hc),fun c hc=>by rw [←e1]; exact h _ (off true hc)⟩
  ·rintro ⟨h1,h2⟩ c hc
   rw [hF]
   split
   ·exact h2 c hc
   ·exact h1 c hc
 ·have:op=1:=by omega
  subst this
  simp only [opB,show ¬(1:Nat)=0 by omega,if_false,if_true,Bool.or_eq_true,hx,hy]
  simp only [qS,if_true]
  constructor
  ·rintro ⟨c,hc,h⟩
   rw [hF] at h
   split at h
   ·exact .inr ⟨c,hc,h⟩
   ·exact .inl ⟨c,hc,h⟩
  ·rintro (⟨c,hc,h⟩ | ⟨c,hc,h⟩)
   ·exact ⟨_,off false hc,by rw [e0]; exact h⟩
   ·exact ⟨_,off true hc,by rw [e1]; exact h⟩
end
def pairs (n op:Nat) (ns:Ns):Nat→Nat→Nat→List (Nat × Nat)
 | 0,_,_=>[]
 | d+1,f,g =>
  if (sh op (min f g) (max f g)).2=true then [] else
  (min f g,max f g) :: (pairs n op ns d (lo n ns (min (tv n ns (min f g)) (tv n ns (max f g))) (min f g)) (lo n ns (min (tv n ns (min f g)) (tv n ns (max f g))) (max f g)) ++
   pairs n op ns d (hi n ns (min (tv n ns (min f g)) (tv n ns (max f g))) (min f g)) (hi n ns (min (tv n ns (min f g)) (tv n ns (max f g))) (max f g)))
theorem pairs_len (n op:Nat) (ns:Ns):∀d f g,(pairs n op ns d f g).length≤2 ^ d - 1
 | 0,f,g=>by simp [pairs]
 | d+1,f,g=>by
  unfold pairs
  split
  ·simp
  ·have h1:=pairs_len n op ns d (lo n ns (min (tv n ns (min f g)) (tv n ns (max f g))) (min f g)) (lo n ns (min (tv n ns (min f g)) (tv n ns (max f g))) (max f g))
   have h2:=pairs_len n op ns d (hi n ns (min (tv n ns (min f g)) (tv n ns (max f g))) (min f g)) (hi n ns (min (tv n ns (min f g)) (tv n ns (max f g))) (max f g))
   have h3:0 < 2 ^ d:=Nat.two_pow_pos d
   rw [Nat.pow_succ]
   simp only [List.length_cons,List.length_append]
   omega
theorem pairs_clo {n op:Nat} {ns:Ns} (w:Wf n ns):∀d f g,Ref ns f→Ref ns g→n≤d+min (tv n ns f) (tv n ns g) →
  Sn op (fun x y=>(x,y) ∈ pairs n op ns d f g) f g∧Clo n op ns (fun x y=>(x,y) ∈ pairs n op ns d f g)
 | 0,f,g,hf,hg,hd=>by
  have hc:∀x,Ref ns x→n≤tv n ns x→x < 2:=fun x hx h=>const_of_top w hx h
  have h1:=hc f hf (by omega)
  have h2:=hc g hg (by omega)
  refine ⟨.inl ?_,fun x y h=>by simp [pairs] at h⟩
  cases hs:sh op (min f g) (max f g) with
  | mk r t =>
  cases t with
  | true=>rfl
  | false=>have:=sh_no hs (by omega); omega
 | d+1,f,g,hf,hg,hd=>by
  have hp:Ref ns (min f g):=by unfold Ref at *; omega
  have hq:Ref ns (max f g):=by unfold Ref at *; omega
  have hm:min (tv n ns (min f g)) (tv n ns (max f g))=min (tv n ns f) (tv n ns g):=by
   rcases Nat.le_total f g with h | h
   ·rw [Nat.min_eq_left h,Nat.max_eq_right h]
   ·rw [Nat.min_eq_right h,Nat.max_eq_left h,Nat.min_comm]
  unfold pairs
  by_cases hs:(sh op (min f g) (max f g)).2=true
  ·rw [if_pos hs]
   exact ⟨.inl hs,fun x y h=>by simp at h⟩
  ·rw [if_neg hs]
   have h2:2≤max f g:=sh_no (r:=(sh op (min f g) (max f g)).1) (f:=min f g) (op:=op) (by
    cases hh:sh op (min f g) (max f g) with
    | mk r t=>rw [hh] at hs; simp at hs; rw [hs]) (by omega)
   have hv:min (tv n ns (min f g)) (tv n ns (max f g)) < n:=by have:=w.tv_var h2 hq; omega
   obtain ⟨v,hve⟩:∃v,v=min (tv n ns (min f g)) (tv n ns (max f g)):=⟨_,rfl⟩
   rw [←hve] at hv hm ⊢
   have cp:=cof_of w hp (v:=v) (by omega) hv
   have cq:=cof_of w hq (v:=v) (by omega) hv
   have i1:=pairs_clo (op:=op) w d _ _ cp.rl cq.rl (by have:=cp.tl; have:=cq.tl; omega)
   have i2:=pairs_clo (op:=op) w d _ _ cp.rh cq.rh (by have:=cp.th; have:=cq.th; omega)
   have mono:∀{S T:Nat→Nat→Prop},(∀x y,S x y→T x y)→∀{x y},Sn op S x y→Sn op T x y:=fun h _ _ hS=>hS.imp id (h _ _)
   refine ⟨.inr (by simp),fun x y hxy=>?_⟩
   rcases List.mem_cons.1 hxy with e | hxy
   ·simp only [Prod.mk.injEq] at e
    obtain ⟨rfl,rfl⟩:=e
    rw [←hve]
    exact ⟨hp,hq,mono (fun x y h=>by simp [h]) i1.1,mono (fun x y h=>by simp [h]) i2.1⟩
   ·rcases List.mem_append.1 hxy with h | h
    ·obtain ⟨a1,a2,a3,a4⟩:=i1.2 x y h
     exact ⟨a1,a2,mono (fun x y h=>by simp [h]) a3,mono (fun x y h=>by simp [h]) a4⟩
    ·obtain ⟨a1,a2,a3,a4⟩:=i2.2 x y h
     exact ⟨a1,a2,mono (fun x y h=>by simp [h]) a3,mono (fun x y h=>by simp [h]) a4⟩
abbrev Mem1:=List (Nat × Nat)
def MemQ (op:Nat) (inn:Nat→Bool) (ns:Ns) (M:Mem1):Prop:=∀q ∈ M,Ref ns q.1∧Ref ns q.2∧∀a,eval ns a q.2=true↔qS op inn (fun c=>eval ns c q.1) a
theorem MemQ.ext {n op:Nat} {inn:Nat→Bool} {ns ns':Ns} {M:Mem1} (h:MemQ op inn ns M) (w:Wf n ns) (hx:Ext n ns ns'):MemQ op inn ns' M:=fun q hq=>by
 obtain ⟨h1,h2,h3⟩:=h q hq
 refine ⟨hx.ref h1,hx.ref h2,fun a=>?_⟩
 rw [hx.eval w a h2,h3]
 have:(fun c=>eval ns' c q.1)=fun c=>eval ns c q.1:=funext fun c=>hx.eval w c h1
 rw [this]
def qB (d:Nat):Nat:=d * 2 ^ d
structure QOk (n cap op:Nat) (inn:Nat→Bool) (ns:Ns) (f:Nat) (r:Option Nat) (ns':Ns) (M':Mem1):Prop where
 ext:Ext n ns ns'
 lim:ns'.length≤cap
 mem:MemQ op inn ns' M'
 ok:∀x,r=some x→Ref ns' x∧∀a,eval ns' a x=true↔qS op inn (fun c=>eval ns c f) a
 cnt:ns'.length≤ns.length+qB (n - tv n ns f)
 full:r=none→cap < ns.length+qB (n - tv n ns f)
 fr:∀z,ns.length+2≤z→z < ns'.length+2→∃H G:(Nat→Bool)→Bool,IsC (fun c=>eval ns c f) H∧(∀a,G a=true↔qS op inn H a)∧IsC G fun b=>eval ns' b z
 hit:r=none→cap≤ns'.length
theorem mem1_small {ns:Ns} {M:Mem1} {N:Nat} (hN:ns.length+2≤N) (hr:∀q ∈ M,Ref ns q.1) (hn:(M.map (·.1)).Nodup):M.length≤N:=by
 have:=nodup_len _ (List.range N) hn (fun x hx=>by
  obtain ⟨q,hq,rfl⟩:=List.mem_map.1 hx
  have:=hr q hq
  unfold Ref at this
  exact List.mem_range.2 (by omega))
 simpa using this
section
variable {n cap op:Nat} {inn:Nat→Bool} {ns ns1 ns2:Ns} {M M1 M2:Mem1} {f:Nat}
theorem qB_half {d:Nat} (h:0 < d):qB (d - 1)+qB (d - 1)+2 ^ (d - 1)≤qB d:=by
 unfold qB
 obtain ⟨e,rfl⟩:∃e,d=e+1:=⟨d - 1,by omega⟩
 rw [Nat.add_sub_cancel,Nat.pow_succ,Nat.add_mul,Nat.one_mul]
 have:e * 2 ^ e+e * 2 ^ e=e * (2 ^ e * 2):=by rw [←Nat.mul_assoc,Nat.mul_two]
 omega
theorem qB_mono {a b:Nat} (h:a≤b):qB a≤qB b:=Nat.mul_le_mul h (Nat.pow_le_pow_right (by omega) h)
theorem q_const (w:Wf n ns) (hlim:ns.length≤cap) (hf:Ref ns f) (h2:f < 2) (hM:MemQ op inn ns M):QOk n cap op inn ns f (some f) ns M:=by
 refine ⟨Ext.refl w,hlim,hM,fun x hx=>?_,by omega,fun h=>(by cases h),fun z h1 h2=>by omega,fun h=>by cases h⟩
 simp only [Option.some.injEq] at hx
 subst hx
 refine ⟨hf,fun a=>?_⟩
 have:f=0∨f=1:=by omega
 rcases this with rfl | rfl
 ·rw [qS_const (b:=false) (fun a=>eval_zero ns a),eval_zero]
 ·rw [qS_const (b:=true) (fun a=>eval_one ns a),eval_one]
theorem q_known {r:Nat} (w:Wf n ns) (hlim:ns.length≤cap) (hM:MemQ op inn ns M) (hk:(f,r) ∈ M):QOk n cap op inn ns f (some r) ns M:=by
 obtain ⟨_,h1,h2⟩:=hM _ hk
 exact ⟨Ext.refl w,hlim,hM,fun x hx=>by simp only [Option.some.injEq] at hx; subst hx; exact ⟨h1,h2⟩,by omega,fun h=>(by cases h),fun z h1 h2=>by omega,fun h=>by cases h⟩
theorem qS_fun {F G:(Nat→Bool)→Bool} (h:∀c,F c=G c) (a:Nat→Bool):qS op inn F a↔qS op inn G a:=by
 have:F=G:=funext h
 rw [this]
structure QMid (n cap op:Nat) (inn:Nat→Bool) (ns:Ns) (f:Nat) (ns2:Ns) (M2:Mem1) (l h:Nat):Prop where
 ext:Ext n ns ns2
 lim:ns2.length≤cap
 mem:MemQ op inn ns2 M2
 cnt:ns2.length≤ns.length+(qB (n - tv n ns f - 1)+qB (n - tv n ns f - 1))
 rl:Ref ns2 l
 rh:Ref ns2 h
 el:∀a,eval ns2 a l=true↔qS op inn (fun c=>eval ns c (at_ n ns f).low) a
 eh:∀a,eval ns2 a h=true↔qS op inn (fun c=>eval ns c (at_ n ns f).high) a
 tl:tv n ns f < tv n ns2 l
 th:tv n ns f < tv n ns2 h
 fr:∀z,ns.length+2≤z→z < ns2.length+2→∃H G:(Nat→Bool)→Bool,IsC (fun c=>eval ns c f) H∧(∀a,G a=true↔qS op inn H a)∧IsC G fun b=>eval ns2 b z
theorem q_fr2 {rl rh:Option Nat} (w:Wf n ns) (hf:Ref ns f) (h2:2≤f) (hl:QOk n cap op inn ns (at_ n ns f).low rl ns1 M1) (hh:QOk n cap op inn ns1 (at_ n ns f).high rh ns2 M2) :
  ∀z,ns.length+2≤z→z < ns2.length+2→∃H G:(Nat→Bool)→Bool,IsC (fun c=>eval ns c f) H∧(∀a,G a=true↔qS op inn H a)∧IsC G fun b=>eval ns2 b z:=fun z h1 h3=>by
 by_cases hz:z < ns1.length+2
 ·obtain ⟨H,G,a1,a2,a3⟩:=hl.fr z h1 hz
  exact ⟨H,G,(isc_low w hf h2).trans a1,a2,a3.congr (fun _=>rfl) fun b=>(hh.ext.eval hl.ext.wf b hz).symm⟩
 ·obtain ⟨H,G,a1,a2,a3⟩:=hh.fr z (by omega) h3
  exact ⟨H,G,(isc_high w hf h2).trans (a1.congr (fun c=>hl.ext.eval w c (w.ref_high hf)) fun _=>rfl),a2,a3⟩
theorem q_low (w:Wf n ns) (hf:Ref ns f) (h2:2≤f) (hl:QOk n cap op inn ns (at_ n ns f).low none ns1 M1):QOk n cap op inn ns f none ns1 M1:=by
 have t1:=w.tv_low h2 hf
 have:=qB_mono (show n - tv n ns (at_ n ns f).low≤n - tv n ns f by omega)
 have c1:=hl.cnt
 have c2:=hl.full rfl
 exact ⟨hl.ext,hl.lim,hl.mem,fun x hx=>(by cases hx),by omega,fun _=>by omega,fun z h1 h3=>by
  obtain ⟨H,G,a1,a2,a3⟩:=hl.fr z h1 h3
  exact ⟨H,G,(isc_low w hf h2).trans a1,a2,a3⟩,hl.hit⟩
theorem q_high {l:Nat} (w:Wf n ns) (hf:Ref ns f) (h2:2≤f) (hl:QOk n cap op inn ns (at_ n ns f).low (some l) ns1 M1) (hh:QOk n cap op inn ns1 (at_ n ns f).high none ns2 M2):QOk n cap op inn ns f none ns2 M2:=by
 have t1:=w.tv_low h2 hf
 have t2:=w.tv_high h2 hf
 have tvn:=w.tv_var h2 hf
 have e:=hl.ext.tv (w.ref_high hf)
 have b0:=qB_half (show 0 < n - tv n ns f by omega)
 have hp0:=Nat.two_pow_pos (n - tv n ns f - 1)
 have b1:=qB_mono (show n - tv n ns (at_ n ns f).low≤n - tv n ns f - 1 by omega)
 have b2:=qB_mono (show n - tv n ns1 (at_ n ns f).high≤n - tv n ns f - 1 by omega)
 have c1:=hl.cnt
 have c2:=hh.cnt
 have c3:=hh.full rfl
 exact ⟨hl.ext.trans hh.ext,hh.lim,hh.mem,fun x hx=>(by cases hx),by omega,fun _=>by omega,q_fr2 w hf h2 hl hh,hh.hit⟩
theorem q_mid {l h:Nat} (w:Wf n ns) (hf:Ref ns f) (h2:2≤f) (hl:QOk n cap op inn ns (at_ n ns f).low (some l) ns1 M1) (hh:QOk n cap op inn ns1 (at_ n ns f).high (some h) ns2 M2):QMid n cap op inn ns f ns2 M2 l h:=by
 have t1:=w.tv_low h2 hf
 have t2:=w.tv_high h2 hf
 have tvn:=w.tv_var h2 hf
 have e:=hl.ext.tv (w.ref_high hf)
 have b1:=qB_mono (show n - tv n ns (at_ n ns f).low≤n - tv n ns f - 1 by omega)
 have b2:=qB_mono (show n - tv n ns1 (at_ n ns f).high≤n - tv n ns f - 1 by omega)
 have c1:=hl.cnt
 have c2:=hh.cnt
 obtain ⟨rl,el⟩:=hl.ok l rfl
 obtain ⟨rh,eh⟩:=hh.ok h rfl
 have el2:∀a,eval ns2 a l=true↔qS op inn (fun c=>eval ns c (at_ n ns f).low) a:=fun a=>by rw [hh.ext.eval hl.ext.wf a rl,el]
 have eh2:∀a,eval ns2 a h=true↔qS op inn (fun c=>eval ns c (at_ n ns f).high) a:=fun a=>by
  rw [eh]
  exact qS_fun (fun c=>hl.ext.eval w c (w.ref_high hf)) a
 have w2:=hh.ext.wf
 have rl2:=hh.ext.ref rl
 have bb:∀(x y:Bool),(x=true↔y=true)→x=y:=fun x y h=>by cases x <;> cases y <;> simp_all
 refine ⟨hl.ext.trans hh.ext,hh.lim,hh.mem,by omega,rl2,rh,el2,eh2,?_,?_,q_fr2 w hf h2 hl hh⟩
 ·refine tv_ge w2 rl2 (by omega) fun a b hab=>bb _ _ ?_
  rw [el2,el2]
  have hF:∀a b:Nat→Bool,(∀i,tv n ns f+1≤i→a i=b i)→eval ns a (at_ n ns f).low=eval ns b (at_ n ns f).low:=fun a b h=>eval_congr w (w.ref_low hf) fun i hi=>h i (by omega)
  exact ⟨qS_congr hF hab,qS_congr hF fun i hi=>(hab i hi).symm⟩
 ·refine tv_ge w2 rh (by omega) fun a b hab=>bb _ _ ?_
  rw [eh2,eh2]
  have hF:∀a b:Nat→Bool,(∀i,tv n ns f+1≤i→a i=b i)→eval ns a (at_ n ns f).high=eval ns b (at_ n ns f).high:=fun a b h=>eval_congr w (w.ref_high hf) fun i hi=>h i (by omega)
  exact ⟨qS_congr hF hab,qS_congr hF fun i hi=>(hab i hi).symm⟩
theorem q_done {l h:Nat} {r:Option Nat} {ns3:Ns} {M3:Mem1} (w:Wf n ns) (hf:Ref ns f) (h2:2≤f) (hm:QMid n cap op inn ns f ns2 M2 l h) (hx:Ext n ns2 ns3) (hlim:ns3.length≤cap)
  (hc:ns3.length≤ns2.length+2 ^ (n - tv n ns f - 1)) (hno:r=none→cap < ns2.length+2 ^ (n - tv n ns f - 1))
  (hok:∀x,r=some x→Ref ns3 x∧∀a,eval ns3 a x=true↔qS op inn (fun c=>eval ns c f) a) (hM3:∀q ∈ M3,q ∈ M2∨∃x,r=some x∧q=(f,x))
  (hnew:∀z,ns2.length+2≤z→z < ns3.length+2→∃G:(Nat→Bool)→Bool,(∀a,G a=true↔qS op inn (fun c=>eval ns c f) a)∧IsC G fun b=>eval ns3 b z) (hhit:r=none→cap≤ns3.length) :
  QOk n cap op inn ns f r ns3 M3:=by
 have tvn:=w.tv_var h2 hf
 have b0:=qB_half (show 0 < n - tv n ns f by omega)
 have hp0:=Nat.two_pow_pos (n - tv n ns f - 1)
 have c1:=hm.cnt
 have hext:=hm.ext.trans hx
 refine ⟨hext,hlim,?_,hok,by omega,fun hr=>(by have:=hno hr; omega),fun z h1 h3=>?_,hhit⟩
 rotate_left
 ·by_cases hz:z < ns2.length+2
  ·obtain ⟨H,G,a1,a2,a3⟩:=hm.fr z h1 hz
   exact ⟨H,G,a1,a2,a3.congr (fun _=>rfl) fun b=>(hx.eval hm.ext.wf b hz).symm⟩
  ·obtain ⟨G,a2,a3⟩:=hnew z (by omega) h3
   exact ⟨_,G,IsC.refl _,a2,a3⟩
 have hM:=hm.mem.ext hm.ext.wf hx
 intro q hq
 rcases hM3 q hq with h1 | ⟨x,rfl,rfl⟩
 ·exact hM q h1
 ·obtain ⟨h3,h4⟩:=hok x rfl
  refine ⟨hext.ref hf,h3,fun a=>?_⟩
  rw [h4]
  exact (qS_fun (fun c=>hext.eval w c hf) a).symm
theorem q_sem_in {l h:Nat} (w:Wf n ns) (hf:Ref ns f) (h2:2≤f) (hop:op≤1) (hm:QMid n cap op inn ns f ns2 M2 l h) (hv:inn (tv n ns f)=true) (a:Nat→Bool) :
  (opB op (eval ns2 a l) (eval ns2 a h)=true)↔qS op inn (fun c=>eval ns c f) a :=
 (qS_in hop (fun a=>eval_node w a h2 hf) (fun a x=>eval_upd w (w.ref_low hf) (w.tv_low h2 hf)) (fun a x=>eval_upd w (w.ref_high hf) (w.tv_high h2 hf)) hv (hm.el a) (hm.eh a)).symm
theorem q_sem_out {l h:Nat} (w:Wf n ns) (hf:Ref ns f) (h2:2≤f) (hm:QMid n cap op inn ns f ns2 M2 l h) (hv:inn (tv n ns f)=false) (a:Nat→Bool) :
  ((if a (tv n ns f) then eval ns2 a h else eval ns2 a l)=true)↔qS op inn (fun c=>eval ns c f) a:=by
 rw [qS_out (fun a=>eval_node w a h2 hf) hv a]
 show _↔if a (tv n ns f)=true then _ else _
 split
 ·exact hm.eh a
 ·exact hm.el a
end
end Go.Bd
end
section
namespace Go.Bd
def num:Nat→Nat→((Nat→Bool)→Bool)→Nat
 | 0,_,F=>if F (fun _=>false) then 1 else 0
 | d+1,k,F=>num d (k+1) (fun a=>F (upd a k false))+num d (k+1) (fun a=>F (upd a k true))
theorem num_congr:∀(d k:Nat) {F G:(Nat→Bool)→Bool},(∀a,F a=G a)→num d k F=num d k G
 | 0,k,F,G,h=>by rw [num,num,h]
 | d+1,k,F,G,h=>by rw [num,num,num_congr d (k+1) (fun a=>h _),num_congr d (k+1) (fun a=>h _)]
theorem num_skip {d k:Nat} {F:(Nat→Bool)→Bool} (h:∀a x,F (upd a k x)=F a):num (d+1) k F=2 * num d (k+1) F:=by
 rw [num,num_congr d (k+1) (fun a=>h a false),num_congr d (k+1) (fun a=>h a true)]; omega
theorem num_skips {F:(Nat→Bool)→Bool} {d:Nat}:∀(j k:Nat),(∀i a x,k≤i→i < k+j→F (upd a i x)=F a)→num (d+j) k F=2 ^ j * num d (k+j) F
 | 0,k,_=>by simp
 | j+1,k,h=>by
  have:=num_skips (F:=F) (d:=d) j (k+1) (fun i a x h1 h2=>h i a x (by omega) (by omega))
  rw [show d+(j+1)=(d+j)+1 by omega,num_skip (fun a x=>h k a x (by omega) (by omega)),this,Nat.pow_succ,show k+1+j=k+(j+1) by omega]
  rw [Nat.mul_comm (2 ^ j) 2,Nat.mul_assoc]
def cnt (n:Nat) (ns:Ns) (f:Nat):Nat :=
 if h:f < 2 then f else
  let d:=at_ n ns f
  if hl:d.low < f∧d.high < f then cnt n ns d.low * 2 ^ (tv n ns d.low - d.v - 1)+cnt n ns d.high * 2 ^ (tv n ns d.high - d.v - 1) else 0
 termination_by f
 decreasing_by
 ·exact hl.1
 ·exact hl.2
section
variable {n:Nat} {ns:Ns}
theorem cnt_lt {f:Nat} (h:f < 2):cnt n ns f=f:=by unfold cnt; rw [dif_pos h]
theorem cnt_node (w:Wf n ns) {f:Nat} (h:2≤f) (hf:Ref ns f):cnt n ns f=cnt n ns (at_ n ns f).low * 2 ^ (tv n ns (at_ n ns f).low - tv n ns f - 1)+cnt n ns (at_ n ns f).high * 2 ^ (tv n ns (at_ n ns f).high - tv n ns f - 1):=by
 conv=>lhs; unfold cnt
 rw [dif_neg (by omega)]
 simp only
 rw [dif_pos ⟨w.lt_low h hf,w.lt_high h hf⟩]
 rfl
theorem cnt_num (w:Wf n ns):∀{f:Nat},Ref ns f→cnt n ns f=num (n - tv n ns f) (tv n ns f) (fun a=>eval ns a f):=by
 intro f
 induction f using Nat.strongRecOn with
 | ind f ih =>
  intro hf
  rcases Nat.lt_or_ge f 2 with h | h
  ·rw [cnt_lt h,tv_lt h,Nat.sub_self,num]
   have:f=0∨f=1:=by omega
   rcases this with rfl | rfl
   ·simp [eval_zero]
   ·simp [eval_one]
  ·have tvn:=w.tv_var h hf
   have tl:=w.tv_low h hf
   have th:=w.tv_high h hf
   have rl:=w.ref_low hf
   have rh:=w.ref_high hf
   have bl:=w.tv_le rl
   have bh:=w.tv_le rh
   have key:∀x,Ref ns x→tv n ns f < tv n ns x→num (n - tv n ns f - 1) (tv n ns f+1) (fun a=>eval ns a x)=num (n - tv n ns x) (tv n ns x) (fun a=>eval ns a x) * 2 ^ (tv n ns x - tv n ns f - 1):=by
    intro x hx hlt
    have bx:=w.tv_le hx
    have:=num_skips (F:=fun a=>eval ns a x) (d:=n - tv n ns x) (tv n ns x - tv n ns f - 1) (tv n ns f+1) (fun i a y h1 h2=>eval_upd w hx (by omega))
    rw [show n - tv n ns f - 1=(n - tv n ns x)+(tv n ns x - tv n ns f - 1) by omega,this,show tv n ns f+1+(tv n ns x - tv n ns f - 1)=tv n ns x by omega,Nat.mul_comm]
   rw [cnt_node w h hf,ih _ (w.lt_low h hf) rl,ih _ (w.lt_high h hf) rh,←key _ rl tl,←key _ rh th]
   obtain ⟨d,hd⟩:∃d,n - tv n ns f=d+1:=⟨n - tv n ns f - 1,by omega⟩
   rw [hd,num,Nat.add_sub_cancel,num_congr d _ (fun a=>eval_low w h hf),num_congr d _ (fun a=>eval_high w h hf)]
theorem cnt_all (w:Wf n ns) {f:Nat} (hf:Ref ns f):cnt n ns f * 2 ^ tv n ns f=num n 0 (fun a=>eval ns a f):=by
 have bx:=w.tv_le hf
 have:=num_skips (F:=fun a=>eval ns a f) (d:=n - tv n ns f) (tv n ns f) 0 (fun i a y h1 h2=>eval_upd w hf (by omega))
 have e:(n - tv n ns f)+tv n ns f=n:=by omega
 rw [e] at this
 rw [this,Nat.zero_add,←cnt_num w hf,Nat.mul_comm]
end
def many:Nat:=1099511627777
theorem many_mul (x k:Nat):min (min x many * 2 ^ k) many=min (x * 2 ^ k) many:=by
 rcases Nat.le_total x many with h | h
 ·rw [Nat.min_eq_left h]
 ·have hp:=Nat.two_pow_pos k
  rw [Nat.min_eq_right h]
  have h1:many≤many * 2 ^ k:=Nat.le_mul_of_pos_right _ hp
  have h2:many * 2 ^ k≤x * 2 ^ k:=Nat.mul_le_mul_right _ h
  omega
theorem many_add (x y:Nat):min (min x many+min y many) many=min (x+y) many:=by omega
end Go.Bd
end
section
namespace Go.Sy
def valK (g:Nat→Bool):Nat→Nat
 | 0=>0
 | k+1=>2 * valK g k+(if g k=true then 1 else 0)
theorem valK_lt (g:Nat→Bool):∀w,valK g w < 2 ^ w
 | 0=>by simp [valK]
 | w+1=>by
  have:=valK_lt g w
  unfold valK
  rw [Nat.pow_succ]
  split <;> omega
theorem valK_congr {g h:Nat→Bool}:∀w,(∀k,k < w→g k=h k)→valK g w=valK h w
 | 0,_=>rfl
 | w+1,e=>by
  unfold valK
  rw [valK_congr w fun k hk=>e k (by omega),e w (by omega)]
theorem valK_eq {g:Nat→Bool}:∀(w x:Nat),x < 2 ^ w→((∀k,k < w→g k=x.testBit (w - 1 - k))↔valK g w=x)
 | 0,x,h=>by
  have:x=0:=by simpa using h
  subst this
  simp [valK]
 | w+1,x,h=>by
  rw [Nat.pow_succ] at h
  have ih:=valK_eq (g:=g) w (x / 2) (by omega)
  have e:∀k,k < w→x.testBit (w+1 - 1 - k)=(x / 2).testBit (w - 1 - k):=fun k hk=>by
   rw [show w+1 - 1 - k=(w - 1 - k)+1 by omega,Nat.testBit_succ]
  have e0:x.testBit (w+1 - 1 - w)=decide (x % 2=1):=by
   rw [show w+1 - 1 - w=0 by omega,Nat.testBit_zero]
  constructor
  ·intro h1
   have h2:=ih.1 fun k hk=>by rw [h1 k (by omega),e k hk]
   have h3:=h1 w (by omega)
   rw [e0] at h3
   unfold valK
   rw [h2,h3]
   by_cases hx:x % 2=1
   ·simp [hx]; omega
   ·simp [hx]; omega
  ·intro h1 k hk
   unfold valK at h1
   have hb:(if g w=true then 1 else 0:Nat)≤1:=by split <;> omega
   have h2:valK g w=x / 2:=by omega
   by_cases hkw:k < w
   ·rw [e k hkw]
    exact ih.2 h2 k hkw
   ·have:k=w:=by omega
    subst this
    rw [e0]
    cases hg:g k with
    | true =>
     rw [hg] at h1
     simp at h1
     symm
     rw [decide_eq_true_iff]
     omega
    | false =>
     rw [hg] at h1
     simp at h1
     symm
     rw [decide_eq_false_iff_not]
     omega
theorem valK_bits {w x:Nat} (h:x < 2 ^ w):valK (fun k=>x.testBit (w - 1 - k)) w=x:=(valK_eq w x h).1 fun k _=>rfl
def wd (n:Nat):Nat:=if n≤1 then 0 else if n≤2 then 1 else if n≤4 then 2 else if n≤8 then 3 else if n≤16 then 4 else if n≤32 then 5 else 6
theorem wd_le (n:Nat):wd n≤6:=by unfold wd; (repeat' split) <;> omega
theorem wd_ge {n:Nat} (h:n≤64):n≤2 ^ wd n:=by
 unfold wd
 (repeat' split) <;> simp <;> omega
theorem wd_lt {n w:Nat} (h:w < wd n):2 ^ w < n:=by
 unfold wd at h
 have key:w=0∨w=1∨w=2∨w=3∨w=4∨w=5:=by
  (repeat' split at h) <;> omega
 rcases key with rfl | rfl | rfl | rfl | rfl | rfl <;> simp <;> (repeat' split at h) <;> omega
theorem wd_loop {n w:Nat} (h:n≤64) (hw:w≤wd n):2 ^ w < n↔w < wd n:=by
 refine ⟨fun h1=>?_,wd_lt⟩
 apply Nat.lt_of_le_of_ne hw
 intro e
 subst e
 have:=wd_ge h
 omega
def bP (vars:List Nat) (v:Nat):Nat:=((vars.take v).map wd).sum
def nBits (vars:List Nat):Nat:=(vars.map wd).sum
theorem bP_succ {vars:List Nat} {v n:Nat} (h:vars[v]? = some n):bP vars (v+1)=bP vars v+wd n:=by
 unfold bP
 rw [List.take_add_one,h,List.map_append,List.sum_append]
 simp
theorem bP_all (vars:List Nat):bP vars vars.length=nBits vars:=by unfold bP nBits; rw [List.take_length]
theorem bP_mono {vars:List Nat} {u v:Nat} (h:u≤v):bP vars u≤bP vars v:=by
 have e:vars.take u=(vars.take v).take u:=by rw [List.take_take,Nat.min_eq_left h]
 unfold bP
 rw [e]
 have:∀(l:List Nat) (k:Nat),((l.take k).map wd).sum≤(l.map wd).sum:=fun l k=>by
  conv=>rhs; rw [←List.take_append_drop k l,List.map_append,List.sum_append]
  omega
 exact this _ _
theorem bP_in {vars:List Nat} {v n k:Nat} (h:vars[v]? = some n) (hk:k < wd n):bP vars v+k < nBits vars:=by
 have h1:=bP_succ h
 have h2:=(List.getElem?_eq_some_iff.1 h).1
 have h3:=bP_mono (vars:=vars) (show v+1≤vars.length by omega)
 rw [bP_all] at h3
 omega
theorem nBits_le (vars:List Nat):nBits vars≤6 * vars.length:=by
 unfold nBits
 induction vars with
 | nil=>simp
 | cons n l ih =>
  have:=wd_le n
  simp only [List.map_cons,List.sum_cons,List.length_cons]
  omega
def vOf:List Nat→Nat→Nat
 | [],_=>0
 | n :: l,p=>if p < wd n then 0 else vOf l (p - wd n)+1
theorem vOf_at:∀{vars:List Nat} {v n k:Nat},vars[v]? = some n→k < wd n→vOf vars (bP vars v+k)=v
 | [],v,n,k,h,_=>by simp at h
 | m :: l,0,n,k,h,hk=>by
  simp at h
  subst h
  unfold vOf bP
  simp [hk]
 | m :: l,v+1,n,k,h,hk=>by
  have h:l[v]? = some n:=by simpa using h
  have e:bP (m :: l) (v+1)=wd m+bP l v:=by unfold bP; simp
  unfold vOf
  rw [e,if_neg (by omega),show wd m+bP l v+k - wd m=bP l v+k by omega,vOf_at h hk]
def rv (vars:List Nat) (a:Nat→Bool) (nx v:Nat):Nat:=valK (fun k=>a (2 * (bP vars v+k)+nx)) (wd (vars.getD v 0))
theorem rv_lt (vars:List Nat) (a:Nat→Bool) (nx v:Nat):rv vars a nx v < 2 ^ wd (vars.getD v 0):=valK_lt _ _
def rs (vars:List Nat) (a:Nat→Bool) (nx:Nat):List Nat:=(List.range vars.length).map (rv vars a nx)
theorem rs_len (vars:List Nat) (a:Nat→Bool) (nx:Nat):(rs vars a nx).length=vars.length:=by simp [rs]
theorem rs_at {vars:List Nat} {a:Nat→Bool} {nx v:Nat} (h:v < vars.length):(rs vars a nx).getD v 0=rv vars a nx v:=by simp [rs,List.getD,h]
def mk2 (vars:List Nat) (x y:List Nat) (i:Nat):Bool :=
 let v:=vOf vars (i / 2)
 ((if i % 2=0 then x else y).getD v 0).testBit (wd (vars.getD v 0) - 1 - (i / 2 - bP vars v))
theorem mk2_at {vars x y:List Nat} {v n k nx:Nat} (h:vars[v]? = some n) (hk:k < wd n) (hn:nx < 2):mk2 vars x y (2 * (bP vars v+k)+nx)=((if nx=0 then x else y).getD v 0).testBit (wd n - 1 - k):=by
 have e1:(2 * (bP vars v+k)+nx) / 2=bP vars v+k:=by omega
 have e2:(2 * (bP vars v+k)+nx) % 2=nx:=by omega
 have e3:vars.getD v 0=n:=by simp [List.getD,h]
 unfold mk2
 simp only [e1,e2,vOf_at h hk,e3]
 rw [show bP vars v+k - bP vars v=k by omega]
theorem rv_mk2 {vars x y:List Nat} {v nx:Nat} (hv:v < vars.length) (hn:nx < 2) (hx:(if nx=0 then x else y).getD v 0 < 2 ^ wd (vars.getD v 0)):rv vars (mk2 vars x y) nx v=(if nx=0 then x else y).getD v 0:=by
 obtain ⟨n,h⟩:∃n,vars[v]? = some n:=⟨_,List.getElem?_eq_getElem hv⟩
 have e3:vars.getD v 0=n:=by simp [List.getD,h]
 rw [e3] at hx
 unfold rv
 rw [e3]
 rw [valK_congr _ fun k hk=>mk2_at h hk hn]
 exact valK_bits hx
end Go.Sy
end
