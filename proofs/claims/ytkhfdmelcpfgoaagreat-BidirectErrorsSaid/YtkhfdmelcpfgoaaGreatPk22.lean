/-
  A part of the proof of this claim's statement (BiPlain, LibO, BiA, BiB, BiC): plain theorems; no conditions beyond those each names.
-/
import Derived.Test.YtkhfdmelcpfgoaaGreatPk08
import Derived.Test.YtkhfdmelcpfgoaaGreatPk10
import Derived.Test.YtkhfdmelcpfgoaaGreatPk21
section
namespace Go.Bi
structure Wp (σ:Type) where
 cost:Nat
 parts:List (σ→Bool)
 all:σ→Bool
variable {σ:Type}
def Org (E:Nat→σ→σ→Prop) (k:Nat→Nat) (S0:σ→Prop) (wl:List (Wp σ)) (c:Nat) (z:σ):Prop :=
 (c=0∧S0 z)∨∃ op,0 < k op∧∃ w,w ∈ wl∧w.cost+k op=c∧∃ x,w.all x=true∧E op x z
def Trc (E:Nat→σ→σ→Prop) (k:Nat→Nat) (S0:σ→Prop) (wl:List (Wp σ)) (c:Nat) (z:σ):Prop :=
 Org E k S0 wl c z∨∃ w,w ∈ wl∧w.cost=c∧w.all z=true
structure WvOk (V:σ→Prop) (E:Nat→σ→σ→Prop) (k:Nat→Nat) (S0:σ→Prop) (wl:List (Wp σ)) (w:Wp σ):Prop where
 un:∀ z,V z→(w.all z=true↔∃ p,p ∈ w.parts∧p z=true)
 p0:∀ p,w.parts[0]?=some p→∀ z,V z→p z=true→Org E k S0 wl w.cost z
 ps:∀ i p p',w.parts[i]?=some p→w.parts[i+1]?=some p'→∀ z,V z→p' z=true→∃ op,k op=0∧∃ x,p x=true∧E op x z
structure SdOk (V:σ→Prop) (E:Nat→σ→σ→Prop) (k:Nat→Nat) (S0:σ→Prop) (wl:List (Wp σ)) (cl:σ→Bool) (opn:List (Nat × (σ→Bool))):Prop where
 cl:∀ z,V z→(cl z=true↔∃ w,w ∈ wl∧w.all z=true)
 wv:∀ w,w ∈ wl→WvOk V E k S0 wl w
 org:∀ p,p ∈ opn→∀ z,V z→p.2 z=true→Org E k S0 wl p.1 z
 out:∀ w,w ∈ wl→∀ x op z,w.all x=true→V z→E op x z→(∃ w',w' ∈ wl∧w'.all z=true∧w'.cost≤w.cost+k op)∨∃ p,p ∈ opn∧p.2 z=true∧p.1≤w.cost+k op
 st:∀ z,V z→S0 z→(∃ w',w' ∈ wl∧w'.all z=true∧w'.cost=0)∨∃ p,p ∈ opn∧p.2 z=true∧p.1=0
 lt:∀ w,w ∈ wl→∀ p,p ∈ opn→w.cost < p.1
 asc:wl.Pairwise fun a b=>a.cost < b.cost
 nd:(opn.map (·.1)).Nodup
 dis:wl.Pairwise fun a b=>∀ z,V z→a.all z=true→b.all z=true→False
theorem Org.mono {E:Nat→σ→σ→Prop} {k:Nat→Nat} {S0:σ→Prop} {wl wl':List (Wp σ)} {c:Nat} {z:σ} (h:Org E k S0 wl c z) (hs:∀ w,w ∈ wl→w ∈ wl'):Org E k S0 wl' c z:=by
 rcases h with h | ⟨op,hk,w,hw,r⟩
 ·exact .inl h
 ·exact .inr ⟨op,hk,w,hs w hw,r⟩
theorem Trc.mono {E:Nat→σ→σ→Prop} {k:Nat→Nat} {S0:σ→Prop} {wl wl':List (Wp σ)} {c:Nat} {z:σ} (h:Trc E k S0 wl c z) (hs:∀ w,w ∈ wl→w ∈ wl'):Trc E k S0 wl' c z:=by
 rcases h with h | ⟨w,hw,r⟩
 ·exact .inl (h.mono hs)
 ·exact .inr ⟨w,hs w hw,r⟩
section
variable {V:σ→Prop} {E:Nat→σ→σ→Prop} {k:Nat→Nat} {S0:σ→Prop} {wl:List (Wp σ)} {cl:σ→Bool} {opn:List (Nat × (σ→Bool))}
theorem SdOk.begin {S:σ→Bool} (h:∀ z,V z→(S z=true↔S0 z)):SdOk V E k S0 [] (fun _=>false) [(0,S)]:={
 cl:=fun z _=>by simp
 wv:=fun w h=>by cases h
 org:=fun p hp z hz h2=>by
  rcases List.mem_singleton.1 hp with rfl
  exact .inl ⟨rfl,(h z hz).1 h2⟩
 out:=fun w h=>by cases h
 st:=fun z hz h2=>.inr ⟨_,List.mem_singleton.2 rfl,(h z hz).2 h2,rfl⟩
 lt:=fun w h=>by cases h
 asc:=.nil
 nd:=by simp
 dis:=.nil }
theorem SdOk.less {opn':List (Nat × (σ→Bool))} (h:SdOk V E k S0 wl cl opn) (h1:∀ p,p ∈ opn'→∃ S,(p.1,S) ∈ opn∧∀ z,V z→p.2 z=true→S z=true) (h2:∀ p,p ∈ opn→∀ z,V z→p.2 z=true→cl z=true∨∃ S,(p.1,S) ∈ opn'∧S z=true) (hn:(opn'.map (·.1)).Nodup):SdOk V E k S0 wl cl opn':={
 cl:=h.cl
 wv:=h.wv
 org:=fun p hp z hz e=>by
  obtain ⟨S,hS,hi⟩:=h1 p hp
  exact h.org _ hS z hz (hi z hz e)
 out:=fun w hw x op z hx hz he=>by
  rcases h.out w hw x op z hx hz he with h3 | ⟨p,hp,hp2,hp3⟩
  ·exact .inl h3
  ·rcases h2 p hp z hz hp2 with h4 | ⟨S,hS,hz2⟩
   ·obtain ⟨w',hw',hz'⟩:=(h.cl z hz).1 h4
    exact .inl ⟨w',hw',hz',by have:=h.lt w' hw' p hp; omega⟩
   ·exact .inr ⟨_,hS,hz2,hp3⟩
 st:=fun z hz hs=>by
  rcases h.st z hz hs with h3 | ⟨p,hp,hp2,hp3⟩
  ·exact .inl h3
  ·rcases h2 p hp z hz hp2 with h4 | ⟨S,hS,hz2⟩
   ·obtain ⟨w',hw',hz'⟩:=(h.cl z hz).1 h4
    have:=h.lt w' hw' p hp
    omega
   ·exact .inr ⟨_,hS,hz2,hp3⟩
 lt:=fun w hw p hp=>by
  obtain ⟨S,hS,_⟩:=h1 p hp
  exact h.lt w hw (p.1,S) hS
 asc:=h.asc
 nd:=hn
 dis:=h.dis }
theorem SdOk.wave {c:Nat} {A:σ→Bool} {w:Wp σ} {cl':σ→Bool} {opn':List (Nat × (σ→Bool))} (h:SdOk V E k S0 wl cl opn) (hA:(c,A) ∈ opn) (hc:w.cost=c) (hdis:∀ z,V z→w.all z=true→cl z=true→False)
  (hmin:∀ p,p ∈ opn→p.1≠c→c < p.1)
  (hp0:w.parts[0]?=some A) (hun:∀ z,V z→(w.all z=true↔∃ p,p ∈ w.parts∧p z=true))
  (hps:∀ i p p',w.parts[i]?=some p→w.parts[i+1]?=some p'→∀ z,V z→p' z=true→∃ op,k op=0∧∃ x,p x=true∧E op x z)
  (hz0:∀ x op z,w.all x=true→V z→k op=0→E op x z→w.all z=true∨cl z=true)
  (hcl:∀ z,V z→(cl' z=true↔cl z=true∨w.all z=true))
  (hold:∀ p,p ∈ opn→p.1≠c→∃ S,(p.1,S) ∈ opn'∧∀ z,V z→p.2 z=true→S z=true)
  (hnew:∀ p,p ∈ opn'→c < p.1∧∀ z,V z→p.2 z=true→(∃ S,(p.1,S) ∈ opn∧S z=true)∨∃ op,0 < k op∧c+k op=p.1∧∃ x,w.all x=true∧E op x z)
  (hout:∀ x op z,w.all x=true→V z→0 < k op→E op x z→cl' z=true∨∃ p,p ∈ opn'∧p.2 z=true∧p.1=c+k op)
  (hn:(opn'.map (·.1)).Nodup):SdOk V E k S0 (wl ++ [w]) cl' opn':=by
 have hm:∀ v,v ∈ wl→v ∈ wl ++ [w]:=fun v hv=>List.mem_append.2 (.inl hv)
 have hmw:w ∈ wl ++ [w]:=List.mem_append.2 (.inr (List.mem_singleton.2 rfl))
 have hcl2:∀ z,V z→(cl' z=true↔∃ v,v ∈ wl ++ [w]∧v.all z=true):=fun z hz=>by
  rw [hcl z hz,h.cl z hz]
  constructor
  ·rintro (⟨v,hv,e⟩ | e)
   ·exact ⟨v,hm v hv,e⟩
   ·exact ⟨w,hmw,e⟩
  ·rintro ⟨v,hv,e⟩
   rcases List.mem_append.1 hv with hv | hv
   ·exact .inl ⟨v,hv,e⟩
   ·rcases List.mem_singleton.1 hv with rfl
    exact .inr e
 have hle:∀ v,v ∈ wl ++ [w]→v.cost≤c:=fun v hv=>by
  rcases List.mem_append.1 hv with hv | hv
  ·exact Nat.le_of_lt (h.lt v hv _ hA)
  ·rcases List.mem_singleton.1 hv with rfl
   omega
 have key:∀ p,p ∈ opn→∀ z,V z→p.2 z=true→(∃ w',w' ∈ wl ++ [w]∧w'.all z=true∧w'.cost=p.1)∨∃ q,q ∈ opn'∧q.2 z=true∧q.1=p.1:=fun p hp z hz e=>by
  by_cases hpc:p.1=c
  ·have:p=(c,A):=by
    have hnd:=h.nd
    clear hold hnew
    induction opn with
    | nil=>cases hp
    | cons a l ih =>
     simp only [List.map_cons,List.nodup_cons,List.mem_map,not_exists,not_and] at hnd
     rcases List.mem_cons.1 hp with rfl | hp'
     ·rcases List.mem_cons.1 hA with h1 | hA'
      ·exact h1.symm
      ·exact absurd hpc.symm (hnd.1 _ hA')
     ·rcases List.mem_cons.1 hA with rfl | hA'
      ·exact absurd hpc (hnd.1 _ hp')
      ·have:∀ (l:List (Nat × (σ→Bool))),(l.map (·.1)).Nodup→∀ a b,a ∈ l→b ∈ l→a.1=b.1→a=b:=by
        intro l
        induction l with
        | nil=>intro _ a b ha; cases ha
        | cons y l ih =>
         intro hnd a b ha hb e
         simp only [List.map_cons,List.nodup_cons,List.mem_map,not_exists,not_and] at hnd
         rcases List.mem_cons.1 ha with ha1 | ha1
         ·rcases List.mem_cons.1 hb with hb1 | hb1
          ·rw [ha1,hb1]
          ·rw [ha1] at e; exact absurd e.symm (hnd.1 _ hb1)
         ·rcases List.mem_cons.1 hb with hb1 | hb1
          ·rw [hb1] at e; exact absurd e (hnd.1 _ ha1)
          ·exact ih hnd.2 a b ha1 hb1 e
       exact this l hnd.2 _ _ hp' hA' hpc
   subst this
   exact .inl ⟨w,hmw,(hun z hz).2 ⟨A,List.mem_of_getElem? hp0,e⟩,hc⟩
  ·obtain ⟨S,hS,hi⟩:=hold p hp hpc
   exact .inr ⟨_,hS,hi z hz e,rfl⟩
 exact {
  cl:=hcl2
  wv:=fun v hv=>by
   rcases List.mem_append.1 hv with hv | hv
   ·have:=h.wv v hv
    exact ⟨this.un,fun p hp z hz e=>(this.p0 p hp z hz e).mono hm,this.ps⟩
   ·rcases List.mem_singleton.1 hv with rfl
    refine ⟨hun,fun p hp z hz e=>?_,hps⟩
    rw [hp0] at hp
    cases hp
    rw [hc]
    exact (h.org _ hA z hz e).mono hm
  org:=fun p hp z hz e=>by
   rcases (hnew p hp).2 z hz e with ⟨S,hS,e2⟩ | ⟨op,hk,ec,x,hx,he⟩
   ·exact (h.org _ hS z hz e2).mono hm
   ·exact .inr ⟨op,hk,w,hmw,by rw [hc]; exact ec,x,hx,he⟩
  out:=fun v hv x op z hx hz he=>by
   rcases List.mem_append.1 hv with hv | hv
   ·rcases h.out v hv x op z hx hz he with ⟨w',hw',r⟩ | ⟨p,hp,e,hl⟩
    ·exact .inl ⟨w',hm _ hw',r⟩
    ·rcases key p hp z hz e with ⟨w',hw',e1,e2⟩ | ⟨q,hq,e1,e2⟩
     ·exact .inl ⟨w',hw',e1,by omega⟩
     ·exact .inr ⟨q,hq,e1,by omega⟩
   ·rcases List.mem_singleton.1 hv with rfl
    by_cases h0:k op=0
    ·have:cl' z=true:=(hcl z hz).2 ((hz0 x op z hx hz h0 he).elim .inr .inl)
     obtain ⟨w',hw',e⟩:=(hcl2 z hz).1 this
     exact .inl ⟨w',hw',e,by have:=hle w' hw'; omega⟩
    ·rcases hout x op z hx hz (by omega) he with h1 | ⟨p,hp,e1,e2⟩
     ·obtain ⟨w',hw',e⟩:=(hcl2 z hz).1 h1
      exact .inl ⟨w',hw',e,by have:=hle w' hw'; omega⟩
     ·exact .inr ⟨p,hp,e1,by omega⟩
  st:=fun z hz hs=>by
   rcases h.st z hz hs with ⟨w',hw',r⟩ | ⟨p,hp,e,hl⟩
   ·exact .inl ⟨w',hm _ hw',r⟩
   ·rcases key p hp z hz e with ⟨w',hw',e1,e2⟩ | ⟨q,hq,e1,e2⟩
    ·exact .inl ⟨w',hw',e1,by omega⟩
    ·exact .inr ⟨q,hq,e1,by omega⟩
  lt:=fun v hv p hp=>by
   have h1:=hle v hv
   have h2:=(hnew p hp).1
   omega
  asc:=by
   rw [List.pairwise_append]
   refine ⟨h.asc,List.pairwise_singleton _ _,fun a ha b hb=>?_⟩
   rcases List.mem_singleton.1 hb with rfl
   rw [hc]
   exact h.lt a ha _ hA
  nd:=hn
  dis:=by
   rw [List.pairwise_append]
   refine ⟨h.dis,List.pairwise_singleton _ _,fun a ha b hb z hz e1 e2=>?_⟩
   rcases List.mem_singleton.1 hb with rfl
   exact hdis z hz e2 ((h.cl z hz).2 ⟨a,ha,e1⟩) }
def gOf (wl:List (Wp σ)) (d:Nat) (z:σ):Nat:=((wl.find? fun w=>w.all z).map (·.cost)).getD d
theorem gOf_some {d:Nat} {z:σ} (h:wl.find? (fun w=>w.all z)=none):gOf wl d z=d:=by unfold gOf; rw [h]; rfl
theorem gOf_at {V:σ→Prop} {wl:List (Wp σ)} (hd:wl.Pairwise fun a b=>∀ z,V z→a.all z=true→b.all z=true→False) {w:Wp σ} {z:σ} {d:Nat} (hz:V z) (hw:w ∈ wl) (e:w.all z=true):gOf wl d z=w.cost:=by
 unfold gOf
 induction wl with
 | nil=>cases hw
 | cons a l ih =>
  rw [List.pairwise_cons] at hd
  by_cases ha:a.all z=true
  ·rw [List.find?_cons_of_pos (p:=fun w:Wp σ=>w.all z) ha]
   rcases List.mem_cons.1 hw with rfl | hw
   ·rfl
   ·exact (hd.1 w hw z hz ha e).elim
  ·rw [List.find?_cons_of_neg (p:=fun w:Wp σ=>w.all z) ha]
   rcases List.mem_cons.1 hw with rfl | hw
   ·exact absurd e ha
   ·exact ih hd.2 hw
theorem gOf_not {wl:List (Wp σ)} {z:σ} {d:Nat} (h:∀ w,w ∈ wl→w.all z=false):gOf wl d z=d:=by
 refine gOf_some (List.find?_eq_none.2 fun w hw=>?_)
 rw [h w hw]
 exact Bool.false_ne_true
end
def Lo (V:σ→Prop) (Step:Nat→σ→σ→Prop) (k:Nat→Nat) (G:σ→Prop) (H:σ→Nat):Prop:=(∀ z,V z→G z→H z=0)∧∀ op x y,V x→V y→Step op x y→H x≤H y+k op
section
variable {V:σ→Prop} {Step:Nat→σ→σ→Prop} {k:Nat→Nat} {S0 G:σ→Prop} {wl:List (Wp σ)} {cl:σ→Bool} {opn:List (Nat × (σ→Bool))}
theorem SdOk.dec {E:Nat→σ→σ→Prop} (h:SdOk V E k S0 wl cl opn) {z:σ} (hz:V z):(∃ w,w ∈ wl∧w.all z=true)∨∀ w,w ∈ wl→w.all z=false:=by
 cases e:cl z with
 | true=>exact .inl ((h.cl z hz).1 e)
 | false =>
  refine .inr fun w hw=>?_
  cases e2:w.all z with
  | false=>rfl
  | true=>rw [(h.cl z hz).2 ⟨w,hw,e2⟩] at e; cases e
theorem fwd_inf (h:SdOk V Step k S0 wl cl []) (hno:∀ w,w ∈ wl→∀ z,V z→G z→w.all z=false) (I:Nat) :
  ∃ H,Lo V Step k G H∧(∀ z,H z≤I)∧∀ z,V z→S0 z→H z=I:=by
 refine ⟨fun z=>if cl z=true then I else 0,⟨fun z hz hg=>?_,fun op x y hx hy he=>?_⟩,fun z=>by show (if _ then _ else _)≤_; split <;> omega,fun z hz hs=>?_⟩
 ·show (if _ then _ else _)=_
  rw [if_neg]
  intro e
  obtain ⟨w,hw,e2⟩:=(h.cl z hz).1 e
  rw [hno w hw z hz hg] at e2; cases e2
 ·show (if _ then _ else _)≤(if _ then _ else _)+_
  by_cases e:cl x=true
  ·obtain ⟨w,hw,e2⟩:=(h.cl x hx).1 e
   rcases h.out w hw x op y e2 hy he with ⟨w',hw',e',hl⟩ | ⟨p,hp,e',hl⟩
   ·rw [if_pos e,if_pos ((h.cl y hy).2 ⟨w',hw',e'⟩)]; omega
   ·cases hp
  ·rw [if_neg e]; omega
 ·show (if _ then _ else _)=_
  rcases h.st z hz hs with ⟨w',hw',e',hl⟩ | ⟨p,hp,_⟩
  ·rw [if_pos ((h.cl z hz).2 ⟨w',hw',e'⟩)]
  ·cases hp
theorem bwd_low (h:SdOk V (fun op x z=>Step op z x) k G wl cl opn) (c:Nat) (hle:∀ w,w ∈ wl→w.cost≤c) (hop:∀ p,p ∈ opn→c≤p.1) (hst:∀ z,V z→G z→(∃ w,w ∈ wl∧w.all z=true∧w.cost=0)∨c=0) :
  Lo V Step k G (gOf wl c):=by
 have hgl:∀ z,V z→gOf wl c z≤c:=fun z hz=>by
  rcases h.dec hz with ⟨w,hw,e⟩ | hn
  ·rw [gOf_at h.dis hz hw e]; exact hle w hw
  ·rw [gOf_not hn]; omega
 refine ⟨fun z hz hg=>?_,fun op x y hx hy he=>?_⟩
 ·rcases hst z hz hg with ⟨w,hw,e,e0⟩ | e0
  ·rw [gOf_at h.dis hz hw e]; exact e0
  ·have:=hgl z hz; omega
 ·have hxl:=hgl x hx
  rcases h.dec hy with ⟨w,hw,e⟩ | hn
  ·rw [gOf_at h.dis hy hw e]
   rcases h.out w hw y op x e hx he with ⟨w',hw',e',hl⟩ | ⟨p,hp,e',hl⟩
   ·rw [gOf_at h.dis hx hw' e']; exact hl
   ·have:=hop p hp
    omega
  ·rw [gOf_not hn]; omega
end
end Go.Bi
end
section
set_option linter.unusedVariables false
set_option linter.unusedSimpArgs false
set_option linter.unusedSectionVars false
namespace Go.W
open Go
section
variable (P:Program) (Inv:World→Prop)
def stQ (c:Nat) (op:Op) (ty:TypeId) (ρ:Env) (w:World) (N:Value→World→Prop):Prop :=
 match c with
 | 0=>opS P 0 op ty ρ w fun v _=>N v w
 | 1=>∃ v,(∀ w',Inv w'→opS P 1 op ty ρ w' fun x _=>x=v)∧N v w
 | c+2=>opS P (c+2) op ty ρ w fun v w'=>Inv w'∧N v w'
def wpS:List LO→Env→World→(Env→World→Prop)→Prop
 | [],ρ,w,K=>K ρ w
 | ⟨c,d,op,ty,none⟩ :: l,ρ,w,K=>stQ P Inv c op ty ρ w fun v w'=>wpS l (ρ.put d v) w' K
 | ⟨c,d,op,ty,some (g,b)⟩ :: l,ρ,w,K=>gd (ρ g) b (stQ P Inv c op ty ρ w fun v w'=>wpS l (ρ.put d v) w' K) (wpS l (ρ.put d undef) w K)
end
section
variable {P:Program} {Inv:World→Prop}
end
section
variable {P:Program} {Inv:World→Prop} {los:List LO} {deps:List Nat}
end
section
variable {P:Program} {Inv:World→Prop} {ρ:Env} {w:World} {K:Env→World→Prop} {ty:Nat}
def rdI (P:Program) (Inv:World→Prop) (op:Op) (ty:Nat) (ρ:Env) [k:Kont Value]:Prop:=∃ v,(∀ w',Inv w'→opS P 1 op ty ρ w' fun x _=>x=v)∧k.run v
def invH (p:Prop) [k:Kont Unit]:Prop:=p∧k.run ()
@[simp ↓] theorem wpS_nil:wpS P Inv [] ρ w K=K ρ w:=propext Iff.rfl
@[simp ↓] theorem wpS_0 {d:Option Nat} {op:Op} {l:List LO}:wpS P Inv (⟨0,d,op,ty,none⟩ :: l) ρ w K=opS P 0 op ty ρ w fun v _=>wpS P Inv l (ρ.put d v) w K:=propext Iff.rfl
@[simp ↓] theorem wpS_1 {d:Option Nat} {op:Op} {l:List LO}:wpS P Inv (⟨1,d,op,ty,none⟩ :: l) ρ w K=@rdI P Inv op ty ρ ⟨fun v=>wpS P Inv l (ρ.put d v) w K⟩:=propext Iff.rfl
@[simp ↓] theorem wpS_2 {d:Option Nat} {op:Op} {l:List LO}:wpS P Inv (⟨2,d,op,ty,none⟩ :: l) ρ w K=opS P 2 op ty ρ w fun v w'=>@invH (Inv w') ⟨fun _=>wpS P Inv l (ρ.put d v) w' K⟩:=propext Iff.rfl
@[simp ↓] theorem wpS_3 {d:Option Nat} {op:Op} {l:List LO}:wpS P Inv (⟨3,d,op,ty,none⟩ :: l) ρ w K=opS P 3 op ty ρ w fun v w'=>@invH (Inv w') ⟨fun _=>wpS P Inv l (ρ.put d v) w' K⟩:=propext Iff.rfl
@[simp ↓] theorem wpS_g0 {g:Nat} {b:Bool} {d:Option Nat} {op:Op} {l:List LO}:wpS P Inv (⟨0,d,op,ty,some (g,b)⟩ :: l) ρ w K =
  @guH (ρ g) b ⟨fun t=>if t=true then opS P 0 op ty ρ w fun v _=>wpS P Inv l (ρ.put d v) w K else wpS P Inv l (ρ.put d undef) w K⟩:=by simp [guH,wpS,stQ]
@[simp ↓] theorem wpS_g1 {g:Nat} {b:Bool} {d:Option Nat} {op:Op} {l:List LO}:wpS P Inv (⟨1,d,op,ty,some (g,b)⟩ :: l) ρ w K =
  @guH (ρ g) b ⟨fun t=>if t=true then @rdI P Inv op ty ρ ⟨fun v=>wpS P Inv l (ρ.put d v) w K⟩ else wpS P Inv l (ρ.put d undef) w K⟩:=by simp [guH,wpS,stQ,rdI]
@[simp ↓] theorem wpS_g2 {g:Nat} {b:Bool} {d:Option Nat} {op:Op} {l:List LO}:wpS P Inv (⟨2,d,op,ty,some (g,b)⟩ :: l) ρ w K =
  @guH (ρ g) b ⟨fun t=>if t=true then opS P 2 op ty ρ w fun v w'=>@invH (Inv w') ⟨fun _=>wpS P Inv l (ρ.put d v) w' K⟩ else wpS P Inv l (ρ.put d undef) w K⟩:=by simp [guH,wpS,stQ,invH]
end
end Go.W
end
section
set_option maxRecDepth 100000
set_option linter.unusedSimpArgs false
set_option linter.unusedVariables false
namespace Go.Proofs.YtkhfdmelcpfgoaaGreat
open Go Go.W Go.Tk Go.Rx Go.Bd Go.Sy Go.Maps
abbrev Kq:=Nat × (List Nat→Bool)
abbrev tru:BFn→Prop:=fun _=>True
def stpP (T:Nt) (o:No) (bw:Bool) (P:List Nat→Bool):List Nat→Bool:=if bw=true then preP o P else imgP T o P
def EB (T:Nt) (bw:Bool) (op:Nat) (x z:List Nat):Prop:=StN T.vars x∧StN T.vars z∧∃ o,T.ops[op]?=some o∧if bw=true then hdB z o.pre=true∧apS o z=x else hdB x o.pre=true∧apS o x=z
def kB (T:Nt) (op:Nat):Nat:=(T.ops[op]?.map (·.cost)).getD 0
theorem kB_at {T:Nt} {op:Nat} {o:No} (h:T.ops[op]?=some o):kB T op=o.cost:=by unfold kB; rw [h]; rfl
theorem stpP_iff {T:Nt} {op:Nat} {o:No} {bw:Bool} {P:List Nat→Bool} {z:List Nat} (hg:NtG T) (ho:T.ops[op]?=some o) (hz:StN T.vars z):stpP T o bw P z=true↔∃ x,P x=true∧EB T bw op x z:=by
 have hgo:=hg.ops o (List.mem_of_getElem? ho)
 unfold stpP EB
 cases bw with
 | true =>
  simp only [if_true]
  unfold preP
  rw [Bool.and_eq_true]
  constructor
  ·rintro ⟨h1,h2⟩
   exact ⟨_,h2,apS_st hz hgo,hz,o,ho,h1,rfl⟩
  ·rintro ⟨x,h1,_,_,o',ho',h2,rfl⟩
   rw [ho] at ho'
   cases ho'
   exact ⟨h2,h1⟩
 | false =>
  simp only [Bool.false_eq_true,if_false]
  unfold imgP
  rw [List.any_eq_true]
  constructor
  ·rintro ⟨x,hx,h⟩
   simp only [Bool.and_eq_true,decide_eq_true_eq] at h
   exact ⟨x,h.1.1,sts_st hx,hz,o,ho,h.1.2,h.2⟩
  ·rintro ⟨x,h1,h2,_,o',ho',h3,h4⟩
   rw [ho] at ho'
   cases ho'
   exact ⟨x,sts_mem.2 h2,by simp [h1,h3,h4]⟩
theorem EB.flip {T:Nt} {bw:Bool} {op:Nat} {x z:List Nat} (h:EB T (!bw) op x z):EB T bw op z x:=by
 obtain ⟨h1,h2,o,ho,h3⟩:=h
 refine ⟨h2,h1,o,ho,?_⟩
 cases bw <;> simpa using h3
def Cap (T:Nt) (lim:Nat):Prop:=∀ ns,SpOk T.vars lim ns→ns.length≤900000
def Full (T:Nt) (lim:Nat):Prop:=∃ ns,SpOk T.vars lim ns∧lim≤ns.length
structure BC (T T':Nt) (lim:Nat):Prop where
 alk:Alk T T'
 g:NtG T
 cap:Cap T' lim
def FsA (s m lim:Nat) (T':Nt) (q:SpC) (ps:List Kq) (B:Asr) (w:World) (F:List Nat) (w':World):Prop :=
 ∃ ns ks ss,SpG lim T' q ns ks ss∧(∀ p ∈ ps,Kn T' ns ks p.1 p.2)∧At w F (SpcA s m lim T' q ns ks ss B) w'
def OpR (s m lim:Nat) (T':Nt) (q:SpC) (ps:List Kq) (B:Asr) (w:World) (F:List Nat) (P:List Nat→Bool) (v:Value) (w':World):Prop :=
 (∃ x:Nat,v=.tuple #[.int .i64 (x:Nat),.nilIface]∧FsA s m lim T' q ((x,P) :: ps) B w F w')∨(v=.tuple #[.int .i64 0,berrV 10]∧Full T' lim∧At w F B w')
theorem getM_keep2 {ks:List (Nat × Bool)} {x z:Nat} (h:getM ks z=some true):getM (putM ks x true) z=some true:=by
 by_cases e:x=z
 ·rw [e]; exact getM_put _ _ _
 ·rw [getM_put_ne e]; exact h
section
variable {w w1:World} {F:List Nat} {A B B':Asr} {s m lim:Nat} {T T':Nt} {q:SpC} {ps:List Kq} {ns:Ns} {ks:List (Nat × Bool)} {ss:List (Nat × Nat)}
theorem SpcA.gone (h:At w F (SpcA s m lim T q ns ks ss B) w1):At w F B w1:=by
 unfold SpcA at h
 exact h.drop.drop.drop.drop.drop.drop.drop
theorem SpcA.small (hc:Cap T lim) (hG:SpG lim T q ns ks ss) (h:At w F (SpcA s m lim T q ns ks ss B) w1):ks.length < 1000000∧ss.length < 1000000:=by
 have h1:=hc ns hG.ok
 refine ⟨?_,?_⟩
 ·obtain ⟨es,clock,_,_,_,_,hnd,_⟩:=SpcA.km h
  have:=nodup_len (ks.map (·.1)) (List.range (ns.length+2)) hnd fun x hx=>by
   obtain ⟨p,hp,rfl⟩:=List.mem_map.1 hx
   obtain ⟨_,P,h2⟩:=hG.set p hp
   exact List.mem_range.2 h2.1
  simp at this
  omega
 ·obtain ⟨es,clock,_,_,_,_,hnd,_⟩:=SpcA.sm h
  have hol:=hG.g.olen
  have:=nodup_len (ss.map (·.1)) (List.range T.ops.length) hnd fun x hx=>by
   obtain ⟨p,hp,rfl⟩:=List.mem_map.1 hx
   obtain ⟨_,o,h2,_⟩:=hG.rel p hp
   exact List.mem_range.2 (List.getElem?_eq_some_iff.1 h2).1
  simp at this
  omega
theorem FsA.frame {P:World→Prop} (h:FsA s m lim T' q ps B w F w1) (hP:Rds B P):P w1:=by
 obtain ⟨ns,ks,ss,hG,hk,hA⟩:=h
 exact SpcA.frame hA hP
theorem FsA.kp0 (hB:Lcl B) (h:FsA s m lim T' q ps B w F w1) {w2:World} (k:Kp [] w1 w2):FsA s m lim T' q ps B w F w2:=by
 obtain ⟨ns,ks,ss,hG,hk,hA⟩:=h
 exact ⟨ns,ks,ss,hG,hk,At.kp0 (SpcA.lcl hB) hA k⟩
theorem FsA.drew (hB:Lcl B) (h:FsA s m lim T' q ps B w F w1):FsA s m lim T' q ps B w F w1.drew:=h.kp0 hB (Kp.refl [] w1).drew
theorem FsA.less (h:FsA s m lim T' q ps (Star A B) w F w1):FsA s m lim T' q ps B w F w1:=by
 obtain ⟨ns,ks,ss,hG,hk,hA⟩:=h
 exact ⟨ns,ks,ss,hG,hk,SpcA.less hA⟩
theorem FsA.by (h:FsA s m lim T' q ps B w F w1) (hi:Imp B B'):FsA s m lim T' q ps B' w F w1:=by
 obtain ⟨ns,ks,ss,hG,hk,hA⟩:=h
 refine ⟨ns,ks,ss,hG,hk,?_⟩
 unfold SpcA at hA ⊢
 exact hA.by (Imp.un (Imp.un (Imp.un (Imp.un (Imp.un (Imp.un (Imp.un hi)))))))
theorem FsA.zero (h:FsA s m lim T' q ps B w F w1) {x:Nat} {P:List Nat→Bool} (hx:(x,P) ∈ ps):x=0↔∀ z,StN T'.vars z→P z=false:=by
 obtain ⟨ns,ks,ss,hG,hk,hA⟩:=h
 have h1:=(hk _ hx).ok
 constructor
 ·intro e z hz
  have hrs:rs T'.vars (mk2 T'.vars z []) 0=z:=rs_mk2 (y:=[]) (fun n hn=>(hG.g.vars n hn).2) hz
  have h2:=h1.2 (mk2 T'.vars z [])
  show P z=false
  rw [e,eval_zero,hrs,okB_iff.2 (by rw [hrs]; exact hz)] at h2
  simpa using h2.symm
 ·intro hz
  refine canon hG.ok.wf h1.1 (by unfold Ref; omega) fun a=>?_
  rw [h1.2,eval_zero]
  cases ho:okB T'.vars a with
  | false=>rfl
  | true=>exact hz _ (okB_iff.1 ho)
theorem sres_op {v:Value} {w':World} {P:List Nat→Bool} (hk:∀ p ∈ ps,Kn T' ns ks p.1 p.2) (hG:SpG lim T' q ns ks ss) (h:SRes s m lim T' q ns ks ss B w F tru P v w'):OpR s m lim T' q ps B w F P v w':=by
 obtain ⟨x,e',ns',ss',rfl,h2,h3,h4,h5,h6,h7⟩:=h
 cases e' with
 | true =>
  refine .inr ⟨?_,⟨ns',h5.ok,h2.full rfl rfl⟩,SpcA.gone h7⟩
  rw [h3 rfl]
  rfl
 | false =>
  refine .inl ⟨x,rfl,ns',_,ss',h5,fun p hp=>?_,h7⟩
  rcases List.mem_cons.1 hp with rfl | hp
  ·exact ⟨getM_put _ _ _,h4 rfl⟩
  ·exact ⟨getM_keep2 (hk p hp).kn,(hk p hp).ok.ext hG.ok.wf h2.ext⟩
end
section
variable {w w1:World} {F:List Nat} {A B B':Asr} {s m lim:Nat} {T T':Nt} {q:SpC} {ps:List Kq}
theorem f_union (a b:Nat) (P Q:List Nat→Bool) (hc:Cap T' lim) (hB:Lcl B) (h:FsA s m lim T' q ps B w F w1) (ha:(a,P) ∈ ps) (hb:(b,Q) ∈ ps) :
  Calls Tryz.prog 57 [.pointer (some ⟨s,0,none⟩),.int .i64 (a:Nat),.int .i64 (b:Nat)].toArray w1 fun en w'=>∃ v,en=.returned v∧OpR s m lim T' q ps B w F (fun z=>P z || Q z) v w':=by
 obtain ⟨ns,ks,ss,hG,hk,hA⟩:=h
 refine (union_spec a b P Q hG hB hA (hk _ ha) (hk _ hb) (SpcA.small hc hG hA).1 (W:=tru) trivial).mono ?_
 rintro en w' ⟨v,rfl,hs⟩
 exact ⟨v,rfl,sres_op hk hG hs⟩
theorem f_intersect (a b:Nat) (P Q:List Nat→Bool) (hc:Cap T' lim) (hB:Lcl B) (h:FsA s m lim T' q ps B w F w1) (ha:(a,P) ∈ ps) (hb:(b,Q) ∈ ps) :
  Calls Tryz.prog 62 [.pointer (some ⟨s,0,none⟩),.int .i64 (a:Nat),.int .i64 (b:Nat)].toArray w1 fun en w'=>∃ v,en=.returned v∧OpR s m lim T' q ps B w F (fun z=>P z && Q z) v w':=by
 obtain ⟨ns,ks,ss,hG,hk,hA⟩:=h
 refine (intersect_spec a b P Q hG hB hA (hk _ ha) (hk _ hb) (SpcA.small hc hG hA).1 (W:=tru) trivial).mono ?_
 rintro en w' ⟨v,rfl,hs⟩
 exact ⟨v,rfl,sres_op hk hG hs⟩
theorem f_minus (a b:Nat) (P Q:List Nat→Bool) (hc:Cap T' lim) (hB:Lcl B) (h:FsA s m lim T' q ps B w F w1) (ha:(a,P) ∈ ps) (hb:(b,Q) ∈ ps) :
  Calls Tryz.prog 55 [.pointer (some ⟨s,0,none⟩),.int .i64 (a:Nat),.int .i64 (b:Nat)].toArray w1 fun en w'=>∃ v,en=.returned v∧OpR s m lim T' q ps B w F (fun z=>P z && !Q z) v w':=by
 obtain ⟨ns,ks,ss,hG,hk,hA⟩:=h
 refine (minus_spec a b P Q hG hB hA (hk _ ha) (hk _ hb) (SpcA.small hc hG hA).1 (W:=tru) trivial trivial).mono ?_
 rintro en w' ⟨v,rfl,hs⟩
 exact ⟨v,rfl,sres_op hk hG hs⟩
theorem f_partial (pv:Value) (p:List Go.Tk.Fc) (hc:Cap T' lim) (hB:Lcl B) (h:FsA s m lim T' q ps B w F w1) (hr:Rds B fun w'=>Vw w' pv fcE p) (hp:propF (T'.vars.map iN) (p.map faN)=true) (hpo:FcOk T'.vars p) :
  Calls Tryz.prog 51 [.pointer (some ⟨s,0,none⟩),pv].toArray w1 fun en w'=>∃ v,en=.returned v∧OpR s m lim T' q ps B w F (fun z=>hdB z p) v w':=by
 obtain ⟨ns,ks,ss,hG,hk,hA⟩:=h
 refine (partial_spec pv p hG hB hA hr hp hpo (SpcA.small hc hG hA).1 (W:=tru) (fun _ _=>⟨trivial,trivial⟩) ⟨fun _ _ _ _=>trivial,fun _ _=>trivial⟩ trivial).mono ?_
 rintro en w' ⟨v,rfl,hs⟩
 exact ⟨v,rfl,sres_op hk hG hs⟩
theorem f_single (sv:Value) (st:List Nat) (hc:Cap T' lim) (hB:Lcl B) (h:FsA s m lim T' q ps B w F w1) (hr:Rds B fun w'=>Vw w' sv nE st) (hst:StN T'.vars st) :
  Calls Tryz.prog 52 [.pointer (some ⟨s,0,none⟩),sv].toArray w1 fun en w'=>∃ v,en=.returned v∧OpR s m lim T' q ps B w F (fun z=>decide (z=st)) v w':=by
 obtain ⟨ns,ks,ss,hG,hk,hA⟩:=h
 refine (single_spec sv st hG hB hA hr hst (SpcA.small hc hG hA).1 (W:=tru) (fun _ _=>⟨trivial,trivial⟩) ⟨fun _ _ _ _=>trivial,fun _ _=>trivial⟩).mono ?_
 rintro en w' ⟨v,rfl,hs⟩
 exact ⟨v,rfl,sres_op hk hG hs⟩
theorem f_image (a op:Nat) (o:No) (P:List Nat→Bool) (hC:BC T T' lim) (hB:Lcl B) (h:FsA s m lim T' q ps B w F w1) (ha:(a,P) ∈ ps) (ho:T.ops[op]?=some o) :
  Calls Tryz.prog 80 [.pointer (some ⟨s,0,none⟩),.int .i64 (a:Nat),.int .i64 (op:Nat)].toArray w1 fun en w'=>∃ v,en=.returned v∧OpR s m lim T' q ps B w F (imgP T o P) v w':=by
 obtain ⟨ns,ks,ss,hG,hk,hA⟩:=h
 obtain ⟨o',ho',epre,eap,_⟩:=hC.alk.sk ho
 refine (image_spec a op o' P hG hB hA (hk _ ha) ho' (SpcA.small hC.cap hG hA).1 (SpcA.small hC.cap hG hA).2 (imgW (W:=tru) fun G hG=>trivial)).mono ?_
 rintro en w' ⟨v,rfl,hs⟩
 rw [imgP_alk hC.alk epre eap] at hs
 exact ⟨v,rfl,sres_op hk hG hs⟩
theorem f_preimage (a op:Nat) (o:No) (P:List Nat→Bool) (hC:BC T T' lim) (hB:Lcl B) (h:FsA s m lim T' q ps B w F w1) (ha:(a,P) ∈ ps) (ho:T.ops[op]?=some o) :
  Calls Tryz.prog 79 [.pointer (some ⟨s,0,none⟩),.int .i64 (a:Nat),.int .i64 (op:Nat)].toArray w1 fun en w'=>∃ v,en=.returned v∧OpR s m lim T' q ps B w F (preP o P) v w':=by
 obtain ⟨ns,ks,ss,hG,hk,hA⟩:=h
 obtain ⟨o',ho',epre,eap,_⟩:=hC.alk.sk ho
 refine (preimage_spec a op o' P hG hB hA (hk _ ha) ho' (SpcA.small hC.cap hG hA).1 (SpcA.small hC.cap hG hA).2 (preW (W:=tru) fun G hG=>trivial)).mono ?_
 rintro en w' ⟨v,rfl,hs⟩
 rw [preP_alk epre eap] at hs
 exact ⟨v,rfl,sres_op hk hG hs⟩
theorem f_has (a:Nat) (sv:Value) (st:List Nat) (P:List Nat→Bool) (hB:Lcl B) (h:FsA s m lim T' q ps B w F w1) (ha:(a,P) ∈ ps) (hr:Rds B fun w'=>Vw w' sv nE st) (hst:StN T'.vars st) :
  Calls Tryz.prog 105 [.pointer (some ⟨s,0,none⟩),.int .i64 (a:Nat),sv].toArray w1 fun en w'=>∃ v,en=.returned v∧v=.tuple #[.bool (P st),.nilIface]∧FsA s m lim T' q ps B w F w':=by
 obtain ⟨ns,ks,ss,hG,hk,hA⟩:=h
 refine (has_spec a sv st P hG hB hA (hk _ ha) hr hst).mono ?_
 rintro en w' ⟨v,rfl,e,h2⟩
 exact ⟨v,rfl,e,ns,ks,ss,hG,hk,h2⟩
theorem f_pick (a:Nat) (P:List Nat→Bool) (hB:Lcl B) (h:FsA s m lim T' q ps B w F w1) (ha:(a,P) ∈ ps) (h0:a≠0) :
  Calls Tryz.prog 63 [.pointer (some ⟨s,0,none⟩),.int .i64 (a:Nat)].toArray w1 fun en w'=>∃ v,en=.returned v∧∃ u st,v=.tuple #[u,.nilIface]∧StN T'.vars st∧P st=true∧FsA s m lim T' q ps (Star (OwnA u 3 1 nE st) B) w F w':=by
 obtain ⟨ns,ks,ss,hG,hk,hA⟩:=h
 refine (spick_spec a P hG hB hA (hk _ ha) h0).mono ?_
 rintro en w' ⟨v,rfl,u,st,e,h1,h2,h3⟩
 exact ⟨v,rfl,u,st,e,h1,h2,ns,ks,ss,hG,hk,h3⟩
end
structure Wm where
 cost:Nat
 pv:Cell1
 pl:List Kq
 ai:Nat
 all:List Nat→Bool
def wmE (x:Wm):List Value:=[.int .i64 (x.cost:Nat),x.pv.1,.int .i64 (x.ai:Nat)]
theorem wmE_len (x:Wm):(wmE x).length=3:=rfl
theorem wmE_one (x:Wm):(wmE x).all oneC=true:=by simpa [wmE,oneC] using x.pv.2
def wmP (x:Wm):Cell1 × List Nat:=(x.pv,x.pl.map (·.1))
def wmW (x:Wm):Go.Bi.Wp (List Nat):=⟨x.cost,x.pl.map (·.2),x.all⟩
structure Sd where
 bw:Bool
 wv:Value
 wl:List Wm
 ci:Nat
 cl:List Nat→Bool
 om:Nat
 opn:List (Nat × Kq)
def kpV (p:Kq):Value:=.int .i64 (p.1:Nat)
def sdO (T:Nt) (s:Nat) (d:Sd):Obj:=.cells #[T.vv.1,T.nv.1,T.gv.1,T.ov.1,.pointer (some ⟨s,0,none⟩),.bool d.bw,d.wv,.int .i64 (d.ci:Nat),.map (some d.om)] 78 (0,0)
def SdA (x:Nat) (T:Nt) (s:Nat) (d:Sd) (B:Asr):Asr:=Star (ObjA x (sdO T s d)) (Star (OwnA d.wv 74 3 wmE d.wl) (Star (VwsA nE (d.wl.map wmP)) (Star (MapA d.om natV kpV i64ok d.opn) B)))
structure SdK (ps:List Kq) (d:Sd):Prop where
 cl:(d.ci,d.cl) ∈ ps
 all:∀ x ∈ d.wl,(x.ai,x.all) ∈ ps∧∀ p ∈ x.pl,p ∈ ps
 opn:∀ p ∈ d.opn,p.2 ∈ ps
theorem SdK.mono {ps ps':List Kq} {d:Sd} (h:SdK ps d) (hp:∀ p ∈ ps,p ∈ ps'):SdK ps' d:=⟨hp _ h.cl,fun x hx=>⟨hp _ (h.all x hx).1,fun p h2=>hp _ ((h.all x hx).2 p h2)⟩,fun p h2=>hp _ (h.opn p h2)⟩
theorem SdK.cons {ps:List Kq} {d:Sd} {p:Kq} (h:SdK ps d):SdK (p :: ps) d:=h.mono fun _ h=>List.mem_cons_of_mem _ h
section
variable {w w1:World} {F:List Nat} {B:Asr} {x s:Nat} {T:Nt} {d:Sd}
theorem SdA.lcl (hB:Lcl B):Lcl (SdA x T s d B):=Lcl.obj.star (Lcl.own.star (Lcl.vws.star (Lcl.map.star hB)))
theorem SdA.obj:Rds (SdA x T s d B) fun w'=>w'.heap[x]?=some (sdO T s d):=Rds.obj
theorem SdA.rds {P:World→Prop} (h:Rds B P):Rds (SdA x T s d B) P:=Rds.star (Rds.star (Rds.star (Rds.star h)))
theorem SdA.wvs:Rds (SdA x T s d B) fun w'=>Vw w' d.wv wmE d.wl:=Rds.star Rds.own
theorem SdA.prt {y:Wm} (hy:y ∈ d.wl):Rds (SdA x T s d B) fun w'=>Vw w' y.pv.1 nE (y.pl.map (·.1)):=Rds.star (Rds.star fun w' F' hs=>by
 obtain ⟨Fa,Fb,ha,_⟩:=hs
 exact ha.1 (wmP y) (List.mem_map.2 ⟨y,hy,rfl⟩))
theorem SdA.map:Rds (SdA x T s d B) fun w'=>MapM w' d.om natV kpV i64ok d.opn:=Rds.star (Rds.star (Rds.star fun w' F' hs=>by
 obtain ⟨Fa,Fb,ha,_⟩:=hs
 exact ha.1))
end
end Go.Proofs.YtkhfdmelcpfgoaaGreat
end
section
set_option maxRecDepth 100000
set_option linter.unusedSimpArgs false
set_option linter.unusedVariables false
namespace Go.Proofs.YtkhfdmelcpfgoaaGreat
open Go Go.W Go.Tk Go.Rx Go.Bd Go.Sy Go.Maps
structure SdR (w:World) (x:Nat) (T:Nt) (s:Nat) (d:Sd):Prop where
 obj:w.heap[x]?=some (sdO T s d)
 wvs:Vw w d.wv wmE d.wl
 prt:∀ y ∈ d.wl,Vw w y.pv.1 nE (y.pl.map (·.1))
 map:MapM w d.om natV kpV i64ok d.opn
theorem SdR.kp {w w':World} {x s:Nat} {T:Nt} {d:Sd} (h:SdR w x T s d) (k:Kp [] w w'):SdR w' x T s d:=⟨k.blk h.obj (by simp),h.wvs.kp0 k,fun y hy=>(h.prt y hy).kp0 k,h.map.kp k (by simp)⟩
theorem SdA.rd {x s:Nat} {T:Nt} {d:Sd} {B:Asr}:Rds (SdA x T s d B) fun w'=>SdR w' x T s d:=fun w' F' hs=>⟨SdA.obj w' F' hs,SdA.wvs w' F' hs,fun y hy=>SdA.prt hy w' F' hs,SdA.map w' F' hs⟩
section
variable {w w1:World} {F:List Nat} {A B B':Asr} {s m lim:Nat} {T T':Nt} {q:SpC} {ps:List Kq}
theorem bstep_spec (x a op:Nat) (d:Sd) (o:No) (P:List Nat→Bool) (hC:BC T T' lim) (hB:Lcl B) (h:FsA s m lim T' q ps B w F w1) (hx:Rds B fun w'=>SdR w' x T s d) (ha:(a,P) ∈ ps) (ho:T.ops[op]?=some o) :
  Calls Tryz.prog 58 [.pointer (some ⟨x,0,none⟩),.int .i64 (a:Nat),.int .i64 (op:Nat)].toArray w1 fun en w'=>∃ v,en=.returned v∧OpR s m lim T' q ps B w F (stpP T o d.bw P) v w':=by
 refine enter Tryz.func58 mixed low58 (Nat.le_of_ble_eq_true rfl) ?_
 simp only [L58]
 have ox:=(h.frame hx).obj
 unfold sdO at ox
 cases hb:d.bw with
 | true =>
  rw [hb] at ox
  simp [cell_blk ox]
  refine cl_of (f_preimage a op o P hC hB h ha ho) ?_
  rintro _ w2 (⟨y,rfl,h2⟩ | ⟨rfl,hf,h2⟩)
  ·simp
   exact .inl ⟨y,rfl,h2⟩
  ·simp [berrV]
   exact .inr ⟨rfl,hf,h2⟩
 | false =>
  rw [hb] at ox
  simp [cell_blk ox]
  refine cl_of (f_image a op o P hC hB h ha ho) ?_
  rintro _ w2 (⟨y,rfl,h2⟩ | ⟨rfl,hf,h2⟩)
  ·simp
   exact .inl ⟨y,rfl,h2⟩
  ·simp [berrV]
   exact .inr ⟨rfl,hf,h2⟩
theorem borigins_spec (x a op:Nat) (d:Sd) (o:No) (P:List Nat→Bool) (hC:BC T T' lim) (hB:Lcl B) (h:FsA s m lim T' q ps B w F w1) (hx:Rds B fun w'=>SdR w' x T s d) (ha:(a,P) ∈ ps) (ho:T.ops[op]?=some o) :
  Calls Tryz.prog 125 [.pointer (some ⟨x,0,none⟩),.int .i64 (a:Nat),.int .i64 (op:Nat)].toArray w1 fun en w'=>∃ v,en=.returned v∧OpR s m lim T' q ps B w F (stpP T o (!d.bw) P) v w':=by
 refine enter Tryz.func125 mixed low125 (Nat.le_of_ble_eq_true rfl) ?_
 simp only [L125]
 have ox:=(h.frame hx).obj
 unfold sdO at ox
 cases hb:d.bw with
 | true =>
  rw [hb] at ox
  simp [cell_blk ox]
  refine cl_of (f_image a op o P hC hB h ha ho) ?_
  rintro _ w2 (⟨y,rfl,h2⟩ | ⟨rfl,hf,h2⟩)
  ·simp
   exact .inl ⟨y,rfl,h2⟩
  ·simp [berrV]
   exact .inr ⟨rfl,hf,h2⟩
 | false =>
  rw [hb] at ox
  simp [cell_blk ox]
  refine cl_of (f_preimage a op o P hC hB h ha ho) ?_
  rintro _ w2 (⟨y,rfl,h2⟩ | ⟨rfl,hf,h2⟩)
  ·simp
   exact .inl ⟨y,rfl,h2⟩
  ·simp [berrV]
   exact .inr ⟨rfl,hf,h2⟩
end
def wmV (y:Wm):Value:=.agg #[.int .i64 (y.cost:Nat),y.pv.1,.int .i64 (y.ai:Nat)]
def wz:Value:=.agg #[.int .i64 0,.slice none 0 0,.int .i64 0]
def AtR (d:Sd) (c:Int) (v:Value):Prop:=(∃ y ∈ d.wl,(y.cost:Int)=c∧v=.tuple #[wmV y,.bool true])∨((∀ y ∈ d.wl,(y.cost:Int)≠c)∧v=.tuple #[wz,.bool false])
set_option maxHeartbeats 1000000 in
theorem bat_spec {w:World} (x s:Nat) (T:Nt) (d:Sd) (c:Int) (hx:SdR w x T s d) (hl:d.wl.length≤1000000) :
  Calls Tryz.prog 104 [.pointer (some ⟨x,0,none⟩),.int .i64 c].toArray w fun e w'=>∃ v,e=.returned v∧AtR d c v∧Kp [] w w':=by
 refine enter Tryz.func104 mixed low104 (Nat.le_of_ble_eq_true rfl) ?_
 simp only [L104]
 have ox:=hx.obj
 unfold sdO at ox
 obtain ⟨rb,hrb⟩:∃ rb,rb=w.heap.size:=⟨_,rfl⟩
 obtain ⟨w1,hw1⟩:∃ w1,w1=w.alloc (.cells #[.int .i64 0,.slice none 0 0,.int .i64 0] 74):=⟨_,rfl⟩
 have h0:At w [] Emp w:=At.start rfl
 have h1:At w [] (Star (ObjA rb (.cells #[.int .i64 0,.slice none 0 0,.int .i64 0] 74)) Emp) w1:=by rw [hrb,hw1]; exact h0.alloc _ Lcl.emp
 have rx:∀ {w':World} {A:Asr},At w [] A w'→SdR w' x T s d:=fun h=>hx.kp h.2
 have ox1:=(rx h1).obj
 unfold sdO at ox1
 have hL1:Lcl (Star (ObjA rb (.cells #[.int .i64 0,.slice none 0 0,.int .i64 0] 74)) Emp):=Lcl.obj.star Lcl.emp
 simp [← hrb,← hw1,cell_blk ox1,(rx h1).wvs.len]
 refine range_loop (n:=d.wl.length) (by omega) (fun k ρ w'=>ρ 0=.pointer (some ⟨x,0,none⟩)∧ρ 1=.int .i64 c∧ρ 4=.pointer (some ⟨rb,0,none⟩)∧ρ 11=d.wv∧(∀ y ∈ d.wl.take k,(y.cost:Int)≠c)∧At w [] (Star (ObjA rb (.cells #[.int .i64 0,.slice none 0 0,.int .i64 0] 74)) Emp) w') (by simp) (by simp)
  ⟨by simp,by simp,by simp,by simp,by simp,h1⟩ (by decide) (fun _ _ _ _ h=>by simpa using h) (fun _ _ _ _ h=>by simpa using h) ?_ ?_
 ·rintro k ρ w2 hk hc hlm ⟨g0,g1,g4,g11,hno,h2⟩
  obtain ⟨y,hy⟩:∃ y,d.wl[k]?=some y:=⟨_,List.getElem?_eq_getElem hk⟩
  have hwv:=(rx h2).wvs
  have ec:=hwv.cells wmE_len hy
  simp only [wmE] at ec
  have hki:(k:Int) < d.wl.length:=by omega
  obtain ⟨yb,hyb⟩:∃ yb,yb=w2.heap.size:=⟨_,rfl⟩
  have h3:At w [] (Star (ObjA yb (.cells #[.int .i64 0,.slice none 0 0,.int .i64 0] 74)) (Star (ObjA rb (.cells #[.int .i64 0,.slice none 0 0,.int .i64 0] 74)) Emp)) (w2.alloc (.cells #[.int .i64 0,.slice none 0 0,.int .i64 0] 74)):=by rw [hyb]; exact h2.alloc _ hL1
  simp (disch:=omega) [g0,g1,g4,g11,hc,hlm,hwv.idx,ec]
  rw [← hyb]
  refine h3.st hL1 (by simp) (by simp [y.pv.2]) fun w4 h4=>?_
  replace h4:At w [] (Star (ObjA yb (.cells #[.int .i64 (y.cost:Nat),y.pv.1,.int .i64 (y.ai:Nat)] 74)) (Star (ObjA rb (.cells #[.int .i64 0,.slice none 0 0,.int .i64 0] 74)) Emp)) w4:=by simpa using h4
  simp [cell_blk h4.obj,g1]
  refine cd_split (fun e=>?_) (fun e=>?_)
  ·have e:(y.cost:Int)=c:=by simpa using e
   simp [rd_c3 h4.obj,g4]
   refine h4.rot.st (Lcl.obj.star Lcl.emp) (by simp) (by simp [y.pv.2]) fun w5 h5=>?_
   replace h5:At w [] (Star (ObjA rb (.cells #[.int .i64 (y.cost:Nat),y.pv.1,.int .i64 (y.ai:Nat)] 74)) (Star (ObjA yb (.cells #[.int .i64 (y.cost:Nat),y.pv.1,.int .i64 (y.ai:Nat)] 74)) Emp)) w5:=by simpa using h5
   simp [g4]
   refine postL_c2 ag_74 (by simp [g4]) h5.obj (by simp) rfl ?_
   exact ⟨_,rfl,.inl ⟨y,List.mem_of_getElem? hy,e,rfl⟩,h5.2⟩
  ·have e:(y.cost:Int)≠c:=by simpa using e
   simp [g0,g1,g4,g11,hc,hlm]
   refine ⟨fun z hz=>?_,h4.drop⟩
   rw [take_snoc hy] at hz
   rcases List.mem_append.1 hz with hz | hz
   ·exact hno z hz
   ·rcases List.mem_singleton.1 hz with rfl
    exact e
 ·rintro ρ w2 ⟨g0,g1,g4,g11,hno,h2⟩
  rw [List.take_length] at hno
  simp [g0,g1,g4,g11,cell_blk h2.obj]
  refine h2.st Lcl.emp (by simp) (by simp) fun w3 h3=>?_
  replace h3:At w [] (Star (ObjA rb (.cells #[.int .i64 0,.slice none 0 0,.int .i64 0] 74)) Emp) w3:=by simpa using h3
  simp [g4]
  refine postL_c2 ag_74 (by simp [g4]) h3.obj (by simp) rfl ?_
  exact ⟨_,rfl,.inr ⟨hno,by simp [wz]⟩,h3.2⟩
section
variable {w w1:World} {F:List Nat} {A B B':Asr} {s m lim:Nat} {T T':Nt} {q:SpC} {ps:List Kq}
theorem FsA.alloc (o:Obj) (hB:Lcl B) (h:FsA s m lim T' q ps B w F w1):FsA s m lim T' q ps (Star (ObjA w1.heap.size o) B) w F (w1.alloc o):=by
 obtain ⟨ns,ks,ss,hG,hk,hA⟩:=h
 exact ⟨ns,ks,ss,hG,hk,SpcA.into (hA.alloc o (SpcA.lcl hB))⟩
theorem FsA.obj {b:Nat} {o:Obj} (h:FsA s m lim T' q ps (Star (ObjA b o) B) w F w1):w1.heap[b]?=some o:=h.frame (Rds.obj:Rds (Star (ObjA b o) B) fun w'=>w'.heap[b]?=some o)
theorem FsA.st {b o E:Nat} {c:Array Value} {cs:List Value} {KW:Kont World} (hB:Lcl B) (h:FsA s m lim T' q ps (Star (ObjA b (.cells c E (0,0))) B) w F w1) (hs:o+cs.length≤c.size) (h1:cs.all oneC=true)
  (H:∀ w',FsA s m lim T' q ps (Star (ObjA b (.cells (wrAt c o cs) E (0,0))) B) w F w'→KW.run w'):@stJ w1 ⟨b,o,none⟩ cs KW:=by
 obtain ⟨ns,ks,ss,hG,hk,hA⟩:=h
 exact (SpcA.out hA).st (SpcA.lcl hB) hs h1 fun w' h2=>H w' ⟨ns,ks,ss,hG,hk,SpcA.into h2⟩
end
def NoP (y:Wm) (st:List Nat) (k:Nat):Prop:=∀ j,j < k→∀ p',y.pl[j]?=some p'→p'.2 st=false
def PrtR (d:Sd) (c:Int) (st:List Nat) (i:Int):Prop :=
 (∃ y ∈ d.wl,(y.cost:Int)=c∧∃ (k:Nat) (p:Kq),i=k∧y.pl[k]?=some p∧p.2 st=true∧NoP y st k)∨(i=-1∧((∀ y ∈ d.wl,(y.cost:Int)≠c)∨∃ y ∈ d.wl,(y.cost:Int)=c∧∀ p ∈ y.pl,p.2 st=false))
structure SdL (d:Sd):Prop where
 wl:d.wl.length≤1000000
 pl:∀ y ∈ d.wl,y.pl.length≤1000000
 sm:(d.wl.map fun y=>y.pl.length).sum≤1000
section
variable {w w1:World} {F:List Nat} {A B B':Asr} {s m lim:Nat} {T T':Nt} {q:SpC} {ps:List Kq}
set_option maxHeartbeats 1000000 in
theorem bpart_spec (x:Nat) (d:Sd) (c:Int) (sv:Value) (st:List Nat) (hB:Lcl B) (h:FsA s m lim T' q ps B w F w1) (hx:Rds B fun w'=>SdR w' x T s d) (hk:SdK ps d) (hl:SdL d) (hr:Rds B fun w'=>Vw w' sv nE st) (hst:StN T'.vars st) :
  Calls Tryz.prog 88 [.pointer (some ⟨x,0,none⟩),.int .i64 c,sv].toArray w1 fun en w'=>∃ v,en=.returned v∧∃ i:Int,v=.tuple #[.int .i64 i,.nilIface]∧PrtR d c st i∧FsA s m lim T' q ps B w F w':=by
 refine enter Tryz.func88 mixed low88 (Nat.le_of_ble_eq_true rfl) ?_
 simp only [L88]
 simp
 refine cl_of (bat_spec x s T d c (h.frame hx) hl.wl) ?_
 rintro _ w2 ⟨hat,k2⟩
 have h2:=h.kp0 hB k2
 obtain ⟨yb,hyb⟩:∃ yb,yb=w2.heap.size:=⟨_,rfl⟩
 have h3:=h2.alloc (.cells #[.int .i64 0,.slice none 0 0,.int .i64 0] 74) hB
 rw [← hyb] at h3
 rcases hat with ⟨y,hy,ec,rfl⟩ | ⟨hno,rfl⟩
 ·simp [wmV]
  rw [← hyb]
  refine h3.st hB (by simp) (by simp [y.pv.2]) fun w4 h4=>?_
  replace h4:FsA s m lim T' q ps (Star (ObjA yb (.cells #[.int .i64 (y.cost:Nat),y.pv.1,.int .i64 (y.ai:Nat)] 74)) B) w F w4:=by simpa using h4
  have hL4:Lcl (Star (ObjA yb (.cells #[.int .i64 (y.cost:Nat),y.pv.1,.int .i64 (y.ai:Nat)] 74)) B):=Lcl.obj.star hB
  have hpv:=(h4.frame (Rds.star hx)).prt y hy
  have hpl:=hl.pl y hy
  simp [cell_blk h4.obj,hpv.len]
  refine range_loop (n:=y.pl.length) (by omega) (fun k ρ w'=>ρ 0=.pointer (some ⟨x,0,none⟩)∧ρ 2=sv∧ρ 23=y.pv.1∧NoP y st k∧FsA s m lim T' q ps (Star (ObjA yb (.cells #[.int .i64 (y.cost:Nat),y.pv.1,.int .i64 (y.ai:Nat)] 74)) B) w F w') (by simp) (by simp)
   ⟨by simp,by simp,by simp,fun j hj=>by omega,h4⟩ (by decide) (fun _ _ _ _ h=>by simpa using h) (fun _ _ _ _ h=>by simpa using h) ?_ ?_
  ·rintro k ρ w5 hk5 hc hlm ⟨g0,g2,g23,hno,h5⟩
   obtain ⟨p,hp⟩:∃ p,y.pl[k]?=some p:=⟨_,List.getElem?_eq_getElem hk5⟩
   have hpv5:=(h5.frame (Rds.star hx)).prt y hy
   have cp:=nE_cell hpv5 (show (y.pl.map (·.1))[k]?=some p.1 by rw [List.getElem?_map,hp]; rfl)
   have ox:=(h5.frame (Rds.star hx)).obj
   unfold sdO at ox
   have hki:(k:Int) < y.pl.length:=by omega
   have hkm:(y.pl.map (·.1)).length=y.pl.length:=List.length_map _
   simp (disch:=omega) [g0,g2,g23,hc,hlm,hpv5.idx,cp,cell_blk ox,hpv5.len,List.length_map]
   refine cl_of (f_has p.1 sv st p.2 hL4 h5 ((hk.all y hy).2 p (List.mem_of_getElem? hp)) (Rds.star hr) hst) ?_
   rintro _ w6 ⟨rfl,h6⟩
   simp [g0,g2,g23,hc,hlm]
   refine cd_split (fun e=>?_) (fun e=>?_)
   ·simp [g0,g2,g23,hc,hlm]
    exact ⟨.inl ⟨y,hy,ec,k,p,rfl,hp,e,hno⟩,h6.less⟩
   ·simp [g0,g2,g23,hc,hlm]
    refine ⟨fun j hj p' hp'=>?_,h6⟩
    rcases Nat.lt_succ_iff_lt_or_eq.1 hj with hj | rfl
    ·exact hno j hj p' hp'
    ·rw [hp] at hp'
     cases hp'
     exact e
  ·rintro ρ w5 ⟨g0,g2,g23,hno,h5⟩
   simp
   refine ⟨.inr ⟨rfl,.inr ⟨y,hy,ec,fun p hp=>?_⟩⟩,h5.less⟩
   obtain ⟨j,hj⟩:=List.getElem?_of_mem hp
   exact hno j (List.getElem?_eq_some_iff.1 hj).1 p hj
 ·simp [wz]
  rw [← hyb]
  refine h3.st hB (by simp) (by simp) fun w4 h4=>?_
  simp
  exact ⟨.inr ⟨rfl,.inl hno⟩,h4.less⟩
end
end Go.Proofs.YtkhfdmelcpfgoaaGreat
end
section
set_option maxRecDepth 100000
set_option linter.unusedSimpArgs false
set_option linter.unusedVariables false
namespace Go.Proofs.YtkhfdmelcpfgoaaGreat
open Go Go.W Go.Tk Go.Rx Go.Bd Go.Sy Go.Maps
section
variable {w w1:World} {F:List Nat} {A B B':Asr} {s m lim:Nat} {T T':Nt} {q:SpC} {ps:List Kq}
def FsX (s m lim:Nat) (T':Nt) (q:SpC) (ps:List Kq) (B:Asr) (w:World) (F:List Nat) (w':World):Prop:=∃ ps',(∀ p ∈ ps,p ∈ ps')∧FsA s m lim T' q ps' B w F w'
def FromR (s m lim:Nat) (T T':Nt) (q:SpC) (ps:List Kq) (B:Asr) (w:World) (F:List Nat) (d:Sd) (op:Nat) (st:List Nat) (P:List Nat→Bool) (v:Value) (w':World):Prop :=
 (∃ u st',v=.tuple #[u,.bool true,.nilIface]∧StN T.vars st'∧P st'=true∧EB T d.bw op st' st∧FsX s m lim T' q ps (Star (OwnA u 3 1 nE st') B) w F w') ∨
 (v=.tuple #[.slice none 0 0,.bool false,.nilIface]∧(∀ z,P z=true→¬ EB T d.bw op z st)∧FsX s m lim T' q ps B w F w') ∨
 (v=.tuple #[.slice none 0 0,.bool false,berrV 10]∧Full T' lim∧At w F B w')
set_option maxHeartbeats 1000000 in
theorem bfrom_spec (x op a:Nat) (d:Sd) (o:No) (P:List Nat→Bool) (sv:Value) (st:List Nat) (hC:BC T T' lim) (hB:Lcl B) (h:FsA s m lim T' q ps B w F w1) (hx:Rds B fun w'=>SdR w' x T s d) (ha:(a,P) ∈ ps) (ho:T.ops[op]?=some o) (hr:Rds B fun w'=>Vw w' sv nE st) (hst:StN T.vars st) :
  Calls Tryz.prog 106 [.pointer (some ⟨x,0,none⟩),sv,.int .i64 (op:Nat),.int .i64 (a:Nat)].toArray w1 fun en w'=>∃ v,en=.returned v∧FromR s m lim T T' q ps B w F d op st P v w':=by
 refine enter Tryz.func106 mixed low106 (Nat.le_of_ble_eq_true rfl) ?_
 simp only [L106]
 have ox:=(h.frame hx).obj
 unfold sdO at ox
 have hst':StN T'.vars st:=by rw [hC.alk.vars]; exact hst
 simp [cell_blk ox]
 refine cl_of (f_single sv st hC.cap hB h hr hst') ?_
 rintro _ w2 (⟨y,rfl,h2⟩ | ⟨rfl,hf,h2⟩)
 rotate_left
 ·simp [berrV]
  exact .inr (.inr ⟨rfl,hf,h2⟩)
 simp
 refine cl_of (borigins_spec x y op d o _ hC hB h2 hx (.head _) ho) ?_
 rintro _ w3 (⟨y3,rfl,h3⟩ | ⟨rfl,hf,h3⟩)
 rotate_left
 ·simp [berrV]
  exact .inr (.inr ⟨rfl,hf,h3⟩)
 have ox3:=(h3.frame hx).obj
 unfold sdO at ox3
 simp [cell_blk ox3]
 refine cl_of (f_intersect y3 a _ P hC.cap hB h3 (.head _) (.tail _ (.tail _ ha))) ?_
 rintro _ w4 (⟨y4,rfl,h4⟩ | ⟨rfl,hf,h4⟩)
 rotate_left
 ·simp [berrV]
  exact .inr (.inr ⟨rfl,hf,h4⟩)
 have hz:∀ z,StN T.vars z→((stpP T o (!d.bw) (fun z=>decide (z=st)) z && P z)=true↔P z=true∧EB T d.bw op z st):=fun z hz=>by
  rw [Bool.and_eq_true,stpP_iff hC.g ho hz]
  constructor
  ·rintro ⟨⟨x',e,e1⟩,e2⟩
   have e:x'=st:=of_decide_eq_true e
   rw [e] at e1
   exact ⟨e2,e1.flip⟩
  ·rintro ⟨h1,h2⟩
   refine ⟨⟨st,decide_eq_true rfl,?_⟩,h1⟩
   have:=EB.flip (bw:=!d.bw) (by simpa using h2)
   exact this
 by_cases h0:y4=0
 ·subst h0
  simp
  have hno:=(h4.zero (.head _)).1 rfl
  refine .inr (.inl ⟨rfl,fun z hp he=>?_,_,fun p hp=>.tail _ (.tail _ (.tail _ hp)),h4⟩)
  have:=hno z (by rw [hC.alk.vars]; exact he.1)
  rw [(hz z he.1).2 ⟨hp,he⟩] at this
  cases this
 ·have ox4:=(h4.frame hx).obj
  unfold sdO at ox4
  have hb:(((y4:Nat):Int) == 0)=false:=beq_eq_false_iff_ne.2 (by omega)
  simp [hb,cell_blk ox4]
  refine cl_of (f_pick y4 _ hB h4 (.head _) h0) ?_
  rintro _ w5 ⟨u,st',rfl,hs',hp',h5⟩
  rw [hC.alk.vars] at hs'
  obtain ⟨e1,e2⟩:=(hz st' hs').1 hp'
  simp
  exact .inl ⟨u,st',rfl,hs',e1,e2,_,fun p hp=>.tail _ (.tail _ (.tail _ hp)),h5.drew (Lcl.own.star hB)⟩
end
end Go.Proofs.YtkhfdmelcpfgoaaGreat
end
