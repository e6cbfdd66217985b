/-
  A part of the proof of this claim's statement (LibO, LdAny): plain theorems; no conditions beyond those each names.
-/
import Derived.Test.YtolkjbmcindhjaaGreatPk07
set_option maxRecDepth 100000
set_option linter.unusedSimpArgs false
set_option linter.unusedVariables false
set_option linter.unusedSectionVars false
section
namespace Go.W
open Go
section
variable (P:Program) (Inv:World→Prop)
def stQ (c:Nat) (op:Op) (ty:TypeId) (ρ:Env) (w:World) (N:Value→World→Prop):Prop :=
 match c with
 | 0=>opS P 0 op ty ρ w fun v _=>N v w
 | 1=>∃v,(∀w',Inv w'→opS P 1 op ty ρ w' fun x _=>x=v)∧N v w
 | c+2=>opS P (c+2) op ty ρ w fun v w'=>Inv w'∧N v w'
def wpS:List LO→Env→World→(Env→World→Prop)→Prop
 | [],ρ,w,K=>K ρ w
 | ⟨c,d,op,ty,none⟩ :: l,ρ,w,K=>stQ P Inv c op ty ρ w fun v w'=>wpS l (ρ.put d v) w' K
 | ⟨c,d,op,ty,some (g,b)⟩ :: l,ρ,w,K=>gd (ρ g) b (stQ P Inv c op ty ρ w fun v w'=>wpS l (ρ.put d v) w' K) (wpS l (ρ.put d undef) w K)
def act (o:LO) (ρ:Env) (w:World) (K:Value→World→Prop):Prop :=
 match o with
 | ⟨c,_,op,ty,none⟩=>stepL P c op ty ρ w K
 | ⟨c,_,op,ty,some (g,b)⟩=>gd (ρ g) b (stepL P c op ty ρ w K) (K undef w)
def PV (o:LO) (ρ:Env) (v:Value):Prop:=∀w',Inv w'→act P o ρ w' fun x w''=>x=v∧w''=w'
end
def seqChk (los:List LO) (deps:List Nat):Bool :=
 decide ((los.filterMap (·.dst)).Nodup) &&
 los.all (fun o=>!isSel o.op) &&
 (List.range los.length).all fun i=>(List.range los.length).all fun j =>
  (!(deps.getD i 0).testBit j || decide (j < i)) &&
  (!(decide (2≤(los.getD i LO.dfl).cls) && decide (2≤(los.getD j LO.dfl).cls) && decide (j < i)) || (deps.getD i 0).testBit j) &&
  (match (los.getD j LO.dfl).dst with
   | some t=>!((los.getD i LO.dfl).reads.contains t) || (deps.getD i 0).testBit j
   | none=>true)
section
variable {P:Program} {Inv:World→Prop}
theorem act_env {o:LO} {ρ ρ':Env} {w:World} {K:Value→World→Prop} (hs:isSel o.op=false) (h:∀t ∈ o.reads,ρ t=ρ' t) (hh:act P o ρ w K):act P o ρ' w K:=by
 obtain ⟨c,d,op,ty,g⟩:=o
 have hop:∀t,Operand.tmp t ∈ op.operands→ρ t=ρ' t:=fun t ht=>h t (by
  simp only [LO.reads,List.mem_append,List.mem_filterMap]
  exact .inl ⟨.tmp t,by simpa using ht,rfl⟩)
 cases g with
 | none=>exact stepL_env hs hop hh
 | some gb =>
  obtain ⟨g,b⟩:=gb
  have hg:=h g (by simp [LO.reads])
  simp only [act,gd] at hh ⊢
  rw [←hg]
  exact ⟨fun e=>stepL_env hs hop (hh.1 e),hh.2⟩
theorem act_mono {o:LO} {ρ:Env} {w:World} {K K':Value→World→Prop} (h:∀v w,K v w→K' v w) (hh:act P o ρ w K):act P o ρ w K':=by
 obtain ⟨c,d,op,ty,g⟩:=o
 cases g with
 | none=>exact stepL_mono h hh
 | some gb =>
  obtain ⟨g,b⟩:=gb
  simp only [act,gd] at hh ⊢
  exact ⟨fun e=>stepL_mono h (hh.1 e),fun e=>h _ _ (hh.2 e)⟩
theorem act_wpX {o:LO} {l:List LO} {ρ:Env} {w:World} {K:Env→World→Prop} (h:act P o ρ w fun v w'=>wpX P l (ρ.put o.dst v) w' K):wpX P (o :: l) ρ w K:=by
 obtain ⟨c,d,op,ty,g⟩:=o
 cases g with
 | none=>exact h
 | some gb =>
  obtain ⟨g,b⟩:=gb
  simp only [act,gd] at h
  simp only [wpX,gd]
  exact h
theorem stepL_ex {c:Nat} {op:Op} {ty:TypeId} {ρ:Env} {w:World} {K:Value→World→Prop} (h:stepL P c op ty ρ w K):∃v w',K v w':=by
 have h2:∀K,step2 P op ty ρ w K→∃v w',K v w':=fun K h=>by
  unfold step2 at h
  cases hr:(LO.exec op ty ρ).run P w with
  | ok a w' =>
   rw [hr] at h
   cases a with
   | value v=>exact ⟨v,w',h⟩
   | skip=>exact ⟨_,w',h⟩
   | enter f args =>
    have h:Calls P f args w' fun e w''=>∃v,e=.returned v∧K v w'':=h
    obtain ⟨e,w'',fr,⟨v,_,hk⟩,_⟩:=h []
    exact ⟨v,w'',hk⟩
   | _=>exact h.elim
  | _=>rw [hr] at h; exact h.elim
 match c,h with
 | 0,h=>obtain ⟨v,_,hk⟩:=h; exact ⟨v,_,hk⟩
 | 1,h=>obtain ⟨v,_,hk⟩:=h; exact ⟨v,_,hk⟩
 | 2,h=>exact h2 K h
 | 3,h=>obtain ⟨v,w',_,hk⟩:=h; exact ⟨v,w',hk⟩
 | c+4,h=>exact h2 K h
theorem act_ex {o:LO} {ρ:Env} {w:World} {K:Value→World→Prop} (h:act P o ρ w K):∃v w',K v w':=by
 obtain ⟨c,d,op,ty,g⟩:=o
 cases g with
 | none=>exact stepL_ex h
 | some gb =>
  obtain ⟨g,b⟩:=gb
  simp only [act,gd] at h
  rcases Classical.em (ρ g=.bool b) with e | e
  ·exact stepL_ex (h.1 e)
  ·exact ⟨_,_,h.2 e⟩
theorem stepL_uniq {c:Nat} (hc:c≤1) {op:Op} {ty:TypeId} {ρ:Env} {w:World} {v v':Value} (h:stepL P c op ty ρ w fun x w''=>x=v∧w''=w) (h':stepL P c op ty ρ w fun x w''=>x=v'∧w''=w):v=v':=by
 match c,hc,h,h' with
 | 0,_,h,h' =>
  obtain ⟨a,ha,rfl,_⟩:=h
  obtain ⟨b,hb,rfl,_⟩:=h'
  have:=(ha w).symm.trans (hb w)
  injection this with e1 e2
  injection e1
 | 1,_,h,h' =>
  obtain ⟨a,ha,rfl,_⟩:=h
  obtain ⟨b,hb,rfl,_⟩:=h'
  have:=(ha w (fun _ _ h=>h)).symm.trans (hb w (fun _ _ h=>h))
  injection this with e1 e2
  injection e1
theorem PV_uniq {o:LO} {ρ:Env} {w:World} {v v':Value} (hc:o.cls≤1) (hi:Inv w) (h:PV P Inv o ρ v) (h':PV P Inv o ρ v'):v=v':=by
 have h1:=h w hi
 have h2:=h' w hi
 obtain ⟨c,d,op,ty,g⟩:=o
 cases g with
 | none=>exact stepL_uniq hc h1 h2
 | some gb =>
  obtain ⟨g,b⟩:=gb
  simp only [act,gd] at h1 h2
  rcases Classical.em (ρ g=.bool b) with e | e
  ·exact stepL_uniq hc (h1.1 e) (h2.1 e)
  ·exact (h1.2 e).1.symm.trans (h2.2 e).1
theorem PV_env {o:LO} {ρ ρ':Env} {v:Value} (hs:isSel o.op=false) (h:∀t ∈ o.reads,ρ t=ρ' t) (hh:PV P Inv o ρ v):PV P Inv o ρ' v:=fun w' hi=>act_env hs h (hh w' hi)
theorem wpS_pure {o:LO} {l:List LO} {ρ:Env} {w:World} {K:Env→World→Prop} (hc:o.cls≤1) (h:wpS P Inv (o :: l) ρ w K):∃v,PV P Inv o ρ v∧wpS P Inv l (ρ.put o.dst v) w K:=by
 obtain ⟨c,d,op,ty,g⟩:=o
 have key:∀N:Value→World→Prop,stQ P Inv c op ty ρ w N→∃v,(∀w',Inv w'→stepL P c op ty ρ w' fun x w''=>x=v∧w''=w')∧N v w:=fun N h=>by
  match c,hc,h with
  | 0,_,h =>
   obtain ⟨v,hv,hN⟩:=(opS_sound h:stepL P 0 op ty ρ w fun v _=>N v w)
   exact ⟨v,fun w' _=>⟨v,hv,rfl,rfl⟩,hN⟩
  | 1,_,h =>
   obtain ⟨v,hv,hN⟩:=h
   refine ⟨v,fun w' hi=>?_,hN⟩
   obtain ⟨x,hx,rfl⟩:=(opS_sound (hv w' hi):stepL P 1 op ty ρ w' fun x _=>x=v)
   exact ⟨x,hx,rfl,rfl⟩
 cases g with
 | none =>
  obtain ⟨v,h1,h2⟩:=key _ h
  exact ⟨v,h1,h2⟩
 | some gb =>
  obtain ⟨g,b⟩:=gb
  simp only [wpS,gd] at h
  rcases Classical.em (ρ g=.bool b) with e | e
  ·obtain ⟨v,h1,h2⟩:=key _ (h.1 e)
   refine ⟨v,fun w' hi=>?_,h2⟩
   simp only [act,gd]
   exact ⟨fun _=>h1 w' hi,fun e'=>absurd e e'⟩
  ·refine ⟨undef,fun w' hi=>?_,h.2 e⟩
   simp only [act,gd]
   exact ⟨fun e'=>absurd e' e,fun _=>by trivial⟩
theorem wpS_eff {o:LO} {l:List LO} {ρ:Env} {w:World} {K:Env→World→Prop} (hc:2≤o.cls) (hi:Inv w) (h:wpS P Inv (o :: l) ρ w K):act P o ρ w fun v w'=>Inv w'∧wpS P Inv l (ρ.put o.dst v) w' K:=by
 obtain ⟨c,d,op,ty,g⟩:=o
 have key:∀N:Value→World→Prop,stQ P Inv c op ty ρ w N→stepL P c op ty ρ w fun v w'=>Inv w'∧N v w':=fun N h=>by
  match c,hc,h with
  | c+2,_,h=>exact opS_sound h
 cases g with
 | none=>exact key _ h
 | some gb =>
  obtain ⟨g,b⟩:=gb
  simp only [wpS,gd] at h
  simp only [act,gd]
  exact ⟨fun e=>key _ (h.1 e),fun e=>⟨hi,h.2 e⟩⟩
end
section
variable {P:Program} {Inv:World→Prop} {los:List LO} {deps:List Nat}
theorem any_seq {Q:Ex→Env→World→Prop} {ρ:Env} {w:World} {outs:List Nat} (Inv:World→Prop) (hc:seqChk los deps=true) (h0:Inv w.drew)
  (h:wpS P Inv los ρ w.drew fun ρ' w'=>Q .nrm (ρ.merge ρ' outs) w'):wpL P (.anyR los deps outs) Q ρ w:=by
 simp only [seqChk,Bool.and_eq_true,decide_eq_true_eq,List.all_eq_true,List.mem_range,Bool.or_eq_true,Bool.not_eq_true'] at hc
 obtain ⟨⟨hnd,hsel⟩,hall⟩:=hc
 have hd:∀i j,i < los.length→j < los.length→(deps.getD i 0).testBit j=true→j < i:=fun i j hi hj hb=>by
  rcases (hall i hi j hj).1.1 with h1 | h1
  ·rw [h1] at hb; cases hb
  ·exact h1
 have hch:∀i j,i < los.length→j < los.length→2≤(los.getD i LO.dfl).cls→2≤(los.getD j LO.dfl).cls→j < i→(deps.getD i 0).testBit j=true:=fun i j hi hj h1 h2 h3=>by
  rcases (hall i hi j hj).1.2 with h4 | h4
  ·rw [decide_eq_true h1,decide_eq_true h2,decide_eq_true h3] at h4; cases h4
  ·exact h4
 have hrd:∀i j t,i < los.length→j < los.length→(los.getD j LO.dfl).dst=some t→t ∈ (los.getD i LO.dfl).reads→(deps.getD i 0).testBit j=true:=fun i j t hi hj h1 h2=>by
  have:=(hall i hi j hj).2
  rw [h1] at this
  simp only [Bool.or_eq_true,Bool.not_eq_true'] at this
  rcases this with h3 | h3
  ·rw [List.contains_iff_mem.2 h2] at h3; cases h3
  ·exact h3
 have hsl:∀i,i < los.length→isSel (los.getD i LO.dfl).op=false:=fun i hi=>by
  have:=hsel (los.getD i LO.dfl) (by simp [List.getD,List.getElem?_eq_getElem hi])
  simpa using this
 have hn:∀i j t,i < los.length→j < los.length→(los.getD i LO.dfl).dst=some t→(los.getD j LO.dfl).dst=some t→i=j:=by
  intro i j t hi hj h1 h2
  have key:∀(l:List LO),((l.filterMap (·.dst)).Nodup)→∀i j,i < l.length→j < l.length→i < j→(l.getD i LO.dfl).dst=some t→(l.getD j LO.dfl).dst=some t→False:=by
   intro l
   induction l with
   | nil=>intro _ i j hi; simp at hi
   | cons o l ih =>
    intro hnd i j hi hj hij h1 h2
    cases i with
    | zero =>
     cases j with
     | zero=>omega
     | succ j =>
      simp at h1 h2 hj
      rw [List.filterMap_cons_some h1,List.nodup_cons] at hnd
      apply hnd.1
      rw [List.mem_filterMap]
      refine ⟨l[j],List.getElem_mem hj,?_⟩
      rw [List.getElem?_eq_getElem hj] at h2
      simpa using h2
    | succ i =>
     cases j with
     | zero=>omega
     | succ j =>
      refine ih ?_ i j (by simpa using hi) (by simpa using hj) (by omega) (by simpa using h1) (by simpa using h2)
      cases ho:o.dst with
      | none=>rwa [List.filterMap_cons_none ho] at hnd
      | some d =>
       rw [List.filterMap_cons_some ho,List.nodup_cons] at hnd
       exact hnd.2
  rcases Nat.lt_trichotomy i j with h3 | h3 | h3
  ·exact (key los hnd i j hi hj h3 h1 h2).elim
  ·exact h3
  ·exact (key los hnd j i hj hi h3 h2 h1).elim
 intro l hl hD
 have hlt:∀i ∈ l,i < los.length:=fun i hi=>List.mem_range.1 (hl.subset hi)
 have hlnd:l.Nodup:=hl.symm.nodup List.nodup_range
 have dropc:∀i,i < los.length→los.drop i=los.getD i LO.dfl :: los.drop (i+1):=fun i hi=>by
  rw [List.drop_eq_getElem_cons hi]
  simp [List.getD,List.getElem?_eq_getElem hi]
 have put_ne:∀(ρ:Env) (d:Option Nat) (v:Value) (t:Nat),d≠some t→ρ.put d v t=ρ t:=fun ρ d v t hne=>by
  cases d with
  | none=>rfl
  | some d =>
   have:t≠d:=fun e=>hne (by rw [e])
   simp only [Env.put,Env.set,if_neg this]
 have put_eq:∀(ρ:Env) (v:Value) (t:Nat),ρ.put (some t) v t=v:=fun ρ v t=>by simp [Env.put,Env.set]
 obtain ⟨K,hK⟩:∃K:Env→World→Prop,K=fun ρ' w'=>Q .nrm (ρ.merge ρ' outs) w':=⟨_,rfl⟩
 rw [←hK] at h
 -- the values in the order of the text
 let Vals:Nat→Env→Prop:=fun m ρ1=>∀j,j < m→j < los.length→(los.getD j LO.dfl).cls≤1→∃v,PV P Inv (los.getD j LO.dfl) ρ1 v∧∀t,(los.getD j LO.dfl).dst=some t→ρ1 t=v
 have step1:∀i ρi v,i < los.length→Vals i ρi→((los.getD i LO.dfl).cls≤1→PV P Inv (los.getD i LO.dfl) ρi v)→Vals (i+1) (ρi.put (los.getD i LO.dfl).dst v):=fun i ρi v hi hV hp j hj hjl hjc=>by
  have hre:∀t ∈ (los.getD j LO.dfl).reads,ρi t=(ρi.put (los.getD i LO.dfl).dst v) t:=fun t ht=>(put_ne _ _ _ _ fun e=>by
   have:=hd j i hjl hi (hrd j i t hjl hi e ht)
   omega).symm
  rcases Nat.lt_succ_iff_lt_or_eq.1 hj with hj | rfl
  ·obtain ⟨u,h1,h2⟩:=hV j hj hjl hjc
   refine ⟨u,PV_env (hsl j hjl) hre h1,fun t ht=>?_⟩
   rw [put_ne _ _ _ _ fun e=>by have:=hn i j t hi hjl e ht; omega]
   exact h2 t ht
  ·refine ⟨v,PV_env (hsl j hjl) hre (hp hjc),fun t ht=>?_⟩
   rw [ht]
   exact put_eq _ _ _
 have adv:∀i m ρ1 w1,m≤i→i≤los.length→Inv w1→Vals m ρ1→wpS P Inv (los.drop m) ρ1 w1 K →
   ∃ρi wi,Inv wi∧wpS P Inv (los.drop i) ρi wi K∧Vals i ρi∧(∀t,(∀j,m≤j→j < i→(los.getD j LO.dfl).dst≠some t)→ρi t=ρ1 t)∧((∀j,m≤j→j < i→(los.getD j LO.dfl).cls≤1)→wi=w1):=by
  intro i
  induction i with
  | zero =>
   intro m ρ1 w1 hm _ hi hV hw
   obtain rfl:m=0:=by omega
   exact ⟨ρ1,w1,hi,hw,hV,fun _ _=>rfl,fun _=>rfl⟩
  | succ i ih =>
   intro m ρ1 w1 hm hil hi hV hw
   rcases Nat.lt_or_ge i m with hlt2 | hge
   ·obtain rfl:m=i+1:=by omega
    exact ⟨ρ1,w1,hi,hw,hV,fun _ _=>rfl,fun _=>rfl⟩
   ·obtain ⟨ρi,wi,a1,a2,a3,a4,a5⟩:=ih m ρ1 w1 hge (by omega) hi hV hw
    rw [dropc i (by omega)] at a2
    by_cases hc:(los.getD i LO.dfl).cls≤1
    ·obtain ⟨v,p1,p2⟩:=wpS_pure hc a2
     refine ⟨_,wi,a1,p2,step1 i ρi v (by omega) a3 fun _=>p1,fun t ht=>?_,fun hall2=>a5 fun j h1 h2=>hall2 j h1 (by omega)⟩
     rw [put_ne _ _ _ _ (ht i hge (by omega))]
     exact a4 t fun j h1 h2=>ht j h1 (by omega)
    ·obtain ⟨v,w2,b1,b2⟩:=act_ex (wpS_eff (by omega) a1 a2)
     refine ⟨_,w2,b1,b2,step1 i ρi v (by omega) a3 fun h=>absurd h hc,fun t ht=>?_,fun hall2=>absurd (hall2 i hge (by omega)) hc⟩
     rw [put_ne _ _ _ _ (ht i hge (by omega))]
     exact a4 t fun j h1 h2=>ht j h1 (by omega)
 have key:∀(l2 l1:List Nat) (ρ':Env) (w':World) (m:Nat) (ρ1:Env),l=l1 ++ l2→m≤los.length→(∀j,j < los.length→2≤(los.getD j LO.dfl).cls→(j ∈ l1↔j < m))→Inv w'→wpS P Inv (los.drop m) ρ1 w' K→Vals m ρ1 →
   (∀j ∈ l1,j < m→∀t,(los.getD j LO.dfl).dst=some t→ρ' t=ρ1 t) →
   (∀j ∈ l1,m≤j→∃v,PV P Inv (los.getD j LO.dfl) ρ' v∧∀t,(los.getD j LO.dfl).dst=some t→ρ' t=v) →
   (∀t,(∀j,j < los.length→(los.getD j LO.dfl).dst≠some t)→ρ' t=ρ t∧ρ1 t=ρ t) →
   (∀j ∈ l1,∀j2,j2 < los.length→(deps.getD j 0).testBit j2=true→j2 ∈ l1) →
   wpX P (inOrder los l2) ρ' w' K:=by
  intro l2
  induction l2 with
  | nil =>
   intro l1 ρ' w' m ρ1 he hm heff hi hw hV hA hB hC hDc
   rw [List.append_nil] at he
   subst he
   have hin:∀j,j < los.length→j ∈ l:=fun j hj=>hl.symm.subset (List.mem_range.2 hj)
   obtain ⟨ρe,we,a1,a2,a3,a4,a5⟩:=adv los.length m ρ1 w' hm (Nat.le_refl _) hi hV hw
   have hall2:∀j,m≤j→j < los.length→(los.getD j LO.dfl).cls≤1:=fun j h1 h2=>by
    rcases Nat.lt_or_ge (los.getD j LO.dfl).cls 2 with h3 | h3
    ·omega
    ·have:=(heff j h2 h3).1 (hin j h2)
     omega
   rw [a5 hall2,List.drop_length] at a2
   have hag:∀j,j < los.length→∀t,(los.getD j LO.dfl).dst=some t→ρ' t=ρe t:=by
    intro j
    induction j using Nat.strongRecOn with
    | ind j ih =>
     intro hj t ht
     rcases Nat.lt_or_ge j m with h1 | h1
     ·rw [hA j (hin j hj) h1 t ht,a4 t fun j2 h2 h3 e=>by have:=hn j2 j t h3 hj e ht; omega]
     ·obtain ⟨v,p1,p2⟩:=hB j (hin j hj) h1
      obtain ⟨v',q1,q2⟩:=a3 j hj hj (hall2 j h1 hj)
      have hre:∀t' ∈ (los.getD j LO.dfl).reads,ρ' t'=ρe t':=fun t' ht'=>by
       rcases Classical.em (∃j2,j2 < los.length∧(los.getD j2 LO.dfl).dst=some t') with ⟨j2,h3,h4⟩ | hno
       ·exact ih j2 (hd j j2 hj h3 (hrd j j2 t' hj h3 h4 ht')) h3 t' h4
       ·have hno':∀j2,j2 < los.length→(los.getD j2 LO.dfl).dst≠some t':=fun j2 h3 h4=>hno ⟨j2,h3,h4⟩
        rw [(hC t' hno').1,a4 t' fun j2 h2 h3=>hno' j2 h3,(hC t' hno').2]
      rw [p2 t ht,q2 t ht]
      exact PV_uniq (hall2 j h1 hj) hi (PV_env (hsl j hj) hre p1) q1
   have:ρ'=ρe:=funext fun t=>by
    rcases Classical.em (∃j2,j2 < los.length∧(los.getD j2 LO.dfl).dst=some t) with ⟨j2,h3,h4⟩ | hno
    ·exact hag j2 h3 t h4
    ·have hno':∀j2,j2 < los.length→(los.getD j2 LO.dfl).dst≠some t:=fun j2 h3 h4=>hno ⟨j2,h3,h4⟩
     rw [(hC t hno').1,a4 t fun j2 h2 h3=>hno' j2 h3,(hC t hno').2]
   rw [this]
   exact a2
  | cons i l2 ih =>
   intro l1 ρ' w' m ρ1 he hm heff hinv hw hV hA hB hC hDc
   have hi:i < los.length:=hlt i (by rw [he]; simp)
   have hin:i ∉ l1:=fun hm=>by
    rw [he,List.nodup_append] at hlnd
    exact hlnd.2.2 i hm i (by simp) rfl
   have hl1:∀j ∈ l1,j < los.length:=fun j hj=>hlt j (by rw [he]; simp [hj])
   have before:∀j,j < los.length→(deps.getD i 0).testBit j=true→j ∈ l1:=fun j hj hb=>by
    obtain ⟨r1,r2,e1,e2⟩:=hD i hi j hj hb
    have hlnd':=hlnd
    rw [he] at e1 hlnd'
    rw [(split_unique hlnd' e1).1]; exact e2
   have hDc':∀j ∈ l1 ++ [i],∀j2,j2 < los.length→(deps.getD j 0).testBit j2=true→j2 ∈ l1 ++ [i]:=fun j hj j2 h2 h3=>by
    rcases List.mem_append.1 hj with hj | hj
    ·exact List.mem_append.2 (.inl (hDc j hj j2 h2 h3))
    ·rcases List.mem_singleton.1 hj with rfl
     exact List.mem_append.2 (.inl (before j2 h2 h3))
   -- what an operation that has run reads is not what this one gives
   have hnr:∀j ∈ l1,∀t ∈ (los.getD j LO.dfl).reads,(los.getD i LO.dfl).dst≠some t:=fun j hj t ht e=>hin (hDc j hj i hi (hrd j i t (hl1 j hj) hi e ht))
   have hnri:∀t ∈ (los.getD i LO.dfl).reads,(los.getD i LO.dfl).dst≠some t:=fun t ht e=>by
    have:=hd i i hi hi (hrd i i t hi hi e ht)
    omega
   have hnd2:∀j ∈ l1,∀t,(los.getD j LO.dfl).dst=some t→(los.getD i LO.dfl).dst≠some t:=fun j hj t ht e=>hin (by rw [hn i j t hi (hl1 j hj) e ht]; exact hj)
   -- the text's slots agree with those that are there
   have agree:∀k ρk,m≤k→k≤los.length→Vals k ρk→(∀t,(∀j,m≤j→j < k→(los.getD j LO.dfl).dst≠some t)→ρk t=ρ1 t)→∀j,j ∈ l1→j < k→∀t,(los.getD j LO.dfl).dst=some t→ρ' t=ρk t:=by
    intro k ρk hk hkl a3 a4 j
    induction j using Nat.strongRecOn with
    | ind j ihj =>
     intro hj hjk t ht
     have hjl:=hl1 j hj
     rcases Nat.lt_or_ge j m with h1 | h1
     ·rw [hA j hj h1 t ht,a4 t fun j2 h2 h3 e=>by have:=hn j2 j t (by omega) hjl e ht; omega]
     ·obtain ⟨v,p1,p2⟩:=hB j hj h1
      have hcl:(los.getD j LO.dfl).cls≤1:=by
       rcases Nat.lt_or_ge (los.getD j LO.dfl).cls 2 with h3 | h3
       ·omega
       ·have:=(heff j hjl h3).1 hj
        omega
      obtain ⟨v',q1,q2⟩:=a3 j hjk hjl hcl
      have hre:∀t' ∈ (los.getD j LO.dfl).reads,ρ' t'=ρk t':=fun t' ht'=>by
       rcases Classical.em (∃j2,j2 < los.length∧(los.getD j2 LO.dfl).dst=some t') with ⟨j2,h3,h4⟩ | hno
       ·have hb:=hrd j j2 t' hjl h3 h4 ht'
        exact ihj j2 (hd j j2 hjl h3 hb) (hDc j hj j2 h3 hb) (by have:=hd j j2 hjl h3 hb; omega) t' h4
       ·have hno':∀j2,j2 < los.length→(los.getD j2 LO.dfl).dst≠some t':=fun j2 h3 h4=>hno ⟨j2,h3,h4⟩
        rw [(hC t' hno').1,a4 t' fun j2 h2 h3=>hno' j2 (by omega),(hC t' hno').2]
      rw [p2 t ht,q2 t ht]
      exact PV_uniq hcl hinv (PV_env (hsl j hjl) hre p1) q1
   have reads:∀k ρk,m≤k→k≤los.length→i≤k→Vals k ρk→(∀t,(∀j,m≤j→j < k→(los.getD j LO.dfl).dst≠some t)→ρk t=ρ1 t)→∀t ∈ (los.getD i LO.dfl).reads,ρk t=ρ' t:=fun k ρk hk hkl hik a3 a4 t ht=>by
    rcases Classical.em (∃j2,j2 < los.length∧(los.getD j2 LO.dfl).dst=some t) with ⟨j2,h3,h4⟩ | hno
    ·have hb:=hrd i j2 t hi h3 h4 ht
     exact (agree k ρk hk hkl a3 a4 j2 (before j2 h3 hb) (by have:=hd i j2 hi h3 hb; omega) t h4).symm
    ·have hno':∀j2,j2 < los.length→(los.getD j2 LO.dfl).dst≠some t:=fun j2 h3 h4=>hno ⟨j2,h3,h4⟩
     rw [(hC t hno').1,a4 t fun j2 h2 h3=>hno' j2 (by omega),(hC t hno').2]
   have hCn:∀(v v':Value) (ρ2:Env),(∀t,(∀j,j < los.length→(los.getD j LO.dfl).dst≠some t)→ρ2 t=ρ t)→∀t,(∀j,j < los.length→(los.getD j LO.dfl).dst≠some t)→(ρ'.put (los.getD i LO.dfl).dst v) t=ρ t∧ρ2 t=ρ t:=fun v v' ρ2 h2 t ht=>⟨by rw [put_ne _ _ _ _ (ht i hi)]; exact (hC t ht).1,h2 t ht⟩
   refine act_wpX ?_
   by_cases hcl:(los.getD i LO.dfl).cls≤1
   · -- no effect
    have hPV:∃v,PV P Inv (los.getD i LO.dfl) ρ' v∧(i < m→∀t,(los.getD i LO.dfl).dst=some t→ρ1 t=v):=by
     rcases Nat.lt_or_ge i m with h1 | h1
     ·obtain ⟨v,q1,q2⟩:=hV i h1 hi hcl
      exact ⟨v,PV_env (hsl i hi) (reads m ρ1 (Nat.le_refl _) hm (by omega) hV fun _ _=>rfl) q1,fun _=>q2⟩
     ·obtain ⟨ρi,wi,a1,a2,a3,a4,a5⟩:=adv i m ρ1 w' h1 (by omega) hinv hV hw
      rw [dropc i hi] at a2
      obtain ⟨v,p1,_⟩:=wpS_pure hcl a2
      exact ⟨v,PV_env (hsl i hi) (reads i ρi h1 (by omega) (Nat.le_refl _) a3 a4) p1,fun h=>by omega⟩
    obtain ⟨v,hv,hvm⟩:=hPV
    refine act_mono ?_ (hv w' hinv)
    rintro x w'' ⟨rfl,rfl⟩
    refine ih (l1 ++ [i]) _ w'' m ρ1 (by rw [he]; simp) hm (fun j hj h2=>?_) hinv hw hV (fun j hj hjm t ht=>?_) (fun j hj hjm=>?_) (hCn x x ρ1 fun t ht=>(hC t ht).2) hDc'
    ·rw [List.mem_append,List.mem_singleton,heff j hj h2]
     constructor
     ·rintro (h3 | rfl)
      ·exact h3
      ·omega
     ·exact .inl
    ·rcases List.mem_append.1 hj with hj | hj
     ·rw [put_ne _ _ _ _ (hnd2 j hj t ht)]
      exact hA j hj hjm t ht
     ·rcases List.mem_singleton.1 hj with rfl
      rw [ht,put_eq]
      exact (hvm hjm t ht).symm
    ·rcases List.mem_append.1 hj with hj | hj
     ·obtain ⟨u,p1,p2⟩:=hB j hj hjm
      refine ⟨u,PV_env (hsl j (hl1 j hj)) (fun t ht=>(put_ne _ _ _ _ (hnr j hj t ht)).symm) p1,fun t ht=>?_⟩
      rw [put_ne _ _ _ _ (hnd2 j hj t ht)]
      exact p2 t ht
     ·rcases List.mem_singleton.1 hj with rfl
      refine ⟨x,PV_env (hsl j hi) (fun t ht=>(put_ne _ _ _ _ (hnri t ht)).symm) hv,fun t ht=>?_⟩
      rw [ht,put_eq]
   · -- an effect
    have h2i:2≤(los.getD i LO.dfl).cls:=by omega
    have him:m≤i:=by
     rcases Nat.lt_or_ge i m with h1 | h1
     ·exact absurd ((heff i hi h2i).2 h1) hin
     ·exact h1
    have hpu:∀j,m≤j→j < i→(los.getD j LO.dfl).cls≤1:=fun j h1 h2=>by
     rcases Nat.lt_or_ge (los.getD j LO.dfl).cls 2 with h3 | h3
     ·omega
     ·have:=(heff j (by omega) h3).1 (before j (by omega) (hch i j hi (by omega) h2i h3 h2))
      omega
    obtain ⟨ρi,wi,a1,a2,a3,a4,a5⟩:=adv i m ρ1 w' him (by omega) hinv hV hw
    have ew:=a5 hpu
    subst ew
    rw [dropc i hi] at a2
    have hact:=act_env (hsl i hi) (reads i ρi him (by omega) (Nat.le_refl _) a3 a4) (wpS_eff h2i a1 a2)
    refine act_mono ?_ hact
    rintro v w'' ⟨hi2,hw2⟩
    refine ih (l1 ++ [i]) _ w'' (i+1) _ (by rw [he]; simp) (by omega) (fun j hj h2=>?_) hi2 hw2 (step1 i ρi v hi a3 fun h=>absurd h hcl) (fun j hj hjm t ht=>?_) (fun j hj hjm=>?_) (hCn v v _ fun t ht=>?_) hDc'
    ·rw [List.mem_append,List.mem_singleton,heff j hj h2]
     constructor
     ·rintro (h3 | rfl)
      ·omega
      ·omega
     ·intro h3
      rcases Nat.lt_or_ge j i with h4 | h4
      ·left
       rcases Nat.lt_or_ge j m with h5 | h5
       ·exact h5
       ·have:=hpu j h5 h4; omega
      ·right; omega
    ·rcases List.mem_append.1 hj with hj | hj
     ·have hji:j < i:=by
       rcases Nat.lt_or_ge j i with h4 | h4
       ·exact h4
       ·have:j=i:=by omega
        exact absurd (this ▸ hj) hin
      rw [put_ne _ _ _ _ (hnd2 j hj t ht),put_ne _ _ _ _ (hnd2 j hj t ht)]
      exact agree i ρi him (by omega) a3 a4 j hj hji t ht
     ·rcases List.mem_singleton.1 hj with rfl
      rw [ht,put_eq,put_eq]
    ·rcases List.mem_append.1 hj with hj | hj
     ·obtain ⟨u,p1,p2⟩:=hB j hj (by omega)
      refine ⟨u,PV_env (hsl j (hl1 j hj)) (fun t ht=>(put_ne _ _ _ _ (hnr j hj t ht)).symm) p1,fun t ht=>?_⟩
      rw [put_ne _ _ _ _ (hnd2 j hj t ht)]
      exact p2 t ht
     ·rcases List.mem_singleton.1 hj with rfl
      omega
    ·rw [put_ne _ _ _ _ (ht i hi),a4 t fun j h1 h2=>ht j (by omega)]
     exact (hC t ht).2
 have:=key l [] ρ w.drew 0 ρ rfl (Nat.zero_le _) (fun j _ _=>by simp) h0 (by simpa using h) (fun j hj=>by omega) (fun j hj=>by cases hj) (fun j hj=>by cases hj) (fun t _=>⟨rfl,rfl⟩) (fun j hj=>by cases hj)
 rw [hK] at this
 simpa [drawnW] using this
end
section
variable {P:Program} {Inv:World→Prop} {ρ:Env} {w:World} {K:Env→World→Prop} {ty:Nat}
def rdI (P:Program) (Inv:World→Prop) (op:Op) (ty:Nat) (ρ:Env) [k:Kont Value]:Prop:=∃v,(∀w',Inv w'→opS P 1 op ty ρ w' fun x _=>x=v)∧k.run v
def invH (p:Prop) [k:Kont Unit]:Prop:=p∧k.run ()
theorem invH_mk {p:Prop} {KU:Kont Unit} (h:p) (hk:KU.run ()):@invH p KU:=⟨h,hk⟩
theorem rdI_mk {op:Op} {KV:Kont Value} (v:Value) (h:∀w',Inv w'→opS P 1 op ty ρ w' fun x _=>x=v) (hk:KV.run v):@rdI P Inv op ty ρ KV:=⟨v,h,hk⟩
@[simp ↓] theorem wpS_nil:wpS P Inv [] ρ w K=K ρ w:=propext Iff.rfl
@[simp ↓] theorem wpS_0 {d:Option Nat} {op:Op} {l:List LO}:wpS P Inv (⟨0,d,op,ty,none⟩ :: l) ρ w K=opS P 0 op ty ρ w fun v _=>wpS P Inv l (ρ.put d v) w K:=propext Iff.rfl
@[simp ↓] theorem wpS_1 {d:Option Nat} {op:Op} {l:List LO}:wpS P Inv (⟨1,d,op,ty,none⟩ :: l) ρ w K=@rdI P Inv op ty ρ ⟨fun v=>wpS P Inv l (ρ.put d v) w K⟩:=propext Iff.rfl
@[simp ↓] theorem wpS_2 {d:Option Nat} {op:Op} {l:List LO}:wpS P Inv (⟨2,d,op,ty,none⟩ :: l) ρ w K=opS P 2 op ty ρ w fun v w'=>@invH (Inv w') ⟨fun _=>wpS P Inv l (ρ.put d v) w' K⟩:=propext Iff.rfl
@[simp ↓] theorem wpS_3 {d:Option Nat} {op:Op} {l:List LO}:wpS P Inv (⟨3,d,op,ty,none⟩ :: l) ρ w K=opS P 3 op ty ρ w fun v w'=>@invH (Inv w') ⟨fun _=>wpS P Inv l (ρ.put d v) w' K⟩:=propext Iff.rfl
@[simp ↓] theorem wpS_g0 {g:Nat} {b:Bool} {d:Option Nat} {op:Op} {l:List LO}:wpS P Inv (⟨0,d,op,ty,some (g,b)⟩ :: l) ρ w K =
  @guH (ρ g) b ⟨fun t=>if t=true then opS P 0 op ty ρ w fun v _=>wpS P Inv l (ρ.put d v) w K else wpS P Inv l (ρ.put d undef) w K⟩:=by simp [guH,wpS,stQ]
@[simp ↓] theorem wpS_g1 {g:Nat} {b:Bool} {d:Option Nat} {op:Op} {l:List LO}:wpS P Inv (⟨1,d,op,ty,some (g,b)⟩ :: l) ρ w K =
  @guH (ρ g) b ⟨fun t=>if t=true then @rdI P Inv op ty ρ ⟨fun v=>wpS P Inv l (ρ.put d v) w K⟩ else wpS P Inv l (ρ.put d undef) w K⟩:=by simp [guH,wpS,stQ,rdI]
@[simp ↓] theorem wpS_g2 {g:Nat} {b:Bool} {d:Option Nat} {op:Op} {l:List LO}:wpS P Inv (⟨2,d,op,ty,some (g,b)⟩ :: l) ρ w K =
  @guH (ρ g) b ⟨fun t=>if t=true then opS P 2 op ty ρ w fun v w'=>@invH (Inv w') ⟨fun _=>wpS P Inv l (ρ.put d v) w' K⟩ else wpS P Inv l (ρ.put d undef) w K⟩:=by simp [guH,wpS,stQ,invH]
end
end Go.W
end
section
namespace Go.W
theorem wpX_app {P:Program} {K:Env→World→Prop} {b:List LO}:∀(a:List LO) (ρ:Env) (w:World),wpX P a ρ w (fun ρ' w'=>wpX P b ρ' w' K)→wpX P (a ++ b) ρ w K
 | [],_,_,h=>h
 | ⟨c,d,op,ty,none⟩ :: l,ρ,w,h=>by
  simp only [List.cons_append,wpX] at h ⊢
  exact stepL_mono (fun v w' h=>wpX_app l _ _ h) h
 | ⟨c,d,op,ty,some (g,b')⟩ :: l,ρ,w,h=>by
  simp only [List.cons_append,wpX,gd] at h ⊢
  exact ⟨fun e=>stepL_mono (fun v w' h=>wpX_app l _ _ h) (h.1 e),fun e=>wpX_app l _ _ (h.2 e)⟩
theorem any_last {P:Program} {los:List LO} {o:LO} {deps:List Nat} {Q:Ex→Env→World→Prop} {ρ:Env} {w:World} (outs0:List Nat) (hlast:∀j,j < los.length→(deps.getD los.length 0).testBit j=true) (hns:isSel o.op=false) (hrd:∀t ∈ o.reads,t ∈ outs0)
  (h:wpL P (.anyR los deps outs0) (fun _ ρ' w'=>act P o ρ' w' fun _ w''=>Q .nrm ρ w'') ρ w):wpL P (.anyR (los ++ [o]) deps []) Q ρ w:=by
 intro l hl hD
 have hlen:(los ++ [o]).length=los.length+1:=by simp
 rw [hlen] at hl hD
 obtain ⟨n,hn⟩:∃n,n=los.length:=⟨_,rfl⟩
 rw [←hn] at hl hD hlast
 obtain ⟨l1,l2,e⟩:=List.append_of_mem (hl.mem_iff.2 (List.mem_range.2 (Nat.lt_succ_self n)))
 have hnd:l.Nodup:=hl.symm.nodup List.nodup_range
 have h2:l2=[]:=by
  cases l2 with
  | nil=>rfl
  | cons j l2 =>
   exfalso
   have hj:j ∈ l:=by rw [e]; simp
   have hjn:j < n+1:=List.mem_range.1 (hl.subset hj)
   rw [e] at hnd
   have hnd2:=hnd
   rw [List.nodup_append] at hnd2
   have hjne:j≠n:=fun h=>by
    have:=hnd2.2.1
    rw [List.nodup_cons] at this
    exact this.1 (by rw [h]; simp)
   obtain ⟨r1,r2,e1,e2⟩:=hD n (by omega) j (by omega) (hlast j (by omega))
   have h3:=(split_unique hnd (e.symm.trans e1)).1
   rw [←h3] at e2
   exact hnd2.2.2 j e2 j (by simp) rfl
 subst h2
 have hp:l1.Perm (List.range n):=by
  rw [e,List.range_succ] at hl
  exact (List.perm_append_right_iff _).1 hl
 have hD1:HoldsD deps n l1:=fun i hi j hj hb=>by
  obtain ⟨r1,r2,e1,e2⟩:=hD i (by omega) j (by omega) hb
  rw [e] at e1
  rcases List.eq_nil_or_concat r2 with rfl | ⟨r3,x,rfl⟩
  ·have:=(List.append_inj' e1 rfl).2
   simp at this
   omega
  ·have e3:l1 ++ [n]=(r1 ++ i :: r3) ++ [x]:=by rw [e1]; simp
   exact ⟨r1,r3,(List.append_inj' e3 rfl).1,e2⟩
 have h3:=h l1 (by rw [←hn]; exact hp) (by rw [←hn]; exact hD1)
 have e4:inOrder (los ++ [o]) l=inOrder los l1 ++ [o]:=by
  rw [e]
  unfold inOrder
  rw [List.map_append]
  congr 1
  ·apply List.map_congr_left
   intro i hi
   have:=List.mem_range.1 (hp.subset hi)
   rw [List.getD_eq_getElem?_getD,List.getD_eq_getElem?_getD,List.getElem?_append_left (by omega)]
  ·simp [List.getD_eq_getElem?_getD,hn]
 rw [e4]
 refine wpX_app _ _ _ (wpX_mono (fun ρ1 w1 h5=>?_) _ _ _ h3)
 refine act_wpX (act_env (ρ:=ρ.merge ρ1 outs0) hns (fun t ht=>?_) h5)
 rw [merge_at,if_pos (hrd t ht)]
end Go.W
namespace Go.W
def endChk (L:List LO) (deps:List Nat) (outs0:List Nat):Bool :=
 (List.range L.dropLast.length).all (fun j=>(deps.getD L.dropLast.length 0).testBit j) && !isSel (L.getLastD LO.dfl).op && (L.getLastD LO.dfl).reads.all (fun t=>outs0.contains t) && decide (L≠[])
theorem any_end {P:Program} {L:List LO} {deps:List Nat} {Q:Ex→Env→World→Prop} {ρ:Env} {w:World} (outs0:List Nat) (hc:endChk L deps outs0=true)
  (h:wpL P (.anyR L.dropLast deps outs0) (fun _ ρ' w'=>act P (L.getLastD LO.dfl) ρ' w' fun _ w''=>Q .nrm ρ w'') ρ w):wpL P (.anyR L deps []) Q ρ w:=by
 unfold endChk at hc
 simp only [Bool.and_eq_true,Bool.not_eq_true',List.all_eq_true,List.mem_range,List.contains_iff_mem,decide_eq_true_eq] at hc
 obtain ⟨⟨⟨h1,h2⟩,h3⟩,h4⟩:=hc
 have e:L=L.dropLast ++ [L.getLastD LO.dfl]:=by
  have:=List.dropLast_concat_getLast h4
  rw [List.getLastD_eq_getLast?,List.getLast?_eq_some_getLast h4]
  exact this.symm
 rw [e]
 refine any_last outs0 h1 h2 h3 h
end Go.W
end
