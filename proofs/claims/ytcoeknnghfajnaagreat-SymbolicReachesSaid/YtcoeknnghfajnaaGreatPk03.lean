/-
  A part of the proof of this claim's statement (Lib3): plain theorems; no conditions beyond those each names.
-/
import Derived.Test.YtcoeknnghfajnaaGreatPk02
set_option maxRecDepth 100000
set_option linter.unusedSimpArgs false
set_option linter.unusedVariables false
set_option linter.unusedSectionVars false
section
namespace Go.W
open Go
section
variable (P:Program)
def gd (v:Value) (b:Bool) (A B:Prop):Prop:=(v=.bool b→A)∧(v≠.bool b→B)
def wpT:List LO→Env→World→(Env→World→Prop)→Prop
 | [],ρ,w,K=>K ρ w
 | ⟨c,d,op,ty,none⟩ :: l,ρ,w,K=>opS P c op ty ρ w fun v w'=>wpT l (ρ.put d v) w' K
 | ⟨c,d,op,ty,some (g,b)⟩ :: l,ρ,w,K=>gd (ρ g) b (opS P c op ty ρ w fun v w'=>wpT l (ρ.put d v) w' K) (wpT l (ρ.put d undef) w K)
end
inductive Ex where
 | nrm
 | exit (id:Nat)
 | ret
inductive LCode where
 | skip
 | region (draw:Bool) (alts:List (List LO)) (outs:List Nat)
 | anyR (los:List LO) (deps:List Nat) (outs:List Nat)
 | seq (a b:LCode)
 | cond (c:Operand) (a b:LCode)
 | block (id:Nat) (c:LCode)
 | loop (c:LCode)
 | exit (id:Nat)
 | ret
section
variable (P:Program)
def wpX:List LO→Env→World→(Env→World→Prop)→Prop
 | [],ρ,w,K=>K ρ w
 | ⟨c,d,op,ty,none⟩ :: l,ρ,w,K=>stepL P c op ty ρ w fun v w'=>wpX l (ρ.put d v) w' K
 | ⟨c,d,op,ty,some (g,b)⟩ :: l,ρ,w,K=>gd (ρ g) b (stepL P c op ty ρ w fun v w'=>wpX l (ρ.put d v) w' K) (wpX l (ρ.put d undef) w K)
end
def drawnW (draw:Bool) (w:World):World:=if draw then { w with drawn:=w.drawn+1 } else w
def thenK (K:Env→World→Prop) (Q:Ex→Env→World→Prop):Ex→Env→World→Prop
 | .nrm=>K
 | e=>Q e
def blockK (id:Nat) (Q:Ex→Env→World→Prop):Ex→Env→World→Prop
 | .exit id'=>if id'=id then Q .nrm else Q (.exit id')
 | e=>Q e
def condS:Value→Prop→Prop→Prop
 | .bool t,A,B=>(t=true→A)∧(t=false→B)
 | _,_,_=>False
theorem condS_iff {v:Value} {A B:Prop}:condS v A B↔∃t,v=.bool t∧(t=true→A)∧(t=false→B):=by
 constructor
 ·intro h
  unfold condS at h
  split at h
  ·exact ⟨_,rfl,h⟩
  ·cases h
 ·rintro ⟨t,rfl,h⟩; exact h
def wpAlts (P:Program) (ρ:Env) (w:World) (K:Env→World→Prop):List (List LO)→Prop
 | []=>True
 | [l]=>wpT P l ρ w K
 | l :: ls=>wpT P l ρ w K∧wpAlts P ρ w K ls
def LO.dfl:LO:=⟨0,none,.move (.const undef),0,none⟩
def inOrder (los:List LO) (l:List Nat):List LO:=l.map fun i=>los.getD i LO.dfl
def wpL (P:Program):LCode→(Ex→Env→World→Prop)→Env→World→Prop
 | .skip,Q,ρ,w=>Q .nrm ρ w
 | .region draw alts outs,Q,ρ,w=>wpAlts P ρ (drawnW draw w) (fun ρ' w'=>Q .nrm (ρ.merge ρ' outs) w') alts
 | .anyR los deps outs,Q,ρ,w=>∀l:List Nat,l.Perm (List.range los.length)→HoldsD deps los.length l→wpX P (inOrder los l) ρ (drawnW true w) fun ρ' w'=>Q .nrm (ρ.merge ρ' outs) w'
 | .seq a b,Q,ρ,w=>wpL P a (thenK (wpL P b Q) Q) ρ w
 | .cond c a b,Q,ρ,w=>condS (ρ.ev c) (wpL P a Q ρ w) (wpL P b Q ρ w)
 | .block id c,Q,ρ,w=>wpL P c (blockK id Q) ρ w
 | .loop c,Q,ρ,w=>∃I:Nat→Env→World→Prop,(∃n,I n ρ w)∧∀n ρ' w',I n ρ' w'→wpL P c (thenK (fun ρ'' w''=>∃m,m < n∧I m ρ'' w'') Q) ρ' w'
 | .exit id,Q,ρ,w=>Q (.exit id) ρ w
 | .ret,Q,ρ,w=>Q .ret ρ w
section
variable {P:Program}
theorem wpT_mono {K K':Env→World→Prop} (h:∀ρ w,K ρ w→K' ρ w):∀(l:List LO) (ρ:Env) (w:World),wpT P l ρ w K→wpT P l ρ w K'
 | [],_,_,hh=>h _ _ hh
 | ⟨c,d,op,ty,none⟩ :: l,ρ,w,hh=>by
  simp only [wpT] at hh ⊢
  exact opS_mono (fun v w' hk=>wpT_mono h l _ _ hk) hh
 | ⟨c,d,op,ty,some (g,b)⟩ :: l,ρ,w,hh=>by
  simp only [wpT,gd] at hh ⊢
  exact ⟨fun e=>opS_mono (fun v w' hk=>wpT_mono h l _ _ hk) (hh.1 e),fun e=>wpT_mono h l _ _ (hh.2 e)⟩
theorem wpX_mono {K K':Env→World→Prop} (h:∀ρ w,K ρ w→K' ρ w):∀(l:List LO) (ρ:Env) (w:World),wpX P l ρ w K→wpX P l ρ w K'
 | [],_,_,hh=>h _ _ hh
 | ⟨c,d,op,ty,none⟩ :: l,ρ,w,hh=>by
  simp only [wpX] at hh ⊢
  exact stepL_mono (fun v w' hk=>wpX_mono h l _ _ hk) hh
 | ⟨c,d,op,ty,some (g,b)⟩ :: l,ρ,w,hh=>by
  simp only [wpX,gd] at hh ⊢
  exact ⟨fun e=>stepL_mono (fun v w' hk=>wpX_mono h l _ _ hk) (hh.1 e),fun e=>wpX_mono h l _ _ (hh.2 e)⟩
theorem wpAlts_iff {ρ:Env} {w:World} {K:Env→World→Prop}:∀(ls:List (List LO)),wpAlts P ρ w K ls↔∀l ∈ ls,wpT P l ρ w K
 | []=>by simp [wpAlts]
 | [l]=>by simp [wpAlts]
 | l :: l' :: ls=>by
  have:=wpAlts_iff (ρ:=ρ) (w:=w) (K:=K) (l' :: ls)
  simp only [wpAlts,this,List.mem_cons]
  constructor
  ·rintro ⟨h1,h2⟩ x (rfl | hx)
   ·exact h1
   ·exact h2 x hx
  ·intro h
   exact ⟨h l (.inl rfl),fun x hx=>h x (.inr hx)⟩
theorem wpL_mono:∀(c:LCode) {Q Q':Ex→Env→World→Prop} {ρ:Env} {w:World},(∀e ρ w,Q e ρ w→Q' e ρ w)→wpL P c Q ρ w→wpL P c Q' ρ w
 | .skip,Q,Q',ρ,w,h,hh=>h _ _ _ hh
 | .exit _,Q,Q',ρ,w,h,hh=>h _ _ _ hh
 | .ret,Q,Q',ρ,w,h,hh=>h _ _ _ hh
 | .region draw alts outs,Q,Q',ρ,w,h,hh=>by
  simp only [wpL,wpAlts_iff] at hh ⊢
  exact fun l hl=>wpT_mono (fun _ _=>h _ _ _) l ρ _ (hh l hl)
 | .anyR los deps outs,Q,Q',ρ,w,h,hh=>by
  simp only [wpL] at hh ⊢
  exact fun l hl hd=>wpX_mono (fun _ _=>h _ _ _) _ ρ _ (hh l hl hd)
 | .seq a b,Q,Q',ρ,w,h,hh=>by
  simp only [wpL] at hh ⊢
  refine wpL_mono a ?_ hh
  intro e ρ w hk
  cases e <;> simp only [thenK] at hk ⊢
  ·exact wpL_mono b h hk
  ·exact h _ _ _ hk
  ·exact h _ _ _ hk
 | .cond c a b,Q,Q',ρ,w,h,hh=>by
  simp only [wpL,condS_iff] at hh ⊢
  obtain ⟨t,h1,h2,h3⟩:=hh
  exact ⟨t,h1,fun e=>wpL_mono a h (h2 e),fun e=>wpL_mono b h (h3 e)⟩
 | .block id c,Q,Q',ρ,w,h,hh=>by
  simp only [wpL] at hh ⊢
  refine wpL_mono c ?_ hh
  intro e ρ w hk
  cases e <;> simp only [blockK] at hk ⊢
  ·exact h _ _ _ hk
  ·split <;> rename_i hid <;> simp only [hid,if_true,if_false] at hk <;> exact h _ _ _ hk
  ·exact h _ _ _ hk
 | .loop c,Q,Q',ρ,w,h,hh=>by
  simp only [wpL] at hh ⊢
  obtain ⟨I,h0,h1⟩:=hh
  refine ⟨I,h0,fun n ρ' w' hI=>wpL_mono c ?_ (h1 n ρ' w' hI)⟩
  intro e ρ w hk
  cases e <;> simp only [thenK] at hk ⊢
  ·exact hk
  ·exact h _ _ _ hk
  ·exact h _ _ _ hk
end
def readsOk (M:Nat) (xs:Array Operand):Bool:=xs.toList.all fun
 | .tmp t=>M.testBit t
 | _=>true
def isSel:Op→Bool
 | .select ..=>true
 | _=>false
def lowGuard (ops:Array Oper) (M:Nat):Option (Nat × Bool)→Option (Option (Nat × Bool))
 | none=>some none
 | some (j,b)=>match (ops[j]?).bind (·.dst) with
  | some s=>if M.testBit s then some (some (s,b)) else none
  | none=>none
def dstOk (n:Nat):Option Nat→Bool
 | some d=>decide (d < n)
 | none=>true
def addDst (M:Nat):Option Nat→Nat
 | some d=>M ||| 2 ^ d
 | none=>M
def lowOps (types:Array TypeInfo) (ops:Array Oper) (n:Nat):Nat→List Nat→Option (List LO)
 | _,[]=>some []
 | M,i :: l =>
  match ops[i]? with
  | none=>none
  | some o =>
  if readsOk M o.op.operands && !isSel o.op && dstOk n o.dst then
   match lowGuard ops M o.guard with
   | none=>none
   | some g=>match lowOps types ops n (addDst M o.dst) l with
    | none=>none
    | some r=>some (⟨cls types o.op,o.dst,o.op,o.type,g⟩ :: r)
  else none
def lowAll (types:Array TypeInfo) (ops:Array Oper) (n G:Nat):List (List Nat)→Option (List (List LO))
 | []=>some []
 | r :: rs=>match lowOps types ops n G r,lowAll types ops n G rs with
  | some l,some ls=>some (l :: ls)
  | _,_=>none
def outsOf (G:Nat) (ops:List Oper):List Nat:=((ops.filterMap (·.dst)).filter (G.testBit ·)).eraseDups
def maskD (ops:Array Oper) (G bits:Nat):Nat→Nat
 | 0=>G
 | k+1=>if bits.testBit k then addDst (maskD ops G bits k) ((ops[k]?).bind (·.dst)) else maskD ops G bits k
def lowAt (types:Array TypeInfo) (ops:Array Oper) (n G:Nat) (cert:List Nat) (i:Nat):Option LO :=
 match ops[i]? with
 | none=>none
 | some o=>if readsOk (maskD ops G (cert.getD i 0) ops.size) o.op.operands && !isSel o.op && dstOk n o.dst then
   match lowGuard ops (maskD ops G (cert.getD i 0) ops.size) o.guard with
   | none=>none
   | some g=>some ⟨cls types o.op,o.dst,o.op,o.type,g⟩
  else none
def lowEach (types:Array TypeInfo) (ops:Array Oper) (n G:Nat) (cert:List Nat):List Nat→Option (List LO)
 | []=>some []
 | i :: l=>match lowAt types ops n G cert i,lowEach types ops n G cert l with
  | some a,some r=>some (a :: r)
  | _,_=>none
def lowAny (types:Array TypeInfo) (ops:Array Oper) (n G:Nat):Option LCode :=
 if backOk ops && certOk ops (mkCert ops) then
  match lowEach types ops n G (mkCert ops) (List.range ops.size) with
  | some los=>some (.anyR los (mkCert ops) (outsOf G ops.toList))
  | none=>none
 else none
def fewOrders (types:Array TypeInfo) (ops:Array Oper):Option (List (List Nat)) :=
 if 11 < (ops.toList.filter fun o=>decide (1≤cls types o.op)).length then none else match ordersOf types ops with
 | some reps=>if reps.length≤20 then some reps else none
 | none=>none
def lower (types:Array TypeInfo) (G n:Nat):Code→Option LCode
 | .skip=>some .skip
 | .region _ ops draw =>
  match (if draw then fewOrders types ops else some [List.range ops.size]) with
  | none=>lowAny types ops n G
  | some reps=>match lowAll types ops n G reps with
   | some ls=>some (.region draw ls (outsOf G ops.toList))
   | none=>none
 | .seq a b=>match lower types G n a,lower types G n b with
  | some a,some b=>some (.seq a b)
  | _,_=>none
 | .cond c a b=>if readsOk G #[c] then match lower types G n a,lower types G n b with
  | some a,some b=>some (.cond c a b)
  | _,_=>none
  else none
 | .block id c=>match lower types G n c with
  | some c=>some (.block id c)
  | none=>none
 | .loop c=>match lower types G n c with
  | some c=>some (.loop c)
  | none=>none
 | .exit id=>some (.exit id)
 | .ret=>some .ret
 | _=>none
structure LFn where
 body:LCode
 results:List ResultVar
def resOk (G:Nat) (rs:List ResultVar):Bool:=rs.all fun
 | .tmp t=>G.testBit t
 | .cell a _=>G.testBit a
def lowerFn (types:Array TypeInfo) (G:Nat) (fn:Func):Option LFn :=
 match fn.body with
 | none=>none
 | some c=>if resOk G fn.results.toList then match lower types G fn.ntmps c with
  | some l=>some ⟨l,fn.results.toList⟩
  | none=>none
  else none
def Agree (M n:Nat) (a:Act) (ρ:Env):Prop:=a.defers=[]∧a.tmps.size=n∧∀t,M.testBit t=true→a.tmps.getD t undef=ρ t
theorem testBit_addDst {M d t:Nat}:(addDst M (some d)).testBit t=(M.testBit t || decide (d=t)):=by
 simp only [addDst,Nat.testBit_or,Nat.testBit_two_pow]
theorem getD_set {xs:Array Value} {d t:Nat} {v:Value}:(xs.setIfInBounds d v).getD t undef=if t=d∧d < xs.size then v else xs.getD t undef:=by
 simp only [Array.getD_eq_getD_getElem?,Array.getElem?_setIfInBounds]
 by_cases h:d=t
 ·subst h
  by_cases h2:d < xs.size
  ·simp [h2]
  ·simp [h2]
 ·rw [if_neg h,if_neg (by intro hh; exact h hh.1.symm)]
theorem Agree.put {M n:Nat} {a:Act} {ρ:Env} (h:Agree M n a ρ) {d:Option Nat} (hd:dstOk n d=true) (v:Value):Agree (addDst M d) n (a.put d v) (ρ.put d v):=by
 cases d with
 | none=>exact h
 | some d =>
  obtain ⟨h1,h2,h3⟩:=h
  have hd':d < n:=by simpa [dstOk] using hd
  refine ⟨h1,by simpa [Act.put] using h2,fun t ht=>?_⟩
  rw [testBit_addDst] at ht
  simp only [Act.put,Env.put,Env.set,getD_set]
  by_cases htd:t=d
  ·subst htd; simp [h2,hd']
  ·rw [if_neg (by intro hh; exact htd hh.1),if_neg htd]
   refine h3 t ?_
   have:¬d=t:=fun e=>htd e.symm
   simpa [this] using ht
theorem Agree.eval {M n:Nat} {a:Act} {ρ:Env} (h:Agree M n a ρ) {xs:Array Operand} (hr:readsOk M xs=true):∀x ∈ xs,a.eval x=ρ.ev x:=by
 intro x hx
 have:=List.all_eq_true.1 hr x (by simpa using hx)
 cases x with
 | tmp t=>exact h.2.2 t this
 | const v=>rfl
 | global g=>rfl
 | func f=>rfl
theorem exec_agree {M n:Nat} {a:Act} {ρ:Env} (h:Agree M n a ρ) {o:Oper} (hr:readsOk M o.op.operands=true) (hs:isSel o.op=false):execOp a.eval o=LO.exec o.op o.type ρ:=by
 have:=execOp_congr (ρ:=a.eval) (ρ':=ρ.ev) o (fun cs b he=>by rw [he] at hs; cases hs) (h.eval hr)
 rw [this]
 rfl
def guardSays (ρ:Env) (wt:Bool):Option (Nat × Bool)→Prop
 | none=>wt=true
 | some (s,b)=>wt=true↔ρ s=.bool b
theorem guard_agree {M n:Nat} {a:Act} {ρ:Env} (h:Agree M n a ρ) {ops:Array Oper} {o:Oper} {g:Option (Nat × Bool)} (hg:lowGuard ops M o.guard=some g) :
  guardSays ρ (wantedAt ops o a) g:=by
 unfold wantedAt Region.wanted
 cases hog:o.guard with
 | none =>
  rw [hog] at hg
  simp only [lowGuard,Option.some.injEq] at hg
  subst hg
  simp [guardSays]
 | some jb =>
  obtain ⟨j,b⟩:=jb
  rw [hog] at hg
  simp only [lowGuard] at hg
  split at hg
  ·rename_i s hs
   split at hg
   ·rename_i hM
    simp only [Option.some.injEq] at hg
    subst hg
    simp only [guardSays]
    unfold yielded
    rw [hs]
    simp only [Option.bind_some]
    have h3:=h.2.2 s hM
    simp only [Array.getD_eq_getD_getElem?] at h3
    cases hx:a.tmps[s]? with
    | none =>
     rw [hx] at h3
     simp only [Option.getD_none] at h3
     rw [←h3]
     simp [undef]
    | some x =>
     rw [hx] at h3
     simp only [Option.getD_some] at h3
     rw [←h3]
     cases x <;> simp
   ·cases hg
  ·cases hg
section
variable {P:Program} {types:Array TypeInfo} {ops:Array Oper} {n:Nat}
theorem stepC_of_L {M:Nat} {a:Act} {ρ:Env} (h:Agree M n a ρ) {o:Oper} (hr:readsOk M o.op.operands=true) (hs:isSel o.op=false) {c:Nat} {w:World} {K:Value→World→Prop}
  (hk:stepL P c o.op o.type ρ w K):stepC P c o a w K:=by
 unfold stepL at hk
 unfold stepC
 have he:=exec_agree h hr hs
 split
 ·obtain ⟨v,hv,hk⟩:=hk; exact ⟨v,fun w'=>by rw [he]; exact hv w',hk⟩
 ·obtain ⟨v,hv,hk⟩:=hk; exact ⟨v,fun w' hw'=>by rw [he]; exact hv w' hw',hk⟩
 ·obtain ⟨v,w',⟨hv,hx⟩,hk⟩:=hk; exact ⟨v,w',⟨by rw [he]; exact hv,hx⟩,hk⟩
 ·split at hk
  ·rename_i h0 _ _ ; exact absurd rfl h0
  ·rename_i h0 h1 _ ; exact absurd rfl (by assumption)
  ·rename_i h0 h1 _ ; exact absurd rfl (by assumption)
  ·unfold stepE; rw [he]; unfold step2 upon2 at hk; exact hk
theorem wpN_of_T {G:Nat} {ρ0:Env} {K:Env→World→Prop} {Q:Act→World→Prop} (D:Nat→Prop)
  (hQ:∀M a ρ w,(∀t,G.testBit t=true→M.testBit t=true)→Agree M n a ρ→(∀t,¬D t→ρ t=ρ0 t)→K ρ w→Q a w) (hds:∀(i:Nat) (o:Oper),ops[i]? = some o→∀d,o.dst=some d→D d) :
  ∀(l:List Nat) (M:Nat) (ll:List LO) (a:Act) (ρ:Env) (w:World),lowOps types ops n M l=some ll→(∀t,G.testBit t=true→M.testBit t=true)→Agree M n a ρ →
  (∀t,¬D t→ρ t=ρ0 t)→wpT P ll ρ w K→wpN P types ops Q l a w:=by
 intro l
 induction l with
 | nil =>
  intro M ll a ρ w hl hG ha hD h
  simp only [lowOps,Option.some.injEq] at hl
  subst hl
  exact hQ M a ρ w hG ha hD h
 | cons i l ih =>
  intro M ll a ρ w hl hG ha hD h
  simp only [lowOps] at hl
  split at hl
  ·cases hl
  ·rename_i o hoi
   split at hl
   ·rename_i hok
    simp only [Bool.and_eq_true,Bool.not_eq_true'] at hok
    obtain ⟨⟨hr,hs⟩,hdst⟩:=hok
    split at hl
    ·cases hl
    ·rename_i g hg
     split at hl
     ·cases hl
     ·rename_i r hrest
      simp only [Option.some.injEq] at hl
      subst hl
      have hG':∀t,G.testBit t=true→(addDst M o.dst).testBit t=true:=by
       intro t ht
       cases hd:o.dst with
       | none=>exact hG t ht
       | some d=>rw [testBit_addDst,hG t ht]; rfl
      have hD':∀v,∀t,¬D t→(ρ.put o.dst v) t=ρ0 t:=by
       intro v t ht
       cases hd:o.dst with
       | none=>exact hD t ht
       | some d =>
        have:t≠d:=fun e=>ht (e ▸ hds i o hoi d hd)
        simp only [Env.put,Env.set,if_neg this]
        exact hD t ht
      have next:∀v w',wpT P r (ρ.put o.dst v) w' K→wpN P types ops Q l (a.put o.dst v) w':=fun v w' hh =>
       ih _ r _ _ w' hrest hG' (ha.put hdst v) (hD' v) hh
      have hgu:=guard_agree ha hg
      unfold wpN stI
      simp only [hoi]
      cases g with
      | none =>
       simp only [guardSays] at hgu
       rw [if_pos hgu]
       simp only [wpT] at h
       exact stepC_of_L ha hr hs (opS_sound (opS_mono next h))
      | some sb =>
       obtain ⟨s,b⟩:=sb
       simp only [guardSays] at hgu
       simp only [wpT,gd] at h
       split
       ·rename_i hw
        exact stepC_of_L ha hr hs (opS_sound (opS_mono next (h.1 (hgu.1 hw))))
       ·rename_i hw
        exact next _ _ (h.2 fun e=>hw (hgu.2 e))
   ·cases hl
theorem wpN_of_X {G:Nat} {ρ0:Env} {K:Env→World→Prop} {Q:Act→World→Prop} (D:Nat→Prop)
  (hQ:∀M a ρ w,(∀t,G.testBit t=true→M.testBit t=true)→Agree M n a ρ→(∀t,¬D t→ρ t=ρ0 t)→K ρ w→Q a w) (hds:∀(i:Nat) (o:Oper),ops[i]? = some o→∀d,o.dst=some d→D d) :
  ∀(l:List Nat) (M:Nat) (ll:List LO) (a:Act) (ρ:Env) (w:World),lowOps types ops n M l=some ll→(∀t,G.testBit t=true→M.testBit t=true)→Agree M n a ρ →
  (∀t,¬D t→ρ t=ρ0 t)→wpX P ll ρ w K→wpN P types ops Q l a w:=by
 intro l
 induction l with
 | nil =>
  intro M ll a ρ w hl hG ha hD h
  simp only [lowOps,Option.some.injEq] at hl
  subst hl
  exact hQ M a ρ w hG ha hD h
 | cons i l ih =>
  intro M ll a ρ w hl hG ha hD h
  simp only [lowOps] at hl
  split at hl
  ·cases hl
  ·rename_i o hoi
   split at hl
   ·rename_i hok
    simp only [Bool.and_eq_true,Bool.not_eq_true'] at hok
    obtain ⟨⟨hr,hs⟩,hdst⟩:=hok
    split at hl
    ·cases hl
    ·rename_i g hg
     split at hl
     ·cases hl
     ·rename_i r hrest
      simp only [Option.some.injEq] at hl
      subst hl
      have hG':∀t,G.testBit t=true→(addDst M o.dst).testBit t=true:=by
       intro t ht
       cases hd:o.dst with
       | none=>exact hG t ht
       | some d=>rw [testBit_addDst,hG t ht]; rfl
      have hD':∀v,∀t,¬D t→(ρ.put o.dst v) t=ρ0 t:=by
       intro v t ht
       cases hd:o.dst with
       | none=>exact hD t ht
       | some d =>
        have:t≠d:=fun e=>ht (e ▸ hds i o hoi d hd)
        simp only [Env.put,Env.set,if_neg this]
        exact hD t ht
      have next:∀v w',wpX P r (ρ.put o.dst v) w' K→wpN P types ops Q l (a.put o.dst v) w':=fun v w' hh =>
       ih _ r _ _ w' hrest hG' (ha.put hdst v) (hD' v) hh
      have hgu:=guard_agree ha hg
      unfold wpN stI
      simp only [hoi]
      cases g with
      | none =>
       simp only [guardSays] at hgu
       rw [if_pos hgu]
       simp only [wpX] at h
       exact stepC_of_L ha hr hs (stepL_mono next h)
      | some sb =>
       obtain ⟨s,b⟩:=sb
       simp only [guardSays] at hgu
       simp only [wpX,gd] at h
       split
       ·rename_i hw
        exact stepC_of_L ha hr hs (stepL_mono next (h.1 (hgu.1 hw)))
       ·rename_i hw
        exact next _ _ (h.2 fun e=>hw (hgu.2 e))
   ·cases hl
theorem lowAll_mem {G:Nat}:∀{reps:List (List Nat)} {ls:List (List LO)},lowAll types ops n G reps=some ls→∀r ∈ reps,∃l ∈ ls,lowOps types ops n G r=some l
 | [],_,_,r,hr=>by cases hr
 | r0 :: rs,ls,h,r,hr=>by
  simp only [lowAll] at h
  split at h
  ·rename_i l0 ls0 h1 h2
   simp only [Option.some.injEq] at h
   subst h
   rcases List.mem_cons.1 hr with rfl | hr
   ·exact ⟨l0,by simp,h1⟩
   ·obtain ⟨l,hl,he⟩:=lowAll_mem h2 r hr
    exact ⟨l,by simp [hl],he⟩
  ·cases h
theorem maskD_bit {G bits t:Nat}:∀(k:Nat),(maskD ops G bits k).testBit t=true→G.testBit t=true∨∃j,j < k∧bits.testBit j=true∧(ops[j]?).bind (·.dst)=some t
 | 0,h=>.inl h
 | k+1,h=>by
  simp only [maskD] at h
  split at h
  ·rename_i hb
   cases hd:(ops[k]?).bind (·.dst) with
   | none =>
    rw [hd] at h
    rcases maskD_bit k h with h1 | ⟨j,hj,h1⟩
    ·exact .inl h1
    ·exact .inr ⟨j,by omega,h1⟩
   | some d =>
    rw [hd,testBit_addDst] at h
    simp only [Bool.or_eq_true,decide_eq_true_eq] at h
    rcases h with h | rfl
    ·rcases maskD_bit k h with h1 | ⟨j,hj,h1⟩
     ·exact .inl h1
     ·exact .inr ⟨j,by omega,h1⟩
    ·exact .inr ⟨k,by omega,hb,hd⟩
  ·rcases maskD_bit k h with h1 | ⟨j,hj,h1⟩
   ·exact .inl h1
   ·exact .inr ⟨j,by omega,h1⟩
theorem readsOk_mono {M M':Nat} (hm:∀t,M.testBit t=true→M'.testBit t=true) {xs:Array Operand} (h:readsOk M xs=true):readsOk M' xs=true:=by
 simp only [readsOk,List.all_eq_true] at h ⊢
 intro x hx
 have:=h x hx
 cases x <;> simp_all
theorem lowGuard_mono {M M':Nat} (hm:∀t,M.testBit t=true→M'.testBit t=true) {g:Option (Nat × Bool)} {r:Option (Nat × Bool)} (h:lowGuard ops M g=some r):lowGuard ops M' g=some r:=by
 cases g with
 | none=>exact h
 | some jb =>
  obtain ⟨j,b⟩:=jb
  simp only [lowGuard] at h ⊢
  cases hd:(ops[j]?).bind (·.dst) with
  | none=>rw [hd] at h; cases h
  | some s =>
   rw [hd] at h
   simp only at h ⊢
   split at h
   ·rename_i hs; rw [if_pos (hm s hs)]; exact h
   ·cases h
theorem lowEach_at {G:Nat} {cert:List Nat}:∀{l:List Nat} {los:List LO},lowEach types ops n G cert l=some los→los.length=l.length∧∀(k:Nat) (i:Nat),l[k]? = some i→lowAt types ops n G cert i=some (los.getD k LO.dfl)
 | [],los,h=>by
  simp only [lowEach,Option.some.injEq] at h
  subst h; simp
 | i :: l,los,h=>by
  simp only [lowEach] at h
  split at h
  ·rename_i a r h1 h2
   simp only [Option.some.injEq] at h
   subst h
   obtain ⟨e1,e2⟩:=lowEach_at h2
   refine ⟨by simp [e1],fun k j hk=>?_⟩
   cases k with
   | zero=>simp at hk; subst hk; simpa using h1
   | succ k=>simp at hk; have:=e2 k j hk; simpa using this
  ·cases h
theorem lowOps_any {G:Nat} {cert:List Nat} {los:List LO} (hlos:∀i,i < ops.size→lowAt types ops n G cert i=some (los.getD i LO.dfl)):∀(l:List Nat) (M:Nat),(∀i ∈ l,i < ops.size) →
  (∀l1 i l2,l=l1 ++ i :: l2→∀t,(maskD ops G (cert.getD i 0) ops.size).testBit t=true→M.testBit t=true∨∃j ∈ l1,(ops[j]?).bind (·.dst)=some t) →
  lowOps types ops n M l=some (inOrder los l):=by
 intro l
 induction l with
 | nil=>intro M _ _; rfl
 | cons i l ih =>
  intro M hlt hd
  have hi:=hlt i (by simp)
  have hlo:=hlos i hi
  have hm:∀t,(maskD ops G (cert.getD i 0) ops.size).testBit t=true→M.testBit t=true:=fun t ht=>by
   rcases hd [] i l rfl t ht with h | ⟨j,hj,_⟩
   ·exact h
   ·cases hj
  simp only [lowOps]
  unfold lowAt at hlo
  split at hlo
  ·cases hlo
  ·rename_i o ho
   split at hlo
   ·rename_i hok
    simp only [Bool.and_eq_true,Bool.not_eq_true'] at hok
    obtain ⟨⟨hr,hs⟩,hdst⟩:=hok
    split at hlo
    ·cases hlo
    ·rename_i g hg
     simp only [Option.some.injEq] at hlo
     rw [if_pos (by simp [readsOk_mono hm hr,hs,hdst]),lowGuard_mono hm hg]
     simp only
     have hrest:=ih (addDst M o.dst) (fun k hk=>hlt k (by simp [hk])) (fun l1 k l2 he t ht=>by
      rcases hd (i :: l1) k l2 (by rw [he]; rfl) t ht with h | ⟨j,hj,h⟩
      ·left
       cases hdd:o.dst with
       | none=>exact h
       | some d=>rw [testBit_addDst,h]; rfl
      ·rcases List.mem_cons.1 hj with rfl | hj
       ·left
        rw [ho] at h
        simp only [Option.bind_some] at h
        rw [h,testBit_addDst]
        simp
       ·exact .inr ⟨j,hj,h⟩)
     rw [hrest]
     simp only [inOrder,List.map_cons,←hlo]
   ·cases hlo
theorem wp_region_any {id:Nat} {Q:Exit→Act→World→Prop} {a:Act} {w:World} (hm:P.follows .mixedOrders=true) (hok:(backOk ops && certOk ops (mkCert ops))=true)
  (h:∀l:List Nat,l.Perm (List.range ops.size)→HoldsD (mkCert ops) ops.size l→wpN P types ops (fun a' w'=>Q .normal a' w') l a { w with drawn:=w.drawn+1 }):(Code.region id ops true).wp P Q a w:=by
 simp only [Bool.and_eq_true] at hok
 refine wp_region_draw fun t=>?_
 simp only [Region.schedule,hm,Bool.true_or,if_true]
 obtain ⟨l,hl,hp,he⟩:=sched_spec hok.1 t
 rw [hl]
 exact wpOps_of_N _ _ _ (h l hp (holds_cert hok.1 hok.2 hp he))
theorem merge_at (ρ ρ':Env) (t:Nat):∀(l:List Nat),(ρ.merge ρ' l) t=if t ∈ l then ρ' t else ρ t
 | []=>by simp [Env.merge]
 | d :: l=>by
  simp only [Env.merge,Env.set,merge_at ρ ρ' t l,List.mem_cons]
  by_cases h:t=d
  ·simp [h]
  ·simp [h]
def liftQ (G n:Nat) (Q:Ex→Env→World→Prop):Exit→Act→World→Prop
 | .normal,a,w=>∃ρ,Agree G n a ρ∧Q .nrm ρ w
 | .exit id,a,w=>∃ρ,Agree G n a ρ∧Q (.exit id) ρ w
 | .ret,a,w=>∃ρ,Agree G n a ρ∧Q .ret ρ w
 | _,_,_=>False
theorem wp_loop_ix {c:Code} {Q:Exit→Act→World→Prop} {a:Act} {w:World} (I:Nat→Act→World→Prop) (m0:Nat) (h₀:I m0 a w)
  (round:∀m a w,I m a w→c.wp P (Exit.then (fun a' w'=>∃m',m' < m∧I m' a' w') Q) a w):(Code.loop c).wp P Q a w:=by
 intro b k cs
 have key:∀n a w,I n a w →
   ∃e a' w',Q e a' w'∧Arrives P (lone (b.at a (.code c :: .inLoop c :: k)) cs w) b k cs e a' w':=by
  intro n
  induction n using Nat.strongRecOn with
  | _ n ih =>
   intro a w hI
   obtain ⟨e,a₁,w₁,hq,harr⟩:=round n a w hI b (.inLoop c :: k) cs
   cases e with
   | normal =>
    obtain ⟨m',hlt,hI₁⟩:=hq
    obtain ⟨e₂,a₂,w₂,hq₂,harr₂⟩:=ih m' hlt a₁ w₁ hI₁
    exact ⟨e₂,a₂,w₂,hq₂,.of_steps (Steps.trans harr (.one step_inLoop)) harr₂⟩
   | exit id=>exact ⟨_,a₁,w₁,hq,.pass (x:=.inLoop c) rfl (fun _ _=>.inl (by simp)) harr⟩
   | goto l=>exact ⟨_,a₁,w₁,hq,.pass (x:=.inLoop c) rfl (fun _ _=>.inl (by simp)) harr⟩
   | ret=>exact ⟨_,a₁,w₁,hq,.pass (x:=.inLoop c) rfl (fun _ _=>.inl (by simp)) harr⟩
   | panic ch=>exact ⟨_,a₁,w₁,hq,.pass (x:=.inLoop c) rfl (fun _ _=>.inl (by simp)) harr⟩
   | outgrown=>exact ⟨_,a₁,w₁,hq,.pass (x:=.inLoop c) rfl (fun _ _=>.inl (by simp)) harr⟩
 obtain ⟨e,a',w',hq,harr⟩:=key _ a w h₀
 exact ⟨e,a',w',hq,.of_steps (.one step_loop) harr⟩
theorem Exit.then_lift {G:Nat} {K:Act→World→Prop} {Q:Ex→Env→World→Prop} {K':Env→World→Prop} (h:∀a ρ w,Agree G n a ρ→K' ρ w→K a w) :
  ∀e a w,liftQ G n (thenK K' Q) e a w→Exit.then K (liftQ G n Q) e a w:=by
 intro e a w hh
 cases e <;> simp only [liftQ,thenK] at hh <;> simp only [Exit.then,liftQ]
 case normal=>obtain ⟨ρ,h1,h2⟩:=hh; exact h a ρ w h1 h2
 all_goals exact hh
theorem dst_mem_outs {G:Nat} {l:List Oper} {t:Nat} (hG:G.testBit t=true) (h:∃o ∈ l,o.dst=some t):t ∈ outsOf G l:=by
 obtain ⟨o,ho,hd⟩:=h
 simp only [outsOf,List.mem_eraseDups,List.mem_filter,List.mem_filterMap]
 exact ⟨⟨o,ho,hd⟩,hG⟩
theorem sound {G:Nat} (hm:P.follows .mixedOrders=true):∀(c:Code) (lc:LCode) (Q:Ex→Env→World→Prop) (a:Act) (ρ:Env) (w:World),lower types G n c=some lc→Agree G n a ρ→wpL P lc Q ρ w →
  c.wp P (liftQ G n Q) a w:=by
 intro c
 induction c with
 | skip =>
  intro lc Q a ρ w hl ha h
  simp only [lower,Option.some.injEq] at hl
  subst hl
  exact wp_skip ⟨ρ,ha,h⟩
 | region id ops draw =>
  intro lc Q a ρ w hl ha h
  simp only [lower] at hl
  split at hl
  ·rename_i hno
   have hdraw:draw=true:=by
    cases draw with
    | true=>rfl
    | false=>simp at hno
   subst hdraw
   unfold lowAny at hl
   split at hl
   ·rename_i hok
    split at hl
    ·rename_i los hlos
     simp only [Option.some.injEq] at hl
     subst hl
     simp only [wpL] at h
     obtain ⟨hlen,hat⟩:=lowEach_at hlos
     have hlen:los.length=ops.size:=by simpa using hlen
     rw [hlen] at h
     refine wp_region_any (types:=types) hm hok fun l hl hD=>?_
     have hlow:=lowOps_any (types:=types) (n:=n) (G:=G) (cert:=mkCert ops) (los:=los) (fun i hi=>hat i i (by simp [hi])) l G (fun i hi=>List.mem_range.1 (hl.subset hi)) (fun l1 i l2 he t ht=>by
      rcases maskD_bit _ ht with h1 | ⟨j,hj,hb,hd⟩
      ·exact .inl h1
      ·have hil:i < ops.size:=List.mem_range.1 (hl.subset (by rw [he]; simp))
       obtain ⟨r1,r2,e1,e2⟩:=hD i hil j hj hb
       have hnd:l.Nodup:=hl.symm.nodup List.nodup_range
       rw [he] at e1 hnd
       have:=(split_unique hnd e1).1
       exact .inr ⟨j,by rw [this]; exact e2,hd⟩)
     have h':=h l hl hD
     refine wpN_of_X (P:=P) (types:=types) (Q:=fun a' w'=>liftQ G n Q .normal a' w') (fun t=>∃o ∈ ops.toList,o.dst=some t) (ρ0:=ρ) (G:=G)
      (K:=fun ρ' w'=>Q .nrm (ρ.merge ρ' (outsOf G ops.toList)) w') ?_ ?_ l G _ a ρ _ hlow (fun _ h=>h) ha (fun _ _=>rfl) (by simpa [drawnW] using h')
     ·intro M a' ρ' w' hGM ha' hD hk
      refine ⟨_,⟨ha'.1,ha'.2.1,fun t ht=>?_⟩,hk⟩
      rw [merge_at,ha'.2.2 t (hGM t ht)]
      split
      ·rfl
      ·rename_i hno
       exact hD t fun hx=>hno (dst_mem_outs ht hx)
     ·intro i o hoi d hd
      have:=Array.getElem?_eq_some_iff.1 hoi
      exact ⟨o,by rw [←this.2]; simp,hd⟩
    ·cases hl
   ·cases hl
  ·rename_i reps hreps
   split at hl
   ·rename_i ls hls
    simp only [Option.some.injEq] at hl
    subst hl
    simp only [wpL,wpAlts_iff] at h
    have hT:∀rep ∈ reps,wpN P types ops (fun a' w'=>liftQ G n Q .normal a' w') rep a (drawnW draw w):=by
     intro rep hrep
     obtain ⟨l,hl,hlo⟩:=lowAll_mem hls rep hrep
     refine wpN_of_T (P:=P) (types:=types) (Q:=fun a' w'=>liftQ G n Q .normal a' w') (fun t=>∃o ∈ ops.toList,o.dst=some t) (ρ0:=ρ) (G:=G)
      (K:=fun ρ' w'=>Q .nrm (ρ.merge ρ' (outsOf G ops.toList)) w') ?_ ?_ rep G l a ρ _ hlo (fun _ h=>h) ha (fun _ _=>rfl) (h l hl)
     ·intro M a' ρ' w' hGM ha' hD hk
      refine ⟨_,⟨ha'.1,ha'.2.1,fun t ht=>?_⟩,hk⟩
      rw [merge_at,ha'.2.2 t (hGM t ht)]
      split
      ·rfl
      ·rename_i hno
       exact hD t fun hx=>hno (dst_mem_outs ht hx)
     ·intro i o hoi d hd
      have:=Array.getElem?_eq_some_iff.1 hoi
      exact ⟨o,by rw [←this.2]; simp,hd⟩
    cases draw with
    | true =>
     simp only [if_true] at hreps
     have hreps:ordersOf types ops=some reps:=by
      unfold fewOrders at hreps
      split at hreps
      ·cases hreps
      split at hreps
      ·rename_i r hr
       split at hreps
       ·rw [hr]; exact hreps
       ·cases hreps
      ·cases hreps
     exact wp_region_orders hm hreps (by simpa [drawnW] using hT)
    | false =>
     simp only [Bool.false_eq_true,if_false,Option.some.injEq] at hreps
     subst hreps
     exact wp_region_text (types:=types) (by simpa [drawnW] using hT)
   ·cases hl
 | seq x y ihx ihy =>
  intro lc Q a ρ w hl ha h
  simp only [lower] at hl
  split at hl
  ·rename_i lx ly hx hy
   simp only [Option.some.injEq] at hl
   subst hl
   simp only [wpL] at h
   exact wp_seq (wp_mono (ihx _ _ _ _ _ hx ha h) (Exit.then_lift fun a' ρ' w' ha' hk=>ihy _ _ _ _ _ hy ha' hk))
  ·cases hl
 | cond c x y ihx ihy =>
  intro lc Q a ρ w hl ha h
  simp only [lower] at hl
  split at hl
  ·rename_i hr
   split at hl
   ·rename_i lx ly hx hy
    simp only [Option.some.injEq] at hl
    subst hl
    simp only [wpL,condS_iff] at h
    obtain ⟨t,h1,h2,h3⟩:=h
    have he:a.eval c=.bool t:=(ha.eval hr c (by simp)).trans h1
    exact wp_cond_split he (fun e=>ihx _ _ _ _ _ hx ha (h2 e)) (fun e=>ihy _ _ _ _ _ hy ha (h3 e))
   ·cases hl
  ·cases hl
 | block id x ihx =>
  intro lc Q a ρ w hl ha h
  simp only [lower] at hl
  split at hl
  ·rename_i lx hx
   simp only [Option.some.injEq] at hl
   subst hl
   simp only [wpL] at h
   refine wp_block (wp_mono (ihx _ _ _ _ _ hx ha h) ?_)
   intro e a' w' hh
   cases e <;> simp only [liftQ,blockK] at hh <;> simp only [Exit.inBlock,liftQ]
   case exit id' =>
    obtain ⟨ρ',h1,h2⟩:=hh
    split <;> rename_i hid <;> simp only [hid,if_true,if_false] at h2 <;> exact ⟨ρ',h1,h2⟩
   all_goals exact hh
  ·cases hl
 | loop x ihx =>
  intro lc Q a ρ w hl ha h
  simp only [lower] at hl
  split at hl
  ·rename_i lx hx
   simp only [Option.some.injEq] at hl
   subst hl
   simp only [wpL] at h
   obtain ⟨I,⟨m0,h0⟩,h1⟩:=h
   refine wp_loop_ix (fun m a' w'=>∃ρ',Agree G n a' ρ'∧I m ρ' w') m0 ⟨ρ,ha,h0⟩ ?_
   rintro m a' w' ⟨ρ',ha',hI⟩
   refine wp_mono (ihx _ _ _ _ _ hx ha' (h1 m ρ' w' hI)) (Exit.then_lift ?_)
   rintro a'' ρ'' w'' ha'' ⟨m',hlt,hI'⟩
   exact ⟨m',hlt,ρ'',ha'',hI'⟩
  ·cases hl
 | exit id =>
  intro lc Q a ρ w hl ha h
  simp only [lower,Option.some.injEq] at hl
  subst hl
  exact wp_exit ⟨ρ,ha,h⟩
 | ret =>
  intro lc Q a ρ w hl ha h
  simp only [lower,Option.some.injEq] at hl
  subst hl
  exact wp_ret ⟨ρ,ha,h⟩
 | _=>intro lc Q a ρ w hl; simp [lower] at hl
def resOne (P:Program) (ρ:Env):ResultVar→Sem Value
 | .tmp t=>pure (ρ t)
 | .cell a t=>do loadVar t (←asAddr (ρ a))
def resAll (P:Program) (rs:List ResultVar) (ρ:Env):Sem Value:=do
 let vs ←rs.mapM (resOne P ρ)
 pure (match vs with | [v]=>v | vs=>.tuple vs.toArray)
def postL (P:Program) (rs:List ResultVar) (R:Ending→World→Prop):Ex→Env→World→Prop
 | .exit _,_,_=>False
 | _,ρ,w=>∃v,(resAll P rs ρ).run P w=.ok v w∧R (.returned v) w
theorem resAll_eq {G:Nat} {a:Act} {ρ:Env} (ha:Agree G n a ρ) (fn:Func) (hr:resOk G fn.results.toList=true):results fn a.tmps=resAll P fn.results.toList ρ:=by
 unfold results resAll
 rw [Array.mapM_eq_mapM_toList]
 have hone:∀(rs:List ResultVar),resOk G rs=true→(rs.mapM fun
   | .tmp t=>pure (a.tmps.getD t undef)
   | .cell b t=>do loadVar t (←asAddr (a.tmps.getD b undef)))=rs.mapM (resOne P ρ):=by
  intro rs hrs
  induction rs with
  | nil=>rfl
  | cons x rs ih =>
   simp only [resOk,List.all_cons,Bool.and_eq_true] at hrs
   rw [List.mapM_cons,List.mapM_cons,ih (by simpa [resOk] using hrs.2)]
   cases x with
   | tmp t=>simp only [resOne,ha.2.2 t hrs.1]
   | cell b t=>simp only [resOne,ha.2.2 b hrs.1]
 rw [←hone _ hr]
 simp only [map_eq_pure_bind,bind_assoc,pure_bind]
 congr
 funext vs
 congr
 match vs with
 | []=>rfl
 | [v]=>rfl
 | _ :: _ :: _=>rfl
theorem args_agree (G n:Nat) (args:List Value) (hn:args.length≤n):Agree G n { tmps:=args.toArray ++ Array.replicate (n - args.toArray.size) undef,defers:=[] } (Env.args args):=by
 refine ⟨rfl,by simp; omega,fun t _=>?_⟩
 simp only [Env.args,Array.getD_eq_getD_getElem?,Array.getElem?_append,List.size_toArray,List.getD_eq_getElem?_getD]
 split
 ·simp
 ·rename_i h
  rw [List.getElem?_eq_none (by omega)]
  simp only [Option.getD_none]
  rw [Array.getElem?_replicate]
  split <;> simp
theorem enter {f:FuncId} {fn:Func} {G:Nat} {lf:LFn} {args:List Value} {w:World} {R:Ending→World→Prop} (hf:P.funcs[f]? = some fn) (hm:P.follows .mixedOrders=true)
  (hl:lowerFn types G fn=some lf) (hn:args.length≤fn.ntmps) (h:wpL P lf.body (postL P lf.results R) (Env.args args) w):Calls P f args.toArray w R:=by
 unfold lowerFn at hl
 split at hl
 ·cases hl
 ·rename_i c hc
  split at hl
  ·rename_i hr
   split at hl
   ·rename_i l hlow
    simp only [Option.some.injEq] at hl
    subst hl
    refine calls_of_wp hf hc (wp_mono (sound hm c l _ _ _ _ hlow (args_agree G fn.ntmps args hn) h) ?_)
    intro e a' w' hh
    cases e <;> simp only [liftQ,postL] at hh <;> simp only [bodyPost]
    case exit id=>obtain ⟨_,_,hh⟩:=hh; exact hh
    case normal=>obtain ⟨ρ,ha,v,hv,hR⟩:=hh; exact ⟨ha.1,v,by rw [resAll_eq ha fn hr]; exact hv,hR⟩
    case ret=>obtain ⟨ρ,ha,v,hv,hR⟩:=hh; exact ⟨ha.1,v,by rw [resAll_eq ha fn hr]; exact hv,hR⟩
    all_goals exact hh.elim
   ·cases hl
  ·cases hl
end
end Go.W
end
