/-
  A part of the proof of this claim's statement (Lib1): plain theorems; no conditions beyond those each names.
-/
import Derived.Orders
import Derived.Still
import Derived.KernelRfl
set_option maxRecDepth 100000
set_option linter.unusedSimpArgs false
set_option linter.unusedVariables false
set_option linter.unusedSectionVars false
section
namespace Go.W
open Go
def ptrType (types:Array TypeInfo) (t:TypeId):Bool :=
 match Region.shape types t with
 | some (.pointer _) | some .unsafePointer | some (.struct _) | some (.array ..)=>true
 | _=>false
def isNilConst:Operand→Bool
 | .const (.pointer none)=>true
 | _=>false
def cls (types:Array TypeInfo):Op→Nat
 | .move _ | .assign _ | .pick .. | .build .. | .nilCheck _ | .fieldAddr .. | .field .. | .indexAddr .. | .index .. | .extract .. | .unOp .. | .makeInterface ..
 | .makeFunc .. | .slice .. | .typeAssert ..=>0
 | .binOp op t _ y _=>match op with
  | .eql | .neq=>if ptrType types t && !isNilConst y then 1 else 0
  | _=>0
 | .convert src dst _=>match Region.shape types src,Region.shape types dst with
  | some (.slice _),_ | _,some (.slice _) | none,_ | _,none=>2
  | _,_=>0
 | .load .. | .lookup ..=>1
 | .alloc .. | .box .. | .buildSlice .. | .makeMap .. | .makeSlice ..=>3
 | .call { callee:=.builtin b,argTypes,.. }=>match b with
  | .len | .cap=>match (argTypes[0]?).bind (Region.shape types) with
   | some .string | some (.slice _) | some (.array ..)=>0
   | _=>1
  | .min | .max=>0
  | _=>2
 | _=>2
section
variable (P:Program)
def stepE (o:Oper) (a:Act) (w:World) (K:Value→World→Prop):Prop :=
 match (execOp a.eval o).run P w with
 | .ok (.value v) w'=>K v w'
 | .ok .skip w'=>K undef w'
 | .ok (.enter f args) w'=>Calls P f args w' fun e w''=>∃v,e=.returned v∧K v w''
 | _=>False
def PureV (o:Oper) (a:Act) (v:Value):Prop:=∀w',(execOp a.eval o).run P w'=.ok (.value v) w'
def _root_.Go.W.ExtH (w w':World):Prop:=∀(b:Nat) (o:Obj),w.heap[b]? = some o→w'.heap[b]? = some o
def ReadV (o:Oper) (a:Act) (w:World) (v:Value):Prop:=∀w',ExtH w w'→(execOp a.eval o).run P w'=.ok (.value v) w'
def NewV (o:Oper) (a:Act) (w:World) (v:Value) (w':World):Prop:=(execOp a.eval o).run P w=.ok (.value v) w'∧ExtH w w'
def stepC (c:Nat) (o:Oper) (a:Act) (w:World) (K:Value→World→Prop):Prop :=
 match c with
 | 0=>∃v,PureV P o a v∧K v w
 | 1=>∃v,ReadV P o a w v∧K v w
 | 3=>∃v w',NewV P o a w v w'∧K v w'
 | _=>stepE P o a w K
end
theorem ExtH.refl (w:World):ExtH w w:=fun _ _ h=>h
theorem ExtH.trans {a b c:World} (h:ExtH a b) (k:ExtH b c):ExtH a c:=fun i o hi=>k i o (h i o hi)
section
variable {P:Program} {types:Array TypeInfo} {ops:Array Oper}
theorem stepE_mono {o:Oper} {a:Act} {w:World} {K K':Value→World→Prop} (h:∀v w,K v w→K' v w) (hh:stepE P o a w K):stepE P o a w K':=by
 unfold stepE at *
 generalize (execOp a.eval o).run P w=r at *
 cases r with
 | ok n w' =>
  cases n <;> simp only at hh ⊢
  case value v=>exact h _ _ hh
  case skip=>exact h _ _ hh
  case enter f args=>exact hh.mono fun e w'' ⟨v,he,hk⟩=>⟨v,he,h _ _ hk⟩
 | halt x w'=>simp only at hh
theorem stepC_mono {c:Nat} {o:Oper} {a:Act} {w:World} {K K':Value→World→Prop} (h:∀v w,K v w→K' v w) (hh:stepC P c o a w K):stepC P c o a w K':=by
 unfold stepC at *
 split at hh
 ·obtain ⟨v,hv,hk⟩:=hh; exact ⟨v,hv,h _ _ hk⟩
 ·obtain ⟨v,hv,hk⟩:=hh; exact ⟨v,hv,h _ _ hk⟩
 ·obtain ⟨v,w',hv,hk⟩:=hh; exact ⟨v,w',hv,h _ _ hk⟩
 ·exact stepE_mono h hh
theorem PureV.stepE {o:Oper} {a:Act} {v:Value} {w:World} {K:Value→World→Prop} (h:PureV P o a v) (hk:K v w):stepE P o a w K:=by
 unfold Go.W.stepE; rw [h w]; exact hk
theorem ReadV.stepE {o:Oper} {a:Act} {v:Value} {w:World} {K:Value→World→Prop} (h:ReadV P o a w v) (hk:K v w):stepE P o a w K:=by
 unfold Go.W.stepE; rw [h w (ExtH.refl w)]; exact hk
theorem NewV.stepE {o:Oper} {a:Act} {v:Value} {w w':World} {K:Value→World→Prop} (h:NewV P o a w v w') (hk:K v w'):stepE P o a w K:=by
 unfold Go.W.stepE; rw [h.1]; exact hk
theorem PureV.unique {o:Oper} {a:Act} {v u:Value} (h:PureV P o a v) (h':PureV P o a u):v=u:=by
 have h1:=h default
 rw [h' default] at h1
 injection h1 with h2 _
 injection h2 with h3
 exact h3.symm
theorem stepE_some {o:Oper} {a:Act} {w:World} {K:Value→World→Prop} (h:stepE P o a w K):∃v w',K v w':=by
 unfold stepE at h
 generalize (execOp a.eval o).run P w=r at h
 cases r with
 | ok n w' =>
  cases n <;> simp only at h
  case value v=>exact ⟨_,_,h⟩
  case skip=>exact ⟨_,_,h⟩
  case enter f args =>
   obtain ⟨e,w'',fr,⟨v,_,hk⟩,_⟩:=h []
   exact ⟨v,w'',hk⟩
 | halt x w'=>simp only at h
theorem stepC_some {c:Nat} {o:Oper} {a:Act} {w:World} {K:Value→World→Prop} (h:stepC P c o a w K):∃v w',K v w':=by
 unfold stepC at h
 split at h
 ·obtain ⟨v,hv,hk⟩:=h; exact ⟨v,w,hk⟩
 ·obtain ⟨v,hv,hk⟩:=h; exact ⟨v,w,hk⟩
 ·obtain ⟨v,w',hv,hk⟩:=h; exact ⟨v,w',hk⟩
 ·exact stepE_some h
theorem stepC_wp {c:Nat} {o:Oper} {a:Act} {w:World} {K:Act→World→Prop} {Q:Exit→Act→World→Prop} (h:stepC P c o a w fun v w'=>K (a.put o.dst v) w'):o.wp P a w K Q:=by
 have h':stepE P o a w fun v w'=>K (a.put o.dst v) w':=by
  unfold stepC at h
  split at h
  ·obtain ⟨v,hv,hk⟩:=h; exact hv.stepE hk
  ·obtain ⟨v,hv,hk⟩:=h; exact hv.stepE hk
  ·obtain ⟨v,w',hv,hk⟩:=h; exact hv.stepE hk
  ·exact h
 unfold Oper.wp
 unfold stepE at h'
 generalize (execOp a.eval o).run P w=r at *
 cases r with
 | ok n w' =>
  cases n <;> simp only at h' <;> simp only [Oper.upon]
  case value v=>exact h'
  case skip=>exact h'
  case enter f args=>exact h'.mono fun e w'' ⟨v,he,hk⟩=>by subst he; exact hk
 | halt x w'=>simp only at h'
def wantedAt (ops:Array Oper) (o:Oper) (a:Act):Bool:=Region.wanted o (yielded ops a.tmps)
def stI (P:Program) (types:Array TypeInfo) (ops:Array Oper) (i:Nat) (K:Act→World→Prop) (a:Act) (w:World):Prop :=
 match ops[i]? with
 | none=>K a w
 | some o=>if wantedAt ops o a then stepC P (cls types o.op) o a w (fun v w'=>K (a.put o.dst v) w') else K (a.put o.dst undef) w
theorem stI_mono {i:Nat} {K K':Act→World→Prop} {a:Act} {w:World} (h:∀a w,K a w→K' a w) (hh:stI P types ops i K a w):stI P types ops i K' a w:=by
 unfold stI at *
 split
 ·exact h _ _ (by simpa [*] using hh)
 ·rename_i o ho
  simp only [ho] at hh
  split
  ·rename_i hw; simp only [hw,if_true] at hh; exact stepC_mono (fun _ _=>h _ _) hh
  ·rename_i hw; simp only [hw] at hh; exact h _ _ hh
def PureAt (P:Program) (types:Array TypeInfo) (ops:Array Oper) (o:Oper) (a:Act) (v:Value):Prop :=
 (wantedAt ops o a=true∧PureV P o a v)∨(wantedAt ops o a=false∧v=undef)
theorem PureAt.unique {o:Oper} {a:Act} {v u:Value} (h:PureAt P types ops o a v) (h':PureAt P types ops o a u):v=u:=by
 rcases h with ⟨h1,h2⟩ | ⟨h1,h2⟩ <;> rcases h' with ⟨h3,h4⟩ | ⟨h3,h4⟩
 ·exact h2.unique h4
 ·rw [h1] at h3; cases h3
 ·rw [h1] at h3; cases h3
 ·rw [h2,h4]
theorem stI_pure {i:Nat} {o:Oper} {K:Act→World→Prop} {a:Act} {w:World} (hi:ops[i]? = some o) (hc:cls types o.op=0) :
  stI P types ops i K a w↔∃v,PureAt P types ops o a v∧K (a.put o.dst v) w:=by
 unfold stI
 simp only [hi,hc,stepC]
 cases hw:wantedAt ops o a
 ·simp only [Bool.false_eq_true,if_false]
  constructor
  ·intro h; exact ⟨undef,.inr ⟨hw,rfl⟩,h⟩
  ·rintro ⟨v,⟨h1,_⟩ | ⟨_,rfl⟩,h⟩
   ·rw [hw] at h1; cases h1
   ·exact h
 ·simp only [if_true]
  constructor
  ·rintro ⟨v,hv,h⟩; exact ⟨v,.inl ⟨hw,hv⟩,h⟩
  ·rintro ⟨v,⟨_,hv⟩ | ⟨h1,_⟩,h⟩
   ·exact ⟨v,hv,h⟩
   ·rw [hw] at h1; cases h1
def ReadAt (P:Program) (types:Array TypeInfo) (ops:Array Oper) (o:Oper) (a:Act) (w:World) (v:Value):Prop :=
 (wantedAt ops o a=true∧ReadV P o a w v)∨(wantedAt ops o a=false∧v=undef)
theorem stI_read {i:Nat} {o:Oper} {K:Act→World→Prop} {a:Act} {w:World} (hi:ops[i]? = some o) (hc:cls types o.op=1) :
  stI P types ops i K a w↔∃v,ReadAt P types ops o a w v∧K (a.put o.dst v) w:=by
 unfold stI
 simp only [hi,hc,stepC]
 cases hw:wantedAt ops o a
 ·simp only [Bool.false_eq_true,if_false]
  constructor
  ·intro h; exact ⟨undef,.inr ⟨hw,rfl⟩,h⟩
  ·rintro ⟨v,⟨h1,_⟩ | ⟨_,rfl⟩,h⟩
   ·rw [hw] at h1; cases h1
   ·exact h
 ·simp only [if_true]
  constructor
  ·rintro ⟨v,hv,h⟩; exact ⟨v,.inl ⟨hw,hv⟩,h⟩
  ·rintro ⟨v,⟨_,hv⟩ | ⟨h1,_⟩,h⟩
   ·exact ⟨v,hv,h⟩
   ·rw [hw] at h1; cases h1
def NewAt (P:Program) (types:Array TypeInfo) (ops:Array Oper) (o:Oper) (a:Act) (w:World) (v:Value) (w':World):Prop :=
 (wantedAt ops o a=true∧NewV P o a w v w')∨(wantedAt ops o a=false∧v=undef∧w'=w)
theorem stI_new {i:Nat} {o:Oper} {K:Act→World→Prop} {a:Act} {w:World} (hi:ops[i]? = some o) (hc:cls types o.op=3) :
  stI P types ops i K a w↔∃v w',NewAt P types ops o a w v w'∧K (a.put o.dst v) w':=by
 unfold stI
 simp only [hi,hc,stepC]
 cases hw:wantedAt ops o a
 ·simp only [Bool.false_eq_true,if_false]
  constructor
  ·intro h; exact ⟨undef,w,.inr ⟨hw,rfl,rfl⟩,h⟩
  ·rintro ⟨v,w',⟨h1,_⟩ | ⟨_,rfl,rfl⟩,h⟩
   ·rw [hw] at h1; cases h1
   ·exact h
 ·simp only [if_true]
  constructor
  ·rintro ⟨v,w',hv,h⟩; exact ⟨v,w',.inl ⟨hw,hv⟩,h⟩
  ·rintro ⟨v,w',⟨_,hv⟩ | ⟨h1,_⟩,h⟩
   ·exact ⟨v,w',hv,h⟩
   ·rw [hw] at h1; cases h1
theorem NewAt.ext {o:Oper} {a:Act} {w w':World} {v:Value} (h:NewAt P types ops o a w v w'):ExtH w w':=by
 rcases h with ⟨_,h⟩ | ⟨_,_,rfl⟩
 ·exact h.2
 ·exact ExtH.refl _
theorem ReadAt.ext {o:Oper} {a:Act} {w w':World} {v:Value} (h:ReadAt P types ops o a w v) (he:ExtH w w'):ReadAt P types ops o a w' v:=by
 rcases h with ⟨h1,h⟩ | h
 ·exact .inl ⟨h1,fun w'' h2=>h w'' (he.trans h2)⟩
 ·exact .inr h
section
variable {oi oj:Oper}
theorem exec_put (hsel:∀cs b,oj.op≠.select cs b) (hap:oi.apart ops oj=true) (a:Act) (v:Value):execOp (a.put oi.dst v).eval oj=execOp a.eval oj :=
 execOp_put (ops:=ops) oj hsel a oi.dst v (Oper.apart_spec hap).1
theorem exec_put' (hsel:∀cs b,oi.op≠.select cs b) (hap:oi.apart ops oj=true) (a:Act) (v:Value):execOp (a.put oj.dst v).eval oi=execOp a.eval oi :=
 execOp_put (ops:=ops) oi hsel a oj.dst v (Oper.apart_spec hap).2.2
theorem wanted_put1 (hap:oi.apart ops oj=true) (a:Act) (v:Value):wantedAt ops oj (a.put oi.dst v)=wantedAt ops oj a :=
 wanted_put oj a oi.dst v (Oper.apart_spec hap).1
theorem wanted_put2 (hap:oi.apart ops oj=true) (a:Act) (v:Value):wantedAt ops oi (a.put oj.dst v)=wantedAt ops oi a :=
 wanted_put oi a oj.dst v (Oper.apart_spec hap).2.2
theorem put_put (hap:oi.apart ops oj=true) (a:Act) (v u:Value):(a.put oi.dst v).put oj.dst u=(a.put oj.dst u).put oi.dst v :=
 Act.put_comm a v u (Oper.apart_spec hap).2.1
theorem PureAt_put1 (hsel:∀cs b,oj.op≠.select cs b) (hap:oi.apart ops oj=true) (a:Act) (v u:Value):PureAt P types ops oj (a.put oi.dst v) u↔PureAt P types ops oj a u:=by
 unfold PureAt PureV
 rw [wanted_put1 hap,exec_put hsel hap]
theorem PureAt_put2 (hsel:∀cs b,oi.op≠.select cs b) (hap:oi.apart ops oj=true) (a:Act) (v u:Value):PureAt P types ops oi (a.put oj.dst v) u↔PureAt P types ops oi a u:=by
 unfold PureAt PureV
 rw [wanted_put2 hap,exec_put' hsel hap]
theorem ReadAt_put1 (hsel:∀cs b,oj.op≠.select cs b) (hap:oi.apart ops oj=true) (a:Act) (w:World) (v u:Value):ReadAt P types ops oj (a.put oi.dst v) w u↔ReadAt P types ops oj a w u:=by
 unfold ReadAt ReadV
 rw [wanted_put1 hap,exec_put hsel hap]
theorem ReadAt_put2 (hsel:∀cs b,oi.op≠.select cs b) (hap:oi.apart ops oj=true) (a:Act) (w:World) (v u:Value):ReadAt P types ops oi (a.put oj.dst v) w u↔ReadAt P types ops oi a w u:=by
 unfold ReadAt ReadV
 rw [wanted_put2 hap,exec_put' hsel hap]
theorem NewAt_put1 (hsel:∀cs b,oj.op≠.select cs b) (hap:oi.apart ops oj=true) (a:Act) (w w':World) (v u:Value):NewAt P types ops oj (a.put oi.dst v) w u w'↔NewAt P types ops oj a w u w':=by
 unfold NewAt NewV
 rw [wanted_put1 hap,exec_put hsel hap]
theorem stI_put {j:Nat} (hj:ops[j]? = some oj) (hsel:∀cs b,oj.op≠.select cs b) (hap:oi.apart ops oj=true) {K:Act→World→Prop} {a:Act} {w:World} {v:Value} :
  stI P types ops j K (a.put oi.dst v) w↔stI P types ops j (fun a' w'=>K (a'.put oi.dst v) w') a w:=by
 unfold stI
 simp only [hj,wanted_put1 hap]
 split
 ·unfold stepC stepE PureV ReadV NewV
  simp only [exec_put hsel hap,put_put hap]
 ·rw [put_put hap]
theorem stI_put' {i:Nat} (hi:ops[i]? = some oi) (hsel:∀cs b,oi.op≠.select cs b) (hap:oi.apart ops oj=true) {K:Act→World→Prop} {a:Act} {w:World} {v:Value} :
  stI P types ops i K (a.put oj.dst v) w↔stI P types ops i (fun a' w'=>K (a'.put oj.dst v) w') a w:=by
 unfold stI
 simp only [hi,wanted_put2 hap]
 split
 ·unfold stepC stepE PureV ReadV NewV
  simp only [exec_put' hsel hap,←put_put hap]
 ·rw [←put_put hap]
theorem stI_and {i:Nat} (hi:ops[i]? = some oi) {K:Act→World→Prop} {F:Act→Prop} {a:Act} {w:World} (hF:∀v,F (a.put oi.dst v)) (h:stI P types ops i K a w) :
  stI P types ops i (fun a' w'=>F a'∧K a' w') a w:=by
 unfold stI at *
 simp only [hi] at *
 split
 ·rename_i hw
  simp only [hw,if_true] at h
  exact stepC_mono (fun v w' hk=>⟨hF v,hk⟩) h
 ·rename_i hw
  simp only [hw] at h
  exact ⟨hF _,h⟩
theorem stI_some {i:Nat} (hi:ops[i]? = some oi) {K:Act→World→Prop} {a:Act} {w:World} (h:stI P types ops i K a w):∃v w',K (a.put oi.dst v) w':=by
 unfold stI at h
 simp only [hi] at h
 split at h
 ·exact stepC_some h
 ·exact ⟨_,_,h⟩
theorem stI_comm {i j:Nat} (hi:ops[i]? = some oi) (hj:ops[j]? = some oj) (hap:oi.apart ops oj=true)
  (hsi:∀cs b,oi.op≠.select cs b) (hsj:∀cs b,oj.op≠.select cs b)
  (hc:cls types oi.op=0∨cls types oj.op=0∨(cls types oi.op=1∧cls types oj.op=1)∨(cls types oi.op=1∧cls types oj.op=3)) {K:Act→World→Prop} {a:Act} {w:World}
  (h:stI P types ops i (stI P types ops j K) a w):stI P types ops j (stI P types ops i K) a w:=by
 rcases hc with hc | hc | ⟨hc,hc'⟩ | ⟨hc,hc'⟩
 ·obtain ⟨v,hv,hk⟩:=(stI_pure hi hc).1 h
  rw [stI_put hj hsj hap] at hk
  refine stI_mono ?_ (stI_and (F:=fun a'=>PureAt P types ops oi a' v) hj (fun u=>(PureAt_put2 hsi hap _ _ _).2 hv) hk)
  exact fun a' w' ⟨h1,h2⟩=>(stI_pure hi hc).2 ⟨v,h1,h2⟩
 ·have h1:stI P types ops i (fun a' w'=>∃u,PureAt P types ops oj a' u∧K (a'.put oj.dst u) w') a w:=stI_mono (fun a' w' hh=>(stI_pure hj hc).1 hh) h
  obtain ⟨v,w',u,hu,_⟩:=stI_some hi h1
  rw [PureAt_put1 hsj hap] at hu
  refine (stI_pure hj hc).2 ⟨u,hu,?_⟩
  rw [stI_put' hi hsi hap]
  refine stI_mono ?_ (stI_and (F:=fun a'=>PureAt P types ops oj a' u) hi (fun v=>(PureAt_put1 hsj hap _ _ _).2 hu) h1)
  rintro a' w' ⟨h2,u',h3,h4⟩
  rw [h2.unique h3]
  exact h4
 ·obtain ⟨v,hv,hk⟩:=(stI_read hi hc).1 h
  obtain ⟨u,hu,hk⟩:=(stI_read hj hc').1 hk
  rw [ReadAt_put1 hsj hap] at hu
  refine (stI_read hj hc').2 ⟨u,hu,(stI_read hi hc).2 ⟨v,(ReadAt_put2 hsi hap _ _ _ _).2 hv,?_⟩⟩
  rw [←put_put hap]
  exact hk
 ·obtain ⟨v,hv,hk⟩:=(stI_read hi hc).1 h
  obtain ⟨u,w',hu,hk⟩:=(stI_new hj hc').1 hk
  rw [NewAt_put1 hsj hap] at hu
  refine (stI_new hj hc').2 ⟨u,w',hu,(stI_read hi hc).2 ⟨v,(ReadAt_put2 hsi hap _ _ _ _).2 (hv.ext hu.ext),?_⟩⟩
  rw [←put_put hap]
  exact hk
end
def wpN (P:Program) (types:Array TypeInfo) (ops:Array Oper) (Q:Act→World→Prop):List Nat→Act→World→Prop
 | [],a,w=>Q a w
 | i :: l,a,w=>stI P types ops i (wpN P types ops Q l) a w
theorem wpOp_of_stI {i:Nat} {K:Act→World→Prop} {Q:Exit→Act→World→Prop} {a:Act} {w:World} (h:stI P types ops i K a w):wpOp P ops Q i K a w:=by
 unfold stI at h
 unfold wpOp
 split
 ·simpa [*] using h
 ·rename_i o ho
  simp only [ho,wantedAt] at h
  split
  ·rename_i hw; simp only [hw,if_true] at h; exact .inl (stepC_wp h)
  ·rename_i hw; simp only [hw] at h; exact h
theorem wpOps_of_N {Q:Exit→Act→World→Prop}:∀(l:List Nat) (a:Act) (w:World),wpN P types ops (fun a w=>Q .normal a w) l a w→wpOps P ops Q l a w
 | [],_,_,h=>h
 | i :: l,a,w,h=>by
  rw [wpOps_cons]
  exact wpOp_of_stI (stI_mono (fun a' w' hh=>wpOps_of_N l a' w' hh) h)
def compat (types:Array TypeInfo) (ops:Array Oper) (i j:Nat):Bool :=
 match ops[i]?,ops[j]? with
 | some oi,some oj=>!(oi.op matches .select ..) && !(oj.op matches .select ..) && oi.apart ops oj &&
  (cls types oi.op == 0 || cls types oj.op == 0 || (cls types oi.op == 1 && (cls types oj.op == 1 || cls types oj.op == 3)))
 | _,_=>false
theorem wpN_swap {Q:Act→World→Prop} {i j:Nat} (hc:compat types ops i j=true) {l:List Nat} {a:Act} {w:World} (h:wpN P types ops Q (i :: j :: l) a w):wpN P types ops Q (j :: i :: l) a w:=by
 unfold compat at hc
 split at hc
 ·rename_i oi oj hi hj
  simp only [Bool.and_eq_true,Bool.or_eq_true,beq_iff_eq,Bool.not_eq_true'] at hc
  obtain ⟨⟨⟨h1,h2⟩,h3⟩,h4⟩:=hc
  refine stI_comm hi hj h3 (fun cs b he=>by rw [he] at h1; cases h1) (fun cs b he=>by rw [he] at h2; cases h2) ?_ h
  rcases h4 with (h4 | h4) | ⟨h4,h5 | h5⟩
  ·exact .inl h4
  ·exact .inr (.inl h4)
  ·exact .inr (.inr (.inl ⟨h4,h5⟩))
  ·exact .inr (.inr (.inr ⟨h4,h5⟩))
 ·cases hc
theorem wpN_front {Q:Act→World→Prop} {i:Nat} {l2:List Nat}:∀(l1:List Nat) (a:Act) (w:World),(∀k ∈ l1,compat types ops i k=true)→wpN P types ops Q (i :: (l1 ++ l2)) a w→wpN P types ops Q (l1 ++ i :: l2) a w
 | [],_,_,_,h=>h
 | k :: l1,a,w,hc,h=>by
  have h1:wpN P types ops Q (k :: i :: (l1 ++ l2)) a w:=wpN_swap (hc k (by simp)) h
  exact stI_mono (fun a' w' hh=>wpN_front l1 a' w' (fun x hx=>hc x (by simp [hx])) hh) h1
def Resp (D:List Nat):List Nat→Prop
 | []=>True
 | i :: l=>(∀k ∈ l,(D.getD i 0).testBit k=false)∧Resp D l
theorem Resp.drop_mid {D:List Nat} {i:Nat} {l2:List Nat}:∀(l1:List Nat),Resp D (l1 ++ i :: l2)→Resp D (l1 ++ l2)
 | [],h=>h.2
 | k :: l1,h=>⟨fun x hx=>h.1 x (List.mem_append.2 ((List.mem_append.1 hx).imp id (List.mem_cons_of_mem _))),Resp.drop_mid l1 h.2⟩
theorem Resp.mid {D:List Nat} {i:Nat} {l2:List Nat}:∀(l1:List Nat),Resp D (l1 ++ i :: l2)→∀k ∈ l1,(D.getD k 0).testBit i=false
 | [],_,_,hk=>by cases hk
 | x :: l1,h,k,hk=>by
  rcases List.mem_cons.1 hk with rfl | hk
  ·exact h.1 i (by simp)
  ·exact Resp.mid l1 h.2 k hk
def Free (types:Array TypeInfo) (ops:Array Oper) (D:List Nat):List Nat→Prop
 | []=>True
 | i :: l=>(∀k ∈ l,(D.getD k 0).testBit i=true∨compat types ops i k=true)∧Free types ops D l
theorem wpN_of_rep {Q:Act→World→Prop} {D:List Nat}:∀(rep l:List Nat) (a:Act) (w:World),rep.Perm l→Free types ops D rep→Resp D l→wpN P types ops Q rep a w→wpN P types ops Q l a w:=by
 intro rep
 induction rep with
 | nil=>intro l a w hp _ _ h; rw [List.nil_perm.1 hp]; exact h
 | cons i rep ih =>
  intro l a w hp hf hl h
  have hmem:i ∈ l:=hp.subset (by simp)
  obtain ⟨l1,l2,rfl⟩:=List.append_of_mem hmem
  have hp':rep.Perm (l1 ++ l2):=by
   have:=hp.trans List.perm_middle
   exact List.Perm.cons_inv this
  have hc:∀k ∈ l1,compat types ops i k=true:=by
   intro k hk
   have hkr:k ∈ rep:=hp'.symm.subset (by simp [hk])
   rcases hf.1 k hkr with h1 | h1
   ·rw [Resp.mid l1 hl k hk] at h1; cases h1
   ·exact h1
  refine wpN_front l1 a w hc ?_
  exact stI_mono (fun a' w' hh=>ih (l1 ++ l2) a' w' hp' hf.2 (Resp.drop_mid l1 hl) hh) h
theorem go_spec (ops:Array Oper):∀(fuel t:Nat) (listed:Array Bool),listed.size=ops.size →
  (Region.linearise.go .any ops fuel t listed []).Nodup∧(∀i ∈ Region.linearise.go .any ops fuel t listed [],i < ops.size∧listed.getD i true=false) ∧
  (∀l1 i l2,Region.linearise.go .any ops fuel t listed []=l1 ++ i :: l2→∀o,ops[i]? = some o→∀e ∈ o.after,Region.binds .any e=true→listed.getD e.on false=true∨e.on ∈ l1):=by
 intro fuel
 induction fuel with
 | zero=>intro t listed _; simp [Region.linearise.go]
 | succ fuel ih =>
  intro t listed hsz
  simp only [Region.linearise.go]
  change _∧_∧_
  have hrs:((List.range ops.size).filter fun i=>!listed.getD i true && ((ops[i]?).map (·.after.all fun e=>!Region.binds .any e || listed.getD e.on false)).getD false)=Region.ready .any ops listed:=rfl
  rw [hrs]
  cases hi:(Region.ready .any ops listed)[t % (Region.ready .any ops listed).length]? with
  | none=>simp
  | some i =>
   simp only []
   rw [linearise_go_acc,List.reverse_singleton,List.singleton_append]
   have hir:=List.mem_of_getElem? hi
   obtain ⟨hun,oi,hoi,hall⟩:=mem_ready.1 hir
   have hil:i < ops.size:=(Array.getElem?_eq_some_iff.1 hoi).1
   obtain ⟨h1,h2,h3⟩:=ih (t / (Region.ready .any ops listed).length) (listed.setIfInBounds i true) (by simpa using hsz)
   refine ⟨?_,?_,?_⟩
   ·refine List.nodup_cons.2 ⟨fun hm=>?_,h1⟩
    have:=(h2 i hm).2
    have hset:(listed.setIfInBounds i true).getD i true=true:=by
     simp only [Array.getD_eq_getD_getElem?]
     rw [Array.getElem?_setIfInBounds]
     simp [hsz,hil]
    rw [hset] at this; cases this
   ·intro j hj
    rcases List.mem_cons.1 hj with rfl | hj
    ·exact ⟨hil,hun⟩
    ·obtain ⟨h4,h5⟩:=h2 j hj
     refine ⟨h4,?_⟩
     by_cases hij:i=j
     ·subst hij; exact hun
     ·rw [getD_set_ne true hij] at h5; exact h5
   ·intro l1 k l2 he o ho e hea hb
    cases l1 with
    | nil =>
     simp only [List.nil_append,List.cons.injEq] at he
     obtain ⟨rfl,_⟩:=he
     have:o=oi:=Option.some.inj (ho.symm.trans hoi)
     subst this
     exact .inl (hall e hea hb)
    | cons x l1 =>
     simp only [List.cons_append,List.cons.injEq] at he
     obtain ⟨rfl,he⟩:=he
     rcases h3 l1 k l2 he o ho e hea hb with h4 | h4
     ·by_cases hxe:i=e.on
      ·exact .inr (by simp [hxe])
      ·rw [getD_set_ne false hxe] at h4; exact .inl h4
     ·exact .inr (by simp [h4])
def backOk (ops:Array Oper):Bool :=
 (List.range ops.size).all fun j =>
  match ops[j]? with
  | none=>false
  | some o=>o.after.toList.all fun e=>!Region.binds .any e || decide (e.on < j)
theorem backOk_spec (h:backOk ops=true) {j:Nat} {o:Oper} (hj:ops[j]? = some o):∀e ∈ o.after,Region.binds .any e=true→e.on < j:=by
 have hlt:j < ops.size:=(Array.getElem?_eq_some_iff.1 hj).1
 have h1:=List.all_eq_true.1 h j (List.mem_range.2 hlt)
 simp only [hj] at h1
 intro e he hb
 have:=List.all_eq_true.1 h1 e (by simpa using he)
 simpa [hb] using this
theorem go_length (hk:backOk ops=true):∀(fuel t:Nat) (listed:Array Bool),listed.size=ops.size→fuel≤(listed.toList.filter (fun b=>!b)).length →
  (Region.linearise.go .any ops fuel t listed []).length=fuel:=by
 intro fuel
 induction fuel with
 | zero=>intro t listed _ _; simp [Region.linearise.go]
 | succ fuel ih =>
  intro t listed hsz hf
  simp only [Region.linearise.go]
  have hrs:((List.range ops.size).filter fun i=>!listed.getD i true && ((ops[i]?).map (·.after.all fun e=>!Region.binds .any e || listed.getD e.on false)).getD false)=Region.ready .any ops listed:=rfl
  rw [hrs]
  -- the first that is not listed is ready
  have hne:Region.ready .any ops listed≠[]:=by
   have hex:∃j,j < listed.size∧listed.getD j true=false:=by
    have hpos:0 < (listed.toList.filter (fun b=>!b)).length:=by omega
    obtain ⟨b,hb⟩:=List.exists_mem_of_length_pos hpos
    have hb':=List.mem_filter.1 hb
    obtain ⟨j,hj,hjb⟩:=List.getElem_of_mem hb'.1
    refine ⟨j,by simpa using hj,?_⟩
    have:j < listed.size:=by simpa using hj
    simp [Array.getD_eq_getD_getElem?,this]
    have h2:listed[j]=b:=by simpa using hjb
    rw [h2]; simpa using hb'.2
   have hleast:∀n j,j < n→j < listed.size→listed.getD j true=false→Region.ready .any ops listed≠[]:=by
    intro n
    induction n with
    | zero=>intro j hj; omega
    | succ n ihn =>
     intro j hj hjs hjf
     have hoj:ops[j]? = some ops[j]:=Array.getElem?_eq_getElem (by omega)
     by_cases hall:∀e ∈ (ops[j]).after,Region.binds .any e=true→listed.getD e.on false=true
     ·intro hnil
      have:j ∈ Region.ready .any ops listed:=mem_ready.2 ⟨hjf,_,hoj,hall⟩
      rw [hnil] at this; cases this
     ·have ⟨e,hnot⟩:=Classical.not_forall.1 hall
      have ⟨he,hnot⟩:=Classical.not_forall.1 hnot
      have ⟨hb,hnot⟩:=Classical.not_forall.1 hnot
      have hlt:=backOk_spec hk hoj e he hb
      refine ihn e.on (by omega) (by omega) ?_
      have h0:e.on < listed.size:=by omega
      simp [Array.getD_eq_getD_getElem?,h0] at hnot ⊢
      exact hnot
   obtain ⟨j,hj,hjf⟩:=hex
   exact hleast (j+1) j (Nat.lt_succ_self j) hj hjf
  have hpos:0 < (Region.ready .any ops listed).length:=List.length_pos_iff.2 hne
  have hlt:t % (Region.ready .any ops listed).length < (Region.ready .any ops listed).length:=Nat.mod_lt _ hpos
  rw [List.getElem?_eq_getElem hlt]
  simp only []
  rw [linearise_go_acc,List.reverse_singleton,List.singleton_append,List.length_cons]
  have hir:(Region.ready .any ops listed)[t % (Region.ready .any ops listed).length] ∈ Region.ready .any ops listed:=List.getElem_mem hlt
  generalize (Region.ready .any ops listed)[t % (Region.ready .any ops listed).length]=i at hir
  obtain ⟨hun,oi,hoi,_⟩:=mem_ready.1 hir
  have hil:i < ops.size:=(Array.getElem?_eq_some_iff.1 hoi).1
  congr 1
  refine ih _ _ (by simpa using hsz) ?_
  have hlist:(listed.setIfInBounds i true).toList=listed.toList.set i true:=by simp
  rw [hlist]
  have hi':i < listed.toList.length:=by simpa [hsz] using hil
  have hfi:listed.toList[i]=false:=by
   have:i < listed.size:=by omega
   simp [Array.getD_eq_getD_getElem?,this] at hun
   simpa using hun
  have hsplit:=List.take_append_drop i listed.toList
  have hset:listed.toList.set i true=listed.toList.take i ++ true :: listed.toList.drop (i+1):=by
   rw [List.set_eq_take_append_cons_drop,if_pos hi']
  have hsame:listed.toList=listed.toList.take i ++ listed.toList[i] :: listed.toList.drop (i+1):=by
   rw [List.getElem_cons_drop,List.take_append_drop]
  rw [hset]
  rw [hsame,hfi] at hf
  simp only [List.filter_append,List.length_append,List.filter_cons,Bool.not_false,Bool.not_true,if_true,Bool.false_eq_true,if_false,List.length_cons] at hf ⊢
  omega
theorem sched_spec (hk:backOk ops=true) (t:Nat):∃l,Region.linearise .any ops t=l∧l.Perm (List.range ops.size) ∧
  ∀l1 i l2,l=l1 ++ i :: l2→∀o,ops[i]? = some o→∀e ∈ o.after,Region.binds .any e=true→e.on ∈ l1:=by
 refine ⟨_,rfl,?_,?_⟩
 ·obtain ⟨h1,h2,_⟩:=go_spec ops ops.size t (Array.replicate ops.size false) (by simp)
  have hlen:=go_length hk ops.size t (Array.replicate ops.size false) (by simp) (by simp)
  have hsub:(Region.linearise .any ops t) ⊆ List.range ops.size:=fun i hi=>List.mem_range.2 (h2 i hi).1
  refine (List.perm_ext_iff_of_nodup h1 List.nodup_range).2 fun j=>⟨fun hj=>hsub hj,fun hj=>?_⟩
  refine Classical.byContradiction fun hno=>?_
  have h3:(j :: Region.linearise .any ops t).Nodup:=List.nodup_cons.2 ⟨hno,h1⟩
  have h4:=h3.length_le_of_subset (l₂:=List.range ops.size) (fun x hx=>by
   rcases List.mem_cons.1 hx with rfl | hx
   ·exact hj
   ·exact hsub hx)
  rw [List.length_cons,List.length_range] at h4
  have h5:(Region.linearise .any ops t).length=ops.size:=hlen
  omega
 ·intro l1 i l2 he o ho e hea hb
  rcases (go_spec ops ops.size t (Array.replicate ops.size false) (by simp)).2.2 l1 i l2 he o ho e hea hb with h | h
  ·rw [getD_replicate_false'] at h; cases h
  ·exact h
 where
 getD_replicate_false' {m j:Nat}:(Array.replicate m false).getD j false=false:=by
  rcases Nat.lt_or_ge j m with h | h
  ·simp [h]
  ·simp [h]
def Before (l:List Nat) (i j:Nat):Prop:=∃l1 l2,l=l1 ++ j :: l2∧i ∈ l1
theorem split_unique {j:Nat}:∀{l1 l2 r1 r2:List Nat},(l1 ++ j :: l2).Nodup→l1 ++ j :: l2=r1 ++ j :: r2→l1=r1∧l2=r2
 | [],l2,[],r2,_,h=>by simpa using h
 | [],l2,x :: r1,r2,hn,h=>by
  simp only [List.nil_append,List.cons_append,List.cons.injEq] at h
  obtain ⟨rfl,rfl⟩:=h
  exact absurd (by simp) (List.nodup_cons.1 hn).1
 | x :: l1,l2,[],r2,hn,h=>by
  simp only [List.nil_append,List.cons_append,List.cons.injEq] at h
  obtain ⟨rfl,_⟩:=h
  rw [List.cons_append] at hn
  exact absurd (by simp) (List.nodup_cons.1 hn).1
 | x :: l1,l2,y :: r1,r2,hn,h=>by
  simp only [List.cons_append,List.cons.injEq] at h
  obtain ⟨rfl,h⟩:=h
  rw [List.cons_append] at hn
  obtain ⟨rfl,rfl⟩:=split_unique (List.nodup_cons.1 hn).2 h
  exact ⟨rfl,rfl⟩
theorem Before.trans {l:List Nat} (hn:l.Nodup) {a b c:Nat} (h:Before l a b) (k:Before l b c):Before l a c:=by
 obtain ⟨l1,l2,rfl,ha⟩:=h
 obtain ⟨r1,r2,he,hb⟩:=k
 obtain ⟨s1,s2,rfl⟩:=List.append_of_mem hb
 have he':l1 ++ b :: l2=s1 ++ b :: (s2 ++ c :: r2):=by rw [he]; simp
 obtain ⟨rfl,rfl⟩:=split_unique hn he'
 exact ⟨l1 ++ b :: s2,r2,by simp,by simp [ha]⟩
theorem before_or {l:List Nat} (hn:l.Nodup) {i j:Nat} (hi:i ∈ l) (hj:j ∈ l) (hij:i≠j):Before l i j∨Before l j i:=by
 obtain ⟨l1,l2,rfl⟩:=List.append_of_mem hj
 rcases List.mem_append.1 hi with h | h
 ·exact .inl ⟨l1,l2,rfl,h⟩
 ·rcases List.mem_cons.1 h with h | h
  ·exact absurd h hij
  ·obtain ⟨s1,s2,rfl⟩:=List.append_of_mem h
   exact .inr ⟨l1 ++ j :: s1,s2,by simp,by simp⟩
def HoldsD (D:List Nat) (n:Nat) (l:List Nat):Prop:=∀j,j < n→∀i,i < n→(D.getD j 0).testBit i=true→Before l i j
theorem resp_of_holds {D:List Nat} {n:Nat} {l:List Nat} (hn:l.Nodup) (hlt:∀i ∈ l,i < n) (h:HoldsD D n l):Resp D l:=by
 have key:∀(l2 l1:List Nat),l=l1 ++ l2→Resp D l2:=by
  intro l2
  induction l2 with
  | nil=>intro _ _; trivial
  | cons i l2 ih =>
   intro l1 he
   refine ⟨fun k hk=>?_,ih (l1 ++ [i]) (by rw [he]; simp)⟩
   cases hb:(D.getD i 0).testBit k with
   | false=>rfl
   | true =>
    obtain ⟨r1,r2,he',hk'⟩:=h i (hlt i (by rw [he]; simp)) k (hlt k (by rw [he]; simp [hk])) hb
    rw [he] at hn
    obtain ⟨rfl,rfl⟩:=split_unique hn (he.symm.trans he')
    have h1:=(List.nodup_append.1 hn).2.2 k hk' k (by simp [hk])
    exact absurd rfl h1
 exact key l [] rfl
def extend (n:Nat) (D:List Nat) (i j:Nat):List Nat :=
 (List.range n).map fun x=>if x == j || (D.getD x 0).testBit j then D.getD x 0 ||| (2 ^ i ||| D.getD i 0) else D.getD x 0
theorem holds_extend {D:List Nat} {n:Nat} {l:List Nat} (hn:l.Nodup) {i j:Nat} (hi:i < n) (hj:j < n) (h:HoldsD D n l) (hb:Before l i j):HoldsD (extend n D i j) n l:=by
 intro x hx y hy hbit
 unfold extend at hbit
 rw [List.getD_eq_getElem?_getD,List.getElem?_map,List.getElem?_range hx] at hbit
 simp only [Option.map_some,Option.getD_some] at hbit
 split at hbit
 ·rename_i hc
  simp only [Bool.or_eq_true,beq_iff_eq] at hc
  simp only [Nat.testBit_or,Nat.testBit_two_pow,Bool.or_eq_true,decide_eq_true_eq] at hbit
  have hbx:Before l i x:=by
   rcases hc with rfl | hc
   ·exact hb
   ·exact hb.trans hn (h x hx j hj hc)
  rcases hbit with h1 | rfl | h1
  ·exact h x hx y hy h1
  ·exact hbx
  ·exact (h i hi y hy h1).trans hn hbx
 ·exact h x hx y hy hbit
def badPair (types:Array TypeInfo) (ops:Array Oper) (D:List Nat):List Nat→Option (Nat × Nat)
 | []=>none
 | i :: l=>match l.find? fun k=>!(D.getD k 0).testBit i && !compat types ops i k with
  | some k=>some (i,k)
  | none=>badPair types ops D l
theorem free_of_badPair {D:List Nat}:∀{l:List Nat},badPair types ops D l=none→Free types ops D l
 | [],_=>trivial
 | i :: l,h=>by
  unfold badPair at h
  split at h
  ·cases h
  ·rename_i hf
   refine ⟨fun k hk=>?_,free_of_badPair h⟩
   have:=List.find?_eq_none.1 hf k hk
   simp only [Bool.and_eq_true,Bool.not_eq_true',not_and,Bool.not_eq_false] at this
   cases hb:(D.getD k 0).testBit i with
   | true=>exact .inl rfl
   | false=>exact .inr (this hb)
def topoPick (types:Array TypeInfo) (ops:Array Oper) (D:List Nat) (done:List Nat) (quick:Bool):Option Nat :=
 (List.range ops.size).find? fun i=>!done.contains i && (!quick || decide (cls types (ops.getD i default).op < 2)) &&
  (List.range ops.size).all fun k=>!(D.getD i 0).testBit k || done.contains k
def topo (types:Array TypeInfo) (ops:Array Oper) (D:List Nat):Nat→List Nat→List Nat
 | 0,done=>done.reverse
 | f+1,done=>match topoPick types ops D done true with
  | some i=>topo types ops D f (i :: done)
  | none=>match topoPick types ops D done false with
   | some i=>topo types ops D f (i :: done)
   | none=>done.reverse
def repsOf (types:Array TypeInfo) (ops:Array Oper):Nat→List Nat→Option (List (List Nat))
 | 0,_=>none
 | f+1,D =>
  let text:=List.range ops.size
  match badPair types ops D text with
  | none=>some [text]
  | some _ =>
  let rep:=topo types ops D ops.size []
  match badPair types ops D rep with
  | none=>if rep.isPerm (List.range ops.size) then some [rep] else none
  | some (i,k)=>if i < ops.size∧k < ops.size∧i≠k then match repsOf types ops f (extend ops.size D i k),repsOf types ops f (extend ops.size D k i) with
   | some a,some b=>some (a ++ b)
   | _,_=>none
   else none
theorem reps_sound {Q:Act→World→Prop} {a:Act} {w:World}:∀(f:Nat) (D:List Nat) (reps:List (List Nat)),repsOf types ops f D=some reps→(∀rep ∈ reps,wpN P types ops Q rep a w) →
  ∀l:List Nat,l.Perm (List.range ops.size)→HoldsD D ops.size l→wpN P types ops Q l a w:=by
 intro f
 induction f with
 | zero=>intro D reps h; cases h
 | succ f ih =>
  intro D reps h hall l hl hD
  have hnd:l.Nodup:=hl.symm.nodup List.nodup_range
  have hlt:∀i ∈ l,i < ops.size:=fun i hi=>List.mem_range.1 (hl.subset hi)
  simp only [repsOf] at h
  split at h
  ·rename_i hbad
   simp only [Option.some.injEq] at h
   subst h
   exact wpN_of_rep _ l a w hl.symm (free_of_badPair hbad) (resp_of_holds hnd hlt hD) (hall _ (by simp))
  ·split at h
   ·rename_i hbad
    split at h
    ·rename_i hperm
     simp only [Option.some.injEq] at h
     subst h
     exact wpN_of_rep _ l a w ((List.isPerm_iff.1 hperm).trans hl.symm) (free_of_badPair hbad) (resp_of_holds hnd hlt hD) (hall _ (by simp))
    ·cases h
   ·rename_i i k hbad
    split at h
    ·rename_i hik
     split at h
     ·rename_i ra rb ha hb
      simp only [Option.some.injEq] at h
      subst h
      have hil:i ∈ l:=hl.symm.subset (List.mem_range.2 hik.1)
      have hkl:k ∈ l:=hl.symm.subset (List.mem_range.2 hik.2.1)
      rcases before_or hnd hil hkl hik.2.2 with h1 | h1
      ·exact ih _ _ ha (fun rep hr=>hall rep (by simp [hr])) l hl (holds_extend hnd hik.1 hik.2.1 hD h1)
      ·exact ih _ _ hb (fun rep hr=>hall rep (by simp [hr])) l hl (holds_extend hnd hik.2.1 hik.1 hD h1)
     ·cases h
    ·cases h
def certOk (ops:Array Oper) (cert:List Nat):Bool :=
 (List.range ops.size).all fun j =>
  match ops[j]? with
  | none=>false
  | some o=>(List.range ops.size).all fun i=>!(cert.getD j 0).testBit i ||
    o.after.toList.any fun e=>Region.binds .any e && (e.on == i || (cert.getD e.on 0).testBit i)
theorem certOk_spec {cert:List Nat} (h:certOk ops cert=true) {j:Nat} {o:Oper} (hj:ops[j]? = some o) :
  ∀i,i < ops.size→(cert.getD j 0).testBit i=true→∃e ∈ o.after,Region.binds .any e=true∧(e.on=i∨(cert.getD e.on 0).testBit i=true):=by
 have hlt:j < ops.size:=(Array.getElem?_eq_some_iff.1 hj).1
 have h1:=List.all_eq_true.1 h j (List.mem_range.2 hlt)
 simp only [hj] at h1
 intro i hi ht
 have:=List.all_eq_true.1 h1 i (List.mem_range.2 hi)
 simp only [ht,Bool.not_true,Bool.false_or] at this
 obtain ⟨e,he,hb⟩:=List.any_eq_true.1 this
 simp only [Bool.and_eq_true,Bool.or_eq_true,beq_iff_eq] at hb
 exact ⟨e,by simpa using he,hb.1,hb.2⟩
theorem holds_cert {cert:List Nat} (hb:backOk ops=true) (hc:certOk ops cert=true) {l:List Nat} (hl:l.Perm (List.range ops.size))
  (he:∀l1 i l2,l=l1 ++ i :: l2→∀o,ops[i]? = some o→∀e ∈ o.after,Region.binds .any e=true→e.on ∈ l1):HoldsD cert ops.size l:=by
 have hnd:l.Nodup:=hl.symm.nodup List.nodup_range
 have key:∀n j,j < n→j < ops.size→∀i,i < ops.size→(cert.getD j 0).testBit i=true→Before l i j:=by
  intro n
  induction n with
  | zero=>intro j hj; omega
  | succ n ih =>
   intro j hj hjs i hi hbit
   have hoj:ops[j]? = some ops[j]:=Array.getElem?_eq_getElem hjs
   obtain ⟨l1,l2,hsplit⟩:=List.append_of_mem (hl.symm.subset (List.mem_range.2 hjs))
   obtain ⟨e,hea,hbi,h⟩:=certOk_spec hc hoj i hi hbit
   have h1:=he l1 j l2 hsplit _ hoj e hea hbi
   have h2:Before l e.on j:=⟨l1,l2,hsplit,h1⟩
   rcases h with rfl | h
   ·exact h2
   ·have hlt:=backOk_spec hb hoj e hea hbi
    exact (ih e.on (by omega) (by omega) i hi h).trans hnd h2
 exact fun j hj=>key (j+1) j (Nat.lt_succ_self j) hj
def mkCert (ops:Array Oper):List Nat :=
 ops.toList.foldl (fun acc o=>acc ++ [o.after.toList.foldl (fun s e=>if Region.binds .any e then s ||| 2 ^ e.on ||| acc.getD e.on 0 else s) 0]) []
def ordersOf (types:Array TypeInfo) (ops:Array Oper):Option (List (List Nat)) :=
 if backOk ops && certOk ops (mkCert ops) then repsOf types ops 12 (mkCert ops) else none
theorem wp_region_orders {id:Nat} {Q:Exit→Act→World→Prop} {a:Act} {w:World} {reps:List (List Nat)} (hm:P.follows .mixedOrders=true) (ho:ordersOf types ops=some reps)
  (h:∀rep ∈ reps,wpN P types ops (fun a' w'=>Q .normal a' w') rep a { w with drawn:=w.drawn+1 }):(Code.region id ops true).wp P Q a w:=by
 unfold ordersOf at ho
 split at ho
 ·rename_i hok
  simp only [Bool.and_eq_true] at hok
  refine wp_region_draw fun t=>?_
  simp only [Region.schedule,hm,Bool.true_or,if_true]
  obtain ⟨l,hl,hp,he⟩:=sched_spec hok.1 t
  rw [hl]
  exact wpOps_of_N _ _ _ (reps_sound 12 _ _ ho h l hp (holds_cert hok.1 hok.2 hp he))
 ·cases ho
theorem wp_region_text {id:Nat} {Q:Exit→Act→World→Prop} {a:Act} {w:World}
  (h:wpN P types ops (fun a' w'=>Q .normal a' w') (List.range ops.size) a w):(Code.region id ops false).wp P Q a w :=
 wp_region (wpOps_of_N _ _ _ h)
end
end Go.W
end
