/-
  A part of the proof of this claim's statement (BdW7, BdW8, BdEx, BdW9, BdWA, BdWB, BdWF, BdKeys): plain theorems; no conditions beyond those each names.
-/
import Derived.Test.YtcoeknnghfajnaaGreatPk14
import Derived.Test.YtcoeknnghfajnaaGreatPk12
import Derived.Shelf.SlIterI.Nil
import Derived.Shelf.SortM.Plain
import Derived.Shelf.SortM.SortNone
import Derived.Test.YtcoeknnghfajnaaGreatProg
set_option maxRecDepth 100000
set_option linter.unusedSimpArgs false
set_option linter.unusedVariables false
set_option linter.unusedSectionVars false
section
namespace Go.Proofs.YtcoeknnghfajnaaGreat
open Go Go.W Go.Bd Go.Maps
section
variable {p:Value} {w:World} {R:Value→World→Prop}
theorem not_of {f:Int} (h:Calls Tryz.prog 84 [p,.int .i64 2,.int .i64 f,.int .i64 1].toArray w fun e w'=>∃v,e=.returned v∧R v w') (hR:∀v w',R v w'→∃a b,v=.tuple #[a,b]) :
  Calls Tryz.prog 73 [p,.int .i64 f].toArray w fun e w'=>∃v,e=.returned v∧R v w':=by
 refine enter Tryz.func73 mixed low73 (Nat.le_of_ble_eq_true rfl) ?_
 simp only [L73]
 simp
 refine cl_of h ?_
 intro v w2 h2
 obtain ⟨a,b,rfl⟩:=hR v w2 h2
 simp
 exact h2
theorem and_of {f g:Int} (h:Calls Tryz.prog 84 [p,.int .i64 0,.int .i64 f,.int .i64 g].toArray w fun e w'=>∃v,e=.returned v∧R v w') (hR:∀v w',R v w'→∃a b,v=.tuple #[a,b]) :
  Calls Tryz.prog 72 [p,.int .i64 f,.int .i64 g].toArray w fun e w'=>∃v,e=.returned v∧R v w':=by
 refine enter Tryz.func72 mixed low72 (Nat.le_of_ble_eq_true rfl) ?_
 simp only [L72]
 simp
 refine cl_of h ?_
 intro v w2 h2
 obtain ⟨a,b,rfl⟩:=hR v w2 h2
 simp
 exact h2
theorem or_of {f g:Int} (h:Calls Tryz.prog 84 [p,.int .i64 1,.int .i64 f,.int .i64 g].toArray w fun e w'=>∃v,e=.returned v∧R v w') (hR:∀v w',R v w'→∃a b,v=.tuple #[a,b]) :
  Calls Tryz.prog 47 [p,.int .i64 f,.int .i64 g].toArray w fun e w'=>∃v,e=.returned v∧R v w':=by
 refine enter Tryz.func47 mixed low47 (Nat.le_of_ble_eq_true rfl) ?_
 simp only [L47]
 simp
 refine cl_of h ?_
 intro v w2 h2
 obtain ⟨a,b,rfl⟩:=hR v w2 h2
 simp
 exact h2
theorem exists_of {f:Int} {u:Value} (h:Calls Tryz.prog 91 [p,.int .i64 1,.int .i64 f,u].toArray w fun e w'=>∃v,e=.returned v∧R v w') (hR:∀v w',R v w'→∃a b,v=.tuple #[a,b]) :
  Calls Tryz.prog 81 [p,.int .i64 f,u].toArray w fun e w'=>∃v,e=.returned v∧R v w':=by
 refine enter Tryz.func81 mixed low81 (Nat.le_of_ble_eq_true rfl) ?_
 simp only [L81]
 simp
 refine cl_of h ?_
 intro v w2 h2
 obtain ⟨a,b,rfl⟩:=hR v w2 h2
 simp
 exact h2
theorem optV_tup (r:Option Nat):∃a b,optV r=.tuple #[a,b]:=by cases r <;> exact ⟨_,_,rfl⟩
end
theorem times_spec (n p:Nat) (w:World) (hn:n≤many) (hp:p≤100000):Calls Tryz.prog 76 [.int .i64 (n:Nat),.int .i64 (p:Nat)].toArray w fun e w'=>∃v,e=.returned v∧v=.int .i64 ((min (n * 2 ^ p) many:Nat):Int)∧Kp [] w w':=by
 refine enter Tryz.func76 mixed low76 (Nat.le_of_ble_eq_true rfl) ?_
 simp only [L76]
 simp
 have hm:many=1099511627777:=rfl
 refine loop_inv (fun q ρ w1=>∃x:Nat,ρ 0=.int .i64 (x:Nat)∧ρ 1=.int .i64 (q:Nat)∧x≤many∧q≤p∧min (x * 2 ^ q) many=min (n * 2 ^ p) many∧w1=w) p
  ⟨n,by simp,by simp,hn,Nat.le_refl _,rfl,rfl⟩ ?_
 rintro q ρ w1 ⟨x,g0,g1,hx,hq,he,rfl⟩
 by_cases h1:q=0
 ·subst h1
  simp [g0,g1]
  refine ⟨?_,Kp.refl _ _⟩
  rw [←he]; simp; omega
 have h1':(0:Int) < q:=by omega
 have h1'':0 < q:=by omega
 by_cases h2:x=0
 ·subst h2
  simp [g0,g1,h1',h1'']
  refine ⟨?_,Kp.refl _ _⟩
  rw [←he]; simp
 have h2':(0:Int) < x:=by omega
 have h2'':0 < x:=by omega
 have hpq:2≤2 ^ q:=by
  obtain ⟨e,rfl⟩:∃e,q=e+1:=⟨q - 1,by omega⟩
  have:=Nat.two_pow_pos e
  rw [Nat.pow_succ]; omega
 by_cases h3:x < many
 ·have h3':(x:Int) < 1099511627777:=by omega
  have h3'':x < 1099511627777:=by omega
  have e1:min (2 * (x:Int)) 1099511627777=((min (2 * x) many:Nat):Int):=by omega
  have e2:(q:Int) - 1=((q - 1:Nat):Int):=by omega
  simp (disch:=omega) [g0,g1,h1',h1'',h2',h2'',h3',h3'',wrap_i64]
  refine ⟨q - 1,by omega,min (2 * x) many,by omega,by omega,by omega,by omega,?_⟩
  rw [many_mul,←he]
  have:2 * x * 2 ^ (q - 1)=x * 2 ^ q:=by
   obtain ⟨e,rfl⟩:∃e,q=e+1:=⟨q - 1,by omega⟩
   rw [Nat.add_sub_cancel,Nat.pow_succ,Nat.mul_comm 2 x,Nat.mul_assoc,Nat.mul_comm 2]
  rw [this]
 ·have h3':¬(x:Int) < 1099511627777:=by omega
  have h3'':¬x < 1099511627777:=by omega
  have h4:x=many:=by omega
  simp [g0,g1,h1',h1'',h2',h2'',h3',h3'']
  refine ⟨?_,Kp.refl _ _⟩
  rw [←he,h4]
  have:many≤many * 2 ^ q:=Nat.le_mul_of_pos_right _ (by omega)
  omega
end Go.Proofs.YtcoeknnghfajnaaGreat
end
section
namespace Go.Proofs.YtcoeknnghfajnaaGreat
open Go Go.W Go.Bd Go.Maps
def MemC (n:Nat) (ns:Ns) (M:Mem1):Prop:=∀q ∈ M,Ref ns q.1∧q.2=min (cnt n ns q.1) many
def CPost (m n lim:Nat) (ns:Ns) (f b:Nat) (B:Asr) (w:World) (F:List Nat) (v:Value) (w':World):Prop :=
 v=natV (min (cnt n ns f) many)∧∃M',MemC n ns M'∧At w F (Star (MgrA m n lim ns) (Star (MemB b M') B)) w'
set_option maxHeartbeats 4000000 in
theorem count_aux (m n lim b:Nat) (ns:Ns) (hw:Wf n ns) (hb:Bnd n lim ns) (w:World) (F:List Nat):∀(d f:Nat) (M:Mem1) (B:Asr) (w1:World),Lcl B→Ref ns f→f≤d→MemC n ns M →
  At w F (Star (MgrA m n lim ns) (Star (MemB b M) B)) w1 →
  Calls Tryz.prog 77 [.pointer (some ⟨m,0,none⟩),.int .i64 (f:Nat),.map (some b)].toArray w1 fun e w'=>∃v,e=.returned v∧CPost m n lim ns f b B w F v w':=by
 intro d
 induction d using Nat.strongRecOn with
 | ind d ih =>
 intro f M B w1 hB hf hd hM hA
 obtain ⟨hbn,hbl,hbs⟩:=hb
 have hb':Bnd n lim ns:=⟨hbn,hbl,hbs⟩
 have hLX:∀M,Lcl (Star (MgrA m n lim ns) (Star (MemB b M) B)):=fun M=>Lcl.mgr.star (Lcl.map.star hB)
 have hrf:f≤1048578:=by unfold Ref at hf; omega
 have hmany:many=1099511627777:=rfl
 refine enter Tryz.func77 mixed low77 (Nat.le_of_ble_eq_true rfl) ?_
 simp only [L77]
 by_cases h2:f < 2
 ·have h2':(f:Int) < 2:=by omega
  simp [h2']
  refine ⟨?_,M,hM,hA⟩
  rw [cnt_lt h2]
  unfold natV
  congr 1
  omega
 have h2':¬(f:Int) < 2:=by omega
 simp [h2']
 refine MapM.look2 (x:=f) hA.drop.map bkeyI Tryz.underlying73 zint (show i64ok f by unfold i64ok; omega) ?_
 cases hgm:getM M f with
 | some r =>
  simp [natV]
  have:=(hM _ (getM_in hgm)).2
  simp only at this
  refine ⟨?_,M,hM,hA⟩
  unfold natV
  rw [this]
 | none =>
 simp
 refine cl_of (at_spec m n lim f ns w1 (MgrA.rd hA) hb' hf) ?_
 rintro v w2 ⟨rfl,k2⟩
 have h3:=(hA.kp0 (hLX M) k2).alloc (.cells #[.int .i64 0,.int .i64 0,.int .i64 0] 125) (hLX M)
 simp [ndV,bn_len]
 refine h3.st (hLX M) (by simp [en,ints]) (by simp [en,ints]) fun w4 h4=>?_
 have e3:∀d:Nd,wrAt #[.int .i64 0,.int .i64 0,.int .i64 0] 0 (en d)=(en d).toArray:=fun d=>by simp [en,ints]
 rw [e3] at h4
 obtain ⟨t,ht⟩:∃t,t=w2.heap.size:=⟨_,rfl⟩
 rw [←ht] at h4 ⊢
 have h5:=h4.tor3
 have hLT:Lcl (Star (ObjA t (.cells (en (at_ n ns f)).toArray 125 (0,0))) B):=Lcl.obj.star hB
 have hLY:∀M,Lcl (Star (MgrA m n lim ns) (Star (MemB b M) (Star (ObjA t (.cells (en (at_ n ns f)).toArray 125 (0,0))) B))):=fun M=>Lcl.mgr.star (Lcl.map.star hLT)
 have hf2:2≤f:=by omega
 have l1:=hw.lt_low hf2 hf
 have l2:=hw.lt_high hf2 hf
 have tvn:=hw.tv_var hf2 hf
 have rl:=hw.ref_low hf
 have rh:=hw.ref_high hf
 have tl:=hw.tv_low hf2 hf
 have th:=hw.tv_high hf2 hf
 have bl:=hw.tv_le rl
 have bh:=hw.tv_le rh
 have etv:tv n ns f=(at_ n ns f).v:=rfl
 obtain ⟨nd,hnd⟩:∃nd,nd=at_ n ns f:=⟨_,rfl⟩
 rw [←hnd] at h5 hLT hLY l1 l2 rl rh tl th bl bh etv
 refine any_text (fun _ w'=>∃M',MemC n ns M'∧At w F (Star (MgrA m n lim ns) (Star (MemB b M') (Star (ObjA t (.cells (en nd).toArray 125 (0,0))) B))) w') (by kernel_rfl) ⟨M,hM,h5.drew (hLY M)⟩ ?_
 have cell:∀{M':Mem1} {w':World},At w F (Star (MgrA m n lim ns) (Star (MemB b M') (Star (ObjA t (.cells (en nd).toArray 125 (0,0))) B))) w'→w'.heap[t]? = some (.cells (en nd).toArray 125 (0,0)):=fun h=>h.drop.drop.obj
 have callC:∀x,x < f→Ref ns x→∀w',(∃M',MemC n ns M'∧At w F (Star (MgrA m n lim ns) (Star (MemB b M') (Star (ObjA t (.cells (en nd).toArray 125 (0,0))) B))) w') →
   Calls Tryz.prog 77 [.pointer (some ⟨m,0,none⟩),.int .i64 (x:Nat),.map (some b)].toArray w' fun e w''=>∃v,e=.returned v∧(v=natV (min (cnt n ns x) many)∧∃M',MemC n ns M'∧At w F (Star (MgrA m n lim ns) (Star (MemB b M') (Star (ObjA t (.cells (en nd).toArray 125 (0,0))) B))) w''):=by
  rintro x hx hr w' ⟨M',hM',h'⟩
  exact ih (d - 1) (by omega) x M' _ w' hLT hr (by omega) hM' h'
 have callA:∀x,Ref ns x→∀w',(∃M',MemC n ns M'∧At w F (Star (MgrA m n lim ns) (Star (MemB b M') (Star (ObjA t (.cells (en nd).toArray 125 (0,0))) B))) w') →
   Calls Tryz.prog 78 [.pointer (some ⟨m,0,none⟩),.int .i64 (x:Nat)].toArray w' fun e w''=>∃v,e=.returned v∧(v=ndV (at_ n ns x)∧∃M',MemC n ns M'∧At w F (Star (MgrA m n lim ns) (Star (MemB b M') (Star (ObjA t (.cells (en nd).toArray 125 (0,0))) B))) w''):=by
  rintro x hr w' ⟨M',hM',h'⟩
  refine (at_spec m n lim x ns w' (MgrA.rd h') hb' hr).mono ?_
  rintro e w'' ⟨v,rfl,rfl,k⟩
  exact ⟨_,rfl,rfl,M',hM',h'.kp0 (hLY M') k⟩
 have callT:∀x p,x≤many→p≤100000→∀w',(∃M',MemC n ns M'∧At w F (Star (MgrA m n lim ns) (Star (MemB b M') (Star (ObjA t (.cells (en nd).toArray 125 (0,0))) B))) w') →
   Calls Tryz.prog 76 [.int .i64 (x:Nat),.int .i64 (p:Nat)].toArray w' fun e w''=>∃v,e=.returned v∧(v=natV (min (x * 2 ^ p) many)∧∃M',MemC n ns M'∧At w F (Star (MgrA m n lim ns) (Star (MemB b M') (Star (ObjA t (.cells (en nd).toArray 125 (0,0))) B))) w''):=by
  rintro x p hx hp w' ⟨M',hM',h'⟩
  refine (times_spec x p w' hx hp).mono ?_
  rintro e w'' ⟨v,rfl,rfl,k⟩
  exact ⟨_,rfl,rfl,M',hM',h'.kp0 (hLY M') k⟩
 have etl:tv n ns nd.low=(at_ n ns nd.low).v:=rfl
 have eth:tv n ns nd.high=(at_ n ns nd.high).v:=rfl
 simp
 refine rdA_mk (.int .i64 (nd.low:Nat)) (fun k' w' hS=>?_) ?_
 ·obtain ⟨M',hM',h'⟩:=hS
  simp [cell_blk (cell h'),en,ints]
 simp
 refine efA_mk (natV (min (cnt n ns nd.low) many)) (fun w' hS=>?_) ?_
 ·simp
  refine cl_of (callC nd.low (by omega) rl w' hS) ?_
  rintro v w'' ⟨rfl,h⟩
  exact ⟨rfl,h⟩
 simp
 refine rdA_mk (.int .i64 (nd.low:Nat)) (fun k' w' hS=>?_) ?_
 ·obtain ⟨M',hM',h'⟩:=hS
  simp [cell_blk (cell h'),en,ints]
 simp
 refine efA_mk (ndV (at_ n ns nd.low)) (fun w' hS=>?_) ?_
 ·simp
  refine cl_of (callA nd.low rl w' hS) ?_
  rintro v w'' ⟨rfl,h⟩
  exact ⟨rfl,h⟩
 simp [ndV,en,ints]
 refine rdA_mk (.int .i64 (nd.v:Nat)) (fun k' w' hS=>?_) ?_
 ·obtain ⟨M',hM',h'⟩:=hS
  simp [cell_blk (cell h'),en,ints]
 simp (disch:=omega) [wrap_i64]
 refine efA_mk (natV (min (min (cnt n ns nd.low) many * 2 ^ (tv n ns nd.low - nd.v - 1)) many)) (fun w' hS=>?_) ?_
 ·simp [natV]
  have e1:(((at_ n ns nd.low).v:Int) - nd.v - 1)=((tv n ns nd.low - nd.v - 1:Nat):Int):=by
   have:tv n ns nd.low=(at_ n ns nd.low).v:=rfl
   omega
  rw [e1]
  refine cl_of (callT (min (cnt n ns nd.low) many) (tv n ns nd.low - nd.v - 1) (by omega) (by omega) w' hS) ?_
  rintro v w'' ⟨rfl,h⟩
  exact ⟨rfl,h⟩
 simp
 refine rdA_mk (.int .i64 (nd.high:Nat)) (fun k' w' hS=>?_) ?_
 ·obtain ⟨M',hM',h'⟩:=hS
  simp [cell_blk (cell h'),en,ints]
 simp
 refine efA_mk (natV (min (cnt n ns nd.high) many)) (fun w' hS=>?_) ?_
 ·simp
  refine cl_of (callC nd.high (by omega) rh w' hS) ?_
  rintro v w'' ⟨rfl,h⟩
  exact ⟨rfl,h⟩
 simp
 refine rdA_mk (.int .i64 (nd.high:Nat)) (fun k' w' hS=>?_) ?_
 ·obtain ⟨M',hM',h'⟩:=hS
  simp [cell_blk (cell h'),en,ints]
 simp
 refine efA_mk (ndV (at_ n ns nd.high)) (fun w' hS=>?_) ?_
 ·simp
  refine cl_of (callA nd.high rh w' hS) ?_
  rintro v w'' ⟨rfl,h⟩
  exact ⟨rfl,h⟩
 simp [ndV,en,ints]
 refine rdA_mk (.int .i64 (nd.v:Nat)) (fun k' w' hS=>?_) ?_
 ·obtain ⟨M',hM',h'⟩:=hS
  simp [cell_blk (cell h'),en,ints]
 simp (disch:=omega) [wrap_i64]
 refine efA_mk (natV (min (min (cnt n ns nd.high) many * 2 ^ (tv n ns nd.high - nd.v - 1)) many)) (fun w' hS=>?_) ?_
 ·simp [natV]
  have e1:(((at_ n ns nd.high).v:Int) - nd.v - 1)=((tv n ns nd.high - nd.v - 1:Nat):Int):=by
   have:tv n ns nd.high=(at_ n ns nd.high).v:=rfl
   omega
  rw [e1]
  refine cl_of (callT (min (cnt n ns nd.high) many) (tv n ns nd.high - nd.v - 1) (by omega) (by omega) w' hS) ?_
  rintro v w'' ⟨rfl,h⟩
  exact ⟨rfl,h⟩
 have hcn:=cnt_node hw hf2 hf
 rw [←hnd,etv] at hcn
 simp (disch:=omega) [natV,wrap_i64]
 intro w' M' hM' h'
 have ev:(min (((min (min (cnt n ns nd.low) many * 2 ^ (tv n ns nd.low - nd.v - 1)) many:Nat):Int)+((min (min (cnt n ns nd.high) many * 2 ^ (tv n ns nd.high - nd.v - 1)) many:Nat):Int)) 1099511627777:Int)=((min (cnt n ns f) many:Nat):Int):=by
  rw [many_mul,many_mul,hcn,←many_add]; omega
 rw [ev]
 have hml:M'.length≤1048578:=mem1_small (ns:=ns) (N:=1048578) (by omega) (fun q hq=>(hM' q hq).1) (MapM.nodup h'.drop.map)
 refine At.put (x:=f) (v:=min (cnt n ns f) many) (Lcl.mgr.star hLT) h'.rot bkeyI Tryz.underlying73 (show i64ok f by unfold i64ok; omega) (by unfold maxLen; omega) fun w12 h12=>?_
 simp
 refine ⟨rfl,_,?_,(h12.rot).by (Imp.un (Imp.un Imp.dr))⟩
 intro q hq
 rcases putM_mem hq with h1 | rfl
 ·exact hM' q h1
 ·exact ⟨hf,rfl⟩
def cntV (x:Nat):Value:=if x < many then okV x else bnoV 5
theorem Count_spec {w w1:World} {F:List Nat} {B:Asr} (m n lim:Nat) (ns:Ns) (f:Nat) (hB:Lcl B) (hA:At w F (Star (MgrA m n lim ns) B) w1) (hw:Wf n ns) (hb:Bnd n lim ns) (hf:Ref ns f) :
  Calls Tryz.prog 39 [.pointer (some ⟨m,0,none⟩),.int .i64 (f:Nat)].toArray w1 fun e w'=>∃x,e=.returned x∧x=cntV (num n 0 fun a=>eval ns a f)∧At w F (Star (MgrA m n lim ns) B) w':=by
 have hbn:=hb.hn
 have hmany:many=1099511627777:=rfl
 refine enter Tryz.func39 mixed low39 (Nat.le_of_ble_eq_true rfl) ?_
 simp only [L39]
 have hl:Lcl (Star (MgrA m n lim ns) B):=Lcl.mgr.star hB
 have h1:=lit_ints (xs:=[(f:Int)]) (cs:=#[.int .i64 f]) hl hA rfl (by simp) rfl
 simp [rowOf]
 refine cl_of (check_spec m n lim ns _ [(f:Int)] _ (MgrA.rd h1.drop) hb h1.own.vw (by simp)) ?_
 rintro u w2 ⟨rfl,k2⟩
 have h2:=(h1.drop).kp0 hl k2
 have hr:[(f:Int)].all (refB ns)=true:=by
  unfold Ref at hf
  simp [refB]; omega
 rw [hr]
 have h3:=(h2.newmap (ek:=natV) (ev:=natV) (ok:=i64ok) hl).rot
 simp [bchkV]
 refine cl_of (count_aux m n lim _ ns hw hb w F f f [] B _ hB hf (Nat.le_refl _) (fun q hq=>by cases hq) h3) ?_
 rintro _ w4 ⟨rfl,M',hM',h4⟩
 have h5:=h4.by (Imp.un Imp.dr)
 have htv:=hw.tv_le hf
 simp
 refine cl_of (at_spec m n lim f ns w4 (MgrA.rd h5) hb hf) ?_
 rintro _ w6 ⟨rfl,k6⟩
 have h6:=h5.kp0 hl k6
 have etv:tv n ns f=(at_ n ns f).v:=rfl
 simp [ndV,en,ints,natV]
 refine cl_of (times_spec (min (cnt n ns f) many) (at_ n ns f).v w6 (by omega) (by omega)) ?_
 rintro _ w7 ⟨rfl,k7⟩
 have h7:=h6.kp0 hl k7
 have hc:=cnt_all hw hf
 rw [etv] at hc
 obtain ⟨c,hce⟩:∃c,c=num n 0 fun a=>eval ns a f:=⟨_,rfl⟩
 rw [←hce] at hc ⊢
 have e:min (min (cnt n ns f) many * 2 ^ (at_ n ns f).v) many=min c many:=by rw [many_mul,hc]
 rw [e]
 by_cases hlt:c < many
 ·have h8:¬(1099511627777:Int)≤((min c many:Nat):Int):=by omega
  have h9:min c many=c:=by omega
  simp [h8]
  rw [h9]
  exact ⟨by simp [cntV,hlt,okV],h7⟩
 ·have h8:(1099511627777:Int)≤((min c many:Nat):Int):=by omega
  simp [h8]
  exact ⟨by simp [cntV,hlt,bnoV,berrV],h7⟩
end Go.Proofs.YtcoeknnghfajnaaGreat
end
section
namespace Go.Bd
def ex1:Ns:=[⟨0,0,1⟩]
def ex2:Ns:=[⟨0,0,1⟩,⟨1,0,1⟩]
end Go.Bd
end
section
namespace Go.Proofs.YtcoeknnghfajnaaGreat
open Go Go.W Go.Bd Go.Maps
theorem bnum_nil (w:World):Calls Tryz.prog 45 [.nilIface].toArray w fun e w'=>∃x,e=.returned x∧x=.int .i64 0∧Kp [] w w':=by
 refine enter Tryz.func45 mixed low45 (Nat.le_of_ble_eq_true rfl) ?_
 simp only [L45]
 simp
 exact Kp.refl _ _
theorem bnum_err (c:Int) (w:World):Calls Tryz.prog 45 [berrV c].toArray w fun e w'=>∃x,e=.returned x∧x=.int .i64 c∧Kp [] w w':=by
 refine enter Tryz.func45 mixed low45 (Nat.le_of_ble_eq_true rfl) ?_
 simp only [L45]
 simp [berrV]
 exact Kp.refl _ _
theorem is_err (c k:Int) (w:World):Calls Tryz.prog 12 [berrV c,.int .i64 k].toArray w fun e w'=>∃x,e=.returned x∧x=.bool (decide (c=k))∧Kp [] w w':=by
 refine enter Tryz.func12 mixed low12 (Nat.le_of_ble_eq_true rfl) ?_
 simp only [L12]
 simp [berrV]
 refine cl_of (bnum_err c w) ?_
 rintro v w2 ⟨rfl,k2⟩
 simp
 refine ⟨?_,k2⟩
 by_cases h:c=k <;> simp [h]
end Go.Proofs.YtcoeknnghfajnaaGreat
end
section
namespace Go.Proofs.YtcoeknnghfajnaaGreat
open Go Go.W Go.Bd Go.Maps
theorem lit_vw {w:World} {xs:List Int} {cs:Array Value} {k:Nat} (hcs:cs.toList=xs.flatMap iv) (hx:xs.length≤1000000) (hk:k=xs.length) :
  Vw (w.alloc (.cells cs 3)) (.slice (some ⟨w.heap.size,0,none⟩) k k) iv xs :=
 (lit_ints Lcl.emp (At.start (A:=Emp) (F:=[]) (w:=w) rfl) hcs hx hk).own.vw
theorem check_lit {m n lim:Nat} {ns:Ns} {w:World} (xs:List Int) {cs:Array Value} {k:Nat} (h:MgrF w m n lim ns) (hb:Bnd n lim ns) (hcs:cs.toList=xs.flatMap iv) (hx:xs.length≤1000000) (hk:k=xs.length) :
  Calls Tryz.prog 75 [.pointer (some ⟨m,0,none⟩),.slice (some ⟨w.heap.size,0,none⟩) k k].toArray (w.alloc (.cells cs 3)) fun e w'=>∃x,e=.returned x∧x=bchkV (xs.all (refB ns))∧Kp [] w w':=by
 have ka:Kp [] w (w.alloc (.cells cs 3)):=(Kp.refl _ _).alloc _
 refine (check_spec m n lim ns _ xs _ (h.kp0 ka) hb (lit_vw hcs hx hk) hx).mono ?_
 rintro e w' ⟨v,rfl,rfl,k⟩
 exact ⟨_,rfl,rfl,ka.trans0 k⟩
section
variable {m n lim:Nat} {ns:Ns} {w:World}
theorem eval_spec (f:Nat) (u:Value) (bs:List Bool) (h:MgrF w m n lim ns) (hb:Bnd n lim ns) (hw:Wf n ns) (hf:Ref ns f) (hu:Vw w u bv bs) (hn:bs.length≤1000000) :
  Calls Tryz.prog 50 [.pointer (some ⟨m,0,none⟩),.int .i64 (f:Nat),u].toArray w fun e w'=>∃x,e=.returned x∧x=.tuple #[.bool (eval ns (inB bs) f),.nilIface]∧Kp [] w w':=by
 obtain ⟨hbn,hbl,hbs⟩:=hb
 refine enter Tryz.func50 mixed low50 (Nat.le_of_ble_eq_true rfl) ?_
 simp only [L50]
 simp [rowOf]
 refine cl_of (check_lit [(f:Int)] h ⟨hbn,hbl,hbs⟩ rfl (by simp) rfl) ?_
 rintro _ w2 ⟨rfl,k2⟩
 have hr:[(f:Int)].all (refB ns)=true:=by
  unfold Ref at hf
  simp [refB]; omega
 rw [hr]
 simp [bchkV]
 refine loop_inv (fun q ρ w1=>ρ 0=.pointer (some ⟨m,0,none⟩)∧ρ 1=.int .i64 (q:Nat)∧ρ 2=u∧Ref ns q∧eval ns (inB bs) q=eval ns (inB bs) f∧Kp [] w w1) f ⟨by simp,by simp,by simp,hf,rfl,k2⟩ ?_
 rintro q ρ w1 ⟨g0,g1,g2,hq,he,kp⟩
 by_cases h2:q < 2
 ·have h2':¬(1:Int) < q:=by omega
  have h2'':¬1 < q:=by omega
  simp [g0,g1,g2,h2',h2'']
  refine ⟨?_,kp⟩
  rw [←he]
  have:q=0∨q=1:=by omega
  rcases this with rfl | rfl
  ·rw [eval_zero]; rfl
  ·rw [eval_one]; rfl
 ·have h2':(1:Int) < q:=by omega
  have h2'':1 < q:=by omega
  have hq':q < ns.length+2:=hq
  simp [g0,g1,g2,h2',h2'']
  refine cl_of (at_spec m n lim q ns w1 (h.kp0 kp) ⟨hbn,hbl,hbs⟩ hq) ?_
  rintro _ w3 ⟨rfl,k3⟩
  have k03:=kp.trans0 k3
  have l1:=hw.lt_low (by omega) hq
  have l2:=hw.lt_high (by omega) hq
  have rl:=hw.ref_low hq
  have rh:=hw.ref_high hq
  have ee:=eval_node hw (inB bs) (by omega) hq
  have tvn:=hw.tv_var (by omega) hq
  have etv:tv n ns q=(at_ n ns q).v:=rfl
  obtain ⟨nd,hnd⟩:∃nd,nd=at_ n ns q:=⟨_,rfl⟩
  rw [←hnd] at l1 l2 rl rh ee etv ⊢
  simp [ndV,bn_len]
  refine st_obj alloc_new (by simp [en,ints]) (by simp [en,ints]) ?_
  intro w4 hk4 hs4 hb4
  have k04:Kp [] w w4:=k03.trans0 (((Kp.refl [] w3).alloc _).trans' hk4 (fun x hx=>.inr (by simp at hx; omega)))
  have hu4:=hu.kp0 k04
  have e3:wrAt #[.int .i64 0,.int .i64 0,.int .i64 0] 0 (en nd)=(en nd).toArray:=by simp [en,ints]
  rw [e3] at hb4
  simp [cell_blk hb4,en,ints,g2,hu4.len]
  by_cases hv:nd.v < bs.length
  ·have hv':(nd.v:Int) < bs.length:=by omega
   have hget:bs[nd.v]? = some bs[nd.v]:=List.getElem?_eq_getElem hv
   obtain ⟨bb,hbb⟩:∃bb,bb=bs[nd.v]:=⟨_,rfl⟩
   rw [←hbb] at hget
   have hin:inB bs nd.v=bb:=by simp [inB,List.getD,hget]
   simp (disch:=omega) [hv,hv',hu4.idx,bv_cell hu4 hget,cell_blk hb4,g2,en,ints]
   rw [hin] at ee
   cases bb with
   | true =>
    simp [cell_blk hb4,g0,g1,g2,en,ints]
    exact ⟨nd.high,by omega,rfl,rh,by rw [←he,ee]; rfl,k04⟩
   | false =>
    simp [cell_blk hb4,g0,g1,g2,en,ints]
    exact ⟨nd.low,by omega,rfl,rl,by rw [←he,ee]; rfl,k04⟩
  ·have hv':¬(nd.v:Int) < bs.length:=by omega
   have hin:inB bs nd.v=false:=by simp [inB,List.getD,List.getElem?_eq_none (Nat.le_of_not_lt hv)]
   rw [hin] at ee
   simp [hv,hv',g0,g1,g2]
   exact ⟨nd.low,by omega,rfl,rl,by rw [←he,ee]; rfl,k04⟩
end
end Go.Proofs.YtcoeknnghfajnaaGreat
end
section
namespace Go.Proofs.YtcoeknnghfajnaaGreat
open Go Go.W Go.Bd Go.Maps
theorem bzbool (w:World):(zeroValue 4).run Tryz.prog w=.ok (.bool false) w:=Tryz.zeroValue4 w
abbrev SeenB (b:Nat) (M:MemR):Asr:=MapA b natV Value.bool i64ok M
theorem getM_all {M:MemR} {x:Nat} (ha:∀q ∈ M,q.2=true):(((getM M x).map Value.bool).getD (.bool false))=.bool (decide (x ∈ keys M)):=by
 cases h:getM M x with
 | some r =>
  have h1:=getM_in h
  have h2:=ha _ h1
  simp only at h2
  have:x ∈ keys M:=List.mem_map.2 ⟨_,h1,rfl⟩
  simp [h2,this]
 | none =>
  have:x ∉ keys M:=fun hx=>by
   obtain ⟨q,hq,e⟩:=List.mem_map.1 hx
   simp only [getM,Option.map_eq_none_iff,List.find?_eq_none] at h
   exact h q hq (by simp [e])
  simp [this]
theorem putM_keys {M:MemR} {x y:Nat}:y ∈ keys (putM M x true)↔y ∈ keys M∨y=x:=by
 unfold putM keys
 split
 ·rename_i h
  rw [List.any_eq_true] at h
  obtain ⟨p,hp,e⟩:=h
  have e:p.1=x:=by simpa using e
  constructor
  ·intro hy
   obtain ⟨q,hq,rfl⟩:=List.mem_map.1 hy
   obtain ⟨p',hp',e'⟩:=List.mem_map.1 hq
   split at e'
   ·exact .inr (by rw [←e'])
   ·exact .inl (by rw [←e']; exact List.mem_map.2 ⟨_,hp',rfl⟩)
  ·have key:∀y,y ∈ M.map (·.1)→y ∈ (M.map fun p=>if p.1=x then (x,true) else p).map (·.1):=fun y hy=>by
    obtain ⟨q,hq,rfl⟩:=List.mem_map.1 hy
    refine List.mem_map.2 ⟨_,List.mem_map.2 ⟨q,hq,rfl⟩,?_⟩
    split
    ·rename_i h; exact h.symm
    ·rfl
   rintro (hy | rfl)
   ·exact key y hy
   ·exact key y (List.mem_map.2 ⟨p,hp,e⟩)
 ·simp
theorem putM_all {M:MemR} {x:Nat} (ha:∀q ∈ M,q.2=true):∀q ∈ putM M x true,q.2=true:=fun q hq=>by
 rcases putM_mem hq with h | rfl
 ·exact ha q h
 ·rfl
theorem keys_small {ns:Ns} {M:MemR} {N:Nat} (hN:ns.length+2≤N) (hr:∀x ∈ keys M,Ref ns x) (hn:(M.map (·.1)).Nodup):M.length≤N:=by
 have:=nodup_len _ (List.range N) hn (fun x hx=>by
  have:=hr x hx
  unfold Ref at this
  exact List.mem_range.2 (by omega))
 simpa using this
def RPost (m n lim:Nat) (ns:Ns) (f b:Nat) (M:MemR) (B:Asr) (w:World) (F:List Nat) (w':World):Prop :=
 ∃M',ROk n ns f M M'∧(∀x ∈ keys M',Ref ns x)∧At w F (Star (MgrA m n lim ns) (Star (SeenB b M') B)) w'
theorem reach_aux (m n lim b:Nat) (ns:Ns) (hw:Wf n ns) (hb:Bnd n lim ns) (w:World) (F:List Nat) (B:Asr) (hB:Lcl B):∀(d f:Nat) (M:MemR) (w1:World),Ref ns f→f≤d→(∀q ∈ M,q.2=true)→(∀x ∈ keys M,Ref ns x) →
  At w F (Star (MgrA m n lim ns) (Star (SeenB b M) B)) w1 →
  Calls Tryz.prog 92 [.pointer (some ⟨m,0,none⟩),.int .i64 (f:Nat),.map (some b)].toArray w1 fun e w'=>∃v,e=.returned v∧RPost m n lim ns f b M B w F w':=by
 intro d
 induction d using Nat.strongRecOn with
 | ind d ih =>
 intro f M w1 hf hd hM hR hA
 obtain ⟨hbn,hbl,hbs⟩:=hb
 have hb':Bnd n lim ns:=⟨hbn,hbl,hbs⟩
 have hLX:∀M,Lcl (Star (MgrA m n lim ns) (Star (SeenB b M) B)):=fun M=>Lcl.mgr.star (Lcl.map.star hB)
 have hrf:f≤1048578:=by unfold Ref at hf; omega
 have hok:i64ok f:=by unfold i64ok; omega
 refine enter Tryz.func92 mixed low92 (Nat.le_of_ble_eq_true rfl) ?_
 simp only [L92]
 by_cases h2:f < 2
 ·have h2':(f:Int) < 2:=by omega
  simp [h2']
  exact ⟨M,ROk.same (.inl h2) hM,hR,hA⟩
 have h2':¬(f:Int) < 2:=by omega
 simp [h2']
 refine MapM.look1 (x:=f) hA.drop.map bkeyI Tryz.underlying72 bzbool hok ?_
 rw [getM_all hM]
 by_cases hin:f ∈ keys M
 ·simp [hin,h2']
  exact ⟨M,ROk.same (.inr hin) hM,hR,hA⟩
 simp [hin,h2']
 have hf2:2≤f:=by omega
 have l1:=hw.lt_low hf2 hf
 have l2:=hw.lt_high hf2 hf
 have rl:=hw.ref_low hf
 have rh:=hw.ref_high hf
 have hml:M.length≤1048578:=keys_small (ns:=ns) (N:=1048578) (by omega) hR (MapM.nodup hA.drop.map)
 refine At.put (x:=f) (v:=true) (Lcl.mgr.star hB) hA.rot bkeyI Tryz.underlying72 hok (by unfold maxLen; omega) fun w2 h2=>?_
 have h3:=h2.rot
 simp
 refine cl_of (at_spec m n lim f ns w2 (MgrA.rd h3) hb' hf) ?_
 rintro _ w3 ⟨rfl,k3⟩
 have h4:=h3.kp0 (hLX _) k3
 simp [ndV,en,ints]
 have hR1:∀x ∈ keys (putM M f true),Ref ns x:=fun x hx=>by
  rcases putM_keys.1 hx with h | rfl
  ·exact hR x h
  ·exact hf
 refine cl_of (ih (d - 1) (by omega) (at_ n ns f).low _ w3 rl (by omega) (putM_all hM) hR1 h4) ?_
 rintro v4 w4 ⟨M2,o2,hR2,h5⟩
 simp
 refine cl_of (at_spec m n lim f ns w4 (MgrA.rd h5) hb' hf) ?_
 rintro _ w5 ⟨rfl,k5⟩
 have h6:=h5.kp0 (hLX _) k5
 simp [ndV,en,ints]
 refine cl_of (ih (d - 1) (by omega) (at_ n ns f).high _ w5 rh (by omega) o2.all hR2 h6) ?_
 rintro v6 w6 ⟨M3,o3,hR3,h7⟩
 simp
 exact ⟨M3,ROk.node hf2 (fun x=>putM_keys) o2 o3,hR3,h7⟩
end Go.Proofs.YtcoeknnghfajnaaGreat
end
section
namespace Go.Proofs.YtcoeknnghfajnaaGreat
open Go Go.W Go.Bd Go.Maps
def AePost (m n lim:Nat) (S:Nat→Nat→Prop) (xs:List Int) (vv:Value) (ns:Ns) (f g:Nat) (B:Asr) (w:World) (F:List Nat) (v:Value) (w':World):Prop :=
 ∃r1 r ns1 ns' M',v=optV r∧BinOk n lim 0 S ns f g r1 ns1∧(r1=none→r=none∧ns'=ns1)∧(∀y,r1=some y→QOk n lim 1 (inB (insOf n xs)) ns1 y r ns' M')∧At w F (Star (MgrA m n lim ns') (Star (VwA vv iv xs) B)) w'
theorem andExists_spec {w w1:World} {F:List Nat} {B:Asr} (m n lim:Nat) (ns:Ns) (f g:Nat) (S:Nat→Nat→Prop) (v:Value) (xs:List Int) (hB:Lcl B) (hA:At w F (Star (MgrA m n lim ns) (Star (VwA v iv xs) B)) w1) (hw:Wf n ns) (hb:Bnd n lim ns) (hf:Ref ns f) (hg:Ref ns g) (hC:Clo n 0 ns S) (hS:Sn 0 S f g)
  (hx:xs.length≤1000000) (hv:xs.all (varB n)=true) :
  Calls Tryz.prog 43 [.pointer (some ⟨m,0,none⟩),.int .i64 (f:Nat),.int .i64 (g:Nat),v].toArray w1 fun e w'=>∃x,e=.returned x∧AePost m n lim S xs v ns f g B w F x w':=by
 refine enter Tryz.func43 mixed low43 (Nat.le_of_ble_eq_true rfl) ?_
 simp only [L43]
 have hLV:Lcl (Star (VwA v iv xs) B):=Lcl.vw.star hB
 have hl:Lcl (Star (MgrA m n lim ns) (Star (VwA v iv xs) B)):=Lcl.mgr.star hLV
 simp [rowOf]
 refine cl_of (check_lit [(f:Int),(g:Int)] (MgrA.rd hA) hb rfl (by simp) rfl) ?_
 rintro u w2 ⟨rfl,k2⟩
 have h2:=hA.kp0 hl k2
 have hr:[(f:Int),(g:Int)].all (refB ns)=true:=by
  unfold Ref at hf hg
  simp [refB]; omega
 rw [hr]
 simp [bchkV]
 refine cl_of (checkVars_spec m n lim ns v xs _ (MgrA.rd h2) h2.drop.vw hx) ?_
 rintro u w3 ⟨rfl,k3⟩
 have h3:=h2.kp0 hl k3
 rw [hv]
 simp [bchkV]
 refine cl_of (and_of (binary_spec m n lim ns 0 f g S (by omega) hLV h3 hw hb hf hg hC hS) (by rintro _ _ ⟨r,_,rfl,_⟩; exact optV_tup r)) ?_
 rintro _ w4 ⟨r1,ns1,rfl,hbin,h4⟩
 cases r1 with
 | none =>
  simp [optV,bnoV,berrV]
  exact ⟨none,none,ns1,ns1,[],rfl,hbin,fun _=>⟨rfl,rfl⟩,fun y hy=>(by cases hy),h4⟩
 | some y =>
  have hb1:Bnd n lim ns1:=⟨hb.hn,hb.hl,hbin.lim⟩
  simp [optV,okV]
  refine cl_of (exists_of (quantified_spec m n lim ns1 1 y v xs (by omega) hB h4 hbin.ext.wf hb1 (hbin.ok y rfl).1 hx hv) (by rintro _ _ ⟨r,_,_,rfl,_⟩; exact optV_tup r)) ?_
  rintro _ w5 ⟨r,ns2,M2,rfl,hq,h5⟩
  cases r with
  | none=>simp [optV,bnoV,berrV]; exact ⟨some y,none,ns1,ns2,M2,rfl,hbin,fun h=>(by cases h),fun z hz=>by cases hz; exact hq,h5⟩
  | some x=>simp [optV,okV]; exact ⟨some y,some x,ns1,ns2,M2,rfl,hbin,fun h=>(by cases h),fun z hz=>by cases hz; exact hq,h5⟩
end Go.Proofs.YtcoeknnghfajnaaGreat
end
section
namespace Go.Proofs
open Go.Shelf
def Tryz.keys94_ren:Go.Shelf.Ren:=⟨fun | 7=>94 | 10=>100 | n=>n,fun | 23=>72 | 26=>3 | 3=>4 | 28=>141 | 0=>0 | 27=>140 | 33=>148 | 4=>4 | n=>n,fun | n=>n⟩
theorem Tryz.keys94:Go.Proofs.SlLaysZI.n7 Tryz.prog Tryz.keys94_ren:={
 mixed:=by kernel_rfl
 f7:=⟨Tryz.f94.name,by decide,Tryz.func94.trans (congrArg some (by kernel_rfl))⟩
 f10:=⟨Tryz.f100.name,by decide,Tryz.func100.trans (congrArg some (by kernel_rfl))⟩
 t0:=Tryz.underlying0
 a0:=Tryz.isAgg0
 z0:=Tryz.sizeOf0
 v0:=Tryz.zeroValue0
 t4:=Tryz.underlying4
 a4:=Tryz.isAgg4
 z4:=Tryz.sizeOf4
 v4:=Tryz.zeroValue4
 t23:=Tryz.underlying72
 a23:=Tryz.isAgg72
 z23:=Tryz.sizeOf72
 v23:=Tryz.zeroValue72
 t26:=Tryz.underlying3
 a26:=Tryz.isAgg3
 z26:=Tryz.sizeOf3
 v26:=Tryz.zeroValue3
 t27:=Tryz.underlying140
 a27:=Tryz.isAgg140
 z27:=Tryz.sizeOf140
 v27:=Tryz.zeroValue140
 t28:=Tryz.underlying141
 a28:=Tryz.isAgg141
 z28:=Tryz.sizeOf141
 v28:=Tryz.zeroValue141
 t33:=Tryz.underlying148
 a33:=Tryz.isAgg148
 z33:=Tryz.sizeOf148
 v33:=Tryz.zeroValue148 }
def Tryz.sorted93_ren:Go.Shelf.Ren:=⟨fun | 6=>93 | 8=>98 | 9=>99 | 11=>102 | 13=>104 | 12=>103 | 23=>114 | 24=>115 | 14=>105 | 15=>106 | 16=>107 | 17=>108 | 18=>109 | 19=>110 | 20=>111 | 21=>112 | 22=>113 | 25=>116 | 26=>117 | 27=>118 | 28=>119 | 29=>120 | 30=>121 | 31=>122 | n=>n,fun | 26=>3 | 28=>141 | 24=>22 | 0=>0 | 3=>3 | 37=>154 | 48=>164 | 50=>166 | 4=>4 | 40=>157 | 39=>156 | 45=>127 | 5=>5 | 9=>9 | 51=>167 | 55=>171 | 57=>173 | 58=>174 | 33=>148 | n=>n,fun | n=>n⟩
theorem Tryz.sorted93:Go.Proofs.SlLaysZI.n6 Tryz.prog Tryz.sorted93_ren:={
 mixed:=by kernel_rfl
 f6:=⟨Tryz.f93.name,by decide,Tryz.func93.trans (congrArg some (by kernel_rfl))⟩
 f8:=⟨Tryz.f98.name,by decide,Tryz.func98.trans (congrArg some (by kernel_rfl))⟩
 f11:=⟨Tryz.f102.name,by decide,Tryz.func102.trans (congrArg some (by kernel_rfl))⟩
 t0:=Tryz.underlying0
 a0:=Tryz.isAgg0
 z0:=Tryz.sizeOf0
 v0:=Tryz.zeroValue0
 t24:=Tryz.underlying22
 a24:=Tryz.isAgg22
 z24:=Tryz.sizeOf22
 v24:=Tryz.zeroValue22
 t26:=Tryz.underlying3
 a26:=Tryz.isAgg3
 z26:=Tryz.sizeOf3
 v26:=Tryz.zeroValue3
 t28:=Tryz.underlying141
 a28:=Tryz.isAgg141
 z28:=Tryz.sizeOf141
 v28:=Tryz.zeroValue141
 i26:=by kernel_rfl }
def Tryz.sort99_ren:Go.Shelf.Ren:=⟨fun | 5=>99 | 8=>104 | 7=>103 | 19=>114 | 20=>115 | 10=>105 | 11=>106 | 12=>107 | 13=>108 | 14=>109 | 15=>110 | 16=>111 | 17=>112 | 18=>113 | 30=>116 | 31=>117 | 32=>118 | 33=>119 | 34=>120 | 35=>121 | 40=>122 | n=>n,fun | 23=>22 | 25=>3 | 3=>3 | 32=>154 | 22=>22 | 0=>0 | 44=>164 | 46=>166 | 4=>4 | 36=>157 | 35=>156 | 41=>127 | 5=>5 | 9=>9 | 53=>167 | 57=>171 | 63=>173 | 64=>174 | n=>n,fun | n=>n⟩
theorem Tryz.sort99:Go.Proofs.SlLaysM.n5 Tryz.prog Tryz.sort99_ren:={
 mixed:=by kernel_rfl
 f5:=⟨Tryz.f99.name,by decide,Tryz.func99.trans (congrArg some (by kernel_rfl))⟩
 f7:=⟨Tryz.f103.name,by decide,Tryz.func103.trans (congrArg some (by kernel_rfl))⟩
 f8:=Tryz.func104.trans (congrArg some (by kernel_rfl))
 f10:=⟨Tryz.f105.name,by decide,Tryz.func105.trans (congrArg some (by kernel_rfl))⟩
 f11:=⟨Tryz.f106.name,by decide,Tryz.func106.trans (congrArg some (by kernel_rfl))⟩
 f12:=⟨Tryz.f107.name,by decide,Tryz.func107.trans (congrArg some (by kernel_rfl))⟩
 f13:=⟨Tryz.f108.name,by decide,Tryz.func108.trans (congrArg some (by kernel_rfl))⟩
 f14:=⟨Tryz.f109.name,by decide,Tryz.func109.trans (congrArg some (by kernel_rfl))⟩
 f15:=⟨Tryz.f110.name,by decide,Tryz.func110.trans (congrArg some (by kernel_rfl))⟩
 f16:=⟨Tryz.f111.name,by decide,Tryz.func111.trans (congrArg some (by kernel_rfl))⟩
 f17:=⟨Tryz.f112.name,by decide,Tryz.func112.trans (congrArg some (by kernel_rfl))⟩
 f18:=⟨Tryz.f113.name,by decide,Tryz.func113.trans (congrArg some (by kernel_rfl))⟩
 f19:=Tryz.func114.trans (congrArg some (by kernel_rfl))
 f20:=Tryz.func115.trans (congrArg some (by kernel_rfl))
 f30:=⟨Tryz.f116.name,by decide,Tryz.func116.trans (congrArg some (by kernel_rfl))⟩
 f31:=Tryz.func117.trans (congrArg some (by kernel_rfl))
 f32:=Tryz.func118.trans (congrArg some (by kernel_rfl))
 f33:=⟨Tryz.f119.name,by decide,Tryz.func119.trans (congrArg some (by kernel_rfl))⟩
 f34:=⟨Tryz.f120.name,by decide,Tryz.func120.trans (congrArg some (by kernel_rfl))⟩
 f35:=⟨Tryz.f121.name,by decide,Tryz.func121.trans (congrArg some (by kernel_rfl))⟩
 f40:=⟨Tryz.f122.name,by decide,Tryz.func122.trans (congrArg some (by kernel_rfl))⟩
 t0:=Tryz.underlying0
 a0:=Tryz.isAgg0
 z0:=Tryz.sizeOf0
 v0:=Tryz.zeroValue0
 t3:=Tryz.underlying3
 a3:=Tryz.isAgg3
 z3:=Tryz.sizeOf3
 v3:=Tryz.zeroValue3
 t4:=Tryz.underlying4
 a4:=Tryz.isAgg4
 z4:=Tryz.sizeOf4
 v4:=Tryz.zeroValue4
 t5:=Tryz.underlying5
 a5:=Tryz.isAgg5
 z5:=Tryz.sizeOf5
 v5:=Tryz.zeroValue5
 t9:=Tryz.underlying9
 a9:=Tryz.isAgg9
 z9:=Tryz.sizeOf9
 v9:=Tryz.zeroValue9
 t22:=Tryz.underlying22
 a22:=Tryz.isAgg22
 z22:=Tryz.sizeOf22
 v22:=Tryz.zeroValue22
 t23:=Tryz.underlying22
 a23:=Tryz.isAgg22
 z23:=Tryz.sizeOf22
 v23:=Tryz.zeroValue22
 t25:=Tryz.underlying3
 a25:=Tryz.isAgg3
 z25:=Tryz.sizeOf3
 v25:=Tryz.zeroValue3
 t32:=Tryz.underlying154
 a32:=Tryz.isAgg154
 z32:=Tryz.sizeOf154
 v32:=Tryz.zeroValue154
 t35:=Tryz.underlying156
 a35:=Tryz.isAgg156
 z35:=Tryz.sizeOf156
 v35:=Tryz.zeroValue156
 t36:=Tryz.underlying157
 a36:=Tryz.isAgg157
 z36:=Tryz.sizeOf157
 v36:=Tryz.zeroValue157
 t41:=Tryz.underlying127
 a41:=Tryz.isAgg127
 z41:=Tryz.sizeOf127
 v41:=Tryz.zeroValue127
 t44:=Tryz.underlying164
 a44:=Tryz.isAgg164
 z44:=Tryz.sizeOf164
 v44:=Tryz.zeroValue164
 t46:=Tryz.underlying166
 a46:=Tryz.isAgg166
 z46:=Tryz.sizeOf166
 v46:=Tryz.zeroValue166
 t53:=Tryz.underlying167
 a53:=Tryz.isAgg167
 z53:=Tryz.sizeOf167
 v53:=Tryz.zeroValue167
 t57:=Tryz.underlying171
 a57:=Tryz.isAgg171
 z57:=Tryz.sizeOf171
 v57:=Tryz.zeroValue171
 t63:=Tryz.underlying173
 a63:=Tryz.isAgg173
 z63:=Tryz.sizeOf173
 v63:=Tryz.zeroValue173
 t64:=Tryz.underlying174
 a64:=Tryz.isAgg174
 z64:=Tryz.sizeOf174
 v64:=Tryz.zeroValue174 }
end Go.Proofs
end
