/-
  A part of the proof of this claim's statement (BdW8, BdEx, BdW9, BdWA, BdWB, BdWF, BdKeys, BdWC): plain theorems; no conditions beyond those each names.
-/
import Derived.Test.YtcoeknnghfajnaaGreatPk14
import Derived.Test.YtcoeknnghfajnaaGreatPk12
import Derived.Shelf.SlIterI.Nil
import Derived.Shelf.SortM.Plain
import Derived.Shelf.SortM.SortNone
import Derived.Test.YtcoeknnghfajnaaGreatProg
import Derived.Test.YtcoeknnghfajnaaGreatPk08
import Derived.Maps.OwnSet
set_option maxRecDepth 100000
set_option linter.unusedSimpArgs false
set_option linter.unusedVariables false
set_option linter.unusedSectionVars false
section
namespace Go.Proofs.YtcoeknnghfajnaaGreat
open Go Go.W Go.Bd Go.Maps
def MemC (n:Nat) (ns:Ns) (M:Mem1):Prop:=∀q ∈ M,Ref ns q.1∧q.2=min (cnt n ns q.1) many
def CPost (m n lim:Nat) (ns:Ns) (f b:Nat) (B:Asr) (w:World) (F:List Nat) (v:Value) (w':World):Prop :=
 v=natV (min (cnt n ns f) many)∧∃M',MemC n ns M'∧At w F (Star (MgrA m n lim ns) (Star (MemB b M') B)) w'
set_option maxHeartbeats 4000000 in
theorem count_aux (m n lim b:Nat) (ns:Ns) (hw:Wf n ns) (hb:Bnd n lim ns) (w:World) (F:List Nat):∀(d f:Nat) (M:Mem1) (B:Asr) (w1:World),Lcl B→Ref ns f→f≤d→MemC n ns M →
  At w F (Star (MgrA m n lim ns) (Star (MemB b M) B)) w1 →
  Calls Tryz.prog 77 [.pointer (some ⟨m,0,none⟩),.int .i64 (f:Nat),.map (some b)].toArray w1 fun e w'=>∃v,e=.returned v∧CPost m n lim ns f b B w F v w':=by
 intro d
 induction d using Nat.strongRecOn with
 | ind d ih =>
 intro f M B w1 hB hf hd hM hA
 obtain ⟨hbn,hbl,hbs⟩:=hb
 have hb':Bnd n lim ns:=⟨hbn,hbl,hbs⟩
 have hLX:∀M,Lcl (Star (MgrA m n lim ns) (Star (MemB b M) B)):=fun M=>Lcl.mgr.star (Lcl.map.star hB)
 have hrf:f≤1048578:=by unfold Ref at hf; omega
 have hmany:many=1099511627777:=rfl
 refine enter Tryz.func77 mixed low77 (Nat.le_of_ble_eq_true rfl) ?_
 simp only [L77]
 by_cases h2:f < 2
 ·have h2':(f:Int) < 2:=by omega
  simp [h2']
  refine ⟨?_,M,hM,hA⟩
  rw [cnt_lt h2]
  unfold natV
  congr 1
  omega
 have h2':¬(f:Int) < 2:=by omega
 simp [h2']
 refine MapM.look2 (x:=f) hA.drop.map bkeyI Tryz.underlying73 zint (show i64ok f by unfold i64ok; omega) ?_
 cases hgm:getM M f with
 | some r =>
  simp [natV]
  have:=(hM _ (getM_in hgm)).2
  simp only at this
  refine ⟨?_,M,hM,hA⟩
  unfold natV
  rw [this]
 | none =>
 simp
 refine cl_of (at_spec m n lim f ns w1 (MgrA.rd hA) hb' hf) ?_
 rintro v w2 ⟨rfl,k2⟩
 have h3:=(hA.kp0 (hLX M) k2).alloc (.cells #[.int .i64 0,.int .i64 0,.int .i64 0] 125) (hLX M)
 simp [ndV,bn_len]
 refine h3.st (hLX M) (by simp [en,ints]) (by simp [en,ints]) fun w4 h4=>?_
 have e3:∀d:Nd,wrAt #[.int .i64 0,.int .i64 0,.int .i64 0] 0 (en d)=(en d).toArray:=fun d=>by simp [en,ints]
 rw [e3] at h4
 obtain ⟨t,ht⟩:∃t,t=w2.heap.size:=⟨_,rfl⟩
 rw [←ht] at h4 ⊢
 have h5:=h4.tor3
 have hLT:Lcl (Star (ObjA t (.cells (en (at_ n ns f)).toArray 125 (0,0))) B):=Lcl.obj.star hB
 have hLY:∀M,Lcl (Star (MgrA m n lim ns) (Star (MemB b M) (Star (ObjA t (.cells (en (at_ n ns f)).toArray 125 (0,0))) B))):=fun M=>Lcl.mgr.star (Lcl.map.star hLT)
 have hf2:2≤f:=by omega
 have l1:=hw.lt_low hf2 hf
 have l2:=hw.lt_high hf2 hf
 have tvn:=hw.tv_var hf2 hf
 have rl:=hw.ref_low hf
 have rh:=hw.ref_high hf
 have tl:=hw.tv_low hf2 hf
 have th:=hw.tv_high hf2 hf
 have bl:=hw.tv_le rl
 have bh:=hw.tv_le rh
 have etv:tv n ns f=(at_ n ns f).v:=rfl
 obtain ⟨nd,hnd⟩:∃nd,nd=at_ n ns f:=⟨_,rfl⟩
 rw [←hnd] at h5 hLT hLY l1 l2 rl rh tl th bl bh etv
 refine any_text (fun _ w'=>∃M',MemC n ns M'∧At w F (Star (MgrA m n lim ns) (Star (MemB b M') (Star (ObjA t (.cells (en nd).toArray 125 (0,0))) B))) w') (by kernel_rfl) ⟨M,hM,h5.drew (hLY M)⟩ ?_
 have cell:∀{M':Mem1} {w':World},At w F (Star (MgrA m n lim ns) (Star (MemB b M') (Star (ObjA t (.cells (en nd).toArray 125 (0,0))) B))) w'→w'.heap[t]? = some (.cells (en nd).toArray 125 (0,0)):=fun h=>h.drop.drop.obj
 have callC:∀x,x < f→Ref ns x→∀w',(∃M',MemC n ns M'∧At w F (Star (MgrA m n lim ns) (Star (MemB b M') (Star (ObjA t (.cells (en nd).toArray 125 (0,0))) B))) w') →
   Calls Tryz.prog 77 [.pointer (some ⟨m,0,none⟩),.int .i64 (x:Nat),.map (some b)].toArray w' fun e w''=>∃v,e=.returned v∧(v=natV (min (cnt n ns x) many)∧∃M',MemC n ns M'∧At w F (Star (MgrA m n lim ns) (Star (MemB b M') (Star (ObjA t (.cells (en nd).toArray 125 (0,0))) B))) w''):=by
  rintro x hx hr w' ⟨M',hM',h'⟩
  exact ih (d - 1) (by omega) x M' _ w' hLT hr (by omega) hM' h'
 have callA:∀x,Ref ns x→∀w',(∃M',MemC n ns M'∧At w F (Star (MgrA m n lim ns) (Star (MemB b M') (Star (ObjA t (.cells (en nd).toArray 125 (0,0))) B))) w') →
   Calls Tryz.prog 78 [.pointer (some ⟨m,0,none⟩),.int .i64 (x:Nat)].toArray w' fun e w''=>∃v,e=.returned v∧(v=ndV (at_ n ns x)∧∃M',MemC n ns M'∧At w F (Star (MgrA m n lim ns) (Star (MemB b M') (Star (ObjA t (.cells (en nd).toArray 125 (0,0))) B))) w''):=by
  rintro x hr w' ⟨M',hM',h'⟩
  refine (at_spec m n lim x ns w' (MgrA.rd h') hb' hr).mono ?_
  rintro e w'' ⟨v,rfl,rfl,k⟩
  exact ⟨_,rfl,rfl,M',hM',h'.kp0 (hLY M') k⟩
 have callT:∀x p,x≤many→p≤100000→∀w',(∃M',MemC n ns M'∧At w F (Star (MgrA m n lim ns) (Star (MemB b M') (Star (ObjA t (.cells (en nd).toArray 125 (0,0))) B))) w') →
   Calls Tryz.prog 76 [.int .i64 (x:Nat),.int .i64 (p:Nat)].toArray w' fun e w''=>∃v,e=.returned v∧(v=natV (min (x * 2 ^ p) many)∧∃M',MemC n ns M'∧At w F (Star (MgrA m n lim ns) (Star (MemB b M') (Star (ObjA t (.cells (en nd).toArray 125 (0,0))) B))) w''):=by
  rintro x p hx hp w' ⟨M',hM',h'⟩
  refine (times_spec x p w' hx hp).mono ?_
  rintro e w'' ⟨v,rfl,rfl,k⟩
  exact ⟨_,rfl,rfl,M',hM',h'.kp0 (hLY M') k⟩
 have etl:tv n ns nd.low=(at_ n ns nd.low).v:=rfl
 have eth:tv n ns nd.high=(at_ n ns nd.high).v:=rfl
 simp
 refine rdA_mk (.int .i64 (nd.low:Nat)) (fun k' w' hS=>?_) ?_
 ·obtain ⟨M',hM',h'⟩:=hS
  simp [cell_blk (cell h'),en,ints]
 simp
 refine efA_mk (natV (min (cnt n ns nd.low) many)) (fun w' hS=>?_) ?_
 ·simp
  refine cl_of (callC nd.low (by omega) rl w' hS) ?_
  rintro v w'' ⟨rfl,h⟩
  exact ⟨rfl,h⟩
 simp
 refine rdA_mk (.int .i64 (nd.low:Nat)) (fun k' w' hS=>?_) ?_
 ·obtain ⟨M',hM',h'⟩:=hS
  simp [cell_blk (cell h'),en,ints]
 simp
 refine efA_mk (ndV (at_ n ns nd.low)) (fun w' hS=>?_) ?_
 ·simp
  refine cl_of (callA nd.low rl w' hS) ?_
  rintro v w'' ⟨rfl,h⟩
  exact ⟨rfl,h⟩
 simp [ndV,en,ints]
 refine rdA_mk (.int .i64 (nd.v:Nat)) (fun k' w' hS=>?_) ?_
 ·obtain ⟨M',hM',h'⟩:=hS
  simp [cell_blk (cell h'),en,ints]
 simp (disch:=omega) [wrap_i64]
 refine efA_mk (natV (min (min (cnt n ns nd.low) many * 2 ^ (tv n ns nd.low - nd.v - 1)) many)) (fun w' hS=>?_) ?_
 ·simp [natV]
  have e1:(((at_ n ns nd.low).v:Int) - nd.v - 1)=((tv n ns nd.low - nd.v - 1:Nat):Int):=by
   have:tv n ns nd.low=(at_ n ns nd.low).v:=rfl
   omega
  rw [e1]
  refine cl_of (callT (min (cnt n ns nd.low) many) (tv n ns nd.low - nd.v - 1) (by omega) (by omega) w' hS) ?_
  rintro v w'' ⟨rfl,h⟩
  exact ⟨rfl,h⟩
 simp
 refine rdA_mk (.int .i64 (nd.high:Nat)) (fun k' w' hS=>?_) ?_
 ·obtain ⟨M',hM',h'⟩:=hS
  simp [cell_blk (cell h'),en,ints]
 simp
 refine efA_mk (natV (min (cnt n ns nd.high) many)) (fun w' hS=>?_) ?_
 ·simp
  refine cl_of (callC nd.high (by omega) rh w' hS) ?_
  rintro v w'' ⟨rfl,h⟩
  exact ⟨rfl,h⟩
 simp
 refine rdA_mk (.int .i64 (nd.high:Nat)) (fun k' w' hS=>?_) ?_
 ·obtain ⟨M',hM',h'⟩:=hS
  simp [cell_blk (cell h'),en,ints]
 simp
 refine efA_mk (ndV (at_ n ns nd.high)) (fun w' hS=>?_) ?_
 ·simp
  refine cl_of (callA nd.high rh w' hS) ?_
  rintro v w'' ⟨rfl,h⟩
  exact ⟨rfl,h⟩
 simp [ndV,en,ints]
 refine rdA_mk (.int .i64 (nd.v:Nat)) (fun k' w' hS=>?_) ?_
 ·obtain ⟨M',hM',h'⟩:=hS
  simp [cell_blk (cell h'),en,ints]
 simp (disch:=omega) [wrap_i64]
 refine efA_mk (natV (min (min (cnt n ns nd.high) many * 2 ^ (tv n ns nd.high - nd.v - 1)) many)) (fun w' hS=>?_) ?_
 ·simp [natV]
  have e1:(((at_ n ns nd.high).v:Int) - nd.v - 1)=((tv n ns nd.high - nd.v - 1:Nat):Int):=by
   have:tv n ns nd.high=(at_ n ns nd.high).v:=rfl
   omega
  rw [e1]
  refine cl_of (callT (min (cnt n ns nd.high) many) (tv n ns nd.high - nd.v - 1) (by omega) (by omega) w' hS) ?_
  rintro v w'' ⟨rfl,h⟩
  exact ⟨rfl,h⟩
 have hcn:=cnt_node hw hf2 hf
 rw [←hnd,etv] at hcn
 simp (disch:=omega) [natV,wrap_i64]
 intro w' M' hM' h'
 have ev:(min (((min (min (cnt n ns nd.low) many * 2 ^ (tv n ns nd.low - nd.v - 1)) many:Nat):Int)+((min (min (cnt n ns nd.high) many * 2 ^ (tv n ns nd.high - nd.v - 1)) many:Nat):Int)) 1099511627777:Int)=((min (cnt n ns f) many:Nat):Int):=by
  rw [many_mul,many_mul,hcn,←many_add]; omega
 rw [ev]
 have hml:M'.length≤1048578:=mem1_small (ns:=ns) (N:=1048578) (by omega) (fun q hq=>(hM' q hq).1) (MapM.nodup h'.drop.map)
 refine At.put (x:=f) (v:=min (cnt n ns f) many) (Lcl.mgr.star hLT) h'.rot bkeyI Tryz.underlying73 (show i64ok f by unfold i64ok; omega) (by unfold maxLen; omega) fun w12 h12=>?_
 simp
 refine ⟨rfl,_,?_,(h12.rot).by (Imp.un (Imp.un Imp.dr))⟩
 intro q hq
 rcases putM_mem hq with h1 | rfl
 ·exact hM' q h1
 ·exact ⟨hf,rfl⟩
def cntV (x:Nat):Value:=if x < many then okV x else bnoV 5
theorem Count_spec {w w1:World} {F:List Nat} {B:Asr} (m n lim:Nat) (ns:Ns) (f:Nat) (hB:Lcl B) (hA:At w F (Star (MgrA m n lim ns) B) w1) (hw:Wf n ns) (hb:Bnd n lim ns) (hf:Ref ns f) :
  Calls Tryz.prog 39 [.pointer (some ⟨m,0,none⟩),.int .i64 (f:Nat)].toArray w1 fun e w'=>∃x,e=.returned x∧x=cntV (num n 0 fun a=>eval ns a f)∧At w F (Star (MgrA m n lim ns) B) w':=by
 have hbn:=hb.hn
 have hmany:many=1099511627777:=rfl
 refine enter Tryz.func39 mixed low39 (Nat.le_of_ble_eq_true rfl) ?_
 simp only [L39]
 have hl:Lcl (Star (MgrA m n lim ns) B):=Lcl.mgr.star hB
 have h1:=lit_ints (xs:=[(f:Int)]) (cs:=#[.int .i64 f]) hl hA rfl (by simp) rfl
 simp [rowOf]
 refine cl_of (check_spec m n lim ns _ [(f:Int)] _ (MgrA.rd h1.drop) hb h1.own.vw (by simp)) ?_
 rintro u w2 ⟨rfl,k2⟩
 have h2:=(h1.drop).kp0 hl k2
 have hr:[(f:Int)].all (refB ns)=true:=by
  unfold Ref at hf
  simp [refB]; omega
 rw [hr]
 have h3:=(h2.newmap (ek:=natV) (ev:=natV) (ok:=i64ok) hl).rot
 simp [bchkV]
 refine cl_of (count_aux m n lim _ ns hw hb w F f f [] B _ hB hf (Nat.le_refl _) (fun q hq=>by cases hq) h3) ?_
 rintro _ w4 ⟨rfl,M',hM',h4⟩
 have h5:=h4.by (Imp.un Imp.dr)
 have htv:=hw.tv_le hf
 simp
 refine cl_of (at_spec m n lim f ns w4 (MgrA.rd h5) hb hf) ?_
 rintro _ w6 ⟨rfl,k6⟩
 have h6:=h5.kp0 hl k6
 have etv:tv n ns f=(at_ n ns f).v:=rfl
 simp [ndV,en,ints,natV]
 refine cl_of (times_spec (min (cnt n ns f) many) (at_ n ns f).v w6 (by omega) (by omega)) ?_
 rintro _ w7 ⟨rfl,k7⟩
 have h7:=h6.kp0 hl k7
 have hc:=cnt_all hw hf
 rw [etv] at hc
 obtain ⟨c,hce⟩:∃c,c=num n 0 fun a=>eval ns a f:=⟨_,rfl⟩
 rw [←hce] at hc ⊢
 have e:min (min (cnt n ns f) many * 2 ^ (at_ n ns f).v) many=min c many:=by rw [many_mul,hc]
 rw [e]
 by_cases hlt:c < many
 ·have h8:¬(1099511627777:Int)≤((min c many:Nat):Int):=by omega
  have h9:min c many=c:=by omega
  simp [h8]
  rw [h9]
  exact ⟨by simp [cntV,hlt,okV],h7⟩
 ·have h8:(1099511627777:Int)≤((min c many:Nat):Int):=by omega
  simp [h8]
  exact ⟨by simp [cntV,hlt,bnoV,berrV],h7⟩
end Go.Proofs.YtcoeknnghfajnaaGreat
end
section
namespace Go.Bd
def ex1:Ns:=[⟨0,0,1⟩]
def ex2:Ns:=[⟨0,0,1⟩,⟨1,0,1⟩]
end Go.Bd
end
section
namespace Go.Proofs.YtcoeknnghfajnaaGreat
open Go Go.W Go.Bd Go.Maps
theorem bnum_err (c:Int) (w:World):Calls Tryz.prog 45 [berrV c].toArray w fun e w'=>∃x,e=.returned x∧x=.int .i64 c∧Kp [] w w':=by
 refine enter Tryz.func45 mixed low45 (Nat.le_of_ble_eq_true rfl) ?_
 simp only [L45]
 simp [berrV]
 exact Kp.refl _ _
theorem is_err (c k:Int) (w:World):Calls Tryz.prog 12 [berrV c,.int .i64 k].toArray w fun e w'=>∃x,e=.returned x∧x=.bool (decide (c=k))∧Kp [] w w':=by
 refine enter Tryz.func12 mixed low12 (Nat.le_of_ble_eq_true rfl) ?_
 simp only [L12]
 simp [berrV]
 refine cl_of (bnum_err c w) ?_
 rintro v w2 ⟨rfl,k2⟩
 simp
 refine ⟨?_,k2⟩
 by_cases h:c=k <;> simp [h]
end Go.Proofs.YtcoeknnghfajnaaGreat
end
section
namespace Go.Proofs.YtcoeknnghfajnaaGreat
open Go Go.W Go.Bd Go.Maps
theorem lit_vw {w:World} {xs:List Int} {cs:Array Value} {k:Nat} (hcs:cs.toList=xs.flatMap iv) (hx:xs.length≤1000000) (hk:k=xs.length) :
  Vw (w.alloc (.cells cs 3)) (.slice (some ⟨w.heap.size,0,none⟩) k k) iv xs :=
 (lit_ints Lcl.emp (At.start (A:=Emp) (F:=[]) (w:=w) rfl) hcs hx hk).own.vw
theorem check_lit {m n lim:Nat} {ns:Ns} {w:World} (xs:List Int) {cs:Array Value} {k:Nat} (h:MgrF w m n lim ns) (hb:Bnd n lim ns) (hcs:cs.toList=xs.flatMap iv) (hx:xs.length≤1000000) (hk:k=xs.length) :
  Calls Tryz.prog 75 [.pointer (some ⟨m,0,none⟩),.slice (some ⟨w.heap.size,0,none⟩) k k].toArray (w.alloc (.cells cs 3)) fun e w'=>∃x,e=.returned x∧x=bchkV (xs.all (refB ns))∧Kp [] w w':=by
 have ka:Kp [] w (w.alloc (.cells cs 3)):=(Kp.refl _ _).alloc _
 refine (check_spec m n lim ns _ xs _ (h.kp0 ka) hb (lit_vw hcs hx hk) hx).mono ?_
 rintro e w' ⟨v,rfl,rfl,k⟩
 exact ⟨_,rfl,rfl,ka.trans0 k⟩
section
variable {m n lim:Nat} {ns:Ns} {w:World}
theorem eval_spec (f:Nat) (u:Value) (bs:List Bool) (h:MgrF w m n lim ns) (hb:Bnd n lim ns) (hw:Wf n ns) (hf:Ref ns f) (hu:Vw w u bv bs) (hn:bs.length≤1000000) :
  Calls Tryz.prog 50 [.pointer (some ⟨m,0,none⟩),.int .i64 (f:Nat),u].toArray w fun e w'=>∃x,e=.returned x∧x=.tuple #[.bool (eval ns (inB bs) f),.nilIface]∧Kp [] w w':=by
 obtain ⟨hbn,hbl,hbs⟩:=hb
 refine enter Tryz.func50 mixed low50 (Nat.le_of_ble_eq_true rfl) ?_
 simp only [L50]
 simp [rowOf]
 refine cl_of (check_lit [(f:Int)] h ⟨hbn,hbl,hbs⟩ rfl (by simp) rfl) ?_
 rintro _ w2 ⟨rfl,k2⟩
 have hr:[(f:Int)].all (refB ns)=true:=by
  unfold Ref at hf
  simp [refB]; omega
 rw [hr]
 simp [bchkV]
 refine loop_inv (fun q ρ w1=>ρ 0=.pointer (some ⟨m,0,none⟩)∧ρ 1=.int .i64 (q:Nat)∧ρ 2=u∧Ref ns q∧eval ns (inB bs) q=eval ns (inB bs) f∧Kp [] w w1) f ⟨by simp,by simp,by simp,hf,rfl,k2⟩ ?_
 rintro q ρ w1 ⟨g0,g1,g2,hq,he,kp⟩
 by_cases h2:q < 2
 ·have h2':¬(1:Int) < q:=by omega
  have h2'':¬1 < q:=by omega
  simp [g0,g1,g2,h2',h2'']
  refine ⟨?_,kp⟩
  rw [←he]
  have:q=0∨q=1:=by omega
  rcases this with rfl | rfl
  ·rw [eval_zero]; rfl
  ·rw [eval_one]; rfl
 ·have h2':(1:Int) < q:=by omega
  have h2'':1 < q:=by omega
  have hq':q < ns.length+2:=hq
  simp [g0,g1,g2,h2',h2'']
  refine cl_of (at_spec m n lim q ns w1 (h.kp0 kp) ⟨hbn,hbl,hbs⟩ hq) ?_
  rintro _ w3 ⟨rfl,k3⟩
  have k03:=kp.trans0 k3
  have l1:=hw.lt_low (by omega) hq
  have l2:=hw.lt_high (by omega) hq
  have rl:=hw.ref_low hq
  have rh:=hw.ref_high hq
  have ee:=eval_node hw (inB bs) (by omega) hq
  have tvn:=hw.tv_var (by omega) hq
  have etv:tv n ns q=(at_ n ns q).v:=rfl
  obtain ⟨nd,hnd⟩:∃nd,nd=at_ n ns q:=⟨_,rfl⟩
  rw [←hnd] at l1 l2 rl rh ee etv ⊢
  simp [ndV,bn_len]
  refine st_obj alloc_new (by simp [en,ints]) (by simp [en,ints]) ?_
  intro w4 hk4 hs4 hb4
  have k04:Kp [] w w4:=k03.trans0 (((Kp.refl [] w3).alloc _).trans' hk4 (fun x hx=>.inr (by simp at hx; omega)))
  have hu4:=hu.kp0 k04
  have e3:wrAt #[.int .i64 0,.int .i64 0,.int .i64 0] 0 (en nd)=(en nd).toArray:=by simp [en,ints]
  rw [e3] at hb4
  simp [cell_blk hb4,en,ints,g2,hu4.len]
  by_cases hv:nd.v < bs.length
  ·have hv':(nd.v:Int) < bs.length:=by omega
   have hget:bs[nd.v]? = some bs[nd.v]:=List.getElem?_eq_getElem hv
   obtain ⟨bb,hbb⟩:∃bb,bb=bs[nd.v]:=⟨_,rfl⟩
   rw [←hbb] at hget
   have hin:inB bs nd.v=bb:=by simp [inB,List.getD,hget]
   simp (disch:=omega) [hv,hv',hu4.idx,bv_cell hu4 hget,cell_blk hb4,g2,en,ints]
   rw [hin] at ee
   cases bb with
   | true =>
    simp [cell_blk hb4,g0,g1,g2,en,ints]
    exact ⟨nd.high,by omega,rfl,rh,by rw [←he,ee]; rfl,k04⟩
   | false =>
    simp [cell_blk hb4,g0,g1,g2,en,ints]
    exact ⟨nd.low,by omega,rfl,rl,by rw [←he,ee]; rfl,k04⟩
  ·have hv':¬(nd.v:Int) < bs.length:=by omega
   have hin:inB bs nd.v=false:=by simp [inB,List.getD,List.getElem?_eq_none (Nat.le_of_not_lt hv)]
   rw [hin] at ee
   simp [hv,hv',g0,g1,g2]
   exact ⟨nd.low,by omega,rfl,rl,by rw [←he,ee]; rfl,k04⟩
end
end Go.Proofs.YtcoeknnghfajnaaGreat
end
section
namespace Go.Proofs.YtcoeknnghfajnaaGreat
open Go Go.W Go.Bd Go.Maps
theorem bzbool (w:World):(zeroValue 4).run Tryz.prog w=.ok (.bool false) w:=Tryz.zeroValue4 w
abbrev SeenB (b:Nat) (M:MemR):Asr:=MapA b natV Value.bool i64ok M
theorem getM_all {M:MemR} {x:Nat} (ha:∀q ∈ M,q.2=true):(((getM M x).map Value.bool).getD (.bool false))=.bool (decide (x ∈ keys M)):=by
 cases h:getM M x with
 | some r =>
  have h1:=getM_in h
  have h2:=ha _ h1
  simp only at h2
  have:x ∈ keys M:=List.mem_map.2 ⟨_,h1,rfl⟩
  simp [h2,this]
 | none =>
  have:x ∉ keys M:=fun hx=>by
   obtain ⟨q,hq,e⟩:=List.mem_map.1 hx
   simp only [getM,Option.map_eq_none_iff,List.find?_eq_none] at h
   exact h q hq (by simp [e])
  simp [this]
theorem putM_keys {M:MemR} {x y:Nat}:y ∈ keys (putM M x true)↔y ∈ keys M∨y=x:=by
 unfold putM keys
 split
 ·rename_i h
  rw [List.any_eq_true] at h
  obtain ⟨p,hp,e⟩:=h
  have e:p.1=x:=by simpa using e
  constructor
  ·intro hy
   obtain ⟨q,hq,rfl⟩:=List.mem_map.1 hy
   obtain ⟨p',hp',e'⟩:=List.mem_map.1 hq
   split at e'
   ·exact .inr (by rw [←e'])
   ·exact .inl (by rw [←e']; exact List.mem_map.2 ⟨_,hp',rfl⟩)
  ·have key:∀y,y ∈ M.map (·.1)→y ∈ (M.map fun p=>if p.1=x then (x,true) else p).map (·.1):=fun y hy=>by
    obtain ⟨q,hq,rfl⟩:=List.mem_map.1 hy
    refine List.mem_map.2 ⟨_,List.mem_map.2 ⟨q,hq,rfl⟩,?_⟩
    split
    ·rename_i h; exact h.symm
    ·rfl
   rintro (hy | rfl)
   ·exact key y hy
   ·exact key y (List.mem_map.2 ⟨p,hp,e⟩)
 ·simp
theorem putM_all {M:MemR} {x:Nat} (ha:∀q ∈ M,q.2=true):∀q ∈ putM M x true,q.2=true:=fun q hq=>by
 rcases putM_mem hq with h | rfl
 ·exact ha q h
 ·rfl
theorem keys_small {ns:Ns} {M:MemR} {N:Nat} (hN:ns.length+2≤N) (hr:∀x ∈ keys M,Ref ns x) (hn:(M.map (·.1)).Nodup):M.length≤N:=by
 have:=nodup_len _ (List.range N) hn (fun x hx=>by
  have:=hr x hx
  unfold Ref at this
  exact List.mem_range.2 (by omega))
 simpa using this
def RPost (m n lim:Nat) (ns:Ns) (f b:Nat) (M:MemR) (B:Asr) (w:World) (F:List Nat) (w':World):Prop :=
 ∃M',ROk n ns f M M'∧(∀x ∈ keys M',Ref ns x)∧At w F (Star (MgrA m n lim ns) (Star (SeenB b M') B)) w'
theorem reach_aux (m n lim b:Nat) (ns:Ns) (hw:Wf n ns) (hb:Bnd n lim ns) (w:World) (F:List Nat) (B:Asr) (hB:Lcl B):∀(d f:Nat) (M:MemR) (w1:World),Ref ns f→f≤d→(∀q ∈ M,q.2=true)→(∀x ∈ keys M,Ref ns x) →
  At w F (Star (MgrA m n lim ns) (Star (SeenB b M) B)) w1 →
  Calls Tryz.prog 92 [.pointer (some ⟨m,0,none⟩),.int .i64 (f:Nat),.map (some b)].toArray w1 fun e w'=>∃v,e=.returned v∧RPost m n lim ns f b M B w F w':=by
 intro d
 induction d using Nat.strongRecOn with
 | ind d ih =>
 intro f M w1 hf hd hM hR hA
 obtain ⟨hbn,hbl,hbs⟩:=hb
 have hb':Bnd n lim ns:=⟨hbn,hbl,hbs⟩
 have hLX:∀M,Lcl (Star (MgrA m n lim ns) (Star (SeenB b M) B)):=fun M=>Lcl.mgr.star (Lcl.map.star hB)
 have hrf:f≤1048578:=by unfold Ref at hf; omega
 have hok:i64ok f:=by unfold i64ok; omega
 refine enter Tryz.func92 mixed low92 (Nat.le_of_ble_eq_true rfl) ?_
 simp only [L92]
 by_cases h2:f < 2
 ·have h2':(f:Int) < 2:=by omega
  simp [h2']
  exact ⟨M,ROk.same (.inl h2) hM,hR,hA⟩
 have h2':¬(f:Int) < 2:=by omega
 simp [h2']
 refine MapM.look1 (x:=f) hA.drop.map bkeyI Tryz.underlying72 bzbool hok ?_
 rw [getM_all hM]
 by_cases hin:f ∈ keys M
 ·simp [hin,h2']
  exact ⟨M,ROk.same (.inr hin) hM,hR,hA⟩
 simp [hin,h2']
 have hf2:2≤f:=by omega
 have l1:=hw.lt_low hf2 hf
 have l2:=hw.lt_high hf2 hf
 have rl:=hw.ref_low hf
 have rh:=hw.ref_high hf
 have hml:M.length≤1048578:=keys_small (ns:=ns) (N:=1048578) (by omega) hR (MapM.nodup hA.drop.map)
 refine At.put (x:=f) (v:=true) (Lcl.mgr.star hB) hA.rot bkeyI Tryz.underlying72 hok (by unfold maxLen; omega) fun w2 h2=>?_
 have h3:=h2.rot
 simp
 refine cl_of (at_spec m n lim f ns w2 (MgrA.rd h3) hb' hf) ?_
 rintro _ w3 ⟨rfl,k3⟩
 have h4:=h3.kp0 (hLX _) k3
 simp [ndV,en,ints]
 have hR1:∀x ∈ keys (putM M f true),Ref ns x:=fun x hx=>by
  rcases putM_keys.1 hx with h | rfl
  ·exact hR x h
  ·exact hf
 refine cl_of (ih (d - 1) (by omega) (at_ n ns f).low _ w3 rl (by omega) (putM_all hM) hR1 h4) ?_
 rintro v4 w4 ⟨M2,o2,hR2,h5⟩
 simp
 refine cl_of (at_spec m n lim f ns w4 (MgrA.rd h5) hb' hf) ?_
 rintro _ w5 ⟨rfl,k5⟩
 have h6:=h5.kp0 (hLX _) k5
 simp [ndV,en,ints]
 refine cl_of (ih (d - 1) (by omega) (at_ n ns f).high _ w5 rh (by omega) o2.all hR2 h6) ?_
 rintro v6 w6 ⟨M3,o3,hR3,h7⟩
 simp
 exact ⟨M3,ROk.node hf2 (fun x=>putM_keys) o2 o3,hR3,h7⟩
end Go.Proofs.YtcoeknnghfajnaaGreat
end
section
namespace Go.Proofs.YtcoeknnghfajnaaGreat
open Go Go.W Go.Bd Go.Maps
def AePost (m n lim:Nat) (S:Nat→Nat→Prop) (xs:List Int) (vv:Value) (ns:Ns) (f g:Nat) (B:Asr) (w:World) (F:List Nat) (v:Value) (w':World):Prop :=
 ∃r1 r ns1 ns' M',v=optV r∧BinOk n lim 0 S ns f g r1 ns1∧(r1=none→r=none∧ns'=ns1)∧(∀y,r1=some y→QOk n lim 1 (inB (insOf n xs)) ns1 y r ns' M')∧At w F (Star (MgrA m n lim ns') (Star (VwA vv iv xs) B)) w'
theorem andExists_spec {w w1:World} {F:List Nat} {B:Asr} (m n lim:Nat) (ns:Ns) (f g:Nat) (S:Nat→Nat→Prop) (v:Value) (xs:List Int) (hB:Lcl B) (hA:At w F (Star (MgrA m n lim ns) (Star (VwA v iv xs) B)) w1) (hw:Wf n ns) (hb:Bnd n lim ns) (hf:Ref ns f) (hg:Ref ns g) (hC:Clo n 0 ns S) (hS:Sn 0 S f g)
  (hx:xs.length≤1000000) (hv:xs.all (varB n)=true) :
  Calls Tryz.prog 43 [.pointer (some ⟨m,0,none⟩),.int .i64 (f:Nat),.int .i64 (g:Nat),v].toArray w1 fun e w'=>∃x,e=.returned x∧AePost m n lim S xs v ns f g B w F x w':=by
 refine enter Tryz.func43 mixed low43 (Nat.le_of_ble_eq_true rfl) ?_
 simp only [L43]
 have hLV:Lcl (Star (VwA v iv xs) B):=Lcl.vw.star hB
 have hl:Lcl (Star (MgrA m n lim ns) (Star (VwA v iv xs) B)):=Lcl.mgr.star hLV
 simp [rowOf]
 refine cl_of (check_lit [(f:Int),(g:Int)] (MgrA.rd hA) hb rfl (by simp) rfl) ?_
 rintro u w2 ⟨rfl,k2⟩
 have h2:=hA.kp0 hl k2
 have hr:[(f:Int),(g:Int)].all (refB ns)=true:=by
  unfold Ref at hf hg
  simp [refB]; omega
 rw [hr]
 simp [bchkV]
 refine cl_of (checkVars_spec m n lim ns v xs _ (MgrA.rd h2) h2.drop.vw hx) ?_
 rintro u w3 ⟨rfl,k3⟩
 have h3:=h2.kp0 hl k3
 rw [hv]
 simp [bchkV]
 refine cl_of (and_of (binary_spec m n lim ns 0 f g S (by omega) hLV h3 hw hb hf hg hC hS) (by rintro _ _ ⟨r,_,rfl,_⟩; exact optV_tup r)) ?_
 rintro _ w4 ⟨r1,ns1,rfl,hbin,h4⟩
 cases r1 with
 | none =>
  simp [optV,bnoV,berrV]
  exact ⟨none,none,ns1,ns1,[],rfl,hbin,fun _=>⟨rfl,rfl⟩,fun y hy=>(by cases hy),h4⟩
 | some y =>
  have hb1:Bnd n lim ns1:=⟨hb.hn,hb.hl,hbin.lim⟩
  simp [optV,okV]
  refine cl_of (exists_of (quantified_spec m n lim ns1 1 y v xs (by omega) hB h4 hbin.ext.wf hb1 (hbin.ok y rfl).1 hx hv) (by rintro _ _ ⟨r,_,_,rfl,_⟩; exact optV_tup r)) ?_
  rintro _ w5 ⟨r,ns2,M2,rfl,hq,h5⟩
  cases r with
  | none=>simp [optV,bnoV,berrV]; exact ⟨some y,none,ns1,ns2,M2,rfl,hbin,fun h=>(by cases h),fun z hz=>by cases hz; exact hq,h5⟩
  | some x=>simp [optV,okV]; exact ⟨some y,some x,ns1,ns2,M2,rfl,hbin,fun h=>(by cases h),fun z hz=>by cases hz; exact hq,h5⟩
end Go.Proofs.YtcoeknnghfajnaaGreat
end
section
namespace Go.Proofs
open Go.Shelf
def Tryz.keys94_ren:Go.Shelf.Ren:=⟨fun | 7=>94 | 10=>100 | n=>n,fun | 23=>72 | 26=>3 | 3=>4 | 28=>141 | 0=>0 | 27=>140 | 33=>148 | 4=>4 | n=>n,fun | n=>n⟩
theorem Tryz.keys94:Go.Proofs.SlLaysZI.n7 Tryz.prog Tryz.keys94_ren:={
 mixed:=by kernel_rfl
 f7:=⟨Tryz.f94.name,by decide,Tryz.func94.trans (congrArg some (by kernel_rfl))⟩
 f10:=⟨Tryz.f100.name,by decide,Tryz.func100.trans (congrArg some (by kernel_rfl))⟩
 t0:=Tryz.underlying0
 a0:=Tryz.isAgg0
 z0:=Tryz.sizeOf0
 v0:=Tryz.zeroValue0
 t4:=Tryz.underlying4
 a4:=Tryz.isAgg4
 z4:=Tryz.sizeOf4
 v4:=Tryz.zeroValue4
 t23:=Tryz.underlying72
 a23:=Tryz.isAgg72
 z23:=Tryz.sizeOf72
 v23:=Tryz.zeroValue72
 t26:=Tryz.underlying3
 a26:=Tryz.isAgg3
 z26:=Tryz.sizeOf3
 v26:=Tryz.zeroValue3
 t27:=Tryz.underlying140
 a27:=Tryz.isAgg140
 z27:=Tryz.sizeOf140
 v27:=Tryz.zeroValue140
 t28:=Tryz.underlying141
 a28:=Tryz.isAgg141
 z28:=Tryz.sizeOf141
 v28:=Tryz.zeroValue141
 t33:=Tryz.underlying148
 a33:=Tryz.isAgg148
 z33:=Tryz.sizeOf148
 v33:=Tryz.zeroValue148 }
def Tryz.sorted93_ren:Go.Shelf.Ren:=⟨fun | 6=>93 | 8=>98 | 9=>99 | 11=>102 | 13=>104 | 12=>103 | 23=>114 | 24=>115 | 14=>105 | 15=>106 | 16=>107 | 17=>108 | 18=>109 | 19=>110 | 20=>111 | 21=>112 | 22=>113 | 25=>116 | 26=>117 | 27=>118 | 28=>119 | 29=>120 | 30=>121 | 31=>122 | n=>n,fun | 26=>3 | 28=>141 | 24=>22 | 0=>0 | 3=>3 | 37=>154 | 48=>164 | 50=>166 | 4=>4 | 40=>157 | 39=>156 | 45=>127 | 5=>5 | 9=>9 | 51=>167 | 55=>171 | 57=>173 | 58=>174 | 33=>148 | n=>n,fun | n=>n⟩
theorem Tryz.sorted93:Go.Proofs.SlLaysZI.n6 Tryz.prog Tryz.sorted93_ren:={
 mixed:=by kernel_rfl
 f6:=⟨Tryz.f93.name,by decide,Tryz.func93.trans (congrArg some (by kernel_rfl))⟩
 f8:=⟨Tryz.f98.name,by decide,Tryz.func98.trans (congrArg some (by kernel_rfl))⟩
 f11:=⟨Tryz.f102.name,by decide,Tryz.func102.trans (congrArg some (by kernel_rfl))⟩
 t0:=Tryz.underlying0
 a0:=Tryz.isAgg0
 z0:=Tryz.sizeOf0
 v0:=Tryz.zeroValue0
 t24:=Tryz.underlying22
 a24:=Tryz.isAgg22
 z24:=Tryz.sizeOf22
 v24:=Tryz.zeroValue22
 t26:=Tryz.underlying3
 a26:=Tryz.isAgg3
 z26:=Tryz.sizeOf3
 v26:=Tryz.zeroValue3
 t28:=Tryz.underlying141
 a28:=Tryz.isAgg141
 z28:=Tryz.sizeOf141
 v28:=Tryz.zeroValue141
 i26:=by kernel_rfl }
def Tryz.sort99_ren:Go.Shelf.Ren:=⟨fun | 5=>99 | 8=>104 | 7=>103 | 19=>114 | 20=>115 | 10=>105 | 11=>106 | 12=>107 | 13=>108 | 14=>109 | 15=>110 | 16=>111 | 17=>112 | 18=>113 | 30=>116 | 31=>117 | 32=>118 | 33=>119 | 34=>120 | 35=>121 | 40=>122 | n=>n,fun | 23=>22 | 25=>3 | 3=>3 | 32=>154 | 22=>22 | 0=>0 | 44=>164 | 46=>166 | 4=>4 | 36=>157 | 35=>156 | 41=>127 | 5=>5 | 9=>9 | 53=>167 | 57=>171 | 63=>173 | 64=>174 | n=>n,fun | n=>n⟩
theorem Tryz.sort99:Go.Proofs.SlLaysM.n5 Tryz.prog Tryz.sort99_ren:={
 mixed:=by kernel_rfl
 f5:=⟨Tryz.f99.name,by decide,Tryz.func99.trans (congrArg some (by kernel_rfl))⟩
 f7:=⟨Tryz.f103.name,by decide,Tryz.func103.trans (congrArg some (by kernel_rfl))⟩
 f8:=Tryz.func104.trans (congrArg some (by kernel_rfl))
 f10:=⟨Tryz.f105.name,by decide,Tryz.func105.trans (congrArg some (by kernel_rfl))⟩
 f11:=⟨Tryz.f106.name,by decide,Tryz.func106.trans (congrArg some (by kernel_rfl))⟩
 f12:=⟨Tryz.f107.name,by decide,Tryz.func107.trans (congrArg some (by kernel_rfl))⟩
 f13:=⟨Tryz.f108.name,by decide,Tryz.func108.trans (congrArg some (by kernel_rfl))⟩
 f14:=⟨Tryz.f109.name,by decide,Tryz.func109.trans (congrArg some (by kernel_rfl))⟩
 f15:=⟨Tryz.f110.name,by decide,Tryz.func110.trans (congrArg some (by kernel_rfl))⟩
 f16:=⟨Tryz.f111.name,by decide,Tryz.func111.trans (congrArg some (by kernel_rfl))⟩
 f17:=⟨Tryz.f112.name,by decide,Tryz.func112.trans (congrArg some (by kernel_rfl))⟩
 f18:=⟨Tryz.f113.name,by decide,Tryz.func113.trans (congrArg some (by kernel_rfl))⟩
 f19:=Tryz.func114.trans (congrArg some (by kernel_rfl))
 f20:=Tryz.func115.trans (congrArg some (by kernel_rfl))
 f30:=⟨Tryz.f116.name,by decide,Tryz.func116.trans (congrArg some (by kernel_rfl))⟩
 f31:=Tryz.func117.trans (congrArg some (by kernel_rfl))
 f32:=Tryz.func118.trans (congrArg some (by kernel_rfl))
 f33:=⟨Tryz.f119.name,by decide,Tryz.func119.trans (congrArg some (by kernel_rfl))⟩
 f34:=⟨Tryz.f120.name,by decide,Tryz.func120.trans (congrArg some (by kernel_rfl))⟩
 f35:=⟨Tryz.f121.name,by decide,Tryz.func121.trans (congrArg some (by kernel_rfl))⟩
 f40:=⟨Tryz.f122.name,by decide,Tryz.func122.trans (congrArg some (by kernel_rfl))⟩
 t0:=Tryz.underlying0
 a0:=Tryz.isAgg0
 z0:=Tryz.sizeOf0
 v0:=Tryz.zeroValue0
 t3:=Tryz.underlying3
 a3:=Tryz.isAgg3
 z3:=Tryz.sizeOf3
 v3:=Tryz.zeroValue3
 t4:=Tryz.underlying4
 a4:=Tryz.isAgg4
 z4:=Tryz.sizeOf4
 v4:=Tryz.zeroValue4
 t5:=Tryz.underlying5
 a5:=Tryz.isAgg5
 z5:=Tryz.sizeOf5
 v5:=Tryz.zeroValue5
 t9:=Tryz.underlying9
 a9:=Tryz.isAgg9
 z9:=Tryz.sizeOf9
 v9:=Tryz.zeroValue9
 t22:=Tryz.underlying22
 a22:=Tryz.isAgg22
 z22:=Tryz.sizeOf22
 v22:=Tryz.zeroValue22
 t23:=Tryz.underlying22
 a23:=Tryz.isAgg22
 z23:=Tryz.sizeOf22
 v23:=Tryz.zeroValue22
 t25:=Tryz.underlying3
 a25:=Tryz.isAgg3
 z25:=Tryz.sizeOf3
 v25:=Tryz.zeroValue3
 t32:=Tryz.underlying154
 a32:=Tryz.isAgg154
 z32:=Tryz.sizeOf154
 v32:=Tryz.zeroValue154
 t35:=Tryz.underlying156
 a35:=Tryz.isAgg156
 z35:=Tryz.sizeOf156
 v35:=Tryz.zeroValue156
 t36:=Tryz.underlying157
 a36:=Tryz.isAgg157
 z36:=Tryz.sizeOf157
 v36:=Tryz.zeroValue157
 t41:=Tryz.underlying127
 a41:=Tryz.isAgg127
 z41:=Tryz.sizeOf127
 v41:=Tryz.zeroValue127
 t44:=Tryz.underlying164
 a44:=Tryz.isAgg164
 z44:=Tryz.sizeOf164
 v44:=Tryz.zeroValue164
 t46:=Tryz.underlying166
 a46:=Tryz.isAgg166
 z46:=Tryz.sizeOf166
 v46:=Tryz.zeroValue166
 t53:=Tryz.underlying167
 a53:=Tryz.isAgg167
 z53:=Tryz.sizeOf167
 v53:=Tryz.zeroValue167
 t57:=Tryz.underlying171
 a57:=Tryz.isAgg171
 z57:=Tryz.sizeOf171
 v57:=Tryz.zeroValue171
 t63:=Tryz.underlying173
 a63:=Tryz.isAgg173
 z63:=Tryz.sizeOf173
 v63:=Tryz.zeroValue173
 t64:=Tryz.underlying174
 a64:=Tryz.isAgg174
 z64:=Tryz.sizeOf174
 v64:=Tryz.zeroValue174 }
end Go.Proofs
end
section
namespace Go.Proofs
open Go.RowKit Go.Maps Go.Sort Go.Shelf
theorem Tryz.sorts93 (m:Nat):AnyZI.SortsIn Tryz.prog Tryz.sorted93_ren Fence.wide m :=
 ⟨fun blk off cap ss W hH hblk hsz=>callsIn_wide.2 (AnyM.slices_Sort_int Tryz.sort99 blk off cap ss W hH hblk hsz),
  fun p cap W=>callsIn_wide.2 (AnyM.slices_Sort_int_none Tryz.sort99 p cap W)⟩
theorem Tryz.maps_Keys_94 (mb:Option Nat) (W:World):CallsIn Fence.wide 5 Tryz.prog 94 #[.map mb] W fun e w'=>e=.returned (.func (.func 100) #[] #[.pointer (some ⟨W.heap.size,0,none⟩)])∧w'=W.alloc (.cells #[.map mb] 72) :=
 AnyZI.keys_in Tryz.keys94 Fence.wide 5 trivial rfl mb W
theorem Tryz.sorted_keys_94 {H:Type} (b nn:Nat) (D0:DataW H) (R:Value→Option (DataW H × List MemPlace)) (w:World) (hown:w.ownsMap Tryz.prog 3 R b nn D0) (hmax:Maps.size D0≤maxLen) (hbytes:Maps.size D0 * 8≤140737488355328) :
  CallsIn Fence.wide 5 Tryz.prog 93 #[.func (.func 100) #[] #[.pointer (some ⟨w.heap.size,0,none⟩)]] (w.alloc (.cells #[.map (some b)] 72)) fun e w'=>∃(v:Value) (ss:List Int),e=.returned v∧ss.Perm (intKeys D0) ∧
   w'.ownsRow (w.alloc (.cells #[.map (some b)] 72)).heap.size 3 1 v ss.length ((ss.mergeSort (fun x y=>decide (x≤y))).map encZ)∧(v=.slice none 0 0↔ss=[])∧Below (w.alloc (.cells #[.map (some b)] 72)).heap.size (w.alloc (.cells #[.map (some b)] 72)) w':=by
 have hbl:=hown.lt
 have hseq:SeqGives Fence.wide 2 Tryz.prog 100 #[.pointer (some ⟨w.heap.size,0,none⟩)] encZ (fun ss=>ss.Perm (intKeys D0)) (Maps.size D0) (w.alloc (.cells #[.map (some b)] 72)) :=
  AnyZI.keys_gives (ρ:=Tryz.keys94_ren) { Tryz.keys94 with } Fence.wide _ trivial rfl (by omega) w.heap.size b nn D0 _ (by simp) (by simp) (by
   obtain ⟨es,clock,hb,Ft,hs,hD⟩:=hown
   exact ⟨es,clock,(Below.heap_alloc _ _ b hbl).trans hb,Ft,hs,hD⟩)
 exact AnyZI.sorted_in Tryz.sorted93 Fence.wide 5 trivial trivial trivial trivial rfl (by omega) (Tryz.sorts93 _) (enters_of Tryz.func99 (by kernel_rfl) rfl) 100 #[.pointer (some ⟨w.heap.size,0,none⟩)] trivial (enters_of Tryz.func100 (by kernel_rfl) rfl) _ _ hmax hbytes _ hseq
end Go.Proofs
namespace Go.Proofs.YtcoeknnghfajnaaGreat
open Go Go.W Go.Bd Go.Maps
open Go.WideElems (Fit rd rg)
theorem seen_owns {w:World} {b:Nat} {M:MemR} (h:MapM w b natV Value.bool i64ok M) :
  ∃D0:DataW Unit,w.ownsMap Tryz.prog 3 (plainElem Tryz.prog 4) b M.length D0∧(intKeys D0).Perm ((keys M).map fun n:Nat=>(n:Int))∧Maps.size D0=M.length:=by
 obtain ⟨es',clock,hb,hsz,hes,hok,hnd,hst⟩:=h
 let g:Value × Value→Lit × DataW Unit:=fun q=>(((keyOf Tryz.prog 3 q.1).bind fun key=>(plainElem (H:=Unit) Tryz.prog 4 q.2).map fun y=>(key,y.1)).getD (.bool false,.nil))
 have hrg:∀x:MapEntry,rg (H:=Unit) Tryz.prog 3 (plainElem Tryz.prog 4) x=g (x.key,x.val):=fun x=>rfl
 have hgl:es'.toList.map (rg (H:=Unit) Tryz.prog 3 (plainElem Tryz.prog 4))=M.map fun p=>g (natV p.1,.bool p.2):=by
  have:es'.toList.map (rg (H:=Unit) Tryz.prog 3 (plainElem Tryz.prog 4))=(es'.toList.map fun x=>(x.key,x.val)).map g:=by
   rw [List.map_map]; rfl
  rw [this,hes,List.map_map]; rfl
 have hk:∀x:Nat,i64ok x→keyOf Tryz.prog 3 (natV x)=some (.int .i64 x):=fun x hx=>keyOf_int_mk Tryz.underlying3 (wf_nat hx)
 have hg:∀p ∈ M,g (natV p.1,.bool p.2)=(.int .i64 p.1,.lit (.bool p.2)):=fun p hp=>by
  show (((keyOf Tryz.prog 3 (natV p.1)).bind fun key=>(plainElem (H:=Unit) Tryz.prog 4 (.bool p.2)).map fun y=>(key,y.1)).getD (.bool false,.nil))=_
  rw [hk _ (hok p hp),plainElem_bool Tryz.underlying4]
  rfl
 have hperm:=WideShapes.sorted_perm (es'.toList.map (rg (H:=Unit) Tryz.prog 3 (plainElem Tryz.prog 4)))
 have e1:es'.size=M.length:=by
  have:=congrArg List.length hes
  simpa using this
 refine ⟨_,⟨es',clock,hb,⟨hsz,hst,fun x hx=>?_⟩,by omega,rfl⟩,?_,?_⟩
 ·obtain ⟨j,hj⟩:=List.getElem?_of_mem hx
  have:=congrArg (·[j]?) hes
  simp only [List.getElem?_map,hj,Option.map_some] at this
  cases hp':M[j]? with
  | none=>rw [hp'] at this; cases this
  | some p =>
   rw [hp'] at this
   simp only [Option.map_some,Option.some.injEq,Prod.mk.injEq] at this
   have hm:=List.mem_of_getElem? hp'
   refine ⟨(.int .i64 p.1,.lit (.bool p.2)),?_⟩
   unfold rd
   rw [this.1,this.2,hk _ (hok p hm),plainElem_bool Tryz.underlying4]
   rfl
 ·have:((keys M).map fun n:Nat=>(n:Int))=(es'.toList.map (rg (H:=Unit) Tryz.prog 3 (plainElem Tryz.prog 4))).map (fun p=>Go.intOf p.1):=by
   rw [hgl,List.map_map,keys,List.map_map]
   refine List.map_congr_left fun p hp=>?_
   simp only [Function.comp]
   rw [hg p hp]; rfl
  rw [this]
  exact hperm.map _
 ·show (List.foldr DataW.insert [] _).length=_
  rw [hperm.length_eq,List.length_map]
  simpa using e1
theorem flat_iv (ss:List Int):ss.flatMap iv=ss.map encZ:=by
 induction ss with
 | nil=>rfl
 | cons a l ih=>simp only [List.map_cons,List.flatMap_cons,ih]; rfl
theorem own_of_row {w:World} {base:Nat} {v:Value} {ss:List Int} (h:w.ownsRow base 3 1 v ss.length (ss.map encZ)):Own w v 3 1 iv ss∧(∀x ∈ v.own,base≤x):=by
 rcases h.2 with ⟨rfl,h0⟩ | ⟨g,cap,cur,rfl,hg,hb,h1,h2,h3,h4⟩
 ·have:ss=[]:=List.length_eq_zero_iff.1 h0
  subst this
  exact ⟨.inl ⟨rfl,rfl⟩,by simp⟩
 ·refine ⟨.inr ⟨g,cap,cur,cur.toList.drop ss.length,rfl,hb,?_,?_,by simpa using h1,h2⟩,by simpa using hg⟩
  ·rw [flat_iv,←h4,Nat.mul_one,List.take_append_drop]
  ·simp; omega
theorem kp_below {w w':World} (h:Go.RowKit.Below w.heap.size w w'):Kp [] w w':=⟨h.os,h.tape,h.output,h.size,fun b hb _=>h.block b hb⟩
structure SupI (n:Nat) (ns:Ns) (vis V:MemR):Prop where
 has:∀x,x ∈ keys V↔∃p ∈ vis,x=tv n ns p.1
 all:∀q ∈ V,q.2=true
def SupP (n:Nat) (ns:Ns) (f:Nat) (L:List Int):Prop:=L.Pairwise (· < ·)∧∀x:Int,x ∈ L↔∃y,Rch n ns f y∧x=(tv n ns y:Nat)
set_option maxHeartbeats 1000000 in
theorem support_spec {w w1:World} {F:List Nat} {B:Asr} (m n lim:Nat) (ns:Ns) (f:Nat) (hB:Lcl B) (hA:At w F (Star (MgrA m n lim ns) B) w1) (hw:Wf n ns) (hb:Bnd n lim ns) (hf:Ref ns f) :
  Calls Tryz.prog 82 [.pointer (some ⟨m,0,none⟩),.int .i64 (f:Nat)].toArray w1 fun e w'=>∃x,e=.returned x∧∃(v:Value) (L:List Int),x=.tuple #[v,.nilIface]∧SupP n ns f L∧At w F (Star (OwnA v 3 1 iv L) (Star (MgrA m n lim ns) B)) w':=by
 have hbn:=hb.hn
 have hbl:=hb.hl
 have hbs:=hb.hs
 refine enter Tryz.func82 mixed low82 (Nat.le_of_ble_eq_true rfl) ?_
 simp only [L82]
 have hl:Lcl (Star (MgrA m n lim ns) B):=Lcl.mgr.star hB
 simp [rowOf]
 refine cl_of (check_lit [(f:Int)] (MgrA.rd hA) hb rfl (by simp) rfl) ?_
 rintro u w2 ⟨rfl,k2⟩
 have h2:=hA.kp0 hl k2
 have hr:[(f:Int)].all (refB ns)=true:=by
  unfold Ref at hf
  simp [refB]; omega
 rw [hr]
 simp [bchkV]
 have h3:=h2.newmap (ek:=natV) (ev:=Value.bool) (ok:=i64ok) hl
 have h4:=h3.newmap (ek:=natV) (ev:=Value.bool) (ok:=i64ok) (Lcl.map.star hl)
 obtain ⟨b1,hb1⟩:∃b1,b1=w2.heap.size:=⟨_,rfl⟩
 obtain ⟨b2,hb2⟩:∃b2,b2=(w2.alloc (.map #[] 0)).heap.size:=⟨_,rfl⟩
 rw [←hb2,←hb1] at h4
 rw [←hb1]
 have eb2:w2.heap.size+1=b2:=by rw [hb2]; simp
 try rw [eb2]
 refine cl_of (reach_aux m n lim b1 ns hw hb w F (Star (SeenB b2 []) B) (Lcl.map.star hB) f f [] _ hf (Nat.le_refl _) (fun q hq=>by cases hq) (fun q hq=>by cases hq) h4.rot.rot3) ?_
 rintro _ w4 ⟨M',o,hR,h5⟩
 have hLB:Lcl (Star (MgrA m n lim ns) (Star (SeenB b2 []) B)):=Lcl.mgr.star (Lcl.map.star hB)
 simp
 refine At.range hLB h5.rot Tryz.underlying72 fun w5 h6=>?_
 obtain ⟨r,hr1⟩:∃r,r=w4.heap.size:=⟨_,rfl⟩
 rw [←hr1] at h6 ⊢
 simp
 refine loop_inv (fun q ρ w5=>∃(vis V:MemR),ρ 0=.pointer (some ⟨m,0,none⟩)∧ρ 8=.map (some b2)∧ρ 24=.pointer (some ⟨r,0,none⟩)∧q=M'.length - vis.length∧SupI n ns vis V ∧
  At w F (Star (RngA b1 r natV Value.bool i64ok M' vis) (Star (MgrA m n lim ns) (Star (SeenB b2 V) B))) w5) _ ⟨[],[],by simp,by simp; omega,by simp,rfl,⟨by simp [keys],by simp⟩,h6⟩ ?_
 rintro q ρ w6 ⟨vis,V,g0,g8,g24,rfl,hI,h7⟩
 have hLV:∀V,Lcl (Star (MgrA m n lim ns) (Star (SeenB b2 V) B)):=fun V=>Lcl.mgr.star (Lcl.map.star hB)
 simp [g24]
 refine At.next (hLV V) bkeyI h7 (fun hall h8=>?_) (fun p w7 hp hpv h8=>?_)
 ·simp [g8]
  have hV:=h8.drop.drop.map
  have hVn:=MapM.nodup hV
  have hvn:∀x ∈ keys V,x≤n:=fun x hx=>by
   obtain ⟨p,hp,rfl⟩:=(hI.has x).1 hx
   exact hw.tv_le (hR p.1 (List.mem_map.2 ⟨p,h8.rng.sub p hp,rfl⟩))
  have hVl:V.length≤257:=by
   have:=nodup_len _ (List.range (n+1)) hVn (fun x hx=>List.mem_range.2 (by have:=hvn x hx; omega))
   simp at this; omega
  obtain ⟨D0,hown,hperm,hDs⟩:=seen_owns hV
  refine cl_of (R:=fun v w'=>v=.func (.func 100) #[] #[.pointer (some ⟨w6.heap.size,0,none⟩)]∧w'=w6.alloc (.cells #[.map (some b2)] 72))
   (Calls.mono (callsIn_wide.1 (Tryz.maps_Keys_94 (some b2) w6)) (by rintro e w' ⟨rfl,rfl⟩; exact ⟨_,rfl,rfl,rfl⟩)) ?_
  rintro _ _ ⟨rfl,rfl⟩
  simp
  refine cl_of (R:=fun v w'=>∃ss:List Int,ss.Perm ((keys V).map fun n:Nat=>(n:Int))∧Own w' v 3 1 iv (ss.mergeSort leI)∧(∀x ∈ v.own,w6.heap.size≤x)∧Kp [] w6 w')
   (Calls.mono (callsIn_wide.1 (Tryz.sorted_keys_94 b2 V.length D0 (plainElem Tryz.prog 4) w6 hown (by rw [hDs]; unfold maxLen; omega) (by rw [hDs]; omega))) ?_) ?_
  ·rintro e w' ⟨v,ss,rfl,hS,hrow,hnil,hb⟩
   have hml:ss.length=(ss.mergeSort (fun x y=>decide (x≤y))).length:=by simp
   rw [hml] at hrow
   obtain ⟨ho,hlow⟩:=own_of_row hrow
   exact ⟨v,rfl,ss,hS.trans hperm,ho,fun x hx=>by have:=hlow x hx; simp at this; omega,((Kp.refl [] w6).alloc _).trans0 (kp_below hb)⟩
  rintro v w9 ⟨ss,hS,ho,hlow,k9⟩
  have h9:At w F (Star (OwnA v 3 1 iv (ss.mergeSort leI)) _) w9:=h8.more (Lcl.rng.star (hLV V)) k9 ⟨v.own,⟨ho,rfl⟩,hlow⟩
  simp
  refine ⟨ss.mergeSort leI,?_,h9.by (Imp.un (Imp.dr.trans (Imp.un Imp.dr)))⟩
  have tr:∀a b c:Int,leI a b=true→leI b c=true→leI a c=true:=fun a b c h1 h2=>by simp only [leI,decide_eq_true_eq] at *; exact Int.le_trans h1 h2
  have to:∀a b:Int,(leI a b || leI b a)=true:=fun a b=>by simp only [leI,Bool.or_eq_true,decide_eq_true_eq]; exact Int.le_total a b
  have hpw:=List.pairwise_mergeSort tr to ss
  have hnd:(ss.mergeSort leI).Nodup:=by
   rw [(List.mergeSort_perm ss leI).nodup_iff,hS.nodup_iff,List.nodup_iff_pairwise_ne,List.pairwise_map]
   exact (List.nodup_iff_pairwise_ne.1 hVn).imp fun h e=>h (by omega)
  have hlt:(ss.mergeSort leI).Pairwise (· < ·):=by
   refine (hpw.and (List.nodup_iff_pairwise_ne.1 hnd)).imp ?_
   intro a b h
   obtain ⟨h1,h2⟩:=h
   simp only [leI,decide_eq_true_eq] at h1
   omega
  refine ⟨hlt,fun x=>?_⟩
  rw [(List.mergeSort_perm ss leI).mem_iff,hS.mem_iff,List.mem_map]
  constructor
  ·rintro ⟨y,hy,rfl⟩
   obtain ⟨p,hp,rfl⟩:=(hI.has y).1 hy
   exact ⟨p.1,(o.all_rch p.1).1 (List.mem_map.2 ⟨p,h8.rng.sub p hp,rfl⟩),rfl⟩
  ·rintro ⟨y,hy,rfl⟩
   obtain ⟨p,hp,rfl⟩:=List.mem_map.1 ((o.all_rch y).2 hy)
   exact ⟨_,(hI.has _).2 ⟨p,hall p hp,rfl⟩,rfl⟩
 ·simp [g24]
  refine At.entry h8 ?_
  have hrp:Ref ns p.1:=hR p.1 (List.mem_map.2 ⟨p,hp,rfl⟩)
  simp [g0,g8,natV]
  refine cl_of (at_spec m n lim p.1 ns w7 (MgrA.rd h8.drop) hb hrp) ?_
  rintro _ w8 ⟨rfl,k8⟩
  have h9:=(h8.kp0 (Lcl.rng.star (hLV V)) k8).rot3
  have hV:=h9.map
  have hVn:=MapM.nodup hV
  have hvn:∀x ∈ keys V,x≤n:=fun x hx=>by
   obtain ⟨p,hp,rfl⟩:=(hI.has x).1 hx
   exact hw.tv_le (hR p.1 (List.mem_map.2 ⟨p,h7.rng.sub p hp,rfl⟩))
  have hVl:V.length≤257:=by
   have:=nodup_len _ (List.range (n+1)) hVn (fun x hx=>List.mem_range.2 (by have:=hvn x hx; omega))
   simp at this; omega
  have htv:=hw.tv_le hrp
  have etv:tv n ns p.1=(at_ n ns p.1).v:=rfl
  simp [ndV,en,ints,g8]
  refine At.put (x:=(at_ n ns p.1).v) (v:=true) (Lcl.rng.star (Lcl.mgr.star hB)) h9 bkeyI Tryz.underlying72 (by unfold i64ok; omega) (by unfold maxLen; omega) fun w10 h10=>?_
  have hlen:(vis ++ [p]).length≤M'.length:=nodup_len _ _ h8.rng.nd h8.rng.sub
  simp at hlen
  simp [g0,g8,g24]
  refine ⟨M'.length - (vis ++ [p]).length,by simp; omega,vis ++ [p],rfl,putM V (at_ n ns p.1).v true,⟨fun x=>?_,putM_all hI.all⟩,h10.tor3⟩
  ·rw [putM_keys,hI.has x]
   simp only [List.mem_append,List.mem_singleton]
   constructor
   ·rintro (⟨q,hq,rfl⟩ | rfl)
    ·exact ⟨q,.inl hq,rfl⟩
    ·exact ⟨p,.inr rfl,rfl⟩
   ·rintro ⟨q,hq | rfl,rfl⟩
    ·exact .inl ⟨q,hq,rfl⟩
    ·exact .inr rfl
end Go.Proofs.YtcoeknnghfajnaaGreat
end
