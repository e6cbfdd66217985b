/-
  A part of the proof of this claim's statement (RxW7, RxW8, RxW9, RxWA, RxWC, RxXA, RxXB, RxXC, RxFx, RxXF, RxXG, RxXH, RxXI, RxXJ): plain theorems; no conditions beyond those each names.
-/
import Derived.Test.YtolkjbmcindhjaaGreatPk13
import Derived.Test.YtolkjbmcindhjaaGreatPk10
set_option maxRecDepth 100000
set_option linter.unusedSimpArgs false
set_option linter.unusedVariables false
set_option linter.unusedSectionVars false
section
namespace Go.Proofs.YtolkjbmcindhjaaGreat
open Go Go.W Go.Tk Go.Rx Go.Maps
section
variable {α:Type} {enc:α→List Value} {w w' w1 w2:World} {v:Value} {ls:List (List α)} {F:List Nat} {A B:Asr}
def LLV (enc:α→List Value) (w:World) (v:Value) (ls:List (List α)):Prop:=∃ps:List (Cell1 × List α),ps.map (·.2)=ls∧Vw w v sv1 ps∧∀p ∈ ps,Vw w p.1.1 enc p.2
theorem LLA.vw {E:Nat} (h:At w F (Star (LLA v E enc ls) B) w'):LLV enc w' v ls:=by
 obtain ⟨ps,h1,h2⟩:=LLA.opn h
 exact ⟨ps,h1,h2.own.vw,fun p hp=>h2.drop.vws hp⟩
theorem LLV.spread (h:LLV enc w v ls):∃ps:List (Cell1 × List α),ps.length=ls.length∧Vw w v sv1 ps∧∀(i:Nat) (p:Cell1 × List α),ps[i]? = some p→∃l,ls[i]? = some l∧Vw w p.1.1 enc l:=by
 obtain ⟨ps,rfl,h2,h3⟩:=h
 exact ⟨ps,by simp,h2,fun i p hp=>⟨p.2,by rw [List.getElem?_map,hp]; rfl,h3 p (List.mem_of_getElem? hp)⟩⟩
theorem At.join (hB:Lcl B) (h:At w F B w1) (t:At w1 [] (Star A Emp) w2):At w F (Star A B) w2:=by
 obtain ⟨F1,⟨Fa,Fe,h1,h2,hd,rfl⟩,hs⟩:=t.ex
 refine h.more hB t.kp ⟨Fa,h1,fun x hx=>?_⟩
 rcases hs x (by simp [hx]) with h3 | h3
 ·cases h3
 ·exact h3
theorem li_append {u ov:Value} {c:List α} {outs:List (List α)} {KV:Kont (Value × World)} (hB:Lcl B) (h:At w F (Star (OwnA u 3 1 enc c) (Star (LLA ov 22 enc outs) B)) w1) (hl:outs.length≤100000)
  (H:∀v' w2,At w F (Star (LLA v' 22 enc (outs ++ [c])) B) w2→KV.run (v',w2)) :
  @efH Tryz.prog (Builtin.append_ #[30,30] 30 [ov,.slice (some ⟨w1.heap.size,0,none⟩) 1 1].toArray) (w1.alloc (.cells #[u] 22)) KV:=by
 have hou:=h.own.o1
 obtain ⟨ps,hps,h3⟩:=LLA.opn h.rot
 have hpl:ps.length=outs.length:=by rw [←hps]; simp
 have hBX:Lcl (Star (VwsA enc ps) (Star (OwnA u 3 1 enc c) B)):=Lcl.vws.star (Lcl.own.star hB)
 have h4:=h3.kp0 (Lcl.own.star hBX) ((Kp.refl [] w1).alloc (.cells #[u] 22))
 refine At.append (xs:=[((⟨u,hou⟩,c):Cell1 × List α)]) hBX h4 sv1_len sv1_one sl_30 rfl (fun j x hj=>?_) (by omega) (by unfold maxLen; omega) fun v' w5 h5=>H v' w5 ?_
 ·simp [sv1] at hj
  rw [add_none,cell_blk alloc_new]
  simpa using hj
 ·have h6:At w F (Star (OwnA v' 22 1 sv1 (ps ++ [((⟨u,hou⟩,c):Cell1 × List α)])) (Star (VwsA enc (ps ++ [((⟨u,hou⟩,c):Cell1 × List α)])) B)) w5 :=
   ((h5.rot3.own_vw).by (Imp.trans (Imp.un Imp.sw) (Imp.trans (VwsA.add hou) Imp.sw))).by Imp.rfl
  exact LLA.cls (ls:=outs ++ [c]) (by simp [hps]) h6
end
end Go.Proofs.YtolkjbmcindhjaaGreat
end
section
namespace Go.Proofs.YtolkjbmcindhjaaGreat
open Go Go.W Go.Tk Go.Rx Go.Maps
structure Sm (vars:List Nat) (U:List Un):Prop where
 un:UnOk U vars.sum
 vl:vars.length≤12
 sm:vars.sum≤768
 ul:U.length≤160
structure StN (vars s:List Nat):Prop where
 len:s.length=vars.length
 rng:∀v,v < vars.length→s.getD v 0 < vars.getD v 0
theorem iN_at {l:List Nat} {j:Nat}:(l.map iN).getD j 0=((l.getD j 0:Nat):Int):=by
 simp only [List.getD,List.getElem?_map]
 cases l[j]? <;> simp [iN]
theorem StN.ok {vars s:List Nat} (h:StN vars s):stateB (vars.map iN) (s.map iN)=true:=by
 unfold stateB
 rw [allR_true fun j hj=>?_]
 ·simp [h.len]
 ·unfold stAt
  rw [iN_at,iN_at]
  simp at hj
  have:=h.rng j (by rw [←h.len]; exact hj)
  simp only [Bool.and_eq_true,decide_eq_true_eq]
  omega
theorem allow_all (U:List Un):allow (fun _=>true) U=U:=by simp [allow]
theorem LkP.none {w:World}:LkP w (.map none) (fun _=>true):=.inl ⟨rfl,fun _=>rfl⟩
section
variable {w:World} {b:Nat} {vars:List Nat} {goal:List Fc} {U:List Un} {vv gv fv uv nd fr:Value} {rs:List Ru} {ps:List (Cell1 × List Nat)}
end
end Go.Proofs.YtolkjbmcindhjaaGreat
end
section
namespace Go.Proofs.YtolkjbmcindhjaaGreat
open Go Go.W Go.Tk Go.Rx Go.Maps
def grF (vars:List Nat) (V:Nat→Nat) (l:List Fc):Nat:=gr V (l.map (numF vars))
theorem gr_snoc {V:Nat→Nat} {l:List Nat} {x:Nat}:gr V (l ++ [x])=max (gr V l) (V x):=by
 rw [gr_app]; simp only [gr]; omega
theorem take_snoc {α:Type} {l:List α} {k:Nat} {x:α} (h:l[k]? = some x):l.take (k+1)=l.take k ++ [x]:=by
 rw [List.take_add_one,h]; rfl
section
variable {w:World} {b:Nat} {vars:List Nat} {goal:List Fc} {U:List Un} {vv gv fv uv nd fr:Value} {rs:List Ru} {ps:List (Cell1 × List Nat)}
theorem max_ok (sv:Value) (s:List Nat) (hR:RlR b vars goal U vv gv fv uv nd fr rs ps w) (hg:FcOk vars goal) (hs:Vw w sv nE s) (hst:StN vars s) (hS:Sm vars U) :
  Calls Tryz.prog 23 [.pointer (some ⟨b,0,none⟩),sv].toArray w fun e w'=>∃x,e=.returned x∧∃V,IsVal U (stN vars s vars.length) V∧x=.int .i64 (grF vars V goal:Nat)∧Kp [] w w':=by
 refine enter Tryz.func23 mixed low23 (Nat.le_of_ble_eq_true rfl) ?_
 simp only [L23]
 have hvl:=hS.vl
 have hsm:=hS.sm
 have hlen:=hst.len
 simp [cell_blk hR.obj]
 refine cl_of (tproper_spec vv sv _ _ (vw_n.2 hR.vvw) (vw_n.2 hs) (by simp; omega)) ?_
 rintro _ w2 ⟨rfl,k2⟩
 rw [hst.ok]
 simp
 refine cl_of (values_spec sv (.map none) s (fun _=>true) (hR.kp k2) (hs.kp0 k2) .none hlen hst.rng hS.un hS.vl hS.sm hS.ul) ?_
 rintro u w3 ⟨V,hV,n3⟩
 rw [allow_all] at hV
 have k3:=k2.trans n3.kp
 have hR3:=hR.kp k3
 have hv3:=n3.own.vw
 simp [cell_blk hR3.obj,hR3.gvw.len]
 have hgl:=hg.len
 refine range_loop (n:=goal.length) (by omega) (fun k ρ w'=>ρ 0=.pointer (some ⟨b,0,none⟩)∧ρ 5=u∧ρ 26=gv∧ρ 6=.int .i64 (grF vars V (goal.take k):Nat)∧Kp [] w3 w') (by simp) (by simp)
  ⟨by simp,by simp,by simp,by simp [grF,gr],Kp.refl _ _⟩ (by decide) (fun _ _ _ _ h=>by simpa using h) (fun _ _ _ _ h=>by simpa using h) ?_ ?_
 rotate_left
 ·rintro ρ w4 ⟨g0,g5,g26,g6,k4⟩
  rw [List.take_length] at g6
  simp [g6]
  exact ⟨V,hV,rfl,k3.trans k4⟩
 rintro k ρ w4 hk hc hlm ⟨g0,g5,g26,g6,k4⟩
 have hR4:=hR3.kp k4
 obtain ⟨f,hf⟩:∃f,goal[k]? = some f:=⟨_,List.getElem?_eq_getElem hk⟩
 obtain ⟨f1,f2⟩:=hg.rng f (List.mem_of_getElem? hf)
 have hnf:=numF_lt f1 f2
 have ec:=hR4.gvw.cells fcE_len hf
 simp only [fcE] at ec
 obtain ⟨fb,hfb⟩:∃fb,fb=w4.heap.size:=⟨_,rfl⟩
 have hki:(k:Int) < goal.length:=by omega
 simp (disch:=omega) [g26,hc,hlm,hR4.gvw.idx,ec,←hfb]
 refine st_fa (f:=faN f) .emp (At.start (w:=w4) rfl) hfb fun w7 h7=>?_
 have r7:=rd_fa h7.obj
 simp only [faN] at r7
 rw [hfb] at r7
 have hR7:=hR4.kp h7.kp
 simp [g0,g5,r7]
 refine cl_of (number_spec vars f hR7.obj hR7.first f1 (by omega)) ?_
 rintro _ w8 ⟨rfl,k8⟩
 have k48:=h7.kp.trans k8
 have hv8:=hv3.kp0 (k4.trans k48)
 have hni:((numF vars f:Nat):Int) < (tabN vars.sum V).length:=by rw [tabN_len]; omega
 obtain ⟨q,hq⟩:∃q,q=numF vars f:=⟨_,rfl⟩
 have hx:=tabN_at (g:=V) hnf
 have e6:grF vars V (goal.take (k+1))=max (grF vars V (goal.take k)) (V q):=by
  unfold grF
  rw [take_snoc hf,List.map_append,List.map_singleton,gr_snoc,←hq]
 rw [←hq] at hni hx ⊢
 simp (disch:=omega) [g0,g5,g6,g26,hc,hlm,hv8.idx,nE_cell hv8 hx,e6]
 exact ⟨by omega,k4.trans k48⟩
def okL (ws:List Int) (i:Nat):Bool:=decide ((i:Int) ∉ ws)
def mkM (ws:List Int):List (Int × Bool):=ws.foldl (fun M z=>putM M z true) []
theorem getM_cons {l:List (Int × Bool)} {q:Int × Bool} {z:Int}:getM (q :: l) z=if q.1=z then some q.2 else getM l z:=by
 by_cases h:q.1=z <;> simp [getM,List.find?_cons,h]
theorem getM_app {x z:Int} {v:Bool}:∀{l:List (Int × Bool)},(∀q ∈ l,q.1≠x)→getM (l ++ [(x,v)]) z=if z=x then some v else getM l z
 | [],_=>by
  rw [List.nil_append,getM_cons]
  by_cases h:x=z
  ·simp [h]
  ·simp [h,Ne.symm h]
 | q :: l,hq=>by
  rw [List.cons_append,getM_cons,getM_cons,getM_app fun q hq2=>hq q (by simp [hq2])]
  have:=hq q (by simp)
  by_cases h1:q.1=z
  ·have:z≠x:=fun e=>this (h1.trans e)
   simp [h1,this]
  ·simp [h1]
theorem getM_map {x z:Int} {v:Bool}:∀{l:List (Int × Bool)},getM (l.map fun p=>if p.1=x then (x,v) else p) z=if z=x then (if l.any (fun p=>decide (p.1=x)) then some v else none) else getM l z
 | []=>by simp [getM]
 | q :: l=>by
  rw [List.map_cons,getM_cons,getM_cons,getM_map]
  by_cases h1:q.1=x
  ·by_cases h2:z=x
   ·simp [h1,h2]
   ·simp [h1,h2,Ne.symm h2]
  ·by_cases h2:z=x
   ·simp [h1,h2]
   ·simp [h1,h2]
theorem getM_putM {l:List (Int × Bool)} {x z:Int} {v:Bool}:getM (putM l x v) z=if z=x then some v else getM l z:=by
 unfold putM
 by_cases h:l.any (fun p=>decide (p.1=x))=true
 ·rw [if_pos h,getM_map]
  simp only [h,if_true]
 ·rw [if_neg h,getM_app]
  intro q hq e
  exact h (List.any_eq_true.2 ⟨q,hq,by simp [e]⟩)
theorem putM_len {l:List (Int × Bool)} {x:Int} {v:Bool}:(putM l x v).length≤l.length+1:=by
 unfold putM
 split <;> simp
theorem mk_get:∀(ws:List Int) (M:List (Int × Bool)) (z:Int),getM (ws.foldl (fun M z=>putM M z true) M) z=if z ∈ ws then some true else getM M z
 | [],M,z=>by simp
 | y :: ws,M,z=>by
  rw [List.foldl_cons,mk_get ws _ z,getM_putM]
  by_cases h1:z ∈ ws
  ·simp [h1]
  ·by_cases h2:z=y
   ·simp [h1,h2]
   ·simp [h1,h2]
theorem mk_len:∀(ws:List Int) (M:List (Int × Bool)),(ws.foldl (fun M z=>putM M z true) M).length≤M.length+ws.length
 | [],M=>by simp
 | y :: ws,M=>by
  have:=mk_len ws (putM M y true)
  have h:(putM M y true).length≤M.length+1:=putM_len
  rw [List.foldl_cons,List.length_cons]
  omega
set_option maxHeartbeats 1000000 in
theorem reached_ok (sv wv:Value) (s:List Nat) (ws:List Int) (hR:RlR b vars goal U vv gv fv uv nd fr rs ps w) (hg:FcOk vars goal) (hs:Vw w sv nE s) (hw:Vw w wv iE ws) (hwl:ws.length≤1000) (hwr:∀z ∈ ws,zok z) (hst:StN vars s) (hS:Sm vars U) :
  Calls Tryz.prog 26 [.pointer (some ⟨b,0,none⟩),sv,wv].toArray w fun e w'=>∃x,e=.returned x∧∃V,IsVal (allow (okL ws) U) (stN vars s vars.length) V∧x=.bool (decide (grF vars V goal < Inf))∧Kp [] w w':=by
 refine enter Tryz.func26 mixed low26 (Nat.le_of_ble_eq_true rfl) ?_
 simp only [L26]
 have hvl:=hS.vl
 have hsm:=hS.sm
 have hlen:=hst.len
 simp [cell_blk hR.obj]
 refine cl_of (tproper_spec vv sv _ _ (vw_n.2 hR.vvw) (vw_n.2 hs) (by simp; omega)) ?_
 rintro _ w2 ⟨rfl,k2⟩
 rw [hst.ok]
 have h2:At w [] Emp w2:=(At.start rfl).kp0 .emp k2
 obtain ⟨mb,hmb⟩:∃mb,mb=w2.heap.size:=⟨_,rfl⟩
 simp [←hmb]
 have k2':Kp [] w (w2.alloc (.map #[] 0)):=k2.trans ((Kp.refl [] w2).alloc _)
 have hA0:At w [] (Star (MapA mb intV Value.bool zok (mkM (ws.take 0))) Emp) (w2.alloc (.map #[] 0)):=by rw [hmb]; exact h2.newmap .emp
 have hw2:=hw.kp0 k2'
 simp [hw2.len]
 refine range_loop (n:=ws.length) (by omega) (fun k ρ w'=>ρ 0=.pointer (some ⟨b,0,none⟩)∧ρ 1=sv∧ρ 7=.map (some mb)∧ρ 26=wv∧At w [] (Star (MapA mb intV Value.bool zok (mkM (ws.take k))) Emp) w') (by simp) (by simp)
   ⟨by simp,by simp,by simp,by simp,hA0⟩ (by decide) (fun _ _ _ _ h=>by simpa using h) (fun _ _ _ _ h=>by simpa using h) ?_ ?_
 ·rintro k ρ w4 hk hc hlm ⟨g0,g1,g7,g26,h4⟩
  have hw4:=hw.kp0 h4.kp
  obtain ⟨z,hz⟩:∃z,ws[k]? = some z:=⟨_,List.getElem?_eq_getElem hk⟩
  have hki:(k:Int) < ws.length:=by omega
  simp (disch:=omega) [g7,g26,hc,hlm,hw4.idx,iE_cell hw4 hz]
  have hml:=mk_len (ws.take k) []
  simp at hml
  refine At.put (x:=z) (v:=true) .emp h4 keyI Tryz.underlying147 (hwr z (List.mem_of_getElem? hz)) (by unfold mkM maxLen; omega) fun w5 h5=>?_
  simp [g0,g1,g7,g26,hc,hlm]
  have e:mkM (ws.take (k+1))=putM (mkM (ws.take k)) z true:=by
   unfold mkM; rw [take_snoc hz,List.foldl_append]; rfl
  rw [e]; exact h5
 rintro ρ w3 ⟨g0,g1,g7,g26,h3⟩
 rw [List.take_length] at h3
 have hlk:LkP w3 (.map (some mb)) (okL ws):=by
  refine .inr ⟨mb,mkM ws,rfl,h3.map,fun i _=>?_⟩
  unfold mkM okL
  rw [mk_get]
  by_cases hm:(i:Int) ∈ ws
  ·simp [hm]
  ·simp [hm,getM]
 have k3:=h3.kp
 simp [g0,g1,g7]
 refine cl_of (values_spec sv (.map (some mb)) s (okL ws) (hR.kp k3) (hs.kp0 k3) hlk hlen hst.rng hS.un hS.vl hS.sm hS.ul) ?_
 rintro u w4 ⟨V,hV,n4⟩
 have k4:=k3.trans n4.kp
 have hR4:=hR.kp k4
 have hv4:=n4.own.vw
 simp [g0,cell_blk hR4.obj,hR4.gvw.len]
 have hgl:=hg.len
 have hInf:((Inf:Nat):Int)=1125899906842624:=rfl
 refine range_loop (n:=goal.length) (by omega) (fun k ρ w'=>ρ 0=.pointer (some ⟨b,0,none⟩)∧ρ 10=u∧ρ 43=gv∧grF vars V (goal.take k) < Inf∧Kp [] w4 w') (by simp) (by simp)
  ⟨by simp [g0],by simp,by simp,by simp [grF,gr,Inf],Kp.refl _ _⟩ (by decide) (fun _ _ _ _ h=>by simpa using h) (fun _ _ _ _ h=>by simpa using h) ?_ ?_
 rotate_left
 ·rintro ρ w5 ⟨g0,g10,g43,g6,k5⟩
  rw [List.take_length] at g6
  simp
  exact ⟨V,hV,by simp [g6],k4.trans k5⟩
 clear g0 g1 g7 h3 hlk
 rintro k ρ w5 hk hc hlm ⟨g0,g10,g43,g6,k5⟩
 have hR5:=hR4.kp k5
 obtain ⟨f,hf⟩:∃f,goal[k]? = some f:=⟨_,List.getElem?_eq_getElem hk⟩
 obtain ⟨f1,f2⟩:=hg.rng f (List.mem_of_getElem? hf)
 have hnf:=numF_lt f1 f2
 have ec:=hR5.gvw.cells fcE_len hf
 simp only [fcE] at ec
 obtain ⟨fb,hfb⟩:∃fb,fb=w5.heap.size:=⟨_,rfl⟩
 have hki:(k:Int) < goal.length:=by omega
 simp (disch:=omega) [g43,hc,hlm,hR5.gvw.idx,ec,←hfb]
 refine st_fa (f:=faN f) .emp (At.start (w:=w5) rfl) hfb fun w7 h7=>?_
 have r7:=rd_fa h7.obj
 simp only [faN] at r7
 rw [hfb] at r7
 have hR7:=hR5.kp h7.kp
 simp [g0,g10,r7]
 refine cl_of (number_spec vars f hR7.obj hR7.first f1 (by omega)) ?_
 rintro _ w8 ⟨rfl,k8⟩
 have k58:=h7.kp.trans k8
 have hv8:=hv4.kp0 (k5.trans k58)
 have hni:((numF vars f:Nat):Int) < (tabN vars.sum V).length:=by rw [tabN_len]; omega
 obtain ⟨q,hq⟩:∃q,q=numF vars f:=⟨_,rfl⟩
 have hx:=tabN_at (g:=V) hnf
 have e6:grF vars V (goal.take (k+1))=max (grF vars V (goal.take k)) (V q):=by
  unfold grF
  rw [take_snoc hf,List.map_append,List.map_singleton,gr_snoc,←hq]
 have e7:V q≤grF vars V goal:=gr_mem (List.mem_map.2 ⟨f,List.mem_of_getElem? hf,hq.symm⟩)
 rw [←hq] at hni hx ⊢
 by_cases hge:Inf≤V q
 ·have hge':(1125899906842624:Int)≤(V q:Int):=by omega
  simp (disch:=omega) [g0,g10,g43,hc,hlm,hv8.idx,nE_cell hv8 hx,hge']
  exact ⟨V,hV,by omega,k4.trans (k5.trans k58)⟩
 ·have hge':¬(1125899906842624:Int)≤(V q:Int):=by omega
  simp (disch:=omega) [g0,g10,g43,hc,hlm,hv8.idx,nE_cell hv8 hx,hge',e6]
  exact ⟨by omega,k5.trans k58⟩
end
end Go.Proofs.YtolkjbmcindhjaaGreat
end
section
namespace Go.Proofs.YtolkjbmcindhjaaGreat
open Go Go.W Go.Tk Go.Rx Go.Maps
def faV (f:Fa):Value:=.agg #[.int .i64 f.1,.int .i64 f.2]
section
variable {w:World} {b:Nat} {vars:List Nat} {goal:List Fc} {U:List Un} {vv gv fv uv nd fr:Value} {rs:List Ru} {ps:List (Cell1 × List Nat)}
end
end Go.Proofs.YtolkjbmcindhjaaGreat
end
section
namespace Go.Proofs.YtolkjbmcindhjaaGreat
open Go Go.W Go.Tk Go.Rx Go.Maps
theorem nat_append {w w1:World} {F:List Nat} {B:Asr} {ov:Value} {l:List Nat} {x:Nat} {KV:Kont (Value × World)} (hB:Lcl B) (h:At w F (Star (OwnA ov 3 1 nE l) B) w1) (hl:l.length≤1000000)
  (H:∀v' w2,At w F (Star (OwnA v' 3 1 nE (l ++ [x])) B) w2→KV.run (v',w2)) :
  @efH Tryz.prog (Builtin.append_ #[22,22] 22 [ov,.slice (some ⟨w1.heap.size,0,none⟩) 1 1].toArray) (w1.alloc (.cells #[.int .i64 (x:Nat)] 3)) KV:=by
 have h4:=h.kp0 (Lcl.own.star hB) ((Kp.refl [] w1).alloc (.cells #[.int .i64 (x:Nat)] 3))
 refine At.append (xs:=[x]) hB h4 nE_len nE_one sl_22 rfl (fun j u hj=>?_) (by omega) (by unfold maxLen; omega) fun v' w5 h5=>H v' w5 h5
 simp [nE] at hj
 rw [add_none,cell_blk alloc_new]
 simpa using hj
section
variable {w:World} {b:Nat} {vars:List Nat} {goal:List Fc} {U:List Un} {vv gv fv uv nd fr:Value} {rs:List Ru} {ps:List (Cell1 × List Nat)}
end
end Go.Proofs.YtolkjbmcindhjaaGreat
end
section
namespace Go.Proofs.YtolkjbmcindhjaaGreat
open Go Go.W Go.Tk Go.Rx Go.Maps
theorem num_nil (w:World):Calls Tryz.prog 22 [.nilIface].toArray w fun e w'=>∃x,e=.returned x∧x=.int .i64 0∧Kp [] w w':=by
 refine enter Tryz.func22 mixed low22 (Nat.le_of_ble_eq_true rfl) ?_
 simp only [L22]
 simp
 exact Kp.refl _ _
theorem num_err (c:Int) (w:World):Calls Tryz.prog 22 [errV c].toArray w fun e w'=>∃x,e=.returned x∧x=.int .i64 c∧Kp [] w w':=by
 refine enter Tryz.func22 mixed low22 (Nat.le_of_ble_eq_true rfl) ?_
 simp only [L22]
 simp [errV]
 exact Kp.refl _ _
def ntO (T:Nt):Obj:=.cells #[T.vv.1,T.nv.1,T.gv.1,T.ov.1] 26 (0,0)
def ntV (T:Nt):Value:=.agg #[T.vv.1,T.nv.1,T.gv.1,T.ov.1]
end Go.Proofs.YtolkjbmcindhjaaGreat
end
section
namespace Go.Proofs.YtolkjbmcindhjaaGreat
open Go Go.W Go.Tk Go.Rx Go.Maps
section
variable {α:Type} {enc:α→List Value} {E sz:Nat} {B:Asr} {w w1:World} {F:List Nat}
theorem RowsA.snoc (q:Cell1 × List α):∀(ps:List (Cell1 × List α)),Imp (Star (OwnA q.1.1 E sz enc q.2) (RowsA E sz enc ps B)) (RowsA E sz enc (ps ++ [q]) B)
 | []=>Imp.rfl
 | p :: ps=>Imp.sw.trans (Imp.un (RowsA.snoc q ps))
end
def FcRng (vars:List Nat) (l:List Fc):Prop:=∀f ∈ l,f.1 < vars.length∧f.2 < vars.getD f.1 0
end Go.Proofs.YtolkjbmcindhjaaGreat
end
section
namespace Go.Proofs.YtolkjbmcindhjaaGreat
open Go Go.W Go.Tk Go.Rx Go.Maps
def stG (vars s:List Nat) (zi zo:Int) (f:Nat):Int:=if f ∈ stN vars s vars.length then zi else zo
end Go.Proofs.YtolkjbmcindhjaaGreat
end
section
namespace Go.Rx
open Go.Tk Go.W Go
structure Rf (A:List Un) (S:List Nat) (V:Nat→Nat):Prop where
 s0:∀f ∈ S,V f=0
 der:∀f,V f < Inf→Der A S f (V f)
 le:∀f,V f≤Inf
def sumV (N:Nat) (V:Nat→Nat):Nat:=((List.range N).map V).sum
def Clo (A:List Un) (V:Nat→Nat):Prop:=∀u ∈ A,gr V u.needs < Inf→V u.makes≤gr V u.needs+u.cost
section
variable {A A':List Un} {S:List Nat} {V:Nat→Nat} {u:Un} {N f x:Nat}
theorem sumV_succ:sumV (N+1) V=sumV N V+V N:=by
 unfold sumV; rw [List.range_succ,List.map_append,List.sum_append]; simp
theorem sumV_congr {V':Nat→Nat} (h:∀i,i < N→V i=V' i):sumV N V=sumV N V':=by
 unfold sumV
 rw [List.map_congr_left fun i hi=>h i (List.mem_range.1 hi)]
theorem sumV_upd (hf:f < N) (hx:x < V f):sumV N (updN V f x) < sumV N V:=by
 induction N with
 | zero=>omega
 | succ N ih =>
  rw [sumV_succ,sumV_succ]
  by_cases e:f=N
  ·subst e
   rw [updN_same,sumV_congr (V':=V) fun i hi=>updN_ne (by omega)]
   omega
  ·have:=ih (by omega)
   rw [updN_ne (fun h=>e h.symm)]
   omega
theorem Rf.init:Rf A S (fun f=>if f ∈ S then 0 else Inf):={
 s0:=fun f hf=>by simp [hf]
 der:=fun f hf=>by
  by_cases h:f ∈ S
  ·simp [h]; exact .base h
  ·simp [h] at hf
 le:=fun f=>by
  by_cases h:f ∈ S <;> simp [h] }
theorem Rf.step (h:Rf A S V) (hu:u ∈ A) (hlt:gr V u.needs+u.cost < V u.makes):Rf A S (updN V u.makes (gr V u.needs+u.cost)):={
 s0:=fun f hf=>by
  by_cases e:f=u.makes
  ·have:=h.s0 f hf
   rw [e] at this; omega
  ·rw [updN_ne e]; exact h.s0 f hf
 der:=fun f hf=>by
  by_cases e:f=u.makes
  ·subst e
   rw [updN_same]
   have hle:=h.le u.makes
   exact .step hu V fun n hn=>h.der n (by have:=gr_mem (V:=V) hn; omega)
  ·rw [updN_ne e] at hf ⊢; exact h.der f hf
 le:=fun f=>by
  by_cases e:f=u.makes
  ·subst e
   rw [updN_same]
   have:=h.le u.makes
   omega
  ·rw [updN_ne e]; exact h.le f }
theorem Rf.fin (h:Rf A S V) (hc:Clo A V):IsVal A S V:=⟨h.s0,hc,h.der,h.le⟩
theorem Clo.nil:Clo [] V:=fun u hu=>by cases hu
theorem Clo.app (h:Clo A V) (h':Clo A' V):Clo (A ++ A') V:=fun u hu=>by
 rcases List.mem_append.1 hu with h1 | h1
 ·exact h u h1
 ·exact h' u h1
theorem Clo.one (h:gr V u.needs < Inf→V u.makes≤gr V u.needs+u.cost):Clo [u] V:=fun v hv=>by
 simp at hv; subst hv; exact h
end
theorem unA_at {vars:List Nat} {o:No} {i c k:Nat} {e:Nf} (h:o.effs[k]? = some e):unA vars o i c k=⟨i,k,c,numF vars (e.v,e.x),dedup ((o.pre ++ e.cnd).map (numF vars))⟩:=by
 unfold unA; rw [h]
theorem uns_mem {t:Nt} {cost:Nat→Nat} {n:Nat} {u:Un} (h:u ∈ unsK t cost n):∃i o k e,i < n∧t.ops[i]? = some o∧o.effs[k]? = some e∧u=⟨i,k,cost i,numF t.vars (e.v,e.x),dedup ((o.pre ++ e.cnd).map (numF t.vars))⟩:=by
 unfold unsK at h
 obtain ⟨i,hi,h2⟩:=List.mem_flatMap.1 h
 cases ho:t.ops[i]? with
 | none=>rw [ho] at h2; cases h2
 | some o =>
  rw [ho] at h2
  unfold opU at h2
  obtain ⟨k,hk,rfl⟩:=List.mem_map.1 h2
  have hk:=List.mem_range.1 hk
  exact ⟨i,o,k,_,List.mem_range.1 hi,ho,List.getElem?_eq_getElem hk,unA_at (List.getElem?_eq_getElem hk)⟩
theorem mem_uns {t:Nt} {cost:Nat→Nat} {n i k:Nat} {o:No} {e:Nf} (hi:i < n) (ho:t.ops[i]? = some o) (he:o.effs[k]? = some e):(⟨i,k,cost i,numF t.vars (e.v,e.x),dedup ((o.pre ++ e.cnd).map (numF t.vars))⟩:Un) ∈ unsK t cost n:=by
 unfold unsK
 refine List.mem_flatMap.2 ⟨i,List.mem_range.2 hi,?_⟩
 rw [ho]
 unfold opU
 exact List.mem_map.2 ⟨k,List.mem_range.2 (List.getElem?_eq_some_iff.1 he).1,unA_at he⟩
end Go.Rx
end
section
namespace Go.Proofs.YtolkjbmcindhjaaGreat
open Go Go.W Go.Tk Go.Rx Go.Maps
theorem fc_append {w w1:World} {F:List Nat} {B:Asr} {ov:Value} {l:List Fc} {x:Fc} {KV:Kont (Value × World)} (hB:Lcl B) (h:At w F (Star (OwnA ov 100 2 fcE l) B) w1) (hl:l.length≤1000000)
  (H:∀v' w2,At w F (Star (OwnA v' 100 2 fcE (l ++ [x])) B) w2→KV.run (v',w2)) :
  @efH Tryz.prog (Builtin.append_ #[23,23] 23 [ov,.slice (some ⟨w1.heap.size,0,none⟩) 1 1].toArray) (w1.alloc (.cells #[.int .i64 (x.1:Nat),.int .i64 (x.2:Nat)] 100)) KV:=by
 have h4:=h.kp0 (Lcl.own.star hB) ((Kp.refl [] w1).alloc (.cells #[.int .i64 (x.1:Nat),.int .i64 (x.2:Nat)] 100))
 refine At.append (xs:=[x]) hB h4 fcE_len fcE_one sl_23 rfl (fun j u hj=>?_) (by omega) (by unfold maxLen; omega) fun v' w5 h5=>H v' w5 h5
 simp [fcE] at hj
 rw [add_none,cell_blk alloc_new]
 simpa using hj
end Go.Proofs.YtolkjbmcindhjaaGreat
end
section
namespace Go.Proofs.YtolkjbmcindhjaaGreat
open Go Go.W Go.Tk Go.Rx Go.Maps
def hdB (s:List Nat) (l:List Fc):Bool:=l.all fun f=>decide (s.getD f.1 0=f.2)
theorem hdB_succ {s:List Nat} {l:List Fc} {z:Nat} {f:Fc} (h:l[z]? = some f):hdB s (l.take (z+1))=(hdB s (l.take z) && decide (s.getD f.1 0=f.2)):=by
 unfold hdB; rw [take_snoc h,List.all_append]; simp
theorem holds_spec {w:World} (fv sv:Value) (l:List Fc) (s:List Nat) (hf:Vw w fv fcE l) (hs:Vw w sv nE s) (hl:l.length≤1000000) (hr:∀f ∈ l,f.1 < s.length) :
  Calls Tryz.prog 38 [fv,sv].toArray w fun e w'=>∃x,e=.returned x∧x=.bool (hdB s l)∧Kp [] w w':=by
 refine enter Tryz.func38 mixed low38 (Nat.le_of_ble_eq_true rfl) ?_
 simp only [L38]
 simp [hf.len]
 refine range_loop (n:=l.length) (by omega) (fun k ρ w'=>ρ 1=sv∧ρ 7=fv∧hdB s (l.take k)=true∧Kp [] w w') (by simp) (by simp)
  ⟨by simp,by simp,by simp [hdB],Kp.refl _ _⟩ (by decide) (fun _ _ _ _ h=>by simpa using h) (fun _ _ _ _ h=>by simpa using h) ?_ ?_
 rotate_left
 ·rintro ρ w4 ⟨g1,g7,g4,k4⟩
  rw [List.take_length] at g4
  simp [g4]
  exact k4
 rintro k ρ w4 hk hc hlm ⟨g1,g7,g4,k4⟩
 have hf4:=hf.kp0 k4
 obtain ⟨f,hfe⟩:∃f,l[k]? = some f:=⟨_,List.getElem?_eq_getElem hk⟩
 have hfm:=List.mem_of_getElem? hfe
 have f1:=hr f hfm
 have ec:=hf4.cells fcE_len hfe
 simp only [fcE] at ec
 obtain ⟨fb,hfb⟩:∃fb,fb=w4.heap.size:=⟨_,rfl⟩
 have hki:(k:Int) < l.length:=by omega
 simp (disch:=omega) [g7,hc,hlm,hf4.idx,ec,←hfb]
 refine st_fa (f:=faN f) .emp (At.start (w:=w4) rfl) hfb fun w7 h7=>?_
 have k7:=k4.trans h7.kp
 have hob:=h7.obj
 simp only [faN,faO] at hob
 rw [hfb] at hob
 have hs7:=hs.kp0 k7
 obtain ⟨y,hy⟩:∃y,s[f.1]? = some y:=⟨_,List.getElem?_eq_getElem f1⟩
 have hyd:s.getD f.1 0=y:=by simp [List.getD,hy]
 have n1:¬(f.1:Int) < 0:=by omega
 have n2:¬((s.length:Nat):Int)≤(f.1:Int):=by omega
 have n3:(f.1:Int) < s.length:=by omega
 have n4:¬s.length≤f.1:=by omega
 have hsc:=hdB_succ (s:=s) hfe
 rw [g4,hyd] at hsc
 by_cases hyx:y=f.2
 ·have t:((y:Int) != (f.2:Int))=false:=by simp; omega
  simp (disch:=omega) [g1,g7,hc,hlm,cell_blk hob,n1,n2,n4,hs7.len,hs7.idx,nE_cell hs7 hy,t]
  refine ⟨?_,k7.drew⟩
  rw [hsc]; simp [hyx]
 ·have t:((y:Int) != (f.2:Int))=true:=by simp; omega
  have hbad:hdB s l=false:=by
   unfold hdB
   rw [List.all_eq_false]
   exact ⟨f,hfm,by simp only [hyd,decide_eq_true_eq]; exact hyx⟩
  simp (disch:=omega) [g1,g7,hc,hlm,cell_blk hob,n1,n2,n4,hs7.len,hs7.idx,nE_cell hs7 hy,t,hbad]
  exact k7.drew
def rkK (vars s:List Nat):Nat→Nat
 | 0=>0
 | k+1=>rkK vars s k * vars.getD k 0+s.getD k 0
theorem rank_spec {w:World} (vv sv:Value) (vars s:List Nat) (hv:Vw w vv nE vars) (hs:Vw w sv nE s) (hl:s.length=vars.length) (hl2:s.length≤1000) (hb:∀k,k≤s.length→rkK vars s k≤1000000) :
  Calls Tryz.prog 16 [vv,sv].toArray w fun e w'=>∃x,e=.returned x∧x=.int .i64 (rkK vars s s.length:Nat)∧Kp [] w w':=by
 refine enter Tryz.func16 mixed low16 (Nat.le_of_ble_eq_true rfl) ?_
 simp only [L16]
 simp [hs.len]
 refine range_loop (n:=s.length) (by omega) (fun k ρ w'=>ρ 0=vv∧ρ 1=sv∧ρ 5=.int .i64 (rkK vars s k:Nat)∧Kp [] w w') (by simp) (by simp)
  ⟨by simp,by simp,by simp [rkK],Kp.refl _ _⟩ (by decide) (fun _ _ _ _ h=>by simpa using h) (fun _ _ _ _ h=>by simpa using h) ?_ ?_
 rotate_left
 ·rintro ρ w4 ⟨g0,g1,g5,k4⟩
  simp [g5]
  exact k4
 rintro k ρ w4 hk hc hlm ⟨g0,g1,g5,k4⟩
 have hv4:=hv.kp0 k4
 have hs4:=hs.kp0 k4
 obtain ⟨n,hn⟩:∃n,vars[k]? = some n:=⟨_,List.getElem?_eq_getElem (by omega)⟩
 obtain ⟨y,hy⟩:∃y,s[k]? = some y:=⟨_,List.getElem?_eq_getElem hk⟩
 have hnd:vars.getD k 0=n:=by simp [List.getD,hn]
 have hyd:s.getD k 0=y:=by simp [List.getD,hy]
 have e1:rkK vars s (k+1)=rkK vars s k * n+y:=by
  show rkK vars s k * vars.getD k 0+s.getD k 0=_
  rw [hnd,hyd]
 have hb1:=hb (k+1) (by omega)
 rw [e1] at hb1
 obtain ⟨m,hm⟩:∃m,m=rkK vars s k * n:=⟨_,rfl⟩
 have em:((rkK vars s k:Nat):Int) * (n:Nat)=(m:Int):=by rw [hm]; simp
 have e2:(m:Int)+(y:Nat)=((rkK vars s (k+1):Nat):Int):=by rw [e1,←hm]; simp
 have hki:(k:Int) < vars.length:=by omega
 have hks:(k:Int) < s.length:=by omega
 obtain ⟨m2,hm2⟩:∃m2,m2=rkK vars s (k+1):=⟨_,rfl⟩
 rw [←hm2] at e2 ⊢
 simp (disch:=omega) [g0,g1,g5,hc,hlm,hv4.idx,hs4.idx,nE_cell hv4 hn,nE_cell hs4 hy,em,wrap_i64]
 exact ⟨e2,k4.drew⟩
end Go.Proofs.YtolkjbmcindhjaaGreat
end
section
namespace Go.Proofs.YtolkjbmcindhjaaGreat
open Go Go.W Go.Tk Go.Rx Go.Maps
def extS (n:Nat) (s:List Nat):List (List Nat):=(List.range n).map fun x=>s ++ [x]
def stsK (vars:List Nat):Nat→List (List Nat)
 | 0=>[[]]
 | k+1=>(stsK vars k).flatMap (extS (vars.getD k 0))
theorem extS_len (n:Nat) (s:List Nat):(extS n s).length=n:=by simp [extS]
set_option maxHeartbeats 1000000 in
theorem states_spec {w:World} (vv:Value) (vars:List Nat) (hv:Vw w vv nE vars) (hl:vars.length≤1000) (hn:∀n ∈ vars,n≤1000) (hb:∀k,k≤vars.length→(stsK vars k).length≤10000) (hsl:∀k,k≤vars.length→∀s ∈ stsK vars k,s.length≤1000) :
  Calls Tryz.prog 12 [vv].toArray w fun e w'=>∃u,e=.returned u∧At w [] (Star (LLA u 22 nE (stsK vars vars.length)) Emp) w':=by
 refine enter Tryz.func12 mixed low12 (Nat.le_of_ble_eq_true rfl) ?_
 simp only [L12]
 have h0:At w [] Emp w:=At.start rfl
 have h1:=h0.lit (xs:=([]:List Nat)) (enc:=nE) (E:=3) (sz:=1) (cs:=#[]) (m:=0) .emp (by simp) nE_len (by simp [maxLen]) rfl
 obtain ⟨w1,hw1⟩:∃w1,w1=w.alloc (.cells #[] 3):=⟨_,rfl⟩
 obtain ⟨r,hr⟩:∃r,r=Value.slice (some ⟨w.heap.size,0,none⟩) 0 0:=⟨_,rfl⟩
 rw [←hw1,←hr] at h1
 have ho:=h1.own.o1
 have c1:=h1.own.c1
 have h2:At w [] (Star (VwsA nE [((⟨r,ho⟩,[]):Cell1 × List Nat)]) Emp) w1:=((VwsA.nil (Lcl.own.star .emp) h1).by Imp.sw).by (Imp.ow.trans (VwsA.add (ps:=[]) ho))
 have h3:=h2.lit (xs:=[((⟨r,ho⟩,[]):Cell1 × List Nat)]) (enc:=sv1) (E:=22) (sz:=1) (cs:=#[r]) (m:=1) (Lcl.vws.star .emp) (by simp [sv1]) sv1_len (by simp [maxLen]) rfl
 have h4:At w [] (Star (LLA (.slice (some ⟨w1.heap.size,0,none⟩) 1 1) 22 nE (stsK vars 0)) Emp) (w1.alloc (.cells #[r] 22)):=LLA.cls (ps:=[((⟨r,ho⟩,[]):Cell1 × List Nat)]) (by simp [stsK]) h3
 have hv4:=hv.kp0 h4.kp
 simp [←hw1,←hr,c1,rowOf,hv4.len]
 refine range_loop (n:=vars.length) (by omega) (fun k ρ w'=>ρ 12=vv∧At w [] (Star (LLA (ρ 3) 22 nE (stsK vars k)) Emp) w') (by simp) (by simp)
  ⟨by simp,by simpa using h4⟩ (by decide) (fun _ _ _ _ h=>by simpa using h) (fun _ _ _ _ h=>by simpa using h) ?_ ?_
 rotate_left
 ·rintro ρ w5 ⟨g12,h5⟩
  simp
  exact h5
 clear h1 h2 h3 h4 hv4 c1 hw1
 rintro k ρ w5 hk hck hlk ⟨g12,h5⟩
 have hv5:=hv.kp0 h5.kp
 obtain ⟨n,hne⟩:∃n,vars[k]? = some n:=⟨_,List.getElem?_eq_getElem hk⟩
 have hnb:=hn n (List.mem_of_getElem? hne)
 have hnd:vars.getD k 0=n:=by simp [List.getD,hne]
 have hki:(k:Int) < vars.length:=by omega
 obtain ⟨ov,hov⟩:∃ov,ov=ρ 3:=⟨_,rfl⟩
 rw [←hov] at h5
 obtain ⟨ps,hps,h6⟩:=LLA.opn h5
 have hpl:ps.length=(stsK vars k).length:=by rw [←hps]; simp
 have hbk:=hb k (by omega)
 have hbk1:=hb (k+1) (by omega)
 have hsk1:stsK vars (k+1)=(stsK vars k).flatMap (extS n):=by rw [←hnd]; rfl
 rw [hsk1] at hbk1
 have hX:Lcl (Star (OwnA ov 22 1 sv1 ps) (Star (VwsA nE ps) Emp)):=Lcl.own.star (Lcl.vws.star .emp)
 have h7:At w [] (Star (LLA (.slice none 0 0) 22 nE (((stsK vars k).take 0).flatMap (extS n))) (Star (OwnA ov 22 1 sv1 ps) (Star (VwsA nE ps) Emp))) w5:=LLA.nil hX h6
 simp (disch:=omega) [g12,hck,hlk,hv5.idx,nE_cell hv5 hne,←hov,h6.own.vw.len]
 refine range_loop (n:=ps.length) (by omega) (fun i ρ w'=>ρ 12=vv∧ρ 13=.int .i64 (vars.length:Nat)∧ρ 14=.int .i64 (k:Nat)∧ρ 5=.int .i64 (n:Nat)∧ρ 18=ov∧At w [] (Star (LLA (ρ 6) 22 nE (((stsK vars k).take i).flatMap (extS n))) (Star (OwnA ov 22 1 sv1 ps) (Star (VwsA nE ps) Emp))) w') (by simp) (by simp)
  ⟨by simp [g12],by simp [hlk],by simp [hck],by simp,by simp,by simpa using h7⟩ (by decide) (fun _ _ _ _ h=>by simpa using h) (fun _ _ _ _ h=>by simpa using h) ?_ ?_
 rotate_left
 ·clear g12 hck hlk hov
  rintro ρ w6 ⟨g12,g13,g14,g5,g18,h8⟩
  rw [hpl,List.take_length,←hsk1] at h8
  simp [g12,g13,g14]
  exact h8.by (Imp.un (Imp.dr.trans Imp.dr))
 clear g12 hck hlk hov h5 h6 h7 hv5
 rintro i ρ w6 hi hci hli ⟨g12,g13,g14,g5,g18,h8⟩
 obtain ⟨p,hp⟩:∃p,ps[i]? = some p:=⟨_,List.getElem?_eq_getElem hi⟩
 have hpm:=List.mem_of_getElem? hp
 obtain ⟨s,hse⟩:∃s,s=p.2:=⟨_,rfl⟩
 have hsi:(stsK vars k)[i]? = some s:=by rw [←hps,List.getElem?_map,hp,hse]; rfl
 have hsl1:=hsl k (by omega) s (List.mem_of_getElem? hsi)
 have hii:(i:Int) < ps.length:=by omega
 have hov:=h8.drop.own
 have ep:w6.cell? (ov.adr.add i)=some p.1.1:=by simpa using hov.vw.at_ sv1_len hp (o:=0) (u:=p.1.1) rfl
 have hlen:(((stsK vars k).take i).flatMap (extS n)).length+n≤10000:=by
  have e:stsK vars k=(stsK vars k).take i ++ (s :: (stsK vars k).drop (i+1)):=by
   obtain ⟨hk2,e2⟩:=List.getElem?_eq_some_iff.1 hsi
   rw [←e2,←List.drop_eq_getElem_cons hk2,List.take_append_drop]
  rw [e,List.flatMap_append,List.flatMap_cons,List.length_append,List.length_append,extS_len] at hbk1
  omega
 have htk:((stsK vars k).take (i+1)).flatMap (extS n)=((stsK vars k).take i).flatMap (extS n) ++ (extS n s).take n:=by
  have e:(extS n s).take n=extS n s:=List.take_of_length_le (by rw [extS_len]; omega)
  rw [take_snoc hsi,List.flatMap_append,e]
  simp
 simp (disch:=omega) [g5,g18,hci,hli,hov.vw.idx,ep]
 refine range_loop (n:=n) (by omega) (fun x ρ w'=>ρ 12=vv∧ρ 13=.int .i64 (vars.length:Nat)∧ρ 14=.int .i64 (k:Nat)∧ρ 5=.int .i64 (n:Nat)∧ρ 18=ov∧ρ 19=.int .i64 (ps.length:Nat)∧ρ 20=.int .i64 (i:Nat)∧ρ 8=p.1.1∧At w [] (Star (LLA (ρ 6) 22 nE (((stsK vars k).take i).flatMap (extS n) ++ (extS n s).take x)) (Star (OwnA ov 22 1 sv1 ps) (Star (VwsA nE ps) Emp))) w') (by simp) (by simp)
  ⟨by simp [g12],by simp [g13],by simp [g14],by simp [g5],by simp [g18],by simp [hli],by simp [hci],by simp,by simpa using h8⟩ (by decide) (fun _ _ _ _ h=>by simpa using h) (fun _ _ _ _ h=>by simpa using h) ?_ ?_
 rotate_left
 ·clear g12 g13 g14 g5 g18 hci hli
  rintro ρ w7 ⟨g12,g13,g14,g5,g18,g19,g20,g8,h9⟩
  rw [←htk] at h9
  simp [g12,g13,g14,g5,g18,g19,g20]
  exact h9
 clear g12 g13 g14 g5 g18 hci hli h8 hov ep
 rintro x ρ w7 hx hcx hlx ⟨g12,g13,g14,g5,g18,g19,g20,g8,h9⟩
 have hXL:Lcl (Star (LLA (ρ 6) 22 nE (((stsK vars k).take i).flatMap (extS n) ++ (extS n s).take x)) (Star (OwnA ov 22 1 sv1 ps) (Star (VwsA nE ps) Emp))):=Lcl.ll.star hX
 have h10:=h9.lit (xs:=([]:List Nat)) (enc:=nE) (E:=3) (sz:=1) (cs:=#[]) (m:=0) hXL (by simp) nE_len (by simp [maxLen]) rfl
 have hrow:Vw (w7.alloc (.cells #[] 3)) p.1.1 nE s:=by rw [hse]; exact h10.drop.drop.drop.vws hpm
 simp [hcx,g8,rowOf]
 refine At.appendV (xs:=s) hXL h10 hrow nE_len nE_one sl_22 (by simp; omega) (by simp; unfold maxLen; omega) fun v1 w8 h11=>?_
 simp
 refine nat_append hXL h11 (by simp; omega) fun v2 w9 h12=>?_
 have c12:=h12.own.c1
 simp [c12]
 have hlen2:(((stsK vars k).take i).flatMap (extS n) ++ (extS n s).take x).length≤100000:=by
  rw [List.length_append,List.length_take,extS_len]; omega
 refine li_append hX h12 hlen2 fun v3 w10 h13=>?_
 have ext:(extS n s)[x]? = some (s ++ [x]):=by unfold extS; rw [List.getElem?_map,List.getElem?_range hx]; rfl
 simp [g12,g13,g14,g5,g18,g19,g20,hcx,hlx]
 rw [take_snoc ext,←List.append_assoc]
 exact ⟨g8,by simpa using h13⟩
end Go.Proofs.YtolkjbmcindhjaaGreat
end
section
namespace Go.Proofs.YtolkjbmcindhjaaGreat
open Go Go.W Go.Tk Go.Rx Go.Maps
def apK (o:No) (s:List Nat) (k:Nat):List Nat:=(o.effs.take k).foldl (fun t e=>if hdB s e.cnd then t.set e.v e.x else t) s
def apS (o:No) (s:List Nat):List Nat:=apK o s o.effs.length
theorem apK_succ {o:No} {s:List Nat} {k:Nat} {e:Nf} (h:o.effs[k]? = some e):apK o s (k+1)=if hdB s e.cnd then (apK o s k).set e.v e.x else apK o s k:=by
 unfold apK; rw [take_snoc h,List.foldl_append]; rfl
theorem apK_len (o:No) (s:List Nat):∀k,(apK o s k).length=s.length
 | 0=>by simp [apK]
 | k+1=>by
  cases h:o.effs[k]? with
  | none =>
   have:=List.getElem?_eq_none_iff.1 h
   have h2:=apK_len o s k
   unfold apK at h2 ⊢
   rw [List.take_of_length_le (by omega)] at h2 ⊢
   exact h2
  | some e =>
   rw [apK_succ h]
   have:=apK_len o s k
   split
   ·rw [List.length_set]; exact this
   ·exact this
def apV (T:Nt) (o:No) (s:List Nat) (w:World) (x:Value) (w':World):Prop :=
 if hdB s o.pre=true then ∃u,x=.tuple #[u,.bool true]∧Nw w w' u 3 1 nE (apS o s) else x=.tuple #[.slice none 0 0,.bool false]∧Kp [] w w'
set_option maxHeartbeats 1000000 in
theorem apply_spec {w:World} (T:Nt) (sv:Value) (s:List Nat) (i:Nat) (o:No) (hr:NtR w T) (hg:NtG T) (ho:T.ops[i]? = some o) (hs:Vw w sv nE s) (hst:StN T.vars s) :
  Calls Tryz.prog 37 [ntV T,sv,.int .i64 (i:Nat)].toArray w fun e w'=>∃x,e=.returned x∧apV T o s w x w':=by
 refine enter Tryz.func37 mixed low37 (Nat.le_of_ble_eq_true rfl) ?_
 simp only [L37]
 have hlen:=hst.len
 have hvl:=hg.vlen
 have hol:=hg.olen
 have hom:=List.mem_of_getElem? ho
 have hgo:=hg.ops o hom
 have hi:i < T.ops.length:=(List.getElem?_eq_some_iff.1 ho).1
 have hii:(i:Int) < T.ops.length:=by omega
 obtain ⟨b,hb⟩:∃b,b=w.heap.size:=⟨_,rfl⟩
 have h1:At w [] (Star (ObjA b (ntO T)) Emp) (w.alloc (ntO T)):=by rw [hb]; exact (At.start rfl).alloc _ .emp
 obtain ⟨w1,hw1⟩:∃w1,w1=w.alloc (ntO T):=⟨_,rfl⟩
 rw [←hw1] at h1
 have hw1':w.alloc (.cells #[T.vv.1,T.nv.1,T.gv.1,T.ov.1] 26 (0,0))=w1:=by rw [hw1]; rfl
 have hr1:=hr.kp h1.kp
 have hob:=h1.obj
 unfold ntO at hob
 have c2:=hr1.ops.fld noE_len ho (o:=2) (u:=o.pv.1) rfl
 have n1:¬(i:Int) < 0:=by omega
 have n2:¬T.ops.length≤i:=by omega
 simp (disch:=omega) [ntV,←hb,hw1',cell_blk hob,n1,n2,hr1.ops.len,hr1.ops.idx,c2]
 have hgp:=hgo.pre
 have hpl:=hgp.len
 refine cl_of (holds_spec o.pv.1 sv o.pre s (hr1.op o hom).pre (hs.kp0 h1.kp) (by omega) (fun f hf=>by rw [hlen]; exact (hgp.rng f hf).1)) ?_
 rintro _ w2 ⟨rfl,k2⟩
 have h2:=h1.kp0 (Lcl.obj.star .emp) k2
 cases hp:hdB s o.pre with
 | false =>
  simp
  unfold apV
  rw [if_neg (by rw [hp]; simp)]
  exact ⟨rfl,h2.kp⟩
 | true =>
  simp [rowOf]
  have h3:=h2.lit (xs:=([]:List Nat)) (enc:=nE) (E:=3) (sz:=1) (cs:=#[]) (m:=0) (Lcl.obj.star .emp) (by simp) nE_len (by simp [maxLen]) rfl
  refine At.appendV (xs:=s) (Lcl.obj.star .emp) h3 (hs.kp0 h3.kp) nE_len nE_one sl_22 (by simp; omega) (by simp; unfold maxLen; omega) fun ov w4 h4=>?_
  have hob4:=h4.drop.obj
  unfold ntO at hob4
  have hr4:=hr.kp h4.kp
  have c3:=hr4.ops.fld noE_len ho (o:=3) (u:=o.ev.1) rfl
  have hro4:=hr4.op o hom
  have helen:=hgo.elen
  have h4:At w [] (Star (OwnA ov 3 1 nE (apK o s 0)) (Star (ObjA b (ntO T)) Emp)) w4:=by simpa [apK] using h4
  simp (disch:=omega) [←hb,cell_blk hob4,hr4.ops.idx,c3,hro4.effs.len]
  refine range_loop (n:=o.effs.length) (by omega) (fun k ρ w'=>ρ 1=sv∧ρ 8=ov∧ρ 39=o.ev.1∧At w [] (Star (OwnA ov 3 1 nE (apK o s k)) (Star (ObjA b (ntO T)) Emp)) w') (by simp) (by simp)
   ⟨by simp,by simp,by simp,h4⟩ (by decide) (fun _ _ _ _ h=>by simpa using h) (fun _ _ _ _ h=>by simpa using h) ?_ ?_
  rotate_left
  ·rintro ρ w5 ⟨g1,g8,g39,h5⟩
   simp [g8]
   unfold apV
   rw [if_pos hp]
   exact ⟨_,rfl,Nw.of h5⟩
  clear h3 h4 hob4 hr4 c3 hro4
  rintro k ρ w5 hk hck hlk ⟨g1,g8,g39,h5⟩
  have hro5:=(hr.kp h5.kp).op o hom
  obtain ⟨e,he⟩:∃e,o.effs[k]? = some e:=⟨_,List.getElem?_eq_getElem hk⟩
  have hem:=List.mem_of_getElem? he
  have ece:=hro5.effs.cells nfE_len he
  simp only [nfE] at ece
  have hki:(k:Int) < o.effs.length:=by omega
  obtain ⟨fb,hfb⟩:∃fb,fb=w5.heap.size:=⟨_,rfl⟩
  have hL:∀l,Lcl (Star (OwnA ov 3 1 nE l) (Star (ObjA b (ntO T)) Emp)):=fun _=>Lcl.own.star (Lcl.obj.star .emp)
  simp (disch:=omega) [g39,hck,hlk,hro5.effs.idx,ece,←hfb]
  refine st_ef (e:=e.raw) (hL _) h5 hfb fun w6 h6=>?_
  have oe6:=h6.obj
  unfold efO Nf.raw at oe6
  rw [hfb] at oe6
  have hgc:=hgo.cnd e hem
  have hcl:=hgc.len
  obtain ⟨f1,f2⟩:=hgo.eff e hem
  simp (disch:=omega) [cell_blk oe6,g1]
  refine cl_of (holds_spec e.wv.1 sv e.cnd s (((hr.kp h6.kp).op o hom).cnd e hem) (hs.kp0 h6.kp) (by omega) (fun f hf=>by rw [hlen]; exact (hgc.rng f hf).1)) ?_
  rintro _ w7 ⟨rfl,k7⟩
  have h7:=h6.kp0 (Lcl.obj.star (hL _)) k7
  have hsuc:=apK_succ (s:=s) he
  cases hh:hdB s e.cnd with
  | false =>
   rw [hh] at hsuc
   simp [g1,g8,g39,hck,hlk]
   rw [hsuc]
   exact h7.drop
  | true =>
   rw [hh] at hsuc
   have oe7:=h7.obj
   unfold efO Nf.raw at oe7
   rw [hfb] at oe7
   have h8:=h7.drop
   have hO:=h8.own
   have hal:=apK_len o s k
   have hvi:(e.v:Int) < (apK o s k).length:=by omega
   simp (disch:=omega) [g8,cell_blk oe7,hO.idx]
   refine h8.store1 (Lcl.obj.star .emp) nE_len nE_one (k:=e.v) (by omega) (x:=e.x) rfl fun w9 h9=>?_
   simp [g1,g8,g39,hck,hlk]
   rw [hsuc]
   exact h9
end Go.Proofs.YtolkjbmcindhjaaGreat
end
section
namespace Go.Proofs.YtolkjbmcindhjaaGreat
open Go Go.W Go.Tk Go.Rx Go.Maps
theorem sts_ok {vars:List Nat}:∀k,k≤vars.length→∀s ∈ stsK vars k,s.length=k∧∀v,v < k→s.getD v 0 < vars.getD v 0
 | 0,_,s,hs=>by
  simp [stsK] at hs; subst hs
  exact ⟨rfl,fun v hv=>by omega⟩
 | k+1,hk,s,hs=>by
  unfold stsK at hs
  obtain ⟨t,ht,h2⟩:=List.mem_flatMap.1 hs
  unfold extS at h2
  obtain ⟨x,hx,rfl⟩:=List.mem_map.1 h2
  obtain ⟨e,hv⟩:=sts_ok k (by omega) t ht
  refine ⟨by simp [e],fun v hvk=>?_⟩
  by_cases h3:v < k
  ·have:=hv v h3
   simpa [List.getD,List.getElem?_append_left (show v < t.length by omega)] using this
  ·have:v=k:=by omega
   subst this
   simpa [List.getD,←e] using List.mem_range.1 hx
theorem sts_st {vars:List Nat} {s:List Nat} (h:s ∈ stsK vars vars.length):StN vars s:=by
 obtain ⟨h1,h2⟩:=sts_ok _ (Nat.le_refl _) s h
 exact ⟨h1,h2⟩
end Go.Proofs.YtolkjbmcindhjaaGreat
end
