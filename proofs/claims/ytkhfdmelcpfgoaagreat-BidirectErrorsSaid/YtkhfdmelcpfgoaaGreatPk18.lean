/-
  A part of the proof of this claim's statement (SyW9, SyWA, SyWB, SyWC, SyWD): plain theorems; no conditions beyond those each names.
-/
import Derived.Test.YtkhfdmelcpfgoaaGreatPk17
import Derived.Test.YtkhfdmelcpfgoaaGreatPk14
section
set_option maxRecDepth 100000
set_option linter.unusedSimpArgs false
set_option linter.unusedVariables false
namespace Go.Proofs.YtkhfdmelcpfgoaaGreat
open Go Go.W Go.Tk Go.Rx Go.Bd Go.Sy Go.Maps
def sF (s:List Nat) (k:Nat):List Go.Tk.Fc:=(List.range k).map fun v=>(v,s.getD v 0)
theorem sF_succ (s:List Nat) (k:Nat):sF s (k+1)=sF s k ++ [(k,s.getD k 0)]:=by unfold sF; rw [List.range_succ,List.map_append]; rfl
theorem sF_len (s:List Nat) (k:Nat):(sF s k).length=k:=by unfold sF; simp
theorem sF_hd {x s:List Nat} (h:x.length=s.length):hdB x (sF s s.length)=decide (x=s):=by
 rw [Bool.eq_iff_iff,decide_eq_true_iff]
 unfold hdB sF
 rw [List.all_eq_true]
 constructor
 ·intro hh
  refine ext_getD h fun v hv=>?_
  have:=hh (v,s.getD v 0) (List.mem_map.2 ⟨v,List.mem_range.2 (by omega),rfl⟩)
  simpa using this
 ·rintro rfl f hf
  obtain ⟨v,hv,rfl⟩:=List.mem_map.1 hf
  simp
theorem sF_rng {vars s:List Nat} (h:StN vars s):FcRng vars (sF s s.length):=by
 intro f hf
 unfold sF at hf
 obtain ⟨v,hv,rfl⟩:=List.mem_map.1 hf
 have:=List.mem_range.1 hv
 rw [h.len] at this
 exact ⟨this,h.rng v this⟩
section
variable {w w1:World} {F:List Nat} {A B:Asr} {s m lim:Nat} {T:Nt} {q:SpC} {ns:Ns} {ks:List (Nat × Bool)} {ss:List (Nat × Nat)} {W:((Nat→Bool)→Bool)→Prop}
theorem SpcA.into (h:At w F (Star A (SpcA s m lim T q ns ks ss B)) w1):At w F (SpcA s m lim T q ns ks ss (Star A B)) w1:=by
 unfold SpcA at h ⊢
 exact h.by Imp.bk8
theorem SpcA.out (h:At w F (SpcA s m lim T q ns ks ss (Star A B)) w1):At w F (Star A (SpcA s m lim T q ns ks ss B)) w1:=by
 unfold SpcA at h ⊢
 exact h.by Imp.fr8
theorem SpcA.less (h:At w F (SpcA s m lim T q ns ks ss (Star A B)) w1):At w F (SpcA s m lim T q ns ks ss B) w1:=(SpcA.out h).by Imp.dr
theorem SRes.less {P:List Nat→Bool} {v:Value} {w':World} (h:SRes s m lim T q ns ks ss (Star A B) w F W P v w'):SRes s m lim T q ns ks ss B w F W P v w':=by
 obtain ⟨x,e',ns',ss',h1,h2,h3,h4,h5,h6,h7⟩:=h
 exact ⟨x,e',ns',ss',h1,h2,h3,h4,h5,h6,SpcA.less h7⟩
set_option maxHeartbeats 1000000 in
theorem partial_spec (pv:Value) (p:List Go.Tk.Fc) (hG:SpG lim T q ns ks ss) (hB:Lcl B) (h:At w F (SpcA s m lim T q ns ks ss B) w1) (hr:Rds B fun w'=>Vw w' pv fcE p) (hp:propF (T.vars.map iN) (p.map faN)=true) (hpo:FcOk T.vars p) (hkl:ks.length < 1000000) (hL:LitW T.vars W) (hF:FcW T.vars p W) (hW:W (setF T.vars fun x=>hdB x p)) :
  Calls Tryz.prog 51 [.pointer (some ⟨s,0,none⟩),pv].toArray w1 fun en w'=>∃ v,en=.returned v∧SRes s m lim T q ns ks ss B w F W (fun x=>hdB x p) v w':=by
 refine enter Tryz.func51 mixed low51 (Nat.le_of_ble_eq_true rfl) ?_
 simp only [L51]
 have os:=SpcA.obj h
 unfold spO at os
 rw [hG.cells.1] at os
 have hT:=SpcA.tsk h
 have hpl:=hpo.len
 have hvl:=hG.g.vlen
 have hLS:Lcl (SpcA s m lim T q ns ks ss B):=SpcA.lcl hB
 simp [cell_blk os]
 refine cl_of (tfacts_spec T.vv.1 pv _ _ (vw_n.2 hT.vars) (vw_fc.2 (SpcA.frame h hr)) (by simp; omega)) ?_
 rintro _ w2 ⟨rfl,k2⟩
 have h2:=h.kp0 hLS k2
 obtain ⟨bb,hbb⟩:∃ bb,bb=w2.heap.size:=⟨_,rfl⟩
 have h3:=SpcA.bl hB h2
 obtain ⟨w3,hw3⟩:∃ w3,w3=w2.alloc (blO s false):=⟨_,rfl⟩
 rw [← hbb,← hw3] at h3
 have hw3':w2.alloc (.cells #[.pointer (some ⟨s,0,none⟩),.nilIface] 105 (0,0))=w3:=by rw [hw3]; rfl
 have hR:Lcl (RestA T q ks ss B):=RestA.lcl hB
 have h3':=h3
 unfold BlA at h3'
 have os3:=h3'.drop.drop.obj
 unfold spO at os3
 have ma:Mn ns false q.all (setF T.vars fun _=>true):=⟨ref_le hG.ok hG.all.1,fun _=>hG.all⟩
 have e2:(setF T.vars fun x=>hdB x p)=fun a=>setF T.vars (fun _=>true) a && hdB (rs T.vars a 0) p:=funext fun a=>by
  unfold setF
  cases okB T.vars a <;> simp
 rw [e2] at hW
 have h3d:=h3.drew (BlA.lcl hR)
 have hrR:Rds (RestA T q ks ss B) fun w'=>Vw w' pv fcE p:=by unfold RestA; exact Rds.star (Rds.star (Rds.star hr))
 simp [hp,← hbb,hw3',cell_blk os3]
 refine ⟨?_,?_⟩ <;>
 ·refine cl_of (bFacts_spec pv p hG.ok hR h3d hrR hpo.rng (by omega) hL hF) ?_
  rintro _ w4 ⟨y4,e4,ns4,rfl,hs4,hm4,h4⟩
  have hk4:=hG.ok.stp hs4
  have h4':=h4
  unfold BlA at h4'
  have os4:=h4'.drop.drop.obj
  unfold spO at os4
  simp [cell_blk os4]
  refine cl_of (bAnd_spec q.all y4 _ _ hk4 hR h4 (ma.keep hG.ok.wf hs4) hm4 hW) ?_
  rintro _ w5 ⟨y5,e5,ns5,rfl,hs5,hm5,h5⟩
  have hk5:=hk4.stp hs5
  have h5':=h5
  unfold BlA at h5'
  have ob5:=h5'.drop.obj
  unfold blO at ob5
  simp [cell_blk ob5]
  refine cl_of (returned_spec y5 e5 hB (SpcA.un h5) hm5.1 (by omega)) ?_
  rintro _ w6 ⟨rfl,h6⟩
  simp
  refine sres_end hG hkl (hs4.trans hs5) (fun e=>⟨(hm5.2 e).1,fun x=>?_⟩) rfl h6
  rw [(hm5.2 e).2]
  exact (congrFun e2 x).symm
set_option maxHeartbeats 1000000 in
theorem single_spec (sv:Value) (st:List Nat) (hG:SpG lim T q ns ks ss) (hB:Lcl B) (h:At w F (SpcA s m lim T q ns ks ss B) w1) (hr:Rds B fun w'=>Vw w' sv nE st) (hst:StN T.vars st) (hkl:ks.length < 1000000) (hL:LitW T.vars W) (hF:FcW T.vars (sF st st.length) W) :
  Calls Tryz.prog 52 [.pointer (some ⟨s,0,none⟩),sv].toArray w1 fun en w'=>∃ v,en=.returned v∧SRes s m lim T q ns ks ss B w F W (fun x=>decide (x=st)) v w':=by
 refine enter Tryz.func52 mixed low52 (Nat.le_of_ble_eq_true rfl) ?_
 simp only [L52]
 have os:=SpcA.obj h
 unfold spO at os
 rw [hG.cells.1] at os
 have hT:=SpcA.tsk h
 have hvl:=hG.g.vlen
 have hsl:=hst.len
 have hLS:Lcl (SpcA s m lim T q ns ks ss B):=SpcA.lcl hB
 simp [cell_blk os]
 refine cl_of (tproper_spec T.vv.1 sv _ _ (vw_n.2 hT.vars) (vw_n.2 (SpcA.frame h hr)) (by simp; omega)) ?_
 rintro _ w2 ⟨rfl,k2⟩
 have h2:=h.kp0 hLS k2
 have hsv2:=SpcA.frame h2 hr
 have h2n:=h2.nil (E:=92) (sz:=2) (enc:=fcE) hLS
 simp [hst.ok,hsv2.len]
 refine range_loop (n:=st.length) (by omega) (fun k ρ w'=>ρ 0=.pointer (some ⟨s,0,none⟩)∧ρ 23=sv∧At w F (Star (OwnA (ρ 6) 92 2 fcE (sF st k)) (SpcA s m lim T q ns ks ss B)) w') (by simp) (by simp)
  ⟨by simp,by simp,by simpa [sF] using h2n⟩ (by decide) (fun _ _ _ _ h=>by simpa using h) (fun _ _ _ _ h=>by simpa using h) ?_ ?_
 ·rintro k ρ w3 hk hck hlk ⟨e0,e23,h3⟩
  obtain ⟨x,hx⟩:∃ x,st[k]?=some x:=⟨_,List.getElem?_eq_getElem hk⟩
  have hxd:st.getD k 0=x:=by simp [List.getD,hx]
  have hs3:=SpcA.frame (h3.by Imp.dr) hr
  have hki:(k:Int) < st.length:=by omega
  obtain ⟨ov,hov⟩:∃ ov,ρ 6=ov:=⟨_,rfl⟩
  rw [hov] at h3
  simp (disch:=omega) [e23,hck,hlk,hs3.idx,nE_cell hs3 hx,hov,rowOf]
  refine fc_append (x:=(k,x)) hLS h3 (by rw [sF_len]; omega) fun v' w9 h9=>?_
  simp [e0,e23,hck,hlk]
  rw [sF_succ,hxd]
  exact h9
 rintro ρ w3 ⟨e0,e23,h3⟩
 obtain ⟨ov,hov⟩:∃ ov,ρ 6=ov:=⟨_,rfl⟩
 rw [hov] at h3
 have h3i:=SpcA.into h3
 have hB3:Lcl (Star (OwnA ov 92 2 fcE (sF st st.length)) B):=Lcl.own.star hB
 obtain ⟨bb,hbb⟩:∃ bb,bb=w3.heap.size:=⟨_,rfl⟩
 have h4:=SpcA.bl hB3 h3i
 obtain ⟨w4,hw4⟩:∃ w4,w4=w3.alloc (blO s false):=⟨_,rfl⟩
 rw [← hbb,← hw4] at h4
 have hw4':w3.alloc (.cells #[.pointer (some ⟨s,0,none⟩),.nilIface] 105 (0,0))=w4:=by rw [hw4]; rfl
 have hR:Lcl (RestA T q ks ss (Star (OwnA ov 92 2 fcE (sF st st.length)) B)):=RestA.lcl hB3
 have hrR:Rds (RestA T q ks ss (Star (OwnA ov 92 2 fcE (sF st st.length)) B)) fun w'=>Vw w' ov fcE (sF st st.length):=by
  unfold RestA
  exact Rds.star (Rds.star (Rds.star fun w' F' hs=>by obtain ⟨Fa,Fb,ha,_⟩:=hs; exact ha.1.vw))
 simp [e0,hov,← hbb,hw4']
 refine cl_of (bFacts_spec ov (sF st st.length) hG.ok hR h4 hrR (sF_rng hst) (by rw [sF_len]; omega) hL hF) ?_
 rintro _ w5 ⟨y5,e5,ns5,rfl,hs5,hm5,h5⟩
 have hk5:=hG.ok.stp hs5
 have h5':=h5
 unfold BlA at h5'
 have ob5:=h5'.drop.obj
 unfold blO at ob5
 simp [e0,cell_blk ob5]
 refine cl_of (returned_spec y5 e5 hB3 (SpcA.un h5) hm5.1 (by omega)) ?_
 rintro _ w6 ⟨rfl,h6⟩
 simp
 refine SRes.less (sres_end hG hkl hs5 (fun e=>⟨(hm5.2 e).1,fun x=>?_⟩) rfl h6)
 rw [(hm5.2 e).2]
 show hdB _ _=_
 rw [sF_hd (by rw [rs_len,hsl])]
 by_cases hx:rs T.vars x 0=st
 ·have:okB T.vars x=true:=okB_iff.2 (by rw [hx]; exact hst)
  rw [this]
  simp [hx]
 ·simp [hx]
end
end Go.Proofs.YtkhfdmelcpfgoaaGreat
end
section
set_option maxRecDepth 100000
set_option linter.unusedSimpArgs false
set_option linter.unusedVariables false
namespace Go.Proofs.YtkhfdmelcpfgoaaGreat
open Go Go.W Go.Tk Go.Rx Go.Bd Go.Sy Go.Maps
def tlL (g:Nat→Int) (n k:Nat):List Int:=(List.range n).map fun i=>if i < k then g i else 0
theorem tlL_len (g:Nat→Int) (n k:Nat):(tlL g n k).length=n:=by simp [tlL]
theorem tlL_zero (g:Nat→Int) (n:Nat):tlL g n 0=List.replicate n 0:=by
 unfold tlL
 apply List.ext_getElem
 ·simp
 ·intro i h1 h2
  simp
theorem tlL_set (g:Nat→Int) (n k:Nat) (hk:k < n):(tlL g n k).set k (g k)=tlL g n (k+1):=by
 unfold tlL
 apply List.ext_getElem
 ·simp
 ·intro i h1 h2
  rw [List.getElem_set]
  simp only [List.getElem_map,List.getElem_range]
  by_cases h:k=i
  ·subst h
   simp
  ·rw [if_neg h]
   by_cases h3:i < k
   ·rw [if_pos h3,if_pos (by omega)]
   ·rw [if_neg h3,if_neg (by omega)]
theorem tlL_full (g:Nat→Int) (n:Nat):tlL g n n=(List.range n).map g:=by
 unfold tlL
 apply List.map_congr_left
 intro i hi
 rw [if_pos (List.mem_range.1 hi)]
def hfL (nx k:Nat):List Int:=((List.range k).filter fun i=>i % 2 == nx).map fun (i:Nat)=>(i:Int)
def toG (nx i:Nat):Int:=if i % 2=nx then (i:Int)+1 - 2 * nx else i
theorem hfL_in {nx k:Nat} (h:k % 2=nx):hfL nx (k+1)=hfL nx k ++ [(k:Int)]:=by
 unfold hfL
 rw [List.range_succ,List.filter_append,List.map_append]
 simp [h]
theorem hfL_out {nx k:Nat} (h:k % 2≠nx):hfL nx (k+1)=hfL nx k:=by
 unfold hfL
 rw [List.range_succ,List.filter_append,List.map_append]
 simp [h]
theorem hfL_len (nx k:Nat):(hfL nx k).length≤k:=by
 unfold hfL
 rw [List.length_map]
 exact Nat.le_trans (List.length_filter_le _ _) (by simp)
theorem hfL_mem {nx k i:Nat}:((i:Nat):Int) ∈ hfL nx k↔i < k∧i % 2=nx:=by
 unfold hfL
 constructor
 ·intro h
  obtain ⟨j,hj,e⟩:=List.mem_map.1 h
  have:j=i:=by have e:(j:Int)=(i:Int):=e; omega
  subst this
  have:=List.mem_filter.1 hj
  exact ⟨List.mem_range.1 this.1,by simpa using this.2⟩
 ·rintro ⟨h1,h2⟩
  exact List.mem_map.2 ⟨i,List.mem_filter.2 ⟨List.mem_range.2 h1,by simp [h2]⟩,rfl⟩
section
variable {w w1:World} {F:List Nat} {B:Asr} {s m:Nat} {vars:List Nat} {q:SpC}
set_option maxHeartbeats 2000000 in
theorem half_spec (nx:Nat) (hn:nx < 2) (hB:Lcl B) (h:At w F B w1) (hs:Rds B fun w'=>w'.heap[s]?=some (spO m vars q)) (hb:nBits vars≤100) :
  Calls Tryz.prog 100 [.pointer (some ⟨s,0,none⟩),.int .i64 (nx:Nat)].toArray w1 fun en w'=>∃ v,en=.returned v∧∃ ov tv,v=.tuple #[ov,tv]∧At w F (Star (OwnA ov 3 1 iv (hfL nx (2 * nBits vars))) (Star (OwnA tv 3 1 iv ((List.range (2 * nBits vars)).map (toG nx))) B)) w':=by
 refine enter Tryz.func100 mixed low100 (Nat.le_of_ble_eq_true rfl) ?_
 simp only [L100]
 obtain ⟨_,hq,_⟩:=h.ex
 have os:=hs _ _ hq
 unfold spO at os
 obtain ⟨n,hn2⟩:∃ n,n=2 * nBits vars:=⟨_,rfl⟩
 have hnI:(2:Int) * (nBits vars:Nat)=(n:Int):=by omega
 have h1:=h.made (E:=3) (enc:=iv) (x:=0) (z:=[.int .i64 0]) (n:=n) hB rfl iv_len (by unfold maxLen; omega)
 rw [← tlL_zero (toG nx)] at h1
 have hLO:Lcl (Star (OwnA (.slice (some ⟨w1.heap.size,0,none⟩) n n) 3 1 iv (tlL (toG nx) n 0)) B):=Lcl.own.star hB
 have h2:=h1.nil (E:=3) (sz:=1) (enc:=iv) hLO
 simp (disch:=omega) [cell_blk os,wrap_i64,hnI]
 refine gd_mk (by omega) ?_
 simp
 obtain ⟨tv,htv⟩:∃ tv,tv=Value.slice (some ⟨w1.heap.size,0,none⟩) n n:=⟨_,rfl⟩
 rw [← htv] at h2 ⊢
 refine range_loop (n:=n) (by omega) (fun k ρ w'=>ρ 1=.int .i64 (nx:Nat)∧ρ 7=tv∧At w F (Star (OwnA (ρ 6) 3 1 iv (hfL nx k)) (Star (OwnA tv 3 1 iv (tlL (toG nx) n k)) B)) w') (by simp) (by rw [htv]; simp)
  ⟨by simp,by simp,by simpa [hfL] using h2⟩ (by decide) (fun _ _ _ _ h=>by simpa using h) (fun _ _ _ _ h=>by simpa using h) ?_ ?_
 ·rintro k ρ w2 hk hck hlk ⟨g1,g7,h3⟩
  obtain ⟨ov,hov⟩:∃ ov,ρ 6=ov:=⟨_,rfl⟩
  rw [hov] at h3
  have hki:(k:Int) < n:=by omega
  have hr:=h3.by Imp.sw
  have hL2:Lcl (Star (OwnA ov 3 1 iv (hfL nx k)) B):=Lcl.own.star hB
  have hl:(tlL (toG nx) n k).length=n:=tlL_len _ _ _
  have e2:((k:Int) % 2 == (nx:Int))=(k % 2 == nx):=by
   rw [Bool.eq_iff_iff]
   simp
   omega
  simp (disch:=omega) [hck,hlk,g7,hr.own.idx,hl]
  have et:(k:Int).tmod 2=((k % 2:Nat):Int):=(Int.ofNat_tmod k 2).symm
  refine hr.store1 (x:=(k:Int)) hL2 iv_len iv_one (by rw [hl]; exact hk) rfl fun w3 h4=>?_
  by_cases hp:k % 2=nx
  ·have ep:((k:Int).tmod 2 == (nx:Int))=true:=by
    rw [beq_iff_eq,et]
    omega
   have h5:=h4.by Imp.sw
   have hl4:((tlL (toG nx) n k).set k (k:Int)).length=n:=by rw [List.length_set,hl]
   have hLX:Lcl (Star (OwnA tv 3 1 iv ((tlL (toG nx) n k).set k (k:Int))) B):=Lcl.own.star hB
   simp (disch:=omega) [ep,g1,g7,hov,rowOf]
   have h6:=h5.kp0 (Lcl.own.star hLX) ((Kp.refl [] w3).alloc (.cells #[.int .i64 (k:Nat)] 3))
   have hfl:=hfL_len nx k
   refine At.append (xs:=[(k:Int)]) hLX h6 iv_len iv_one sl_22 rfl (fun j u hj=>?_) (by omega) (by unfold maxLen; omega) fun v' w9 h9=>?_
   ·rw [add_none,cell_blk alloc_new]
    simpa [iv] using hj
   have h10:=h9.by Imp.sw
   have hL10:Lcl (Star (OwnA v' 3 1 iv (hfL nx k ++ [(k:Int)])) B):=Lcl.own.star hB
   simp (disch:=omega) [hck,hlk,g1,g7,h10.own.idx,hl4,wrap_i64]
   refine h10.store1 (x:=(k:Int)+1 - 2 * nx) hL10 iv_len iv_one (by rw [hl4]; exact hk) rfl fun w11 h11=>?_
   rw [List.set_set,show (k:Int)+1 - 2 * nx=toG nx k by unfold toG; rw [if_pos hp],tlL_set _ _ _ hk] at h11
   simp [g1,g7,hck,hlk]
   rw [hfL_in hp]
   exact h11.by Imp.sw
  ·have ep:((k:Int).tmod 2 == (nx:Int))=false:=by
    rw [beq_eq_false_iff_ne,et]
    intro h
    apply hp
    omega
   simp [ep,g1,g7,hov,hck,hlk]
   rw [hfL_out hp,← tlL_set _ _ _ hk,show toG nx k=(k:Int) by unfold toG; rw [if_neg hp]]
   exact h4.by Imp.sw
 rintro ρ w2 ⟨g1,g7,h3⟩
 simp [g7]
 rw [tlL_full] at h3
 rw [← hn2]
 exact ⟨_,_,⟨rfl,rfl⟩,h3⟩
end
end Go.Proofs.YtkhfdmelcpfgoaaGreat
end
section
set_option maxRecDepth 100000
set_option linter.unusedSimpArgs false
set_option linter.unusedVariables false
namespace Go.Proofs.YtkhfdmelcpfgoaaGreat
open Go Go.W Go.Tk Go.Rx Go.Bd Go.Sy Go.Maps
theorem rs_congr {vars:List Nat} {a b:Nat→Bool} {nx ny:Nat} (h:∀ p,p < nBits vars→a (2 * p+nx)=b (2 * p+ny)):rs vars a nx=rs vars b ny:=by
 refine ext_getD (by rw [rs_len,rs_len]) fun v hv=>?_
 rw [rs_len] at hv
 rw [rs_at hv,rs_at hv]
 unfold rv
 refine valK_congr _ fun k hk=>h _ ?_
 have:vars[v]?=some (vars.getD v 0):=by simp [List.getD,List.getElem?_eq_getElem hv]
 exact bP_in this hk
theorem indep {n:Nat} {ns:Ns} {f y:Nat} (hw:Wf n ns) (hf:Ref ns f) (hy:Rch n ns f y) (h:∀ a x,eval ns (upd a (tv n ns y) x) f=eval ns a f):False:=by
 obtain ⟨a,ha⟩:=(reach_dep hw (tv n ns y) hf).1 ⟨y,hy,rfl⟩
 exact ha (by rw [h,h])
theorem toL_tgt {n nx i:Nat} (hi:i < n):tgt ((List.range n).map (toG nx)) (i:Nat)=toG nx i:=by
 unfold tgt
 simp [List.getD,hi]
theorem ren_good {k nx f:Nat} {ns:Ns} {L:List Int} (hw:Wf (2 * k) ns) (hf:Ref ns f) (hn:nx < 2) (hS:SupP (2 * k) ns f L) (hi:∀ a i x,i % 2≠nx→i < 2 * k→eval ns (upd a i x) f=eval ns a f):¬ RenBad1 (2 * k) ((List.range (2 * k)).map (toG nx)) L∧¬ RenBad2 ((List.range (2 * k)).map (toG nx)) L:=by
 have key:∀ v ∈ L,∃ i:Nat,v=i∧i < 2 * k∧i % 2=nx:=fun v hv=>by
  obtain ⟨y,hy,rfl⟩:=(hS.2 v).1 hv
  have hlt:tv (2 * k) ns y < 2 * k:=hw.tv_var hy.ge (hy.ref hw hf)
  refine ⟨_,rfl,hlt,?_⟩
  apply Decidable.byContradiction
  intro h
  exact indep hw hf hy fun a x=>hi a _ x h hlt
 constructor
 ·rintro (h | ⟨v,hv,h⟩)
  ·exact h (by simp)
  ·obtain ⟨i,rfl,h1,h2⟩:=key v hv
   rw [toL_tgt h1] at h
   unfold toG at h
   rw [if_pos h2] at h
   omega
 ·rintro ⟨j,a,b,ha,hb,h⟩
  obtain ⟨i1,rfl,a1,a2⟩:=key a (List.mem_of_getElem? ha)
  obtain ⟨i2,rfl,b1,b2⟩:=key b (List.mem_of_getElem? hb)
  have hlt:((i1:Nat):Int) < i2:=by
   have:=List.pairwise_iff_getElem.1 hS.1 j (j+1) (List.getElem?_eq_some_iff.1 ha).1 (List.getElem?_eq_some_iff.1 hb).1 (by omega)
   rwa [(List.getElem?_eq_some_iff.1 ha).2,(List.getElem?_eq_some_iff.1 hb).2] at this
  rw [toL_tgt a1,toL_tgt b1] at h
  unfold toG at h
  rw [if_pos a2,if_pos b2] at h
  omega
theorem ae_end {vars:List Nat} {lim f g:Nat} {ns ns1 ns':Ns} {S:Nat→Nat→Prop} {xs:List Int} {r1 r:Option Nat} {M':Mem1} {W:((Nat→Bool)→Bool)→Prop} {Fa:(Nat→Bool)→Bool} (hk:SpOk vars lim ns) (hbin:BinOk (2 * nBits vars) lim 0 S ns f g r1 ns1) (hS:∀ x y,S x y→PS (2 * nBits vars) ns f g x y)
  (h0:r1=none→r=none∧ns'=ns1) (h1:∀ y,r1=some y→QOk (2 * nBits vars) lim 1 (inB (insOf (2 * nBits vars) xs)) ns1 y r ns' M')
  (hF:∀ c,(eval ns c f && eval ns c g)=Fa c) (hW1:W Fa) (hW2:∀ H,IsC Fa H→∀ G:(Nat→Bool)→Bool,(∀ a,G a=true↔qS 1 (inB (insOf (2 * nBits vars) xs)) H a)→W G) :
  Stp (2 * nBits vars) lim W false ns r.isNone ns'∧∀ x,r=some x→Ref ns' x∧∀ a,eval ns' a x=true↔∃ c,Off (inB (insOf (2 * nBits vars) xs)) a c∧eval ns c f=true∧eval ns c g=true:=by
 have ho:∀ c,Bd.opB 0 (eval ns c f) (eval ns c g)=Fa c:=fun c=>by
  rw [← hF c]
  simp [Bd.opB]
 have hnew:∀ z,ns.length+2≤z→z < ns1.length+2→∃ G,W G∧IsC G fun b=>eval ns1 b z:=fun z a b=>⟨Fa,hW1,(hbin.new hk.wf hS z a b).congr ho fun _=>rfl⟩
 cases r1 with
 | none =>
  obtain ⟨rfl,rfl⟩:=h0 rfl
  exact ⟨⟨hbin.ext,hbin.lim,hnew,fun h=>(by cases h),fun _ _=>hbin.hit rfl⟩,fun x h=>by cases h⟩
 | some y =>
  have hq:=h1 y rfl
  obtain ⟨hy,ey⟩:=hbin.ok y rfl
  refine ⟨⟨hbin.ext.trans hq.ext,hq.lim,fun z a b=>?_,fun h=>(by cases h),fun _ h=>hq.hit (by cases r <;> simp_all)⟩,fun x hx=>?_⟩
  ·by_cases hz:z < ns1.length+2
   ·obtain ⟨G,g1,g2⟩:=hnew z a hz
    exact ⟨G,g1,g2.congr (fun _=>rfl) fun b=>(hq.ext.eval hbin.ext.wf b hz).symm⟩
   ·obtain ⟨H,G,g1,g2,g3⟩:=hq.fr z (by omega) b
    exact ⟨G,hW2 H (g1.congr (fun c=>by rw [ey,ho]) fun _=>rfl) G g2,g3⟩
  ·obtain ⟨b1,b2⟩:=hq.ok x hx
   refine ⟨b1,fun a=>?_⟩
   rw [b2]
   unfold qS
   rw [if_pos rfl]
   constructor
   ·rintro ⟨c,h2,h3⟩
    have h3:eval ns1 c y=true:=h3
    rw [ey] at h3
    have:eval ns c f=true∧eval ns c g=true:=by simpa [Bd.opB] using h3
    exact ⟨c,h2,this⟩
   ·rintro ⟨c,h2,h3,h4⟩
    exact ⟨c,h2,by show eval ns1 c y=true; rw [ey,h3,h4]; rfl⟩
theorem ren_end {vars:List Nat} {lim f nx:Nat} {ns ns':Ns} {r:Option Nat} {M':Mem1} {σ:(Nat→Bool)→Nat→Bool} {W:((Nat→Bool)→Bool)→Prop} {X:(Nat→Bool)→Bool} (hk:SpOk vars lim ns) (h:ChOk (2 * nBits vars) lim σ ns f r ns' M') (hX:∀ c,eval ns c f=X c) (hW:∀ H,IsC X H→W fun b=>H (σ b)) :
  Stp (2 * nBits vars) lim W false ns r.isNone ns'∧∀ x,r=some x→Ref ns' x∧∀ a,eval ns' a x=eval ns (σ a) f:=by
 refine ⟨⟨h.ext,h.lim,fun z a b=>?_,fun h=>(by cases h),fun _ h2=>h.hit (by cases r <;> simp_all)⟩,h.ok⟩
 obtain ⟨H,h1,h2⟩:=h.fr z a b
 exact ⟨_,hW H (h1.congr hX fun _=>rfl),(IsC.refl _).congr (fun _=>rfl) fun b=>(h2 b).symm⟩
def sgA (n nx:Nat) (a:Nat→Bool) (i:Nat):Bool:=a (tgt ((List.range n).map (toG nx)) (i:Nat)).toNat
theorem sgA_in {n nx p:Nat} {a:Nat→Bool} (h:2 * p+nx < n) (hn:nx < 2):sgA n nx a (2 * p+nx)=a (2 * p+(1 - nx)):=by
 unfold sgA
 rw [toL_tgt h]
 unfold toG
 rw [if_pos (by omega)]
 congr 1
 omega
theorem hfL_all {k nx:Nat} (x:Int) (h:x ∈ hfL nx k):0≤x∧x < k:=by
 unfold hfL at h
 obtain ⟨j,hj,rfl⟩:=List.mem_map.1 h
 have:=List.mem_range.1 (List.mem_filter.1 hj).1
 exact ⟨by omega,by omega⟩
theorem ins_half {k nx i:Nat}:inB (insOf k (hfL nx k)) i=decide (i < k∧i % 2=nx):=by
 rw [insOf_get (fun x hx=>hfL_all x hx)]
 rw [Bool.eq_iff_iff,decide_eq_true_iff,decide_eq_true_iff]
 exact hfL_mem
theorem apS_ok {vars:List Nat} {o:No} {s:List Nat} (hs:StN vars s) (ho:NoG vars o):StN vars (apS o s):=by
 have key:∀ k,k≤o.effs.length→StN vars (apK o s k):=by
  intro k hk
  induction k with
  | zero=>exact hs
  | succ k ih =>
   have ih:=ih (by omega)
   obtain ⟨e,he⟩:∃ e,o.effs[k]?=some e:=⟨_,List.getElem?_eq_getElem (by omega)⟩
   rw [apK_succ he]
   obtain ⟨h1,h2⟩:=ho.eff e (List.mem_of_getElem? he)
   split
   ·refine ⟨by rw [List.length_set]; exact ih.len,fun v hv=>?_⟩
    by_cases h:e.v=v
    ·subst h
     rw [gD_same (by rw [ih.len]; exact hv)]
     exact h2
    ·rw [gD_ne h]
     exact ih.rng v hv
   ·exact ih
 exact key _ (Nat.le_refl _)
theorem img_sem {T:Nt} {o:No} {P:List Nat→Bool} {a b:Nat→Bool} (h64:∀ n ∈ T.vars,n≤64) (ho:NoG T.vars o) (hb:∀ p,p < nBits T.vars→b (2 * p+1)=a (2 * p)) :
  (∃ c,Off (inB (insOf (2 * nBits T.vars) (hfL 0 (2 * nBits T.vars)))) b c∧(okB T.vars c && P (rs T.vars c 0))=true∧relB T o c=true)↔(okB T.vars a && imgP T o P (rs T.vars a 0))=true:=by
 have e1:∀ {c:Nat→Bool},Off (inB (insOf (2 * nBits T.vars) (hfL 0 (2 * nBits T.vars)))) b c→rs T.vars c 1=rs T.vars a 0:=fun {c} hc=>rs_congr fun p hp=>by
  rw [hc _ (by rw [ins_half,decide_eq_false_iff_not]; omega),hb p hp]
  rfl
 constructor
 ·rintro ⟨c,hc,h1,h2⟩
  obtain ⟨h1,h3⟩:=Bool.and_eq_true_iff.1 h1
  have hx:=okB_iff.1 h1
  unfold relB at h2
  obtain ⟨h4,h5⟩:=Bool.and_eq_true_iff.1 h2
  have h5:=of_decide_eq_true h5
  rw [e1 hc] at h5
  have hy:StN T.vars (rs T.vars a 0):=by rw [h5]; exact apS_ok hx ho
  rw [okB_iff.2 hy,Bool.true_and]
  unfold imgP
  rw [List.any_eq_true]
  exact ⟨_,sts_mem.2 hx,by rw [h3,h4,h5]; simp⟩
 ·intro h
  obtain ⟨h1,h2⟩:=Bool.and_eq_true_iff.1 h
  unfold imgP at h2
  rw [List.any_eq_true] at h2
  obtain ⟨x,hx,h3⟩:=h2
  have hx:=sts_mem.1 hx
  simp only [Bool.and_eq_true,decide_eq_true_eq] at h3
  obtain ⟨⟨h3,h4⟩,h5⟩:=h3
  obtain ⟨c,hc⟩:∃ c:Nat→Bool,c=fun i=>if i % 2=0∧i < 2 * nBits T.vars then mk2 T.vars x [] i else b i:=⟨_,rfl⟩
  have hoff:Off (inB (insOf (2 * nBits T.vars) (hfL 0 (2 * nBits T.vars)))) b c:=fun i hi=>by
   rw [ins_half] at hi
   have hi:=of_decide_eq_false hi
   rw [hc]
   simp only
   rw [if_neg (fun h=>hi ⟨h.2,h.1⟩)]
  have hcx:rs T.vars c 0=x:=by
   rw [← rs_mk2 (y:=[]) h64 hx]
   refine rs_congr fun p hp=>?_
   rw [hc]
   simp only
   rw [if_pos ⟨by omega,by omega⟩]
  refine ⟨c,hoff,?_,?_⟩
  ·rw [hcx,h3,okB_iff.2 (by rw [hcx]; exact hx)]
   rfl
  ·unfold relB
   rw [hcx,h4,e1 hoff,h5]
   simp
theorem pre_sem {T:Nt} {o:No} {P:List Nat→Bool} {a:Nat→Bool} (h64:∀ n ∈ T.vars,n≤64) (ho:NoG T.vars o) :
  (okB T.vars a=true∧∃ c,Off (inB (insOf (2 * nBits T.vars) (hfL 1 (2 * nBits T.vars)))) a c∧relB T o c=true∧(okB T.vars (sgA (2 * nBits T.vars) 0 c) && P (rs T.vars (sgA (2 * nBits T.vars) 0 c) 0))=true)↔(okB T.vars a && preP o P (rs T.vars a 0))=true:=by
 have e0:∀ {c:Nat→Bool},Off (inB (insOf (2 * nBits T.vars) (hfL 1 (2 * nBits T.vars)))) a c→rs T.vars c 0=rs T.vars a 0:=fun {c} hc=>rs_congr fun p hp=>by
  rw [hc _ (by rw [ins_half]; simp)]
 have e1:∀ {c:Nat→Bool},rs T.vars (sgA (2 * nBits T.vars) 0 c) 0=rs T.vars c 1:=fun {c}=>rs_congr fun p hp=>by
  rw [sgA_in (nx:=0) (by omega) (by omega)]
 constructor
 ·rintro ⟨h0,c,hc,h1,h2⟩
  obtain ⟨h2,h3⟩:=Bool.and_eq_true_iff.1 h2
  rw [e1] at h3
  unfold relB at h1
  obtain ⟨h4,h5⟩:=Bool.and_eq_true_iff.1 h1
  have h5:=of_decide_eq_true h5
  rw [h5] at h3
  rw [e0 hc] at h3 h4
  rw [h0,Bool.true_and]
  unfold preP
  rw [h3,h4]
  rfl
 ·intro h
  obtain ⟨h1,h2⟩:=Bool.and_eq_true_iff.1 h
  unfold preP at h2
  obtain ⟨h2,h3⟩:=Bool.and_eq_true_iff.1 h2
  have hx:=okB_iff.1 h1
  have hy:=apS_ok hx ho
  refine ⟨h1,?_⟩
  obtain ⟨c,hc⟩:∃ c:Nat→Bool,c=fun i=>if i % 2=1∧i < 2 * nBits T.vars then mk2 T.vars (apS o (rs T.vars a 0)) [] (i - 1) else a i:=⟨_,rfl⟩
  have hoff:Off (inB (insOf (2 * nBits T.vars) (hfL 1 (2 * nBits T.vars)))) a c:=fun i hi=>by
   rw [ins_half] at hi
   have hi:=of_decide_eq_false hi
   rw [hc]
   simp only
   rw [if_neg (fun h=>hi ⟨h.2,h.1⟩)]
  have hc1:rs T.vars c 1=apS o (rs T.vars a 0):=by
   rw [← rs_mk2 (y:=[]) h64 hy]
   refine rs_congr fun p hp=>?_
   rw [hc]
   simp only
   rw [if_pos ⟨by omega,by omega⟩]
   rfl
  refine ⟨c,hoff,?_,?_⟩
  ·unfold relB
   rw [e0 hoff,h2,hc1]
   simp
  ·rw [okB_iff.2 (by rw [e1,hc1]; exact hy),e1,hc1,h3]
   rfl
end Go.Proofs.YtkhfdmelcpfgoaaGreat
end
section
set_option maxRecDepth 100000
set_option linter.unusedSimpArgs false
set_option linter.unusedVariables false
namespace Go.Proofs.YtkhfdmelcpfgoaaGreat
open Go Go.W Go.Tk Go.Rx Go.Bd Go.Sy Go.Maps
section
variable {w w1:World} {F:List Nat} {A B B':Asr} {s m lim:Nat} {T:Nt} {q:SpC} {ns:Ns} {ks:List (Nat × Bool)} {ss:List (Nat × Nat)} {W:((Nat→Bool)→Bool)→Prop}
theorem SpcA.tail (h:At w F (SpcA s m lim T q ns ks ss B) w1) (i:Imp B B'):At w F (SpcA s m lim T q ns ks ss B') w1:=by
 unfold SpcA at h ⊢
 exact h.by (Imp.un (Imp.un (Imp.un (Imp.un (Imp.un (Imp.un (Imp.un i)))))))
theorem SpcA.rdo:Rds (SpcA s m lim T q ns ks ss B) fun w'=>w'.heap[s]?=some (spO m T.vars q):=by
 unfold SpcA
 exact Rds.star Rds.obj
theorem SpcA.rdt {P:World→Prop} (hP:Rds B P):Rds (Star (ObjA s (spO m T.vars q)) (Star (OwnA q.fv 3 1 nE (firstL T.vars)) (Star (OwnA q.wv 3 1 nE (widthL T.vars)) (Star (KmA q.km ks) (Star (SmA q.sm ss) (Star (TskA T) B)))))) P:=Rds.star (Rds.star (Rds.star (Rds.star (Rds.star (Rds.star hP)))))
theorem Rds.own {α:Type} {v:Value} {E sz:Nat} {enc:α→List Value} {l:List α}:Rds (Star (OwnA v E sz enc l) B) fun w'=>Vw w' v enc l:=fun w' F' hs=>by
 obtain ⟨Fa,Fb,ha,_⟩:=hs
 exact ha.1.vw
theorem sres_end2 {x:Nat} {e:Bool} {ns':Ns} {P:List Nat→Bool} {w':World} {v:Value} {ss':List (Nat × Nat)} (hs:Stp (2 * nBits T.vars) lim W false ns e ns') (hG:SpG lim T q ns' ks ss') (hl:ss'.length≤ss.length+1) (hkl:ks.length < 1000000) (hx:e=false→SetOk T.vars ns' x P) (hv:v=.tuple #[.int .i64 ((if e=true then 0 else x:Nat):Nat),eB e])
  (h:At w F (SpcA s m lim T q ns' (ksR ks x e) ss' B) w'):SRes s m lim T q ns ks ss B w F W P v w':=by
 cases e with
 | true=>exact ⟨0,true,ns',ss',by rw [hv]; rfl,hs,fun _=>rfl,fun h=>(by cases h),hG,hl,h⟩
 | false=>exact ⟨x,false,ns',ss',by rw [hv]; rfl,hs,fun h=>(by cases h),hx,hG.put hkl hx,hl,h⟩
theorem SetOk.stp {vars:List Nat} {ns ns':Ns} {x:Nat} {e e':Bool} {P:List Nat→Bool} (h:SetOk vars ns x P) (hk:SpOk vars lim ns) (hs:Stp (2 * nBits vars) lim W e ns e' ns'):SetOk vars ns' x P:=h.ext hk.wf hs.ext
theorem opt_le {vars:List Nat} {ns:Ns} {r:Option Nat} (hk:SpOk vars lim ns) (h:∀ x,r=some x→Ref ns x):r.getD 0≤2000000:=by
 cases r with
 | none=>exact Nat.zero_le _
 | some x=>exact ref_le hk (h x rfl)
def imA (T:Nt) (o:No) (P:List Nat→Bool):(Nat→Bool)→Bool:=fun a=>setF T.vars P a && relB T o a
structure ImgW (T:Nt) (o:No) (P:List Nat→Bool) (W:((Nat→Bool)→Bool)→Prop):Prop where
 rel:RelW T o W
 and:W (imA T o P)
 ex:∀ H,IsC (imA T o P) H→∀ G:(Nat→Bool)→Bool,(∀ a,G a=true↔qS 1 (inB (insOf (2 * nBits T.vars) (hfL 0 (2 * nBits T.vars)))) H a)→W G
 ren:∀ X:(Nat→Bool)→Bool,(∀ a,X a=true↔qS 1 (inB (insOf (2 * nBits T.vars) (hfL 0 (2 * nBits T.vars)))) (imA T o P) a)→∀ H,IsC X H→W fun b=>H (sgA (2 * nBits T.vars) 1 b)
set_option maxHeartbeats 4000000 in
theorem image_spec (a op:Nat) (o:No) (P:List Nat→Bool) (hG:SpG lim T q ns ks ss) (hB:Lcl B) (h:At w F (SpcA s m lim T q ns ks ss B) w1) (ha:Kn T ns ks a P) (ho:T.ops[op]?=some o) (hkl:ks.length < 1000000) (hsl:ss.length < 1000000) (hW:ImgW T o P W) :
  Calls Tryz.prog 80 [.pointer (some ⟨s,0,none⟩),.int .i64 (a:Nat),.int .i64 (op:Nat)].toArray w1 fun en w'=>∃ v,en=.returned v∧SRes s m lim T q ns ks ss B w F W (imgP T o P) v w':=by
 refine enter Tryz.func80 mixed low80 (Nat.le_of_ble_eq_true rfl) ?_
 simp only [L80]
 have hopl:=(List.getElem?_eq_some_iff.1 ho).1
 have hog:=hG.g.ops o (List.mem_of_getElem? ho)
 have h64:∀ n ∈ T.vars,n≤64:=fun n hn=>(hG.g.vars n hn).2
 simp
 refine cl_of (step_spec a op h ha.kn (ha.le hG) hG hopl hB) ?_
 rintro _ w2 ⟨rfl,h2⟩
 simp
 refine cl_of (relation_spec op o hG hB h2 ho hsl hW.rel) ?_
 rintro _ w3 ⟨r,e3,ns3,ss3,rfl,hs3,hr3,hG3,hl3,h3⟩
 cases e3 with
 | true =>
  simp [eB,berrV]
  exact ⟨0,true,ns3,ss3,by simp [eB,berrV],hs3,fun _=>rfl,fun h=>(by cases h),hG3,hl3,h3⟩
 | false =>
  obtain ⟨rr,o2,ho2,er⟩:=hr3 rfl
  have:o2=o:=by rw [ho] at ho2; injection ho2 with e; exact e.symm
  subst this
  have ha3:=ha.ok.stp hG.ok hs3
  simp [eB]
  refine cl_of (half_spec 0 (by omega) (SpcA.lcl hB) h3 SpcA.rdo hG3.ok.bt) ?_
  rintro _ w4 ⟨ov,tv,rfl,h4⟩
  have h4:=SpcA.into ((h4.by Imp.sw).by Imp.dr)
  have hB4:Lcl (Star (OwnA ov 3 1 iv (hfL 0 (2 * nBits T.vars))) B):=Lcl.own.star hB
  simp
  refine cl_of (half_spec 1 (by omega) (SpcA.lcl hB4) h4 SpcA.rdo hG3.ok.bt) ?_
  rintro _ w5 ⟨ov5,tv5,rfl,h5⟩
  have h5:=SpcA.into (h5.by Imp.dr)
  have h5:=SpcA.out (SpcA.tail h5 Imp.sw)
  have hB5:Lcl (Star (OwnA tv5 3 1 iv ((List.range (2 * nBits T.vars)).map (toG 1))) B):=Lcl.own.star hB
  have h6:=h5.by Imp.ow
  have os6:=SpcA.obj (h6.by Imp.dr)
  unfold spO at os6
  unfold SpcA at h6
  have h6:=h6.by Imp.sw
  obtain ⟨p1,p2⟩:=ps_clo hG3.ok.wf 0 ha3.1 rr
  have hhl:=hfL_len 0 (2 * nBits T.vars)
  have hbt:=hG3.ok.bt
  simp [cell_blk os6]
  refine cl_of (andExists_spec m (2 * nBits T.vars) lim ns3 a r _ ov _ (SpcA.rest hB5) h6 hG3.ok.wf hG3.ok.bnd ha3.1 rr p2 p1 (by omega) (by
   rw [List.all_eq_true]
   intro x hx
   have:=hfL_all x hx
   unfold Go.Proofs.YtkhfdmelcpfgoaaGreat.varB
   simp
   omega)) ?_
  rintro _ w7 ⟨r1,r2,ns4,ns5,M5,rfl,hbin,hn1,hq1,h7⟩
  obtain ⟨s5,m5⟩:=ae_end (W:=W) (Fa:=imA T o2 P) hG3.ok hbin (fun _ _ h=>h) hn1 hq1 (fun c=>by rw [ha3.2,er]; rfl) hW.and hW.ex
  have hk5:=hG3.ok.stp s5
  have hG5:=hG3.stp s5
  have h7:=(h7.by Imp.sw).by Imp.dr
  have h8:At w F (SpcA s m lim T q ns5 ks ss3 (Star (OwnA tv5 3 1 iv ((List.range (2 * nBits T.vars)).map (toG 1))) B)) w7:=h7
  have hs35:=hs3.trans s5
  rw [optV_parts]
  cases r2 with
  | none =>
   simp [eB,berrV]
   exact ⟨0,true,ns5,ss3,by simp [eB,berrV],hs35,fun _=>rfl,fun h=>(by cases h),hG5,hl3,SpcA.less h8⟩
  | some x =>
   obtain ⟨rx,ex⟩:=m5 x rfl
   have os8:=SpcA.obj h8
   unfold spO at os8
   simp [eB,cell_blk os8]
   have h8':=h8
   unfold SpcA at h8'
   refine cl_of (rename_spec m (2 * nBits T.vars) lim ns5 x tv5 _ (SpcA.rest hB5) h8' hk5.wf hk5.bnd rx (SpcA.rdt Rds.own) (by simp; omega)) ?_
   rintro _ w9 ⟨L,hsup,hR⟩
   have hind:∀ a i b,i % 2≠1→i < 2 * nBits T.vars→eval ns5 (upd a i b) x=eval ns5 a x:=fun a i b hi hlt=>by
    rw [Bool.eq_iff_iff,ex,ex]
    have:∀ c,Off (inB (insOf (2 * nBits T.vars) (hfL 0 (2 * nBits T.vars)))) (upd a i b) c↔Off (inB (insOf (2 * nBits T.vars) (hfL 0 (2 * nBits T.vars)))) a c:=fun c=>by
     unfold Off
     refine forall_congr' fun j=>?_
     refine imp_congr_right fun hj=>?_
     rw [ins_half,decide_eq_false_iff_not] at hj
     have:j≠i:=fun e=>hj (by subst e; omega)
     simp [upd,this]
    simp only [this]
   obtain ⟨g1,g2⟩:=ren_good hk5.wf rx (by omega) hsup hind
   rcases hR with ⟨hb,_⟩ | ⟨_,hb,_⟩ | ⟨_,_,r3,ns6,M6,rfl,hch,h9⟩
   ·exact absurd hb g1
   ·exact absurd hb g2
   have hXs:∀ a,eval ns5 a x=true↔qS 1 (inB (insOf (2 * nBits T.vars) (hfL 0 (2 * nBits T.vars)))) (imA T o2 P) a:=fun a=>by
    rw [ex]
    unfold qS
    rw [if_pos rfl]
    refine exists_congr fun c=>and_congr_right fun _=>?_
    rw [ha3.2,er]
    unfold imA setF
    simp only [Bool.and_eq_true]
   obtain ⟨s6,m6⟩:=ren_end (W:=W) (nx:=1) hk5 hch (X:=fun c=>eval ns5 c x) (fun _=>rfl) (hW.ren _ hXs)
   have hk6:=hk5.stp s6
   have h9':At w F (SpcA s m lim T q ns6 ks ss3 (Star (OwnA tv5 3 1 iv ((List.range (2 * nBits T.vars)).map (toG 1))) B)) w9:=h9
   rw [optV_parts]
   simp
   refine cl_of (returned_spec (r3.getD 0) r3.isNone hB5 h9' (opt_le hk6 fun y hy=>(m6 y hy).1) (by omega)) ?_
   rintro _ w10 ⟨rfl,h10⟩
   simp
   refine SRes.less (sres_end2 (hs35.trans s6) (hG5.stp s6) hl3 hkl (fun e=>?_) (by cases r3 <;> rfl) h10)
   obtain ⟨y,hy⟩:∃ y,r3=some y:=by cases r3 with | none=>cases e | some y=>exact ⟨y,rfl⟩
   subst hy
   obtain ⟨ry,ey⟩:=m6 y rfl
   refine ⟨ry,fun b=>?_⟩
   show eval ns6 b y=_
   rw [ey,Bool.eq_iff_iff,ex]
   have key:=img_sem (P:=P) (a:=b) (b:=fun i=>b (tgt ((List.range (2 * nBits T.vars)).map (toG 1)) (i:Nat)).toNat) h64 hog (fun p hp=>by
    have:=sgA_in (n:=2 * nBits T.vars) (nx:=1) (p:=p) (a:=b) (by omega) (by omega)
    unfold sgA at this
    exact this)
   rw [← key]
   refine exists_congr fun c=>and_congr_right fun _=>?_
   rw [ha3.2,er]
end
end Go.Proofs.YtkhfdmelcpfgoaaGreat
end
section
set_option maxRecDepth 100000
set_option linter.unusedSimpArgs false
set_option linter.unusedVariables false
namespace Go.Proofs.YtkhfdmelcpfgoaaGreat
open Go Go.W Go.Tk Go.Rx Go.Bd Go.Sy Go.Maps
section
variable {w w1:World} {F:List Nat} {A B B':Asr} {s m lim:Nat} {T:Nt} {q:SpC} {ns:Ns} {ks:List (Nat × Bool)} {ss:List (Nat × Nat)} {W:((Nat→Bool)→Bool)→Prop}
theorem okB_congr {vars:List Nat} {a b:Nat→Bool} (h:rs vars a 0=rs vars b 0):okB vars a=okB vars b:=by
 rw [Bool.eq_iff_iff,okB_iff,okB_iff,h]
theorem rs_upd {vars:List Nat} {a:Nat→Bool} {i:Nat} {b:Bool} (hi:i % 2≠0):rs vars (upd a i b) 0=rs vars a 0:=rs_congr fun p hp=>by
 have:2 * p≠i:=by omega
 simp [upd,this]
def prA (T:Nt) (o:No) (P:List Nat→Bool):(Nat→Bool)→Bool:=fun a=>relB T o a && setF T.vars P (sgA (2 * nBits T.vars) 0 a)
structure PreW (T:Nt) (o:No) (P:List Nat→Bool) (W:((Nat→Bool)→Bool)→Prop):Prop where
 rel:RelW T o W
 ren:∀ H,IsC (setF T.vars P) H→W fun b=>H (sgA (2 * nBits T.vars) 0 b)
 and:W (prA T o P)
 ex:∀ H,IsC (prA T o P) H→∀ G:(Nat→Bool)→Bool,(∀ a,G a=true↔qS 1 (inB (insOf (2 * nBits T.vars) (hfL 1 (2 * nBits T.vars)))) H a)→W G
 fin:W (setF T.vars (preP o P))
set_option maxHeartbeats 4000000 in
theorem preimage_spec (a op:Nat) (o:No) (P:List Nat→Bool) (hG:SpG lim T q ns ks ss) (hB:Lcl B) (h:At w F (SpcA s m lim T q ns ks ss B) w1) (ha:Kn T ns ks a P) (ho:T.ops[op]?=some o) (hkl:ks.length < 1000000) (hsl:ss.length < 1000000) (hW:PreW T o P W) :
  Calls Tryz.prog 79 [.pointer (some ⟨s,0,none⟩),.int .i64 (a:Nat),.int .i64 (op:Nat)].toArray w1 fun en w'=>∃ v,en=.returned v∧SRes s m lim T q ns ks ss B w F W (preP o P) v w':=by
 refine enter Tryz.func79 mixed low79 (Nat.le_of_ble_eq_true rfl) ?_
 simp only [L79]
 have hopl:=(List.getElem?_eq_some_iff.1 ho).1
 have hog:=hG.g.ops o (List.mem_of_getElem? ho)
 have h64:∀ n ∈ T.vars,n≤64:=fun n hn=>(hG.g.vars n hn).2
 simp
 refine cl_of (step_spec a op h ha.kn (ha.le hG) hG hopl hB) ?_
 rintro _ w2 ⟨rfl,h2⟩
 simp
 refine cl_of (relation_spec op o hG hB h2 ho hsl hW.rel) ?_
 rintro _ w3 ⟨r,e3,ns3,ss3,rfl,hs3,hr3,hG3,hl3,h3⟩
 cases e3 with
 | true =>
  simp [eB,berrV]
  exact ⟨0,true,ns3,ss3,by simp [eB,berrV],hs3,fun _=>rfl,fun h=>(by cases h),hG3,hl3,h3⟩
 | false =>
  obtain ⟨rr,o2,ho2,er⟩:=hr3 rfl
  have:o2=o:=by rw [ho] at ho2; injection ho2 with e; exact e.symm
  subst this
  have ha3:=ha.ok.stp hG.ok hs3
  simp [eB]
  refine cl_of (half_spec 0 (by omega) (SpcA.lcl hB) h3 SpcA.rdo hG3.ok.bt) ?_
  rintro _ w4 ⟨ov,tv,rfl,h4⟩
  have h4:=SpcA.into (h4.by Imp.dr)
  have hB4:Lcl (Star (OwnA tv 3 1 iv ((List.range (2 * nBits T.vars)).map (toG 0))) B):=Lcl.own.star hB
  simp
  refine cl_of (half_spec 1 (by omega) (SpcA.lcl hB4) h4 SpcA.rdo hG3.ok.bt) ?_
  rintro _ w5 ⟨ov5,tv5,rfl,h5⟩
  have h5:=SpcA.into ((h5.by Imp.sw).by Imp.dr)
  have h5:=SpcA.tail h5 Imp.sw
  have hB6:Lcl (Star (OwnA ov5 3 1 iv (hfL 1 (2 * nBits T.vars))) B):=Lcl.own.star hB
  have hB5:Lcl (Star (OwnA tv 3 1 iv ((List.range (2 * nBits T.vars)).map (toG 0))) (Star (OwnA ov5 3 1 iv (hfL 1 (2 * nBits T.vars))) B)):=Lcl.own.star hB6
  have os5:=SpcA.obj h5
  unfold spO at os5
  have hhl:=hfL_len 1 (2 * nBits T.vars)
  have hbt:=hG3.ok.bt
  have h5':=h5
  unfold SpcA at h5'
  simp [cell_blk os5]
  refine cl_of (rename_spec m (2 * nBits T.vars) lim ns3 a tv _ (SpcA.rest hB5) h5' hG3.ok.wf hG3.ok.bnd ha3.1 (SpcA.rdt Rds.own) (by simp; omega)) ?_
  rintro _ w6 ⟨L,hsup,hR⟩
  have hind:∀ c i b,i % 2≠0→i < 2 * nBits T.vars→eval ns3 (upd c i b) a=eval ns3 c a:=fun c i b hi hlt=>by
   rw [ha3.2,ha3.2,rs_upd hi,okB_congr (rs_upd hi)]
  obtain ⟨g1,g2⟩:=ren_good hG3.ok.wf ha3.1 (by omega) hsup hind
  rcases hR with ⟨hb,_⟩ | ⟨_,hb,_⟩ | ⟨_,_,r4,ns4,M4,rfl,hch,h6⟩
  ·exact absurd hb g1
  ·exact absurd hb g2
  obtain ⟨s4,m4⟩:=ren_end (W:=W) (X:=setF T.vars P) (nx:=0) hG3.ok hch ha3.2 hW.ren
  have hk4:=hG3.ok.stp s4
  have hG4:=hG3.stp s4
  have hs34:=hs3.trans s4
  have h6':At w F (SpcA s m lim T q ns4 ks ss3 (Star (OwnA tv 3 1 iv ((List.range (2 * nBits T.vars)).map (toG 0))) (Star (OwnA ov5 3 1 iv (hfL 1 (2 * nBits T.vars))) B))) w6:=h6
  have h7:=SpcA.less h6'
  rw [optV_parts]
  cases r4 with
  | none =>
   simp [eB,berrV]
   exact ⟨0,true,ns4,ss3,by simp [eB,berrV],hs34,fun _=>rfl,fun h=>(by cases h),hG4,hl3,SpcA.less h7⟩
  | some x =>
   obtain ⟨rx,ex⟩:=m4 x rfl
   have rr4:=s4.ext.ref rr
   have er4:∀ c,eval ns4 c r=relB T o2 c:=fun c=>by rw [s4.ext.eval hG3.ok.wf c rr,er]
   have os7:=SpcA.obj h7
   unfold spO at os7
   obtain ⟨p1,p2⟩:=ps_clo hk4.wf 0 rr4 rx
   have h8:=(SpcA.out h7).by Imp.ow
   unfold SpcA at h8
   have h8:=h8.by Imp.sw
   simp [eB,cell_blk os7]
   refine cl_of (andExists_spec m (2 * nBits T.vars) lim ns4 r x _ ov5 _ (SpcA.rest hB) h8 hk4.wf hk4.bnd rr4 rx p2 p1 (by omega) (by
    rw [List.all_eq_true]
    intro x hx
    have:=hfL_all x hx
    unfold Go.Proofs.YtkhfdmelcpfgoaaGreat.varB
    simp
    omega)) ?_
   rintro _ w9 ⟨r1,r2,ns5,ns6,M6,rfl,hbin,hn1,hq1,h9⟩
   obtain ⟨s6,m6⟩:=ae_end (W:=W) (Fa:=prA T o2 P) hk4 hbin (fun _ _ h=>h) hn1 hq1 (fun c=>by rw [er4,ex]; show (_ && eval ns3 (sgA (2 * nBits T.vars) 0 c) a)=_; rw [ha3.2]; rfl) hW.and hW.ex
   have hk6:=hk4.stp s6
   have hG6:=hG4.stp s6
   have hs36:=hs34.trans s6
   have h10:At w F (SpcA s m lim T q ns6 ks ss3 B) w9:=(h9.by Imp.sw).by Imp.dr
   rw [optV_parts]
   cases r2 with
   | none =>
    simp [eB,berrV]
    exact ⟨0,true,ns6,ss3,by simp [eB,berrV],hs36,fun _=>rfl,fun h=>(by cases h),hG6,hl3,h10⟩
   | some y =>
    obtain ⟨ry,ey⟩:=m6 y rfl
    have os10:=SpcA.obj h10
    unfold spO at os10
    simp [eB,cell_blk os10]
    obtain ⟨u1,u2⟩:=ps_clo hk6.wf 0 hG6.all.1 ry
    have h10':=h10.drew (SpcA.lcl hB)
    unfold SpcA at h10'
    refine cl_of (and_of (binary_spec m (2 * nBits T.vars) lim ns6 0 q.all y _ (by omega) (SpcA.rest hB) h10' hk6.wf hk6.bnd hG6.all.1 ry u2 u1) (by rintro v w' ⟨r,_,rfl,_⟩; exact optV_tup r)) ?_
    rintro _ w11 ⟨r7,ns7,rfl,hbin7,h11⟩
    have hsem:∀ b,(eval ns6 b q.all && eval ns6 b y)=setF T.vars (preP o2 P) b:=fun b=>by
     unfold setF
     rw [Bool.eq_iff_iff,← pre_sem h64 hog,Bool.and_eq_true_iff,hG6.all.2,ey,Bool.and_true]
     refine and_congr_right fun _=>exists_congr fun c=>and_congr_right fun _=>?_
     rw [er4,ex]
     show relB T o2 c=true∧eval ns3 (sgA (2 * nBits T.vars) 0 c) a=true↔_
     rw [ha3.2]
    obtain ⟨s7,m7⟩:=op_end (W:=W) (G:=setF T.vars (preP o2 P)) hk6 hbin7 (fun _ _ h=>h) hsem hW.fin
    have hk7:=hk6.stp s7
    rw [optV_parts]
    simp
    have h11':At w F (SpcA s m lim T q ns7 ks ss3 B) w11:=h11
    refine cl_of (returned_spec (r7.getD 0) r7.isNone hB h11' m7.1 (by omega)) ?_
    rintro _ w12 ⟨rfl,h12⟩
    simp
    refine sres_end2 (hs36.trans s7) (hG6.stp s7) hl3 hkl (fun e=>⟨(m7.2 e).1,fun b=>?_⟩) (by cases r7 <;> rfl) h12
    rw [(m7.2 e).2]
    rfl
end
end Go.Proofs.YtkhfdmelcpfgoaaGreat
end
