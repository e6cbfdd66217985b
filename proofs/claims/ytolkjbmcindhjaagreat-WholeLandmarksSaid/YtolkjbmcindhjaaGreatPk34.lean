/-
  A part of the proof of this claim's statement (MaB, LibN, RxZA): plain theorems; no conditions beyond those each names.
-/
import Derived.Test.YtolkjbmcindhjaaGreatPk33
import Derived.Test.YtolkjbmcindhjaaGreatPk22
import Derived.Test.YtolkjbmcindhjaaGreatPk07
import Derived.Test.YtolkjbmcindhjaaGreatPk05
import Derived.HandedShaped
import Derived.Shelf.Vars
import Derived.Test.YtolkjbmcindhjaaGreatPk20
import Derived.OpenShut
import Derived.Test.YtolkjbmcindhjaaGreatRows
set_option maxRecDepth 100000
set_option linter.unusedSimpArgs false
set_option linter.unusedVariables false
set_option linter.unusedSectionVars false
section
namespace Go.Proofs.YtolkjbmcindhjaaGreat
open Go Go.W Go.Tk Go.Rx Go.Lm Go.Maps Go.Sx
theorem st_of {vars:List Nat} {s:List Int} (h:stateB (vars.map iN) s=true):∃s',s=s'.map iN∧StN vars s':=by
 unfold stateB at h
 rw [Bool.and_eq_true,decide_eq_true_eq] at h
 obtain ⟨hl,ha⟩:=h
 have hl:s.length=vars.length:=by simpa using hl
 have hr:∀v,v < s.length→0≤s.getD v 0∧s.getD v 0 < ((vars.getD v 0:Nat):Int):=fun v hv=>by
  have:=allR_at ha hv
  unfold stAt at this
  rw [iN_at] at this
  simpa using this
 refine ⟨s.map Int.toNat,?_,by rw [List.length_map]; exact hl,fun v hv=>?_⟩
 ·rw [List.map_map]
  apply List.ext_getElem (by simp)
  intro i h1 h2
  have:=hr i h1
  simp only [List.getD,List.getElem?_eq_getElem h1,Option.getD_some] at this
  simp [iN]
  omega
 ·have:=hr v (by omega)
  simp only [List.getD,List.getElem?_map] at this ⊢
  rw [List.getElem?_eq_getElem (by omega)] at this ⊢
  simp at this ⊢
  omega
theorem ldn_ok {w:World} (T:Nt) (hg:NtG T) (hgood:goodB T.raw=true) (hr:NtR w T) (hnm:∀o ∈ T.ops,o.name.size≤9223372036854775807) :
  Calls Tryz.prog 17 [ntV T].toArray w fun e w'=>∃x,e=.returned x∧∃b,x=.tuple #[.pointer (some ⟨b,0,none⟩),.nilIface]∧Fdx b T w'∧Kp [] w w':=by
 refine Calls.mono (ldNew_walk T.raw (NtR.raw.2 hr) (hg.lens hnm)) ?_
 rintro e w' ⟨x,rfl,hx,k⟩
 refine ⟨x,rfl,?_⟩
 unfold LnA at hx
 rw [(chk_good T.raw).2 hgood] at hx
 obtain ⟨b,T',e,_,rfl,hh⟩:=hx
 have e:=Nt.raw_inj _ _ e
 subst e
 exact ⟨b,rfl,hh,k⟩
theorem law_bad {w:World} (t:Tk) (sv:Value) (ht:TkR w t) (hl:TkL t) (hb:smallB t=false) :
  Calls Tryz.prog 4 [tkV t,sv].toArray w fun e w'=>∃x,e=.returned x∧x=.bool true∧Kp [] w w':=by
 refine enter Tryz.func4 mixed low4 (Nat.le_of_ble_eq_true rfl) ?_
 simp only [L4]
 obtain ⟨tb,htb⟩:∃tb,tb=w.heap.size:=⟨_,rfl⟩
 obtain ⟨w1,hw1⟩:∃w1,w1=w.alloc (tkO t):=⟨_,rfl⟩
 have k1:Kp [] w w1:=by rw [hw1]; exact (Kp.refl [] w).alloc _
 have hw1':w.alloc (.cells #[t.vv.1,t.nv.1,t.gv.1,t.ov.1] 26 (0,0))=w1:=by rw [hw1]; rfl
 have ob1:w1.heap[tb]? = some (tkO t):=by rw [htb,hw1]; exact alloc_new
 simp [tkV,←htb,hw1',rd_tk ob1]
 refine cl_of (small_spec t (ht.kp k1) hl) ?_
 rintro _ w2 ⟨rfl,k2⟩
 rw [hb]
 simp
 refine cl_of pawake_spec ?_
 rintro _ w3 ⟨rfl,k3⟩
 simp
 exact k1.trans (k2.trans k3)
def LwM (T:Nt) (sv:Value) (s:List Nat) (tb:Nat) (w1:World) (ρ:Env) (w':World):Prop :=
 ρ 1=sv∧ρ 2=.pointer (some ⟨tb,0,none⟩)∧Kp [] w1 w'∧∃d,d.length=(stsK T.vars T.vars.length).length∧Dok (edA T) (cst T []) (goalB T) d∧ρ 5=.int .i64 (d.getD (rkK T.vars s T.vars.length) 0:Nat)
def LwQ (sv:Value) (tb best lb xb:Nat) (av bv:Value) (w8:World) (i:Nat) (ρ:Env) (w':World):Prop :=
 ρ 1=sv∧ρ 2=.pointer (some ⟨tb,0,none⟩)∧ρ 5=.int .i64 (best:Nat)∧ρ 8=.pointer (some ⟨lb,0,none⟩)∧ρ 10=.pointer (some ⟨xb,0,none⟩)∧ρ 14=bv∧ρ 119=.agg #[av,bv]∧ρ 120=.int .i64 (i:Nat)∧Kp [] w8 w'
set_option maxHeartbeats 4000000 in
theorem law_landmarks {w:World} (T:Nt) (sv:Value) (s:List Int) (hr0:NtR w T) (hl:TkL T.raw) (hT:SmT T) (hsm:smallB T.raw=true) (hs0:Vw w sv iE s) (hsl:s.length≤9223372036854775807) :
  Calls Tryz.prog 4 [tkV T.raw,sv].toArray w fun e w'=>∃x,e=.returned x∧x=.bool true∧Kp [] w w':=by
 refine enter Tryz.func4 mixed low4 (Nat.le_of_ble_eq_true rfl) ?_
 simp only [L4]
 have ht:=NtR.raw.2 hr0
 have hol:=hT.ol
 have hvl:=hT.vl
 obtain ⟨tb,htb⟩:∃tb,tb=w.heap.size:=⟨_,rfl⟩
 obtain ⟨w1,hw1⟩:∃w1,w1=w.alloc (tkO T.raw):=⟨_,rfl⟩
 have k1:Kp [] w w1:=by rw [hw1]; exact (Kp.refl [] w).alloc _
 have hw1':w.alloc (.cells #[T.vv.1,T.nv.1,T.gv.1,T.ov.1] 26 (0,0))=w1:=by rw [hw1]; rfl
 have ob1:w1.heap[tb]? = some (tkO T.raw):=by rw [htb,hw1]; exact alloc_new
 have hr:=hr0.kp k1
 have hs1:=hs0.kp0 k1
 have oc1:=ob1
 unfold tkO at oc1
 refine seq_cut (fun ρ w'=>ρ 1=sv∧ρ 2=.pointer (some ⟨tb,0,none⟩)∧w'=w1) ?_ ?_
 ·simp [tkV,←htb,hw1',raw_vv,raw_nv,raw_gv,raw_ov]
 clear hw1' htb hw1
 rintro ρ w9 ⟨g1,g2,e9⟩
 rw [e9]
 clear e9
 refine seq_cut (fun ρ w'=>ρ 1=sv∧ρ 2=.pointer (some ⟨tb,0,none⟩)∧Kp [] w1 w'∧T.ops.length≤10) ?_ ?_
 ·simp [g2,rd_tk ob1,raw_vv,raw_nv,raw_gv,raw_ov]
  refine cl_of (small_spec T.raw (ht.kp k1) hl) ?_
  rintro _ w2 ⟨rfl,k2⟩
  simp [hsm,g2,cell_blk (k2.blk oc1 (by simp)),raw_ov,(hr.kp k2).ops.len]
  by_cases h10:10 < T.ops.length
  ·have n10:(10:Int) < T.ops.length:=by omega
   simp [n10]
   refine cl_of pawake_spec ?_
   rintro _ w3 ⟨rfl,k3⟩
   simp
   exact k1.trans (k2.trans k3)
  ·have n10:¬(10:Int) < T.ops.length:=by omega
   have e10:decide ((10:Int) < T.ops.length)=false:=decide_eq_false n10
   simp only [e10]
   simp
   refine cl_of pawake_spec ?_
   rintro _ w3 ⟨rfl,k3⟩
   simp [g1,g2,e10]
   exact ⟨k2.trans k3,by omega⟩
 clear g1 g2
 rintro ρ w2 ⟨g1,g2,k2,h10⟩
 refine seq_cut (fun ρ w'=>ρ 1=sv∧ρ 2=.pointer (some ⟨tb,0,none⟩)∧Kp [] w1 w'∧stateB (T.vars.map iN) s=true) ?_ ?_
 ·simp [g1,g2,cell_blk (k2.blk oc1 (by simp)),raw_vv]
  refine cl_of (state_spec T.vv.1 sv (T.vars.map iN) s (vw_n.2 (hr.kp k2).vars) (hs1.kp0 k2) hsl) ?_
  rintro _ w3 ⟨rfl,k3⟩
  cases hst0:stateB (T.vars.map iN) s with
  | false =>
   simp
   exact k1.trans (k2.trans k3)
  | true =>
   simp [g1,g2]
   exact k2.trans k3
 clear g1 g2 k2
 rintro ρ w2 ⟨g1,g2,k2,hst0⟩
 obtain ⟨s,rfl,hst⟩:=st_of hst0
 have hs1:=vw_n.1 hs1
 refine seq_cut (LwM T sv s tb w1) ?_ ?_
 ·have kd:=k2.drew
  have hcv:∀w',CvOk T (.slice none 0 0) (cst T []) w':=fun w'=>.inl ⟨rfl,fun i o ho=>by unfold cst; simp [ho]⟩
  have hrd:=hr.kp kd
  simp [g1,g2,rd_tk (kd.blk ob1 (by simp)),cell_blk (kd.blk oc1 (by simp)),raw_vv,raw_nv,raw_gv,raw_ov]
  refine ⟨?_,?_⟩ <;>
  ·refine cl_of (distances_spec T (.slice none 0 0) (cst T []) hrd hT (hcv _) (cst_le hT.g)) ?_
   rintro bv w3 ⟨d,hdl,hdok,hdcl,hdv,k3⟩
   have k13:=kd.trans k3
   simp [g1,g2,cell_blk (k13.blk oc1 (by simp)),raw_vv]
   refine cl_of (rank_spec T.vv.1 sv T.vars s (hr.kp k13).vars (hs1.kp0 k13) hst.len (by rw [hst.len]; omega) (fun k hk=>by have:=rk_sm hT hst k (by rw [←hst.len]; exact hk); omega)) ?_
   rintro _ w4 ⟨rfl,k4⟩
   rw [hst.len]
   have hrl:rkK T.vars s T.vars.length < d.length:=by rw [hdl]; exact (List.getElem?_eq_some_iff.1 (rk_all hst)).1
   obtain ⟨x,hx⟩:∃x,d[rkK T.vars s T.vars.length]? = some x:=⟨_,List.getElem?_eq_getElem hrl⟩
   have hdv4:=hdv.kp0 k4
   have hkd:((rkK T.vars s T.vars.length:Nat):Int) < d.length:=by omega
   unfold LwM
   simp (disch:=omega) [g1,g2,hdv4.idx,nE_cell hdv4 hx]
   exact ⟨k13.trans k4,d,hdl,hdok,by rw [hx]; rfl⟩
 clear g1 g2 k2
 rintro ρ w2 ⟨g1,g2,k2,d,hdl,hdok,g5⟩
 obtain ⟨best,hbe⟩:∃best,best=d.getD (rkK T.vars s T.vars.length) 0:=⟨_,rfl⟩
 rw [←hbe] at g5
 have hS:Sm T.vars (uns T (cst T [])):=SmT.sm hT (cst_le hT.g)
 simp [g1,g2,rd_tk (k2.blk ob1 (by simp)),raw_vv,raw_nv,raw_gv,raw_ov]
 refine cl_of (ldn_ok T hT.g hT.good (hr.kp k2) hT.nm) ?_
 rintro _ w3 ⟨fb,rfl,hF,k3⟩
 have k13:=k2.trans k3
 simp [g1,g2,rd_tk (k13.blk ob1 (by simp)),raw_vv,raw_nv,raw_gv,raw_ov]
 refine cl_of (lnew_ok T hT.g hT.good (hr.kp k13) hT.nm) ?_
 rintro _ w4 ⟨lb,rfl,hH,k4⟩
 have k14:=k13.trans k4
 simp [g1,g2,rd_tk (k14.blk ob1 (by simp)),raw_vv,raw_nv,raw_gv,raw_ov]
 refine cl_of (new_ok T (.slice none 0 0) [] hT (hr.kp k14) (Vw.nil _ _) CsOk.nil) ?_
 rintro _ w5 ⟨xb,rfl,hX,k5⟩
 have k15:=k14.trans k5
 simp [g1,g2]
 obtain ⟨vv,gv,cv,lv,rs,hLk,hLL,hFR⟩:=hF
 have hFG:=fd_good hT.g hLk hLL
 have hz:=szs_ok hT.g hst (CsOk.nil.cst hT.g)
 refine cl_of (ldCuts_spec sv s (hFR.kp (k4.trans k5)) hFG (hs1.kp0 k15) hst) ?_
 rintro xa w6 ⟨hP,k6⟩
 have k16:=k15.trans k6
 rcases hP with ⟨rfl,R,hRc,hCl,hno⟩ | ⟨av,ks,rfl,hkl,hks,⟨R,hRc,hCl,hyes⟩,hkR⟩
 ·simp [errV,g1,g2]
  refine cl_of (hx_cuts sv s (hH.kp (k5.trans k6)) hT.g (hs1.kp0 k16) hst) ?_
  rintro xb2 w7 ⟨⟨r,hr7,hxb⟩,k7⟩
  have hrn:=lmc_no (rea_0 hLk hRc hCl) (gAll_false hno) hr7
  subst hrn
  have hxb:xb2=.tuple #[.slice none 0 0,errV 3]:=hxb
  subst hxb
  have hbest:best=Inf:=by
   have h1:=val_low hT hst hr7 hdok hdl
   rw [←hbe] at h1
   have hlt:rkK T.vars s T.vars.length < d.length:=by rw [hdl]; exact (List.getElem?_eq_some_iff.1 (rk_all hst)).1
   have h2:=hdok.le _ hlt
   rw [←hbe] at h2
   have h3:Inf≤best:=h1
   omega
  have hbi:(best:Int)=1125899906842624:=by unfold Inf at hbest; omega
  have k17:=k16.trans k7
  have hn3:=fun w=>num_err 3 w
  unfold errV at hn3
  simp [errV]
  refine cl_of (hn3 w7) ?_
  rintro _ w8 ⟨rfl,k8⟩
  simp
  refine cl_of (hn3 w8) ?_
  rintro _ w9 ⟨rfl,k9⟩
  simp
  refine cl_of (hn3 w9) ?_
  rintro _ w10 ⟨rfl,k10⟩
  simp
  refine cl_of (hn3 w10) ?_
  rintro _ w11 ⟨rfl,k11⟩
  have k711:=(k8.trans k9).trans (k10.trans k11)
  have k111:=k17.trans k711
  simp [g1,g5,hbi]
  refine cl_of (rl_max sv s (hX.kp ((k6.trans k7).trans k711)) hT.g (hs1.kp0 k111) hst hS) ?_
  rintro _ w12 ⟨V,hV,rfl,k12⟩
  have hmi:((grF T.vars V T.goal:Nat):Int)=1125899906842624:=by
   have:=mx_inf hT hst hr7 hV
   unfold Inf at this
   omega
  have k112:=k111.trans k12
  simp [g1,hmi]
  refine cl_of (hx_value sv s (hH.kp (((k5.trans k6).trans k7).trans (k711.trans k12))) hT.g (hs1.kp0 k112) hst) ?_
  rintro _ w13 ⟨hv13,k13'⟩
  obtain ⟨r',hr13,rfl⟩:=valP_O hv13
  have hr':=hr13.uniq hr7
  subst hr'
  simp [valO,Inf]
  exact k1.trans (k112.trans k13')
 simp [g1,g2]
 refine cl_of (hx_cuts sv s (hH.kp (k5.trans k6)) hT.g (hs1.kp0 k16) hst) ?_
 rintro xb2 w7 ⟨⟨r,hr7,hxb⟩,k7⟩
 obtain ⟨out,ho⟩:=lmc_yes (rea_0 hLk hRc hCl) (gAll_true.1 hyes) hr7 hz
 subst ho
 obtain ⟨bv,rfl,ca,hca,hbv,hbw⟩:=hxb
 have k17:=k16.trans k7
 have hkC:∀k ∈ ks,KtC T s k:=fun k hk=>lc_cut hLk hLL (hks k hk) hRc hCl hyes
 have hbR7:KtR w7 bv (ca.map ctK):=ctK_R hbv hbw
 obtain ⟨bs,hbs⟩:∃bs,bs=ca.map ctK:=⟨_,rfl⟩
 have hout:bs.map (fun k=>(k.ops,k.cost))=out:=by rw [hbs,List.map_map,←hca]; rfl
 rw [←hbs] at hbR7
 have hbC:∀k ∈ bs,KtC T s k:=fun k hk=>lm_ktc hT hst hr7 (by rw [←hout]; exact List.mem_map.2 ⟨k,hk,rfl⟩)
 have hbl:bs.length≤20:=by
  have h21:=hr7.len (n:=T.ops.length) (fun u hu=>(uns_rng hT.g hu).2.2) out rfl
  have h22:=posN_le (c:=cst T []) T.ops.length
  have:=congrArg List.length hout
  rw [List.length_map] at this
  omega
 simp
 refine cl_of (num_nil w7) ?_
 rintro _ w8' ⟨rfl,k8'⟩
 simp
 refine cl_of (num_nil w8') ?_
 rintro _ w8 ⟨rfl,k8''⟩
 have k8:=k8'.trans k8''
 have k18:=k17.trans k8
 have hkR8:=(hkR.kp k7).kp k8
 have hbR8:=hbR7.kp k8
 have cav:=hkR8.vw.c1
 have cbv:=hbR8.vw.c1
 simp [cav,cbv]
 refine loop_inv (fun n ρ w'=>∃i,n+i=2∧LwQ sv tb best lb xb av bv w8 i ρ w') 2 ⟨0,by omega,by unfold LwQ; simp [g1,g2,g5]; exact Kp.refl _ _⟩ ?_
 clear g1 g2 g5
 rintro n ρ w9 ⟨i,hni,g1,g2,g5,g8,g10,g14,g119,g120,k9⟩
 have hi4:i=0∨i=1∨i=2:=by omega
 rcases hi4 with rfl | rfl | rfl
 ·have hR9:=hkR8.kp k9
  have hCk:=hkC
  simp [g119,g120,hR9.vw.len]
  by_cases hl12:(12:Int) < ks.length
  ·simp [hl12,g1,g2,g5,g8,g10,g14,g119,g120]
   refine ⟨n - 1,by omega,1,by omega,?_⟩
   unfold LwQ
   simp [g1,g2,g5,g8,g10,g14,g119]
   exact ⟨by rw [wrap_i64 (by omega) (by omega)],k9⟩
  have h12:ks.length≤12:=by omega
  simp [hl12,hR9.vw.len]
  refine range_loop (n:=ks.length) (by omega) (fun k ρ w'=>LwQ sv tb best lb xb av bv w8 0 ρ w'∧ρ 17=av∧ρ 126=av) (by simp) (by simp)
   ⟨by unfold LwQ; simp [g1,g2,g5,g8,g10,g14,g119,g120]; exact k9,by simp,by simp⟩ (by decide) (fun _ _ _ _ h=>by unfold LwQ at h ⊢; simpa using h) (fun _ _ _ _ h=>by unfold LwQ at h ⊢; simpa using h) ?_ ?_
  ·clear g1 g2 g5 g8 g10 g14 g119 g120 k9 hR9
   rintro k ρ w10 hk hck hlk ⟨⟨g1,g2,g5,g8,g10,g14,g119,g120,k10⟩,g17,g126⟩
   obtain ⟨kt,hkt⟩:∃kt,ks[k]? = some kt:=⟨_,List.getElem?_eq_getElem hk⟩
   have hkm:=List.mem_of_getElem? hkt
   have hR10:=hkR8.kp k10
   have eck:=hR10.vw.cells ktE_len hkt
   simp only [ktE] at eck
   obtain ⟨kb,hkb⟩:∃kb,kb=w10.heap.size:=⟨_,rfl⟩
   have hkk:(k:Int) < ks.length:=by omega
   simp (disch:=omega) [g126,hck,hlk,hR10.vw.idx,eck,←hkb]
   refine st_kt (k:=kt) .emp ((At.start rfl:At w8 [] Emp w8).kp0 .emp k10) hkb fun w11 h11=>?_
   have ok11:=h11.obj
   unfold ktO at ok11
   have k811:=h11.kp
   have k111:=k18.trans k811
   have rk:cellsAt w11 ⟨kb,0,none⟩ 0 2=some [kt.ov.1,.int .i64 (kt.cost:Nat)]:=by simp [cellsAt,Addr.add,cell_blk ok11]
   simp [g1,g2,←hkb,rk,rd_tk (k111.blk ob1 (by simp)),raw_vv,raw_nv,raw_gv,raw_ov]
   have hnd:=needed_spec T sv s kt (hr.kp k111) hT (hs1.kp0 k111) hst ((hkR8.kp k811).ops kt hkm) (hCk kt hkm)
   refine cl_of hnd ?_
   rintro _ w12 ⟨rfl,k12⟩
   have h12w:=h11.kp0 (Lcl.obj.star .emp) k12
   have ok12:=h12w.obj
   unfold ktO at ok12
   have k112:=k18.trans h12w.kp
   simp [g1,g10,cell_blk ok12]
   have hrng:=(hCk kt hkm).rng
   have hkol:=asc_len kt.ops T.ops.length (hCk kt hkm).asc hrng
   have hrc:=rl_reached sv kt.ov.1 s (kt.ops.map iN) (hX.kp ((k6.trans k7).trans (k8.trans h12w.kp))) hT.g (hs1.kp0 k112) (vw_n.2 ((hkR8.kp h12w.kp).ops kt hkm)) (by rw [List.length_map]; omega) (fun z hz=>by
    obtain ⟨q,hq,rfl⟩:=List.mem_map.1 hz
    have:=hrng q hq
    unfold zok iN
    omega) hst hS
   refine cl_of hrc ?_
   rintro _ w13 ⟨V,hV,rfl,k13⟩
   have hnr:¬grF T.vars V T.goal < Inf:=cut_reach (hCk kt hkm).cut (fun q hq=>List.mem_map.2 ⟨q,hq,rfl⟩) hV
   simp [hnr,g1,g2,g5,g8,g10,g14,g119,g120,g17,g126,hck,hlk]
   unfold LwQ
   simp [g1,g2,g5,g8,g10,g14,g119,g120,g17,g126,hck,hlk]
   exact h12w.kp.trans k13
  clear g1 g2 g5 g8 g10 g14 g119 g120 k9 hR9
  rintro ρ w9 ⟨⟨g1,g2,g5,g8,g10,g14,g119,g120,k9⟩,g17,g126⟩
  have k19:=k18.trans k9
  have hKG:=ktg_of hT hCk (by omega)
  have hB:=div_best hT hst hdok hdl hCk (by omega)
  rw [←hbe] at hB
  simp [g17,g2,g5,rd_tk (k19.blk ob1 (by simp)),raw_vv,raw_nv,raw_gv,raw_ov]
  have hdv:=divided_spec T av ks best (hr.kp k19) hT.g (hkR8.kp k9) h10 h12 hKG hB
  refine cl_of hdv ?_
  rintro _ w10 ⟨rfl,k10⟩
  simp [g1,g2,g5,g8,g10,g14,g119,g120]
  refine ⟨n - 1,by omega,1,by omega,?_⟩
  unfold LwQ
  simp [g1,g2,g5,g8,g10,g14,g119]
  exact ⟨by rw [wrap_i64 (by omega) (by omega)],k9.trans k10⟩
 ·have hR9:=hbR8.kp k9
  have hCk:=hbC
  simp [g119,g120,hR9.vw.len]
  by_cases hl12:(12:Int) < bs.length
  ·simp [hl12,g1,g2,g5,g8,g10,g14,g119,g120]
   refine ⟨n - 1,by omega,2,by omega,?_⟩
   unfold LwQ
   simp [g1,g2,g5,g8,g10,g14,g119]
   exact ⟨by rw [wrap_i64 (by omega) (by omega)],k9⟩
  have h12:bs.length≤12:=by omega
  simp [hl12,hR9.vw.len]
  refine range_loop (n:=bs.length) (by omega) (fun k ρ w'=>LwQ sv tb best lb xb av bv w8 1 ρ w'∧ρ 17=bv∧ρ 126=bv) (by simp) (by simp)
   ⟨by unfold LwQ; simp [g1,g2,g5,g8,g10,g14,g119,g120]; exact k9,by simp,by simp⟩ (by decide) (fun _ _ _ _ h=>by unfold LwQ at h ⊢; simpa using h) (fun _ _ _ _ h=>by unfold LwQ at h ⊢; simpa using h) ?_ ?_
  ·clear g1 g2 g5 g8 g10 g14 g119 g120 k9 hR9
   rintro k ρ w10 hk hck hlk ⟨⟨g1,g2,g5,g8,g10,g14,g119,g120,k10⟩,g17,g126⟩
   obtain ⟨kt,hkt⟩:∃kt,bs[k]? = some kt:=⟨_,List.getElem?_eq_getElem hk⟩
   have hkm:=List.mem_of_getElem? hkt
   have hR10:=hbR8.kp k10
   have eck:=hR10.vw.cells ktE_len hkt
   simp only [ktE] at eck
   obtain ⟨kb,hkb⟩:∃kb,kb=w10.heap.size:=⟨_,rfl⟩
   have hkk:(k:Int) < bs.length:=by omega
   simp (disch:=omega) [g126,hck,hlk,hR10.vw.idx,eck,←hkb]
   refine st_kt (k:=kt) .emp ((At.start rfl:At w8 [] Emp w8).kp0 .emp k10) hkb fun w11 h11=>?_
   have ok11:=h11.obj
   unfold ktO at ok11
   have k811:=h11.kp
   have k111:=k18.trans k811
   have rk:cellsAt w11 ⟨kb,0,none⟩ 0 2=some [kt.ov.1,.int .i64 (kt.cost:Nat)]:=by simp [cellsAt,Addr.add,cell_blk ok11]
   simp [g1,g2,←hkb,rk,rd_tk (k111.blk ob1 (by simp)),raw_vv,raw_nv,raw_gv,raw_ov]
   have hnd:=needed_spec T sv s kt (hr.kp k111) hT (hs1.kp0 k111) hst ((hbR8.kp k811).ops kt hkm) (hCk kt hkm)
   refine cl_of hnd ?_
   rintro _ w12 ⟨rfl,k12⟩
   have h12w:=h11.kp0 (Lcl.obj.star .emp) k12
   have ok12:=h12w.obj
   unfold ktO at ok12
   have k112:=k18.trans h12w.kp
   simp [g1,g10,cell_blk ok12]
   have hrng:=(hCk kt hkm).rng
   have hkol:=asc_len kt.ops T.ops.length (hCk kt hkm).asc hrng
   have hrc:=rl_reached sv kt.ov.1 s (kt.ops.map iN) (hX.kp ((k6.trans k7).trans (k8.trans h12w.kp))) hT.g (hs1.kp0 k112) (vw_n.2 ((hbR8.kp h12w.kp).ops kt hkm)) (by rw [List.length_map]; omega) (fun z hz=>by
    obtain ⟨q,hq,rfl⟩:=List.mem_map.1 hz
    have:=hrng q hq
    unfold zok iN
    omega) hst hS
   refine cl_of hrc ?_
   rintro _ w13 ⟨V,hV,rfl,k13⟩
   have hnr:¬grF T.vars V T.goal < Inf:=cut_reach (hCk kt hkm).cut (fun q hq=>List.mem_map.2 ⟨q,hq,rfl⟩) hV
   simp [hnr,g1,g2,g5,g8,g10,g14,g119,g120,g17,g126,hck,hlk]
   unfold LwQ
   simp [g1,g2,g5,g8,g10,g14,g119,g120,g17,g126,hck,hlk]
   exact h12w.kp.trans k13
  clear g1 g2 g5 g8 g10 g14 g119 g120 k9 hR9
  rintro ρ w9 ⟨⟨g1,g2,g5,g8,g10,g14,g119,g120,k9⟩,g17,g126⟩
  have k19:=k18.trans k9
  have hKG:=ktg_of hT hCk (by omega)
  have hB:=div_best hT hst hdok hdl hCk (by omega)
  rw [←hbe] at hB
  simp [g17,g2,g5,rd_tk (k19.blk ob1 (by simp)),raw_vv,raw_nv,raw_gv,raw_ov]
  have hdv:=divided_spec T bv bs best (hr.kp k19) hT.g (hbR8.kp k9) h10 h12 hKG hB
  refine cl_of hdv ?_
  rintro _ w10 ⟨rfl,k10⟩
  simp [g1,g2,g5,g8,g10,g14,g119,g120]
  refine ⟨n - 1,by omega,2,by omega,?_⟩
  unfold LwQ
  simp [g1,g2,g5,g8,g10,g14,g119]
  exact ⟨by rw [wrap_i64 (by omega) (by omega)],k9.trans k10⟩
 ·have hR9:=hbR8.kp k9
  simp [g119,g120,g14,hR9.vw.len]
  have hbo:bs.length=out.length:=by rw [←hout,List.length_map]
  have hsub:∀k,sumM (out.take k)≤20 * 1048576:=fun k=>by
   have h20:=sumM_ub (out:=out.take k) (C:=1048576) fun p hp=>hr7.ub hz out rfl p (List.mem_of_mem_take hp)
   have h21:(out.take k).length≤out.length:=by rw [List.length_take]; omega
   exact Nat.le_trans h20 (Nat.mul_le_mul_right _ (by omega))
  refine range_loop (n:=bs.length) (by omega) (fun k ρ w'=>ρ 1=sv∧ρ 5=.int .i64 (best:Nat)∧ρ 8=.pointer (some ⟨lb,0,none⟩)∧ρ 10=.pointer (some ⟨xb,0,none⟩)∧ρ 14=bv∧ρ 151=bv∧ρ 20=.int .i64 (sumM (out.take k):Nat)∧Kp [] w8 w') (by simp) (by simp)
   ⟨by simp [g1],by simp [g5],by simp [g8],by simp [g10],by simp [g14],by simp,by simp [sumM],k9⟩ (by decide) (fun _ _ _ _ h=>by simpa using h) (fun _ _ _ _ h=>by simpa using h) ?_ ?_
  ·clear g1 g5 g8 g10 g14 g119 g120 k9 hR9 g2
   rintro k ρ w10 hk hck hlk ⟨g1,g5,g8,g10,g14,g151,g20,k10⟩
   obtain ⟨kt,hkt⟩:∃kt,bs[k]? = some kt:=⟨_,List.getElem?_eq_getElem hk⟩
   have hkm:=List.mem_of_getElem? hkt
   have hoi:out[k]? = some (kt.ops,kt.cost):=by rw [←hout,List.getElem?_map,hkt]; rfl
   have hR10:=hbR8.kp k10
   have eck:=hR10.vw.cells ktE_len hkt
   simp only [ktE] at eck
   obtain ⟨kb,hkb⟩:∃kb,kb=w10.heap.size:=⟨_,rfl⟩
   have hkk:(k:Int) < bs.length:=by omega
   simp (disch:=omega) [g151,hck,hlk,hR10.vw.idx,eck,←hkb]
   refine st_kt (k:=kt) .emp ((At.start rfl:At w8 [] Emp w8).kp0 .emp k10) hkb fun w11 h11=>?_
   have ok11:=h11.obj
   unfold ktO at ok11
   have e1:=sumM_take hoi
   have b1:=hsub k
   have b2:=hsub (k+1)
   obtain ⟨m0,hm0⟩:∃m0,m0=sumM (out.take k):=⟨_,rfl⟩
   obtain ⟨m1,hm1⟩:∃m1,m1=sumM (out.take (k+1)):=⟨_,rfl⟩
   rw [←hm0] at g20 e1
   rw [←hm1] at e1 b2 ⊢
   have hadd:∀K,@intH .add .i64 (m0:Nat) .i64 (kt.cost:Nat) K=K.run (.int .i64 (m1:Nat)):=fun K=>by
    simp only [intS_add]
    rw [wrap_i64 (by omega) (by omega)]
    congr 2
    omega
   simp [-intS_add,g20,cell_blk ok11,←hkb,hadd,g1,g5,g8,g10,g14,g151,hck,hlk]
   exact h11.kp
  clear g1 g5 g8 g10 g14 g119 g120 k9 hR9 g2
  rintro ρ w10 ⟨g1,g5,g8,g10,g14,g151,g20,k10⟩
  rw [hbo,List.take_length] at g20
  simp [g1,g8]
  have k110:=k18.trans k10
  refine cl_of (hx_value sv s (hH.kp (((k5.trans k6).trans k7).trans (k8.trans k10))) hT.g (hs1.kp0 k110) hst) ?_
  rintro _ w11 ⟨hv11,k11⟩
  obtain ⟨r',hr11,rfl⟩:=valP_O hv11
  have hr':=hr11.uniq hr7
  subst hr'
  have hlow:sumM out≤best:=by
   have h1:=val_low hT hst hr7 hdok hdl
   rw [←hbe] at h1
   exact h1
  have hle:(sumM out:Int)≤(best:Int):=by omega
  simp [valO,g20,g5,g10,g1,hle]
  have k111:=k110.trans k11
  refine cl_of (rl_max sv s (hX.kp ((k6.trans k7).trans (k8.trans (k10.trans k11)))) hT.g (hs1.kp0 k111) hst hS) ?_
  rintro _ w12 ⟨V,hV,rfl,k12⟩
  have hmx:=mx_nil hr7 hV
  have hbn:bs.length=0↔out=[]:=by rw [hbo]; exact List.length_eq_zero_iff
  have hR12:=hbR8.kp ((k10.trans k11).trans k12)
  have hb2:decide ((grF T.vars V T.goal:Int)=0)=decide ((bs.length:Int)=0):=by
   rw [decide_eq_decide]
   constructor
   ·intro h
    have:=hbn.2 (hmx.1 (by omega))
    omega
   ·intro h
    have:=hmx.2 (hbn.1 (by omega))
    omega
  have hb3:((grF T.vars V T.goal:Int) == 0)=((bs.length:Int) == 0):=by
   rw [Bool.eq_iff_iff,beq_iff_eq,beq_iff_eq]
   exact decide_eq_decide.1 hb2
  simp [g14,hR12.vw.len]
  exact ⟨hb3,k1.trans (k111.trans k12)⟩
theorem law_marks {w:World} (t:Tk) (sv:Value) (s:List Int) (ht:TkR w t) (hl:TkL t) (hs0:Vw w sv iE s) (hsl:s.length≤9223372036854775807) :
  Calls Tryz.prog 4 [tkV t,sv].toArray w fun e w'=>∃x,e=.returned x∧x=.bool true∧Kp [] w w':=by
 cases hb:smallB t with
 | false=>exact law_bad t sv ht hl hb
 | true =>
  obtain ⟨T,rfl,hT⟩:=small_nat hl hb
  exact law_landmarks T sv s (NtR.raw.1 ht) hl hT hb hs0 hsl
end Go.Proofs.YtolkjbmcindhjaaGreat
end
section
namespace Go.W
open Go Go.ChangeShapes Go.WideShapes Go.ChangeAt Go.RowKit Go.Deep
section
variable {H:Type} {enc:TypeId × Value→H} {P:Program}
theorem el_vw {α:Type} {encα:α→List Value} {ok:α→Prop} {W:World} {t e:TypeId} {sz:Nat} {v:Value} {fu:Nat} {x:DataW H × List MemPlace} (ht:P.underlying t=some (.slice e)) (hC:P.cellsOf e=sz) (hz:0 < sz) (he:∀x,(encα x).length=sz)
  (hel:∀n cs x,cs.length=sz→DataW.trod enc P W 0 (fun _=>true) true n e cs=some x→∃a,cs=encα a∧ok a)
  (h:DataW.trod enc P W 0 (fun _=>true) true fu t [v]=some x) :
  ∃l:List α,Vw W v encα l∧(∀a ∈ l,ok a)∧l.length≤maxLen:=by
 rcases open_slice ht h with ⟨hcs,hx⟩ | ⟨a,len,cap,m,n,D,Pl,hcs,hb,hl,hm,hmm,hx,hi⟩
 ·simp at hcs
  subst hcs
  exact ⟨[],Vw.nil _ _,by simp,by simp⟩
 ·simp at hcs
  subst hcs
  simp only [if_true] at hmm
  subst hmm
  obtain ⟨n0,hn0⟩:∃n0,n0=len:=⟨_,rfl⟩
  rw [←hn0] at hl ⊢
  have key:∀k,k≤m→∃l:List α,l.length=k∧(∀x ∈ l,ok x)∧∀j u,(l.flatMap encα)[j]? = some u→W.cell? (a.add j)=some u:=by
   intro k
   induction k with
   | zero=>exact fun _=>⟨[],rfl,by simp,by simp⟩
   | succ k ih =>
    intro hk
    obtain ⟨l,hll,ho,hc⟩:=ih (by omega)
    obtain ⟨cs,hcs,htr⟩:=hi k (by omega)
    rw [hC] at hcs
    obtain ⟨_,hlen,hat⟩:=World.cells?_some hcs
    obtain ⟨x,rfl,hox⟩:=hel _ _ _ hlen htr
    refine ⟨l ++ [x],by simp [hll],?_,?_⟩
    ·intro y hy
     rcases List.mem_append.1 hy with h1 | h1
     ·exact ho y h1
     ·simp at h1; subst h1; exact hox
    ·intro j u hj
     rw [List.flatMap_append,List.flatMap_cons,List.flatMap_nil,List.append_nil] at hj
     have hfl:=flatMap_len he l
     rw [hll] at hfl
     by_cases hjl:j < k * sz
     ·rw [List.getElem?_append_left (by omega)] at hj
      exact hc j u hj
     ·rw [List.getElem?_append_right (by omega),hfl] at hj
      have hjs:j - k * sz < sz:=by have h9:=(List.getElem?_eq_some_iff.1 hj).1; rw [he x] at h9; exact h9
      have:=hat (j - k * sz) hjs
      rw [Go.Deep.add_add,show k * sz+(j - k * sz)=j by omega] at this
      rw [this]; exact hj
  obtain ⟨l,hll,ho,hc⟩:=key m (Nat.le_refl _)
  have hvw:Vw W (.slice (some a) n0 m) encα (l.take n0):=by
   have hlen:(l.take n0).length=n0:=by simp; omega
   refine .inr ⟨a,m,by rw [hlen],by omega,fun hne=>?_,fun j u hj=>hc j u ?_⟩
   ·have hn0:0 < n0:=by
     rcases Nat.eq_zero_or_pos n0 with h0 | h0
     ·subst h0; simp at hne
     ·exact h0
    obtain ⟨cs,hcs,_⟩:=hi 0 (by omega)
    rw [hC] at hcs
    obtain ⟨_,hlen',hat⟩:=World.cells?_some hcs
    have h1:=hat 0 hz
    rw [List.getElem?_eq_getElem (by omega)] at h1
    have:=World.cell?_spot h1
    rw [Go.Deep.add_add] at this
    simp at this
    simpa [Addr.add] using this
   ·have:l.flatMap encα=(l.take n0).flatMap encα ++ (l.drop n0).flatMap encα:=by rw [←List.flatMap_append,List.take_append_drop]
    rw [this,List.getElem?_append_left (List.getElem?_eq_some_iff.1 hj).1]
    exact hj
  exact ⟨_,hvw,fun x hx=>ho x (List.mem_of_mem_take hx),by rw [List.length_take]; omega⟩
end
end Go.W
end
section
namespace Go.Proofs.YtolkjbmcindhjaaGreat
open Go Go.W Go.Tk Go.Rx Go.ChangeShapes Go.WideShapes Go.ChangeAt Go.RowKit
theorem own:ownKnob Tryz.prog.godebug=none:=by kernel_rfl
theorem laidOut:laidOutB Tryz.prog=true:=by kernel_rfl
section
variable {H:Type} {enc:TypeId × Value→H}
theorem el_int {W:World} (n:Nat) (cs:List Value) (x:DataW H × List MemPlace) (hl:cs.length=1) (h:DataW.trod enc Tryz.prog W 0 (fun _=>true) true n 3 cs=some x):∃a:Int,cs=iE a∧zok a:=by
 obtain ⟨a,ha,_,wa⟩:=DataW.trod_int Tryz.underlying3 h
 have h1:IntKind.i64.min=-9223372036854775808:=rfl
 have h2:IntKind.i64.max=9223372036854775807:=rfl
 simp only [Lit.wf,Bool.and_eq_true,decide_eq_true_eq] at wa
 exact ⟨a,ha,by unfold zok; omega⟩
theorem el_fact {W:World} (n:Nat) (cs:List Value) (x:DataW H × List MemPlace) (hl:cs.length=2) (h:DataW.trod enc Tryz.prog W 0 (fun _=>true) true n 100 cs=some x):∃a:Fa,cs=faE a∧True:=by
 obtain ⟨xs,m,rfl,_,_,hxl,hg⟩:=DataW.trod_struct Tryz.underlying100 h
 have hc:Tryz.prog.cellsOf 3=1:=by kernel_rfl
 match cs,hl with
 | [u,v],_ =>
  have hx2:xs.length=2:=hxl
  have h0:=hg 0 _ rfl
  have h1:=hg 1 _ rfl
  rw [List.getElem?_eq_getElem (by omega)] at h0 h1
  obtain ⟨a,ha,_,wa⟩:=DataW.trod_int Tryz.underlying3 h0
  obtain ⟨b,hb,_,wb⟩:=DataW.trod_int Tryz.underlying3 h1
  replace ha:List.take (Tryz.prog.cellsOf 3) [u,v]=[.int .i64 a]:=ha
  replace hb:List.take (Tryz.prog.cellsOf 3) [v]=[.int .i64 b]:=hb
  rw [hc] at ha hb
  simp at ha hb
  subst ha hb
  exact ⟨(a,b),rfl,trivial⟩
theorem el_facts {W:World} {n:Nat} {c:Value} {x:DataW H × List MemPlace} (h:DataW.trod enc Tryz.prog W 0 (fun _=>true) true n 23 [c]=some x):∃l:List Fa,Vw W c faE l∧l.length≤maxLen:=by
 obtain ⟨l,h1,_,h2⟩:=el_vw (encα:=faE) (ok:=fun _=>True) (sz:=2) Tryz.underlying23 (by kernel_rfl) (by omega) faE_len el_fact h
 exact ⟨l,h1,h2⟩
theorem el_ints {W:World} {n:Nat} {c:Value} {x:DataW H × List MemPlace} (h:DataW.trod enc Tryz.prog W 0 (fun _=>true) true n 22 [c]=some x):∃l:List Int,Vw W c iE l∧(∀z ∈ l,zok z)∧l.length≤maxLen :=
 el_vw (encα:=iE) (ok:=zok) (sz:=1) Tryz.underlying22 (by kernel_rfl) (by omega) iE_len el_int h
theorem el_eff {W:World} (n:Nat) (cs:List Value) (x:DataW H × List MemPlace) (hl:cs.length=3) (h:DataW.trod enc Tryz.prog W 0 (fun _=>true) true n 87 cs=some x):∃e:Ef,cs=efE e∧(Vw W e.wv.1 faE e.cnd∧e.cnd.length≤maxLen):=by
 obtain ⟨xs,m,rfl,_,_,hxl,hg⟩:=DataW.trod_struct Tryz.underlying87 h
 have hc:Tryz.prog.cellsOf 3=1:=by kernel_rfl
 have hf:Tryz.prog.cellsOf 23=1:=by kernel_rfl
 match cs,hl with
 | [u,v,w],_ =>
  have hx2:xs.length=3:=hxl
  have h0:=hg 0 _ rfl
  have h1:=hg 1 _ rfl
  have h2:=hg 2 _ rfl
  rw [List.getElem?_eq_getElem (by omega)] at h0 h1 h2
  replace h0:DataW.trod enc Tryz.prog W 0 (fun _=>true) true m 23 (List.take (Tryz.prog.cellsOf 23) [u,v,w])=_:=h0
  rw [hf] at h0
  simp only [List.take_succ_cons,List.take_zero] at h0
  obtain ⟨l,hv,hlen⟩:=el_facts h0
  obtain ⟨a,ha,_,wa⟩:=DataW.trod_int Tryz.underlying3 h1
  obtain ⟨b,hb,_,wb⟩:=DataW.trod_int Tryz.underlying3 h2
  replace ha:List.take (Tryz.prog.cellsOf 3) [v,w]=[.int .i64 a]:=ha
  replace hb:List.take (Tryz.prog.cellsOf 3) [w]=[.int .i64 b]:=hb
  rw [hc] at ha hb
  simp at ha hb
  subst ha hb
  exact ⟨⟨⟨u,hv.o1⟩,l,a,b⟩,rfl,hv,hlen⟩
theorem el_op {W:World} (n:Nat) (cs:List Value) (x:DataW H × List MemPlace) (hl:cs.length=4) (h:DataW.trod enc Tryz.prog W 0 (fun _=>true) true n 41 cs=some x):∃o:Oq,cs=oqE o∧(OqR W o∧o.name.size≤maxLen∧o.pre.length≤maxLen∧o.effs.length≤maxLen∧∀e ∈ o.effs,e.cnd.length≤maxLen):=by
 obtain ⟨xs,m,rfl,_,_,hxl,hg⟩:=DataW.trod_struct Tryz.underlying41 h
 have hs:Tryz.prog.cellsOf 9=1:=by kernel_rfl
 have hc:Tryz.prog.cellsOf 3=1:=by kernel_rfl
 have hf:Tryz.prog.cellsOf 23=1:=by kernel_rfl
 have he:Tryz.prog.cellsOf 39=1:=by kernel_rfl
 match cs,hl with
 | [u,v,w,z],_ =>
  have hx2:xs.length=4:=hxl
  have h0:=hg 0 _ rfl
  have h1:=hg 1 _ rfl
  have h2:=hg 2 _ rfl
  have h3:=hg 3 _ rfl
  rw [List.getElem?_eq_getElem (by omega)] at h0 h1 h2 h3
  obtain ⟨nm,hn,_,wn⟩:=DataW.trod_string Tryz.underlying9 h0
  obtain ⟨a,ha,_,wa⟩:=DataW.trod_int Tryz.underlying3 h1
  replace hn:List.take (Tryz.prog.cellsOf 9) [u,v,w,z]=[.string nm]:=hn
  replace ha:List.take (Tryz.prog.cellsOf 3) [v,w,z]=[.int .i64 a]:=ha
  replace h2:DataW.trod enc Tryz.prog W 0 (fun _=>true) true m 23 (List.take (Tryz.prog.cellsOf 23) [w,z])=_:=h2
  replace h3:DataW.trod enc Tryz.prog W 0 (fun _=>true) true m 39 (List.take (Tryz.prog.cellsOf 39) [z])=_:=h3
  rw [hs] at hn
  rw [hc] at ha
  rw [hf] at h2
  rw [he] at h3
  simp only [List.take_succ_cons,List.take_zero] at h2 h3
  simp at hn ha
  subst hn ha
  obtain ⟨pl,hp1,hp2⟩:=el_facts h2
  obtain ⟨el,he1,he2,he3⟩:=el_vw (encα:=efE) (ok:=fun e:Ef=>Vw W e.wv.1 faE e.cnd∧e.cnd.length≤maxLen) (sz:=3) Tryz.underlying39 (by kernel_rfl) (by omega) efE_len el_eff h3
  exact ⟨⟨nm,a,⟨w,hp1.o1⟩,pl,⟨z,he1.o1⟩,el⟩,rfl,⟨hp1,he1,fun e h=>(he2 e h).1⟩,wn,hp2,he3,fun e h=>(he2 e h).2⟩
theorem open_task {W:World} {b:Nat} {v:Value} {d:DataW H} {ps:List MemPlace} (hv:Value.okWide Tryz.prog W .any b 26 v) (h:DataW.Trod enc Tryz.prog W 0 (fun _=>true) true 26 v d ps):∃t:Tk,v=tkV t∧TkR W t∧TkL t:=by
 simp only [Value.okWide,Tryz.underlying26] at hv
 obtain ⟨cs,rfl,hcs,_⟩:=hv
 have h4:Tryz.prog.cellsOf 26=4:=by kernel_rfl
 rw [h4] at hcs
 obtain ⟨n,h⟩:=h
 obtain ⟨xs,m,rfl,_,_,hxl,hg⟩:=DataW.trod_struct Tryz.underlying26 h
 have hc:Tryz.prog.cellsOf 22=1:=by kernel_rfl
 have hf:Tryz.prog.cellsOf 23=1:=by kernel_rfl
 have ho:Tryz.prog.cellsOf 24=1:=by kernel_rfl
 have hl:cs.toList.length=4:=by simpa using hcs
 have e:(Value.agg cs).cells.toList=cs.toList:=rfl
 rw [e] at hg
 match hcl:cs.toList,hl with
 | [u0,u1,u2,u3],_ =>
  rw [hcl] at hg
  have hx2:xs.length=4:=hxl
  have h0:=hg 0 _ rfl
  have h1:=hg 1 _ rfl
  have h2:=hg 2 _ rfl
  have h3:=hg 3 _ rfl
  rw [List.getElem?_eq_getElem (by omega)] at h0 h1 h2 h3
  replace h0:DataW.trod enc Tryz.prog W 0 (fun _=>true) true m 22 (List.take (Tryz.prog.cellsOf 22) [u0,u1,u2,u3])=_:=h0
  replace h1:DataW.trod enc Tryz.prog W 0 (fun _=>true) true m 22 (List.take (Tryz.prog.cellsOf 22) [u1,u2,u3])=_:=h1
  replace h2:DataW.trod enc Tryz.prog W 0 (fun _=>true) true m 23 (List.take (Tryz.prog.cellsOf 23) [u2,u3])=_:=h2
  replace h3:DataW.trod enc Tryz.prog W 0 (fun _=>true) true m 24 (List.take (Tryz.prog.cellsOf 24) [u3])=_:=h3
  rw [hc] at h0 h1
  rw [hf] at h2
  rw [ho] at h3
  simp only [List.take_succ_cons,List.take_zero] at h0 h1 h2 h3
  obtain ⟨vl,v1,_,v2⟩:=el_ints h0
  obtain ⟨nl,n1,_,n2⟩:=el_ints h1
  obtain ⟨gl,g1,g2⟩:=el_facts h2
  obtain ⟨ol,o1,o2,o3⟩:=el_vw (encα:=oqE) (ok:=fun o:Oq=>OqR W o∧o.name.size≤maxLen∧o.pre.length≤maxLen∧o.effs.length≤maxLen∧∀e ∈ o.effs,e.cnd.length≤maxLen) (sz:=4) Tryz.underlying24 (by kernel_rfl) (by omega) oqE_len el_op h3
  have em:maxLen=9223372036854775807:=rfl
  refine ⟨⟨⟨u0,v1.o1⟩,⟨u1,n1.o1⟩,⟨u2,g1.o1⟩,⟨u3,o1.o1⟩,vl,nl,gl,ol⟩,?_,⟨v1,n1,g1,o1,fun o h=>(o2 o h).1⟩,⟨n2,g2,o3,v2,fun o h=>(o2 o h).2⟩⟩
  have:cs=#[u0,u1,u2,u3]:=by
   apply Array.toList_inj.1; rw [hcl]
  rw [this]; rfl
theorem open_ints {W:World} {b:Nat} {v:Value} {d:DataW H} {ps:List MemPlace} (hv:Value.okWide Tryz.prog W .any b 22 v) (h:DataW.Trod enc Tryz.prog W 0 (fun _=>true) true 22 v d ps):∃l:List Int,Vw W v iE l∧(∀z ∈ l,zok z)∧l.length≤9223372036854775807:=by
 obtain ⟨a0,n0,c0,rfl⟩:=okWide_slice Tryz.underlying22 hv
 obtain ⟨n,h⟩:=h
 exact el_ints (n:=n) (c:=.slice a0 n0 c0) h
end
end Go.Proofs.YtolkjbmcindhjaaGreat
end
