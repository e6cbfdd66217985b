/-
  A part of the proof of this claim's statement (LdY, LmAw, LmWE, LmYB, LmYE, LmYF, LdZ, MaA): plain theorems; no conditions beyond those each names.
-/
import Derived.Test.YtolkjbmcindhjaaGreatPk32
import Derived.Test.YtolkjbmcindhjaaGreatPk24
import Derived.Test.YtolkjbmcindhjaaGreatPk23
import Derived.Test.YtolkjbmcindhjaaGreatPk14
import Derived.Test.YtolkjbmcindhjaaGreatPk15
set_option maxRecDepth 100000
set_option linter.unusedSimpArgs false
set_option linter.unusedVariables false
set_option linter.unusedSectionVars false
section
namespace Go.Proofs.YtolkjbmcindhjaaGreat
open Go Go.W Go.Tk Go.Rx Go.Lm Go.Maps Go.Sx
theorem is_errs (c k:Int) (w:World):Calls Tryz.prog 76 [errV c,.int .i64 k].toArray w fun e w'=>∃x,e=.returned x∧x=.bool (decide (c=k))∧Kp [] w w':=by
 refine enter Tryz.func76 mixed low76 (Nat.le_of_ble_eq_true rfl) ?_
 simp only [L76]
 have hn:=num_err c w
 unfold errV at hn
 simp [errV]
 refine cl_of hn ?_
 rintro _ w2 ⟨rfl,k2⟩
 simp
 refine ⟨?_,k2⟩
 by_cases h:c=k <;> simp [h]
theorem is_nils (w:World):Calls Tryz.prog 76 [.nilIface,.int .i64 5].toArray w fun e w'=>∃x,e=.returned x∧x=.bool false∧Kp [] w w':=by
 refine enter Tryz.func76 mixed low76 (Nat.le_of_ble_eq_true rfl) ?_
 simp only [L76]
 simp
 exact Kp.refl _ _
theorem sumN_list:∀(n:Nat) (xs:List Fr),xs.length=n→sumN n (fun j=>rv (xs.getD j fr0))=(xs.map rv).sum
 | 0,xs,h=>by rw [List.length_eq_zero_iff.1 h]; rfl
 | n+1,xs,h=>by
  have hne:xs≠[]:=fun e=>by subst e; simp at h
  obtain ⟨l,x,rfl⟩:∃l x,xs=l ++ [x]:=⟨xs.dropLast,xs.getLast hne,(List.dropLast_concat_getLast hne).symm⟩
  have hl:l.length=n:=by simpa using h
  have e1:(l ++ [x]).getD n fr0=x:=by rw [←hl]; simp [List.getD]
  have e2:sumN n (fun j=>rv ((l ++ [x]).getD j fr0))=sumN n fun j=>rv (l.getD j fr0):=sumN_congr fun j hj=>by
   simp only [List.getD]
   rw [List.getElem?_append_left (by omega)]
  simp only [sumN]
  rw [e1,e2,sumN_list n l hl,List.map_append,List.sum_append]
  simp [Rat.add_zero]
section
variable {cs:List Nat} {ks:List Kt} {xs:List Fr}
theorem DvV.sum {f:Fr} (h:DvV cs ks xs) (hs:frSum xs (0,1)=some f):frP f=true∧rv f=sumN ks.length fun j=>rv (xs.getD j fr0):=by
 obtain ⟨h1,h2⟩:=frSum_rv _ _ _ rfl h.P hs
 refine ⟨h1,?_⟩
 rw [h2,rv_zero1,Rat.zero_add,sumN_list _ _ h.len]
theorem DvV.x0 (h:DvV cs ks xs):∀x ∈ xs,0≤x.1:=fun x hx=>by
 obtain ⟨j,hj⟩:=List.mem_iff_getElem?.1 hx
 have hjl:=(List.getElem?_eq_some_iff.1 hj).1
 have h1:0≤rv (xs.getD j fr0):=h.val.nn j (by have:=h.len; unfold kOps; rw [List.length_map]; omega)
 rw [getD_of hj] at h1
 exact (rv_nn (h.P x hx)).1 h1
theorem DvV.pd (hg:KtG cs ks) (h:DvV cs ks xs):PdO cs ks xs:=by
 obtain ⟨D,d1,d2,d3⟩:=h.den
 exact PdO.mk hg h.len h.P (fun j _=>rfl) h.val d1 d2 d3
theorem DvV.top {ys:List Fr} {f top:Fr} (h:DvV cs ks xs) (hy:DvV cs ks ys) (ho:∀u,Val cs (kOps ks) u→sumN ks.length u≤sumN ks.length fun j=>rv (ys.getD j fr0)) (hs:frSum xs (0,1)=some f) (ht:frSum ys (0,1)=some top):¬0 < frCmp f top:=fun hc=>by
 obtain ⟨p1,e1⟩:=h.sum hs
 obtain ⟨p2,e2⟩:=hy.sum ht
 have h3:=(frCmp_pos p1 p2).1 hc
 have h4:=ho _ h.val
 rw [e1,e2] at h3
 exact absurd h3 (Rat.not_lt.2 h4)
theorem DvV.best {f:Fr} {best:Nat} (h:DvV cs ks xs) (hs:frSum xs (0,1)=some f) (hB:∀u,Val cs (kOps ks) u→(sumN ks.length u).ceil≤(best:Int)):frCeil f≤(best:Int):=by
 obtain ⟨p1,e1⟩:=h.sum hs
 rw [frCeil_le p1,e1]
 exact Rat.ceil_le_iff.1 (hB _ h.val)
end
set_option maxHeartbeats 4000000 in
theorem divided_spec {w:World} (T:Nt) (kv:Value) (ks:List Kt) (best:Nat) (hr:NtR w T) (hg:NtG T) (hk:KtR w kv ks) (h10:T.ops.length≤10) (h12:ks.length≤12) (hG:KtG (T.ops.map (·.cost)) ks) (hB:∀u,Val (T.ops.map (·.cost)) (kOps ks) u→(sumN ks.length u).ceil≤(best:Int)) :
  Calls Tryz.prog 27 [tkV T.raw,kv,.int .i64 (best:Nat)].toArray w fun e w'=>∃x,e=.returned x∧x=.bool true∧Kp [] w w':=by
 refine enter Tryz.func27 mixed low27 (Nat.le_of_ble_eq_true rfl) ?_
 simp only [L27]
 have hcl:(T.ops.map (·.cost)).length≤24:=by simp; omega
 have hcl2:(T.ops.map (·.cost)).length≤10:=by simpa using h10
 obtain ⟨cs,hcs⟩:∃cs,cs=T.ops.map (·.cost):=⟨_,rfl⟩
 rw [←hcs] at hG hB hcl hcl2
 have hU:=DvV.un hG h12
 have hGr:=DvV.gr hG
 obtain ⟨us,hus⟩:∃us,us=unF cs ks:=⟨_,rfl⟩
 obtain ⟨gs,hgs⟩:∃gs,gs=grX cs ks:=⟨_,rfl⟩
 rw [←hus] at hU
 rw [←hgs] at hGr
 obtain ⟨tb,htb⟩:∃tb,tb=w.heap.size:=⟨_,rfl⟩
 obtain ⟨w1,hw1⟩:∃w1,w1=w.alloc (tkO T.raw):=⟨_,rfl⟩
 have h1:At w [] (Star (ObjA tb (tkO T.raw)) Emp) w1:=by rw [htb,hw1]; exact (At.start rfl).alloc _ .emp
 have hw1':w.alloc (.cells #[T.raw.vv.1,T.raw.nv.1,T.raw.gv.1,T.raw.ov.1] 26 (0,0))=w1:=by rw [hw1]; rfl
 have ob1:=h1.obj
 have hL1:Lcl (Star (ObjA tb (tkO T.raw)) Emp):=Lcl.obj.star .emp
 simp [tkV,←htb,hw1',rd_tk ob1]
 refine cl_of (costs_spec T (hr.kp h1.kp) hg) ?_
 rintro cv w2 n2
 rw [←hcs] at n2
 have h2:=(At.nw hL1 h1 n2).by (Imp.un Imp.dr)
 have hL2:Lcl (Star (OwnA cv 3 1 nE cs) Emp):=Lcl.own.star .emp
 simp
 refine cl_of (uniform_spec cv kv cs ks h2.own.vw (hk.kp h2.kp) hG) ?_
 rintro _ w3 ⟨uv,rfl,h3⟩
 rw [←hus] at h3
 have h3:=(at_join2 hL2 h2 h3).by (Imp.as.trans (Imp.un Imp.dr))
 simp
 refine cl_of (greedy_spec cv kv cs ks h3.drop.own.vw (hk.kp h3.kp) hG) ?_
 rintro _ w4 ⟨gv,rfl,h4⟩
 rw [←hgs] at h4
 have hL3:Lcl (Star (OwnA uv 151 2 frE us) (Star (OwnA cv 3 1 nE cs) Emp)):=Lcl.own.star hL2
 have h4:=(at_join2 hL3 h3 h4).by (Imp.as.trans (Imp.un Imp.dr))
 have hL4:Lcl (Star (OwnA gv 151 2 frE gs) (Star (OwnA uv 151 2 frE us) (Star (OwnA cv 3 1 nE cs) Emp))):=Lcl.own.star hL3
 simp
 refine cl_of (optimal_spec cv kv cs ks h4.drop.drop.own.vw (hk.kp h4.kp) hG hcl) ?_
 rintro x w5 (⟨rfl,k5⟩ | ⟨ov,xs,rfl,hO,h5⟩)
 ·have h6:=h4.kp0 hL4 k5
  simp [errV]
  refine cl_of (is_errs 5 5 w5) ?_
  rintro _ w6 ⟨rfl,k6⟩
  simp
  exact (h6.kp0 hL4 k6).kp
 have h5:=(at_join2 hL4 h4 h5).by (Imp.as.trans (Imp.un Imp.dr))
 obtain ⟨o1,o2,v,o3,o4⟩:=id hO
 have hL5:Lcl (Star (OwnA ov 151 2 frE xs) (Star (OwnA gv 151 2 frE gs) (Star (OwnA uv 151 2 frE us) (Star (OwnA cv 3 1 nE cs) Emp)))):=Lcl.own.star hL4
 simp
 refine cl_of (sum9_spec ov xs h5.own.vw (by omega) o2) ?_
 rintro _ w6 ⟨rfl,k6⟩
 have h6:=h5.kp0 hL5 k6
 cases hs:frSum xs (0,1) with
 | none =>
  simp [frR,frV,errV]
  refine st_fr0 (f:=(0,0)) hL5 h6 rfl fun w7 h7=>?_
  simp
  refine cl_of (is_errs 5 5 w7) ?_
  rintro _ w8 ⟨rfl,k8⟩
  simp
  exact h7.kp.trans k8
 | some top =>
  obtain ⟨fb,hfb⟩:∃fb,fb=w6.heap.size:=⟨_,rfl⟩
  simp [frR,frV,←hfb]
  refine st_fr0 (f:=top) hL5 h6 hfb fun w7 h7=>?_
  have cov:=h7.drop.own.c1
  have cgv:=h7.drop.drop.own.c1
  have cuv:=h7.drop.drop.drop.own.c1
  simp [←hfb,cov,cgv,cuv]
  have hL7:Lcl (Star (ObjA fb (frO top)) (Star (OwnA ov 151 2 frE xs) (Star (OwnA gv 151 2 frE gs) (Star (OwnA uv 151 2 frE us) (Star (OwnA cv 3 1 nE cs) Emp))))):=Lcl.obj.star hL5
  have hDo:DvV cs ks xs:=(DvV.opt hO hcl2).1
  have hDt:=(DvV.opt hO hcl2).2
  refine loop_inv (fun n ρ w'=>∃i,n+i=3∧ρ 83=.int .i64 (i:Nat)∧ρ 82=.agg #[uv,gv,ov]∧ρ 14=.pointer (some ⟨fb,0,none⟩)∧ρ 7=cv∧ρ 1=kv∧ρ 2=.int .i64 (best:Nat)∧At w [] (Star (ObjA fb (frO top)) (Star (OwnA ov 151 2 frE xs) (Star (OwnA gv 151 2 frE gs) (Star (OwnA uv 151 2 frE us) (Star (OwnA cv 3 1 nE cs) Emp))))) w') 3 ⟨0,by omega,by simp,by simp,by simp [←hfb],by simp,by simp,by simp,h7⟩ ?_
  clear h1 h2 h3 h4 h5 h6 h7 k6 hw1' hw1 htb hfb n2
  rintro n ρ w8 ⟨i,hni,g83,g82,g14,g7,g1,g2,h8⟩
  have hi4:i=0∨i=1∨i=2∨i=3:=by omega
  rcases hi4 with rfl | rfl | rfl | rfl
  ·have hv:=h8.drop.drop.drop.own.vw
   have hD:DvV cs ks us:=hU
   have hDl:=hD.len
   have hx0:=hD.x0
   have hpd:=hD.pd hG
   have hxp:=hD.P
   simp [g83,g82]
   refine cl_of (sum9_spec uv us hv (by omega) hxp) ?_
   rintro _ w9 ⟨rfl,k9⟩
   have h9:=h8.kp0 hL7 k9
   cases hs2:frSum us (0,1) with
   | none =>
    simp [frR,frV,errV]
    refine st_fr0 (f:=(0,0)) hL7 h9 rfl fun w10 h10=>?_
    simp
    refine cl_of (is_errs 5 5 w10) ?_
    rintro _ w11 ⟨rfl,k11⟩
    have h11:=(h10.kp0 (Lcl.obj.star hL7) k11).drop
    simp [g83,g82,g14,g7,g1,g2]
    exact ⟨n - 1,by omega,1,by omega,by rw [wrap_i64 (by omega) (by omega)]; rfl,h11⟩
   | some f =>
    have ht2:=hD.top hDo hDt hs2 hs
    have hb2:=hD.best hs2 hB
    obtain ⟨fp,_⟩:=hD.sum hs2
    obtain ⟨tp,_⟩:=hDo.sum hs
    obtain ⟨cf,hcf⟩:∃cf,cf=frCeil f:=⟨_,rfl⟩
    obtain ⟨gb,hgb⟩:∃gb,gb=w9.heap.size:=⟨_,rfl⟩
    simp [frR,frV,←hgb]
    refine st_fr0 (f:=f) hL7 h9 hgb fun w10 h10=>?_
    simp [←hgb]
    refine cl_of (is_nils w10) ?_
    rintro _ w11 ⟨rfl,k11⟩
    have h11:=h10.kp0 (Lcl.obj.star hL7) k11
    simp [g83,g82,g14,g7,g1,g2]
    have hpa:=paValue_spec uv us h11.drop.drop.drop.drop.own.vw (by omega) hxp
    rw [hs2] at hpa
    refine cl_of hpa ?_
    rintro _ w12 ⟨rfl,k12⟩
    have h12w:=h11.kp0 (Lcl.obj.star hL7) k12
    rw [←hcf] at hb2
    simp [vlR,←hcf,g83,g82,g14,g7,g1,g2]
    have hva:=valid_spec cv kv uv cs ks us h12w.drop.drop.drop.drop.drop.own.vw (hk.kp h12w.kp) hG h12w.drop.drop.drop.drop.own.vw hDl hxp hx0 hpd
    refine cl_of hva ?_
    rintro _ w13 ⟨rfl,k13⟩
    have h13:=h12w.kp0 (Lcl.obj.star hL7) k13
    have r13:=rd_fr h13.obj
    have r13':=rd_fr h13.drop.obj
    simp [g83,g82,g14,g7,g1,g2,r13,r13']
    refine cl_of (cmp9_spec f top fp tp) ?_
    rintro _ w14 ⟨rfl,k14⟩
    have h14:=(h13.kp0 (Lcl.obj.star hL7) k14).drop
    have nb:¬(best:Int) < cf:=by omega
    simp [g83,g82,g14,g7,g1,g2,ht2,nb]
    exact ⟨n - 1,by omega,1,by omega,by rw [wrap_i64 (by omega) (by omega)]; rfl,h14⟩
  ·have hv:=h8.drop.drop.own.vw
   have hD:DvV cs ks gs:=hGr
   have hDl:=hD.len
   have hx0:=hD.x0
   have hpd:=hD.pd hG
   have hxp:=hD.P
   simp [g83,g82]
   refine cl_of (sum9_spec gv gs hv (by omega) hxp) ?_
   rintro _ w9 ⟨rfl,k9⟩
   have h9:=h8.kp0 hL7 k9
   cases hs2:frSum gs (0,1) with
   | none =>
    simp [frR,frV,errV]
    refine st_fr0 (f:=(0,0)) hL7 h9 rfl fun w10 h10=>?_
    simp
    refine cl_of (is_errs 5 5 w10) ?_
    rintro _ w11 ⟨rfl,k11⟩
    have h11:=(h10.kp0 (Lcl.obj.star hL7) k11).drop
    simp [g83,g82,g14,g7,g1,g2]
    exact ⟨n - 1,by omega,2,by omega,by rw [wrap_i64 (by omega) (by omega)]; rfl,h11⟩
   | some f =>
    have ht2:=hD.top hDo hDt hs2 hs
    have hb2:=hD.best hs2 hB
    obtain ⟨fp,_⟩:=hD.sum hs2
    obtain ⟨tp,_⟩:=hDo.sum hs
    obtain ⟨cf,hcf⟩:∃cf,cf=frCeil f:=⟨_,rfl⟩
    obtain ⟨gb,hgb⟩:∃gb,gb=w9.heap.size:=⟨_,rfl⟩
    simp [frR,frV,←hgb]
    refine st_fr0 (f:=f) hL7 h9 hgb fun w10 h10=>?_
    simp [←hgb]
    refine cl_of (is_nils w10) ?_
    rintro _ w11 ⟨rfl,k11⟩
    have h11:=h10.kp0 (Lcl.obj.star hL7) k11
    simp [g83,g82,g14,g7,g1,g2]
    have hpa:=paValue_spec gv gs h11.drop.drop.drop.own.vw (by omega) hxp
    rw [hs2] at hpa
    refine cl_of hpa ?_
    rintro _ w12 ⟨rfl,k12⟩
    have h12w:=h11.kp0 (Lcl.obj.star hL7) k12
    rw [←hcf] at hb2
    simp [vlR,←hcf,g83,g82,g14,g7,g1,g2]
    have hva:=valid_spec cv kv gv cs ks gs h12w.drop.drop.drop.drop.drop.own.vw (hk.kp h12w.kp) hG h12w.drop.drop.drop.own.vw hDl hxp hx0 hpd
    refine cl_of hva ?_
    rintro _ w13 ⟨rfl,k13⟩
    have h13:=h12w.kp0 (Lcl.obj.star hL7) k13
    have r13:=rd_fr h13.obj
    have r13':=rd_fr h13.drop.obj
    simp [g83,g82,g14,g7,g1,g2,r13,r13']
    refine cl_of (cmp9_spec f top fp tp) ?_
    rintro _ w14 ⟨rfl,k14⟩
    have h14:=(h13.kp0 (Lcl.obj.star hL7) k14).drop
    have nb:¬(best:Int) < cf:=by omega
    simp [g83,g82,g14,g7,g1,g2,ht2,nb]
    exact ⟨n - 1,by omega,2,by omega,by rw [wrap_i64 (by omega) (by omega)]; rfl,h14⟩
  ·have hv:=h8.drop.own.vw
   have hD:DvV cs ks xs:=hDo
   have hDl:=hD.len
   have hx0:=hD.x0
   have hpd:=hD.pd hG
   have hxp:=hD.P
   simp [g83,g82]
   refine cl_of (sum9_spec ov xs hv (by omega) hxp) ?_
   rintro _ w9 ⟨rfl,k9⟩
   have h9:=h8.kp0 hL7 k9
   cases hs2:frSum xs (0,1) with
   | none =>
    simp [frR,frV,errV]
    refine st_fr0 (f:=(0,0)) hL7 h9 rfl fun w10 h10=>?_
    simp
    refine cl_of (is_errs 5 5 w10) ?_
    rintro _ w11 ⟨rfl,k11⟩
    have h11:=(h10.kp0 (Lcl.obj.star hL7) k11).drop
    simp [g83,g82,g14,g7,g1,g2]
    exact ⟨n - 1,by omega,3,by omega,by rw [wrap_i64 (by omega) (by omega)]; rfl,h11⟩
   | some f =>
    have ht2:=hD.top hDo hDt hs2 hs
    have hb2:=hD.best hs2 hB
    obtain ⟨fp,_⟩:=hD.sum hs2
    obtain ⟨tp,_⟩:=hDo.sum hs
    obtain ⟨cf,hcf⟩:∃cf,cf=frCeil f:=⟨_,rfl⟩
    obtain ⟨gb,hgb⟩:∃gb,gb=w9.heap.size:=⟨_,rfl⟩
    simp [frR,frV,←hgb]
    refine st_fr0 (f:=f) hL7 h9 hgb fun w10 h10=>?_
    simp [←hgb]
    refine cl_of (is_nils w10) ?_
    rintro _ w11 ⟨rfl,k11⟩
    have h11:=h10.kp0 (Lcl.obj.star hL7) k11
    simp [g83,g82,g14,g7,g1,g2]
    have hpa:=paValue_spec ov xs h11.drop.drop.own.vw (by omega) hxp
    rw [hs2] at hpa
    refine cl_of hpa ?_
    rintro _ w12 ⟨rfl,k12⟩
    have h12w:=h11.kp0 (Lcl.obj.star hL7) k12
    rw [←hcf] at hb2
    simp [vlR,←hcf,g83,g82,g14,g7,g1,g2]
    have hva:=valid_spec cv kv ov cs ks xs h12w.drop.drop.drop.drop.drop.own.vw (hk.kp h12w.kp) hG h12w.drop.drop.own.vw hDl hxp hx0 hpd
    refine cl_of hva ?_
    rintro _ w13 ⟨rfl,k13⟩
    have h13:=h12w.kp0 (Lcl.obj.star hL7) k13
    have r13:=rd_fr h13.obj
    have r13':=rd_fr h13.drop.obj
    simp [g83,g82,g14,g7,g1,g2,r13,r13']
    refine cl_of (cmp9_spec f top fp tp) ?_
    rintro _ w14 ⟨rfl,k14⟩
    have h14:=(h13.kp0 (Lcl.obj.star hL7) k14).drop
    have nb:¬(best:Int) < cf:=by omega
    simp [g83,g82,g14,g7,g1,g2,ht2,nb]
    exact ⟨n - 1,by omega,3,by omega,by rw [wrap_i64 (by omega) (by omega)]; rfl,h14⟩
  ·simp [g83,g82]
   exact h8.kp
end Go.Proofs.YtolkjbmcindhjaaGreat
end
section
namespace Go.Lm
open Go.Rx
def E2:List Un:=[⟨0,0,2,1,[]⟩,⟨1,0,3,3,[]⟩]
end Go.Lm
end
section
namespace Go.Tk
theorem map_inj {α β:Type} {f:α→β} (h:∀x y,f x=f y→x=y):∀{l l':List α},l.map f=l'.map f→l=l'
 | [],[],_=>rfl
 | [],_ :: _,e=>by simp at e
 | _ :: _,[],e=>by simp at e
 | a :: l,b :: l',e=>by
  simp only [List.map_cons,List.cons.injEq] at e
  rw [h _ _ e.1,map_inj h e.2]
theorem faN_inj (a b:Fc) (h:faN a=faN b):a=b:=by
 obtain ⟨a1,a2⟩:=a
 obtain ⟨b1,b2⟩:=b
 simp only [faN,Prod.mk.injEq] at h
 have h1:a1=b1:=by omega
 have h2:a2=b2:=by omega
 rw [h1,h2]
theorem Nf.raw_inj (a b:Nf) (h:a.raw=b.raw):a=b:=by
 obtain ⟨a1,a2,a3,a4⟩:=a
 obtain ⟨b1,b2,b3,b4⟩:=b
 simp only [Nf.raw,Ef.mk.injEq] at h
 obtain ⟨h1,h2,h3,h4⟩:=h
 have h2:=map_inj faN_inj h2
 have h3:a3=b3:=by omega
 have h4:a4=b4:=by omega
 subst h1 h2 h3 h4
 rfl
theorem No.raw_inj (a b:No) (h:a.raw=b.raw):a=b:=by
 obtain ⟨a1,a2,a3,a4,a5,a6⟩:=a
 obtain ⟨b1,b2,b3,b4,b5,b6⟩:=b
 simp only [No.raw,Oq.mk.injEq] at h
 obtain ⟨h1,h2,h3,h4,h5,h6⟩:=h
 have h2:a2=b2:=by omega
 have h4:=map_inj faN_inj h4
 have h6:=map_inj Nf.raw_inj h6
 subst h1 h2 h3 h4 h5 h6
 rfl
theorem Nt.raw_inj (a b:Nt) (h:a.raw=b.raw):a=b:=by
 obtain ⟨a1,a2,a3,a4,a5,a6,a7,a8⟩:=a
 obtain ⟨b1,b2,b3,b4,b5,b6,b7,b8⟩:=b
 simp only [Nt.raw,Tk.mk.injEq] at h
 obtain ⟨h1,h2,h3,h4,h5,h6,h7,h8⟩:=h
 have hi:∀x y:Nat,iN x=iN y→x=y:=fun x y h=>by unfold iN at h; omega
 have h5:=map_inj hi h5
 have h6:=map_inj hi h6
 have h7:=map_inj faN_inj h7
 have h8:=map_inj No.raw_inj h8
 subst h1 h2 h3 h4 h5 h6 h7 h8
 rfl
end Go.Tk
namespace Go.Proofs.YtolkjbmcindhjaaGreat
open Go Go.W Go.Tk Go.Rx Go.Lm Go.Maps
theorem lnew_ok {w:World} (T:Nt) (hg:NtG T) (hgood:goodB T.raw=true) (hr:NtR w T) (hnm:∀o ∈ T.ops,o.name.size≤9223372036854775807) :
  Calls Tryz.prog 18 [ntV T].toArray w fun e w'=>∃x,e=.returned x∧∃b,x=.tuple #[.pointer (some ⟨b,0,none⟩),.nilIface]∧Hrx b T w'∧Kp [] w w':=by
 refine Calls.mono (lnew_walk T.raw (NtR.raw.2 hr) (hg.lens hnm)) ?_
 rintro e w' ⟨x,rfl,hx,k⟩
 refine ⟨x,rfl,?_⟩
 unfold HnA at hx
 rw [(chk_good T.raw).2 hgood] at hx
 obtain ⟨b,T',e,_,rfl,hh⟩:=hx
 have e:=Nt.raw_inj _ _ e
 subst e
 exact ⟨b,rfl,hh,k⟩
end Go.Proofs.YtolkjbmcindhjaaGreat
end
section
namespace Go.Lm
open Go.Rx
theorem inv_pot {U:List Un} {S0 G:List Nat} {c:Nat→Nat} {A:Nat→Prop} {P:List Nat→Prop} (h0:P S0) (hg:∀x,P x→¬∀f ∈ G,f ∈ x) (hs:∀x q x',A q→Stp U x q x'→P x→P x') :
  ∃H:List Nat→Nat,H S0=Inf∧(∀x,(∀f ∈ G,f ∈ x)→H x=0)∧∀x q x',A q→Stp U x q x'→H x≤H x'+c q:=by
 have hex:∀x,∃n,(P x→n=Inf)∧(¬P x→n=0):=fun x=>by
  rcases Classical.em (P x) with h | h
  ·exact ⟨Inf,fun _=>rfl,fun h2=>absurd h h2⟩
  ·exact ⟨0,fun h2=>absurd h2 h,fun _=>rfl⟩
 refine ⟨fun x=>Classical.choose (hex x),(Classical.choose_spec (hex S0)).1 h0,fun x hx=>(Classical.choose_spec (hex x)).2 fun hp=>hg x hp hx,fun x q x' ha h=>?_⟩
 show Classical.choose (hex x)≤Classical.choose (hex x')+c q
 rcases Classical.em (P x) with hp | hp
 ·rw [(Classical.choose_spec (hex x)).1 hp,(Classical.choose_spec (hex x')).1 (hs x q x' ha h hp)]
  omega
 ·rw [(Classical.choose_spec (hex x)).2 hp]
  exact Nat.zero_le _
theorem LmC.inf_pot {U:List Un} {S0 G:List Nat} {c:Nat→Nat} {N C:Nat} (h:LmC U S0 G c none) (hz:Szs U S0 N C c) :
  ∃H:List Nat→Nat,H S0=Inf∧(∀x,(∀f ∈ G,f ∈ x)→H x=0)∧∀x q x',Stp U x q x'→H x≤H x'+c q:=by
 obtain ⟨g,hg,hn⟩:=h.none_inf hz rfl
 obtain ⟨H,h1,h2,h3⟩:=inv_pot (U:=U) (S0:=S0) (G:=G) (c:=c) (A:=fun _=>True) (P:=fun x=>∀f ∈ x,∃k,Der (wc U c) S0 f k) (fun f hf=>⟨0,.base hf⟩) (fun x hx hG=>by
  obtain ⟨k,hk⟩:=hx g (hG g hg)
  exact hn c k hk) (fun x q x' _ hs hx f hf=>by
  rcases hs f hf with h1 | ⟨u,hu,rfl,rfl,hnd⟩
  ·exact hx f h1
  ·have hex:∀n,∃j,n ∈ u.needs→Der (wc U c) S0 n j:=fun n=>by
    by_cases hn2:n ∈ u.needs
    ·obtain ⟨j,hj⟩:=hx n (hnd n hn2)
     exact ⟨j,fun _=>hj⟩
    ·exact ⟨0,fun h=>absurd h hn2⟩
   exact ⟨_,.step (mem_wc (c:=c) hu) (fun n=>Classical.choose (hex n)) fun n hn2=>Classical.choose_spec (hex n) hn2⟩)
 exact ⟨H,h1,h2,fun x q x' hs=>h3 x q x' trivial hs⟩
end Go.Lm
namespace Go.Proofs.YtolkjbmcindhjaaGreat
open Go Go.W Go.Tk Go.Rx Go.Lm Go.Maps
theorem stN_goal {T:Nt} {s:List Nat} (hg:NtG T) (h:hdB s T.goal=true):∀f ∈ T.goal.map (numF T.vars),f ∈ stN T.vars s T.vars.length:=hd_mem h fun f hf=>(hg.goal.rng f hf).1
theorem stN_lt {T:Nt} {s:List Nat} (hst:StN T.vars s):∀x ∈ stN T.vars s T.vars.length,x < T.vars.sum:=fun x hx=>by
 unfold stN at hx
 obtain ⟨v,hv,rfl⟩:=List.mem_map.1 hx
 have hv:=List.mem_range.1 hv
 exact numF_lt (f:=(v,s.getD v 0)) hv (hst.rng v hv)
theorem stp_op {T:Nt} {c:Nat→Nat} {s:List Nat} {q:Nat} {o:No} (hg:NtG T) (ho:T.ops[q]? = some o) (hp:hdB s o.pre=true):Stp (uns T c) (stN T.vars s T.vars.length) q (stN T.vars (apS o s) T.vars.length):=fun f hf=>by
 have hgo:=hg.ops o (List.mem_of_getElem? ho)
 have hq:=(List.getElem?_eq_some_iff.1 ho).1
 unfold stN at hf
 obtain ⟨v,hvr,rfl⟩:=List.mem_map.1 hf
 have hvr:=List.mem_range.1 hvr
 rcases apK_src (o:=o) (s:=s) v o.effs.length (Nat.le_refl _) with h | ⟨j,e,he,hc,h1,h2⟩
 ·left
  unfold stN
  exact List.mem_map.2 ⟨v,List.mem_range.2 hvr,by unfold apS; rw [h]⟩
 ·right
  refine ⟨_,mem_uns (cost:=c) hq ho he,rfl,?_,fun n hn=>?_⟩
  ·show numF T.vars (e.v,e.x)=psum T.vars v+(apS o s).getD v 0
   show psum T.vars e.v+e.x=_
   rw [h1,h2]; rfl
  ·have hx:=dedup_mem.1 hn
   rw [List.map_append] at hx
   rcases List.mem_append.1 hx with h | h
   ·exact hd_mem hp (fun f hf=>(hgo.pre.rng f hf).1) n h
   ·exact hd_mem hc (fun f hf=>((hgo.cnd e (List.mem_of_getElem? he)).rng f hf).1) n h
theorem szs_ok {T:Nt} {s:List Nat} {c:Nat→Nat} (hg:NtG T) (hst:StN T.vars s) (hc:∀i,i < T.ops.length→c i≤1048576):Szs (uns T c) (stN T.vars s T.vars.length) 4096 1048576 c:={
 made:=fun u hu=>by
  have:=(uns_rng hg hu).2.1
  have:=vars_sum hg
  omega
 s0:=fun x hx=>by
  have:=stN_lt hst x hx
  have:=vars_sum hg
  omega
 cost:=fun u hu=>hc _ (uns_rng hg hu).2.2
 sm:=by unfold Inf; omega }
def hP (T:Nt) (H:List Nat→Nat) (i:Nat):Nat:=match (stsK T.vars T.vars.length)[i]? with | some s=>min Inf (H (stN T.vars s T.vars.length)) | none=>0
theorem hP_at {T:Nt} {H:List Nat→Nat} {i:Nat} {s:List Nat} (h:(stsK T.vars T.vars.length)[i]? = some s):hP T H i=min Inf (H (stN T.vars s T.vars.length)):=by unfold hP; rw [h]
theorem hP_low {T:Nt} {c:Nat→Nat} {H:List Nat→Nat} (hT:SmT T) (hz:∀x,(∀f ∈ T.goal.map (numF T.vars),f ∈ x)→H x=0) (hs:∀x q x',Stp (uns T c) x q x'→H x≤H x'+c q):Low (edA T) c (goalB T) (hP T H):={
 le:=fun i=>by
  unfold hP
  split
  ·omega
  ·omega
 z:=fun i h=>by
  unfold goalB at h
  cases hsi:(stsK T.vars T.vars.length)[i]? with
  | none=>unfold hP; rw [hsi]
  | some s =>
   rw [hsi] at h
   rw [hP_at hsi,hz _ (stN_goal hT.g h)]
   omega
 st:=fun e he=>by
  obtain ⟨s,o,h1,h2,h3,h4⟩:=edK_mem he
  have hst:=apS_st (sts_st (List.mem_of_getElem? h1)) (hT.g.ops o (List.mem_of_getElem? h2))
  rw [hP_at h1,h4,hP_at (rk_all hst)]
  have:=hs _ _ _ (stp_op (c:=c) hT.g h2 h3)
  omega }
def valO:Option (List (List Nat × Nat))→Nat
 | none=>Inf
 | some out=>sumM out
theorem valP_O {U:List Un} {S0 G:List Nat} {c:Nat→Nat} {x:Value} (h:valP U S0 G c x):∃r,LmC U S0 G c r∧x=.int .i64 (valO r:Nat):=by
 obtain ⟨r,hr,hx⟩:=h
 exact ⟨r,hr,by cases r <;> exact hx⟩
theorem val_low {T:Nt} {s:List Nat} {r:Option (List (List Nat × Nat))} {d:List Nat} (hT:SmT T) (hst:StN T.vars s) (hr:LmC (uns T (cst T [])) (stN T.vars s T.vars.length) (T.goal.map (numF T.vars)) (cst T []) r) (hd:Dok (edA T) (cst T []) (goalB T) d) (hdl:d.length=(stsK T.vars T.vars.length).length):valO r≤d.getD (rkK T.vars s T.vars.length) 0:=by
 have hz:=szs_ok hT.g hst (CsOk.nil.cst hT.g)
 have hk:=rk_all hst
 have hlt:rkK T.vars s T.vars.length < d.length:=by rw [hdl]; exact (List.getElem?_eq_some_iff.1 hk).1
 cases r with
 | none =>
  obtain ⟨H,h1,h2,h3⟩:=hr.inf_pot hz
  have:=hd.low _ (hP_low hT h2 h3) _ hlt
  rw [hP_at hk,h1,Nat.min_self] at this
  exact this
 | some out =>
  obtain ⟨V,hV,hg⟩:=hr.some_fin out rfl
  obtain ⟨H,h1,h2,h3,_⟩:=hr.pot hz out rfl
  have:=hd.low _ (hP_low hT h2 h3) _ hlt
  rw [hP_at hk,h1] at this
  have h20:=sumM_ub (C:=1048576) (hr.ub hz out rfl)
  have h21:=hr.len (n:=T.ops.length) (fun u hu=>(uns_rng hT.g hu).2.2) out rfl
  have h22:=posN_le (c:=cst T []) T.ops.length
  have h23:=hT.ol
  have h24:out.length * 1048576≤20 * 1048576:=Nat.mul_le_mul_right _ (by omega)
  show sumM out≤_
  unfold Inf at this
  omega
theorem cst_le {T:Nt} (hg:NtG T):∀i,i < T.ops.length→cst T [] i≤1048576:=CsOk.nil.cst hg
end Go.Proofs.YtolkjbmcindhjaaGreat
end
section
namespace Go.Proofs.YtolkjbmcindhjaaGreat
open Go Go.W Go.Tk Go.Rx Go.Lm Go.Maps
theorem asc_len2:∀(l:List Nat) (b n:Nat),l.Pairwise (· < ·)→(∀x ∈ l,b≤x∧x < n)→l.length≤n - b
 | [],b,n,_,_=>Nat.zero_le _
 | a :: l,b,n,h,hn=>by
  rw [List.pairwise_cons] at h
  have ih:=asc_len2 l (a+1) n h.2 fun x hx=>⟨h.1 x hx,(hn x (by simp [hx])).2⟩
  have:=hn a (by simp)
  rw [List.length_cons]
  omega
theorem asc_len (l:List Nat) (n:Nat) (h:l.Pairwise (· < ·)) (hn:∀x ∈ l,x < n):l.length≤n:=asc_len2 l 0 n h fun x hx=>⟨Nat.zero_le _,hn x hx⟩
end Go.Proofs.YtolkjbmcindhjaaGreat
end
section
namespace Go.Proofs.YtolkjbmcindhjaaGreat
open Go Go.W Go.Tk Go.Rx Go.Lm Go.Maps
def keepK (T:Nt) (X:List Nat):Nat→List No
 | 0=>[]
 | i+1=>keepK T X i ++ (match T.ops[i]? with | some o=>if i ∈ X then [] else [o] | none=>[])
theorem keepK_len {T:Nt} {X:List Nat}:∀i,(keepK T X i).length≤i
 | 0=>Nat.le_refl _
 | i+1=>by
  have:=keepK_len (T:=T) (X:=X) i
  unfold keepK
  rw [List.length_append]
  split
  ·split <;> simp <;> omega
  ·simp; omega
theorem keepK_mem {T:Nt} {X:List Nat} {o:No}:∀i,o ∈ keepK T X i→∃q,T.ops[q]? = some o∧q ∉ X
 | 0,h=>by cases h
 | i+1,h=>by
  unfold keepK at h
  rcases List.mem_append.1 h with h | h
  ·exact keepK_mem i h
  ·split at h
   ·rename_i q hq
    split at h
    ·cases h
    ·rename_i hn
     simp at h; subst h
     exact ⟨i,hq,hn⟩
   ·cases h
def lmT (T:Nt) (nv:Cell1) (s:List Nat) (ov:Cell1) (X:List Nat):Nt:={ T with nv:=nv,init:=s,ov:=ov,ops:=keepK T X T.ops.length }
theorem lmT_mem {T:Nt} {nv ov:Cell1} {s X:List Nat} {o:No} (h:o ∈ (lmT T nv s ov X).ops):o ∈ T.ops:=by
 obtain ⟨q,hq,_⟩:=keepK_mem _ h
 exact List.mem_of_getElem? hq
theorem lmT_small {T:Nt} {nv ov:Cell1} {s X:List Nat} (h:SmT T) (hst:StN T.vars s):SmT (lmT T nv s ov X):=by
 have hle:(lmT T nv s ov X).ops.length≤T.ops.length:=keepK_len _
 have hg:=h.g
 have hol:=h.ol
 refine ⟨⟨hg.vlen,by omega,hg.vars,hst.len,fun v hv=>hst.rng v (by rw [←hst.len]; exact hv),hg.goal,fun o ho=>hg.ops o (lmT_mem ho)⟩,?_,h.vl,by omega,fun o ho=>h.el o (lmT_mem ho),h.pr,fun o ho=>h.nm o (lmT_mem ho)⟩
 have hgd:=h.good
 unfold goodB at hgd ⊢
 simp only [Bool.and_eq_true,decide_eq_true_eq,List.all_eq_true] at hgd ⊢
 obtain ⟨⟨⟨⟨⟨h1,h2⟩,h3⟩,h4⟩,h5⟩,h6⟩:=hgd
 refine ⟨⟨⟨⟨⟨h1,?_⟩,h3⟩,?_⟩,h5⟩,fun o ho=>?_⟩
 ·simp only [Nt.raw,List.length_map] at h2 ⊢
  omega
 ·exact hst.ok
 ·obtain ⟨q,hq,rfl⟩:=List.mem_map.1 ho
  exact h6 _ (List.mem_map.2 ⟨q,lmT_mem hq,rfl⟩)
theorem NtR.lm {T:Nt} {nv:Cell1} {ov:Value} {o1:oneC ov=true} {s X:List Nat} {w:World} (h:NtR w T) (hs:Vw w nv.1 nE s) (hv:Vw w ov noE (keepK T X T.ops.length)):NtR w (lmT T nv s ⟨ov,o1⟩ X) :=
 ⟨h.vars,hs,h.goal,hv,fun o ho=>h.op o (lmT_mem ho)⟩
theorem lm_low {T:Nt} {nv ov:Cell1} {s X:List Nat} {c c':Nat→Nat} {H:List Nat→Nat} (hT:SmT T) (hst:StN T.vars s) (hz:∀x,(∀f ∈ T.goal.map (numF T.vars),f ∈ x)→H x=0) (hs:∀x q x',q ∉ X→Stp (uns T c) x q x'→H x≤H x'+0):Low (edA (lmT T nv s ov X)) c' (goalB (lmT T nv s ov X)) (hP T H):={
 le:=fun i=>by
  unfold hP
  split
  ·omega
  ·omega
 z:=fun i h=>by
  unfold goalB at h
  have h:(match (stsK T.vars T.vars.length)[i]? with | some s=>hdB s T.goal | none=>false)=true:=h
  cases hsi:(stsK T.vars T.vars.length)[i]? with
  | none=>unfold hP; rw [hsi]
  | some s =>
   rw [hsi] at h
   rw [hP_at hsi,hz _ (stN_goal hT.g h)]
   omega
 st:=fun e he=>by
  obtain ⟨s1,o,h1,h2,h3,h4⟩:=edK_mem he
  have h1:(stsK T.vars T.vars.length)[e.1]? = some s1:=h1
  have h4:e.2.2=rkK T.vars (apS o s1) T.vars.length:=h4
  obtain ⟨q,hq,hqX⟩:=keepK_mem _ (List.mem_of_getElem? h2)
  have hst:=apS_st (sts_st (List.mem_of_getElem? h1)) (hT.g.ops o (List.mem_of_getElem? hq))
  rw [hP_at h1,h4,hP_at (rk_all hst)]
  have:=hs _ _ _ hqX (stp_op (c:=c) hT.g hq h3)
  omega }
end Go.Proofs.YtolkjbmcindhjaaGreat
end
section
namespace Go.Proofs.YtolkjbmcindhjaaGreat
open Go Go.W Go.Tk Go.Rx Go.Lm Go.Maps Go.Sx
theorem uns_wc9 {T:Nt} {c c':Nat→Nat}:uns T c'=wc (uns T c) c':=by
 have key:∀n,unsK T c' n=wc (unsK T c n) c':=by
  intro n
  unfold unsK wc
  rw [List.map_flatMap]
  congr 1
  funext i
  cases T.ops[i]? with
  | none=>rfl
  | some o =>
   show opU T.vars _ i (c' i) o.effs.length=_
   unfold opU
   rw [List.map_map]
   refine List.map_congr_left fun j hj=>?_
   have hj:=List.mem_range.1 hj
   have he:o.effs[j]? = some o.effs[j]:=List.getElem?_eq_getElem hj
   simp only [Function.comp,unA,he]
 exact key _
def ctK (c:Ct):Kt:=⟨c.ov,c.ops,c.cost⟩
theorem ctK_R {w:World} {v:Value} {ca:List Ct} (h:Vw w v ctE ca) (ho:∀c ∈ ca,Vw w c.ov.1 nE c.ops):KtR w v (ca.map ctK) :=
 ⟨(Vw.mapped (f:=ctK) (encα:=ktE) (encβ:=ctE) fun b=>rfl).2 h,fun k hk=>by
  obtain ⟨c,hc,rfl⟩:=List.mem_map.1 hk
  exact ho c hc⟩
section
variable {T:Nt} {s:List Nat} {d:List Nat}
theorem ktg_of {ks:List Kt} (hT:SmT T) (h:∀k ∈ ks,KtC T s k) (hl:ks.length≤24):KtG (T.ops.map (·.cost)) ks :=
 ⟨hl,by rw [List.length_map]; exact hT.g.olen,fun c hc=>by
  obtain ⟨o,ho,rfl⟩:=List.mem_map.1 hc
  exact (hT.g.ops o ho).cost,fun k hk=>(h k hk).ne,fun k hk=>(h k hk).asc,fun k hk q hq=>by rw [List.length_map]; exact (h k hk).rng q hq⟩
theorem div_best {ks:List Kt} (hT:SmT T) (hst:StN T.vars s) (hd:Dok (edA T) (cst T []) (goalB T) d) (hdl:d.length=(stsK T.vars T.vars.length).length) (hC:∀k ∈ ks,KtC T s k) (hl:ks.length≤24) :
  ∀u,Val (T.ops.map (·.cost)) (kOps ks) u→(sumN ks.length u).ceil≤(d.getD (rkK T.vars s T.vars.length) 0:Int):=fun u hu=>by
 have hkl:(kOps ks).length=ks.length:=by simp [kOps]
 have hin:∀k ∈ kOps ks,∃kt ∈ ks,kt.ops=k:=fun k hk=>List.mem_map.1 hk
 have hG:=ktg_of hT hC hl
 obtain ⟨H,h1,h2,h3⟩:=hu.pot (U:=uns T (cst T [])) (S0:=stN T.vars s T.vars.length) (G:=T.goal.map (numF T.vars)) (c:=cst T []) (fun k hk=>by
  obtain ⟨kt,hkt,rfl⟩:=hin k hk
  exact (hC kt hkt).cut) (fun k hk q hq=>by
  obtain ⟨kt,hkt,rfl⟩:=hin k hk
  exact hG.rng kt hkt q hq) (fun q _=>by rw [←cf_cst]; rfl)
 rw [hkl] at h1
 have hk:=rk_all hst
 have hlt:rkK T.vars s T.vars.length < d.length:=by rw [hdl]; exact (List.getElem?_eq_some_iff.1 hk).1
 have h4:=hd.low _ (hP_low hT h2 h3) _ hlt
 rw [hP_at hk] at h4
 have h5:(sumN ks.length u).ceil≤((24 * 1048576:Nat):Int):=by
  rw [Rat.ceil_le_iff,Rat.intCast_natCast]
  have h6:∀n,n≤ks.length→sumN n u≤((n * 1048576:Nat):Rat):=fun n=>by
   induction n with
   | zero=>intro _; simp [sumN]
   | succ n ih =>
    intro hn
    have h7:=ih (by omega)
    obtain ⟨q,hq,hle⟩:=hu.one (j:=n) (by omega) (fun k hk=>by
     obtain ⟨kt,hkt,rfl⟩:=hin k hk
     exact hG.ne kt hkt) (fun k hk q hq=>by
     obtain ⟨kt,hkt,rfl⟩:=hin k hk
     exact hG.rng kt hkt q hq)
    have hcm:(T.ops.map (·.cost)).getD q 0≤1048576:=hG.cmax _ (mem_getD hq)
    have h8:=nc_le hcm
    have e:(((n+1) * 1048576:Nat):Rat)=((n * 1048576:Nat):Rat)+((1048576:Nat):Rat):=by rw [Nat.succ_mul]; simp
    simp only [sumN]
    rw [e]
    grind
  have h7:=h6 _ (Nat.le_refl _)
  have h8:=nc_le (show ks.length * 1048576≤24 * 1048576 from Nat.mul_le_mul_right _ hl)
  grind
 unfold Inf at h4
 omega
theorem cut_best {nv ov:Cell1} {X s0:List Nat} (hT:SmT T) (hst:StN T.vars s) (hst0:StN T.vars s0) (hc:CutS (uns T (cst T [])) (stN T.vars s T.vars.length) (T.goal.map (numF T.vars)) X)
  (hd:Dok (edA (lmT T nv s0 ov X)) (cst (lmT T nv s0 ov X) []) (goalB (lmT T nv s0 ov X)) d) (hdl:d.length=(stsK T.vars T.vars.length).length):d.getD (rkK T.vars s T.vars.length) 0=Inf:=by
 obtain ⟨P,h0,hg,hs⟩:=hc
 obtain ⟨H,h1,h2,h3⟩:=inv_pot (c:=fun _=>0) (A:=fun q=>q ∉ X) h0 hg hs
 have hk:=rk_all hst
 have hlt:rkK T.vars s T.vars.length < d.length:=by rw [hdl]; exact (List.getElem?_eq_some_iff.1 hk).1
 have:=hd.low _ (lm_low hT hst0 h2 h3) _ hlt
 rw [hP_at hk,h1,Nat.min_self] at this
 have:=hd.le _ hlt
 omega
theorem cut_reach {U:List Un} {S0 G X:List Nat} {ws:List Int} {V:Nat→Nat} (hc:CutS U S0 G X) (hw:∀q:Nat,q ∈ X→(q:Int) ∈ ws) (hV:IsVal (allow (okL ws) U) S0 V):¬gr V G < Inf:=fun h=>by
 obtain ⟨x,hx,hn⟩:=hc.dr (U':=allow (okL ws) U) fun u hu=>by
  obtain ⟨h1,h2⟩:=allow_mem.1 hu
  refine ⟨h1,fun hq=>?_⟩
  have:=hw _ hq
  simp [okL] at h2
  exact h2 this
 have h1:V x < Inf:=Nat.lt_of_le_of_lt (gr_mem hx) h
 have key:∀{f k:Nat},Der (allow (okL ws) U) S0 f k→Dr (allow (okL ws) U) S0 f:=fun {f k} d=>by
  induction d with
  | base h=>exact .base h
  | step hu k h ih=>exact .step hu ih
 exact hn (key (hV.der x h1))
theorem lmc_no {U:List Un} {S0 G:List Nat} {c:Nat→Nat} {R:Nat→Prop} {r:Option (List (List Nat × Nat))} (h:Rea U (fun _=>False) S0 R) (hn:∃x ∈ G,¬R x) (hr:LmC U S0 G c r):r=none:=by
 cases r with
 | none=>rfl
 | some out =>
  obtain ⟨x,hx,hn⟩:=hn
  exact absurd (h.some hr x hx) hn
theorem lmc_yes {U:List Un} {S0 G:List Nat} {c:Nat→Nat} {R:Nat→Prop} {r:Option (List (List Nat × Nat))} {N C:Nat} (h:Rea U (fun _=>False) S0 R) (hy:∀x ∈ G,R x) (hr:LmC U S0 G c r) (hz:Szs U S0 N C c):∃out,r=some out:=by
 cases r with
 | some out=>exact ⟨out,rfl⟩
 | none =>
  obtain ⟨x,hx,hn⟩:=h.none hr hz
  exact absurd (hy x hx) hn
theorem mx_nil {out:List (List Nat × Nat)} {V:Nat→Nat} (hr:LmC (uns T (cst T [])) (stN T.vars s T.vars.length) (T.goal.map (numF T.vars)) (cst T []) (some out)) (hV:IsVal (uns T (cst T [])) (stN T.vars s T.vars.length) V):grF T.vars V T.goal=0↔out=[]:=by
 have e:wc (uns T (cst T [])) (cst T [])=uns T (cst T []):=uns_wc9.symm
 unfold grF
 generalize hro:(some out:Option (List (List Nat × Nat)))=r at hr
 cases hr with
 | inf hV' h=>cases hro
 | nil hV' h =>
  cases hro
  rw [e] at hV'
  rw [hV.uniq hV',h]
  simp
 | cut hV' h0 hi hc hr' =>
  rename_i V' L m r'
  rw [e] at hV'
  rw [hV.uniq hV']
  cases r' with
  | none=>cases hro
  | some o2 =>
   cases hro
   constructor
   ·intro h; omega
   ·intro h; cases h
theorem mx_inf {V:Nat→Nat} (hT:SmT T) (hst:StN T.vars s) (hr:LmC (uns T (cst T [])) (stN T.vars s T.vars.length) (T.goal.map (numF T.vars)) (cst T []) none) (hV:IsVal (uns T (cst T [])) (stN T.vars s T.vars.length) V):grF T.vars V T.goal=Inf:=by
 have e:wc (uns T (cst T [])) (cst T [])=uns T (cst T []):=uns_wc9.symm
 unfold grF
 have h2:gr V (T.goal.map (numF T.vars))≤Inf:=gr_le_iff.2 fun x _=>hV.le x
 obtain ⟨f,hf,hn⟩:=hr.none_inf (szs_ok hT.g hst (CsOk.nil.cst hT.g)) rfl
 have h3:¬V f < Inf:=fun h=>hn (cst T []) (V f) (by rw [e]; exact hV.der f h)
 have h4:=gr_mem (V:=V) hf
 omega
theorem lm_ktc {out:List (List Nat × Nat)} (hT:SmT T) (hst:StN T.vars s) (hr:LmC (uns T (cst T [])) (stN T.vars s T.vars.length) (T.goal.map (numF T.vars)) (cst T []) (some out)) {k:Kt} (hk:(k.ops,k.cost) ∈ out):KtC T s k:=by
 obtain ⟨_,h2,h3,h4,P,p0,p1,p2⟩:=hr.each (szs_ok hT.g hst (CsOk.nil.cst hT.g)) out rfl _ hk
 exact ⟨h2,h3,fun q hq=>by
  obtain ⟨u,hu,rfl⟩:=h4 q hq
  exact (uns_rng hT.g hu).2.2,P,p0,p1,p2⟩
end
end Go.Proofs.YtolkjbmcindhjaaGreat
end
section
namespace Go.Proofs.YtolkjbmcindhjaaGreat
open Go Go.W Go.Tk Go.Rx Go.Lm Go.Maps Go.Sx
def ktV (k:Kt):Value:=.agg #[k.ov.1,.int .i64 (k.cost:Nat)]
def NdI (T:Nt) (k:Kt) (sv:Value) (tb kb lb:Nat) (w0:World) (q:Nat) (ρ:Env) (w':World):Prop :=
 ρ 1=sv∧ρ 3=.pointer (some ⟨tb,0,none⟩)∧ρ 5=.pointer (some ⟨kb,0,none⟩)∧ρ 7=.pointer (some ⟨lb,0,none⟩)∧ρ 16=T.ov.1 ∧
  ∃lv,At w0 [] (Star (ObjA lb (.cells #[T.vv.1,T.nv.1,T.gv.1,lv] 26 (0,0))) (Star (OwnA lv 41 4 noE (keepK T k.ops q)) (Star (ObjA kb (ktO k)) (Star (ObjA tb (tkO T.raw)) Emp)))) w'
def NeI (T:Nt) (k:Kt) (sv:Value) (tb kb lb ob q:Nat) (w0:World) (a:Nat) (ρ:Env) (w':World):Prop :=
 ρ 1=sv∧ρ 3=.pointer (some ⟨tb,0,none⟩)∧ρ 5=.pointer (some ⟨kb,0,none⟩)∧ρ 7=.pointer (some ⟨lb,0,none⟩)∧ρ 16=T.ov.1 ∧
  ρ 17=.int .i64 (T.ops.length:Nat)∧ρ 18=.int .i64 (q:Nat)∧ρ 8=.int .i64 (q:Nat)∧ρ 9=.pointer (some ⟨ob,0,none⟩)∧ρ 24=k.ov.1∧ρ 10=.bool (decide (q ∈ k.ops.take a))∧w'=w0
set_option maxHeartbeats 2000000 in
theorem needed_spec {w:World} (T:Nt) (sv:Value) (s:List Nat) (k:Kt) (hr:NtR w T) (hT:SmT T) (hs:Vw w sv nE s) (hst:StN T.vars s) (hk:Vw w k.ov.1 nE k.ops) (hC:KtC T s k) :
  Calls Tryz.prog 25 [tkV T.raw,sv,ktV k].toArray w fun e w'=>∃x,e=.returned x∧x=.bool true∧Kp [] w w':=by
 refine enter Tryz.func25 mixed low25 (Nat.le_of_ble_eq_true rfl) ?_
 simp only [L25]
 have hol:=hT.ol
 have hvl:=hT.vl
 have hlen:k.ops.length≤1000000:=by
  have:=asc_len k.ops T.ops.length hC.asc hC.rng
  omega
 obtain ⟨tb,htb⟩:∃tb,tb=w.heap.size:=⟨_,rfl⟩
 obtain ⟨w1,hw1⟩:∃w1,w1=w.alloc (tkO T.raw):=⟨_,rfl⟩
 have h1:At w [] (Star (ObjA tb (tkO T.raw)) Emp) w1:=by rw [htb,hw1]; exact (At.start rfl).alloc _ .emp
 have hL1:Lcl (Star (ObjA tb (tkO T.raw)) Emp):=Lcl.obj.star .emp
 obtain ⟨kb,hkb⟩:∃kb,kb=w1.heap.size:=⟨_,rfl⟩
 obtain ⟨w2,hw2⟩:∃w2,w2=w1.alloc (ktO k):=⟨_,rfl⟩
 have h2:At w [] (Star (ObjA kb (ktO k)) (Star (ObjA tb (tkO T.raw)) Emp)) w2:=by rw [hkb,hw2]; exact h1.alloc _ hL1
 have hL2:Lcl (Star (ObjA kb (ktO k)) (Star (ObjA tb (tkO T.raw)) Emp)):=Lcl.obj.star hL1
 have hw1':w.alloc (.cells #[T.vv.1,T.nv.1,T.gv.1,T.ov.1] 26 (0,0))=w1:=by rw [hw1]; rfl
 have hw2':w1.alloc (.cells #[k.ov.1,.int .i64 (k.cost:Nat)] 63 (0,0))=w2:=by rw [hw2]; rfl
 have ob2:=h2.drop.obj
 obtain ⟨lb,hlb⟩:∃lb,lb=w2.heap.size:=⟨_,rfl⟩
 have a3:=h2.alloc (.cells #[.slice none 0 0,.slice none 0 0,.slice none 0 0,.slice none 0 0] 26 (0,0)) hL2
 rw [←hlb] at a3
 simp [tkV,ktV,←htb,hw1',←hkb,hw2',rd_tk ob2,raw_vv,raw_nv,raw_gv,raw_ov,←hlb]
 refine a3.st hL2 (by simp) (by simp [T.vv.2,T.nv.2,T.gv.2,T.ov.2]) fun w3 h3=>?_
 simp [←hlb]
 refine h3.st hL2 (by simp) (by simp) fun w4 h4=>?_
 have h5:=(h4.nil (E:=41) (sz:=4) (enc:=noE) (Lcl.obj.star hL2)).by Imp.sw
 have oc4:=h4.drop.drop.obj
 unfold tkO at oc4
 have hr4:=hr.kp h4.kp
 simp [←htb,cell_blk oc4,raw_ov,hr4.ops.len]
 refine range_loop (n:=T.ops.length) (by omega) (NdI T k sv tb kb lb w) (by simp) (by simp)
  ⟨by simp,by simp [←htb],by simp [←hkb],by simp [←hlb],by simp,_,by simpa [keepK] using h5⟩ (by decide) (fun _ _ _ _ h=>by unfold NdI at h ⊢; simpa using h) (fun _ _ _ _ h=>by unfold NdI at h ⊢; simpa using h) ?_ ?_
 ·clear h1 h2 h3 h4 h5 a3 oc4 hr4 hw1' hw2' hw1 hw2 htb hkb hlb ob2
  rintro q ρ w5 hq hcq hlq ⟨g1,g3,g5,g7,g16,lv,h6⟩
  obtain ⟨o,ho⟩:∃o,T.ops[q]? = some o:=⟨_,List.getElem?_eq_getElem hq⟩
  have hr5:=(hr.kp h6.kp).ops
  have eco:=hr5.cells noE_len ho
  simp only [noE] at eco
  obtain ⟨ob,hob⟩:∃ob,ob=w5.heap.size:=⟨_,rfl⟩
  have hqi:(q:Int) < T.ops.length:=by omega
  have hLX:Lcl (Star (ObjA lb (.cells #[T.vv.1,T.nv.1,T.gv.1,lv] 26 (0,0))) (Star (OwnA lv 41 4 noE (keepK T k.ops q)) (Star (ObjA kb (ktO k)) (Star (ObjA tb (tkO T.raw)) Emp)))):=Lcl.obj.star (Lcl.own.star hL2)
  simp (disch:=omega) [g16,hcq,hlq,hr5.idx,eco,←hob]
  refine st_oq (o:=o.raw) hLX h6 hob fun w6 h7=>?_
  have ok7:=h7.drop.drop.drop.obj
  unfold ktO at ok7
  have hwk:=hk.kp0 h7.kp
  simp [g5,cell_blk ok7,hwk.len]
  refine range_loop (n:=k.ops.length) (by omega) (NeI T k sv tb kb lb ob q w6) (by simp) (by simp)
   ⟨by simp [g1],by simp [g3],by simp [g5],by simp [g7],by simp [g16],by simp [hlq],by simp [hcq],by simp [hcq],by simp [hob],by simp,by simp,rfl⟩ (by decide) (fun _ _ _ _ h=>by unfold NeI at h ⊢; simpa using h) (fun _ _ _ _ h=>by unfold NeI at h ⊢; simpa using h) ?_ ?_
  ·clear g1 g3 g5 g7 g16 hcq hlq
   rintro a ρ w7 ha hca hla ⟨g1,g3,g5,g7,g16,g17,g18,g8,g9,g24,g10,rfl⟩
   obtain ⟨y,hy⟩:∃y,k.ops[a]? = some y:=⟨_,List.getElem?_eq_getElem ha⟩
   have hai:(a:Int) < k.ops.length:=by omega
   have et:decide (q ∈ k.ops.take (a+1))=(decide (q ∈ k.ops.take a) || decide (y=q)):=by
    rw [take_snoc hy,Bool.eq_iff_iff]
    simp only [Bool.or_eq_true,decide_eq_true_eq,List.mem_append,List.mem_singleton]
    exact or_congr Iff.rfl ⟨fun h=>h.symm,fun h=>h.symm⟩
   have eyq:((y:Int) == (q:Int))=decide (y=q):=by
    rw [Bool.eq_iff_iff]
    simp only [beq_iff_eq,decide_eq_true_eq]
    omega
   by_cases hf:q ∈ k.ops.take a
   ·rw [decide_eq_true hf] at g10 et
    simp (disch:=omega) [g24,hca,hla,hwk.idx,nE_cell hwk hy,g10]
    refine ⟨g1,g3,g5,g7,g16,g17,g18,g8,g9,g24,by simp [et,g10],rfl⟩
   ·rw [decide_eq_false hf] at g10 et
    simp (disch:=omega) [g24,hca,hla,hwk.idx,nE_cell hwk hy,g10,g8]
    refine ⟨g1,g3,g5,g7,g16,g17,g18,g8,g9,g24,?_,rfl⟩
    rw [et,eyq,Bool.false_or]
    simp
  clear g1 g3 g5 g7 g16 hcq hlq
  rintro ρ w7 ⟨g1,g3,g5,g7,g16,g17,g18,g8,g9,g24,g10,rfl⟩
  rw [List.take_length] at g10
  have ekk:keepK T k.ops (q+1)=keepK T k.ops q ++ (if q ∈ k.ops then [] else [o]):=by
   show keepK T k.ops q ++ _=_
   rw [ho]
  by_cases hqX:q ∈ k.ops
  ·rw [if_pos hqX,List.append_nil] at ekk
   simp [g10,hqX,g17,g18]
   unfold NdI
   simp [g1,g3,g5,g7,g16]
   exact ⟨lv,by rw [ekk]; exact h7.by Imp.dr⟩
  ·rw [if_neg hqX] at ekk
   have oo7:=h7.obj
   unfold oqO at oo7
   have ol7:=h7.drop.obj
   have rc:cellsAt w7 ⟨ob,0,none⟩ 0 4=some [.string o.name,.int .i64 (o.cost:Nat),o.pv.1,o.ev.1]:=by simp [cellsAt,Addr.add,cell_blk oo7,No.raw]
   have h8:=(h7.by Imp.dr).by Imp.sw
   have hLo:Lcl (Star (ObjA lb (.cells #[T.vv.1,T.nv.1,T.gv.1,lv] 26 (0,0))) (Star (ObjA kb (ktO k)) (Star (ObjA tb (tkO T.raw)) Emp))):=Lcl.obj.star hL2
   have h8a:=h8.kp0 (Lcl.own.star hLo) ((Kp.refl [] w7).alloc (.cells #[.string o.name,.int .i64 (o.cost:Nat),o.pv.1,o.ev.1] 41))
   have hkl:=keepK_len (T:=T) (X:=k.ops) q
   simp [g10,hqX,g7,g9,cell_blk ol7,rc,rowOf]
   refine At.append (xs:=[o]) hLo h8a noE_len noE_one sl_24 rfl (fun j u hj=>?_) (by omega) (by unfold maxLen; omega) fun lv' w9 h9=>?_
   ·rw [add_none,cell_blk alloc_new]
    simp only [List.flatMap_cons,List.flatMap_nil,List.append_nil,noE] at hj
    simpa using hj
   have o11:=h9.own.o1
   have c11:=h9.own.c1
   simp [g7,c11]
   refine (h9.by Imp.sw).st (Lcl.own.star hL2) (by simp) (by simp [o11]) fun w10 h10=>?_
   unfold NdI
   simp [g1,g3,g5,g7,g16,g17,g18]
   exact ⟨lv',by rw [ekk]; simpa using h10⟩
 clear h1 h2 h3 h4 h5 a3 oc4 hr4 hw1' hw2' hw1 hw2 htb hkb hlb ob2
 rintro ρ w5 ⟨g1,g3,g5,g7,g16,lv,h6⟩
 have hlo1:=h6.drop.own.o1
 have hLX:Lcl (Star (ObjA lb (.cells #[T.vv.1,T.nv.1,T.gv.1,lv] 26 (0,0))) (Star (OwnA lv 41 4 noE (keepK T k.ops T.ops.length)) (Star (ObjA kb (ktO k)) (Star (ObjA tb (tkO T.raw)) Emp)))):=Lcl.obj.star (Lcl.own.star hL2)
 have h7:=h6.drew hLX
 have obl:=h7.obj
 have obt:=h7.drop.drop.drop.obj
 unfold tkO at obt
 have hst0:StN T.vars T.init:=⟨hT.g.ilen,fun v hv=>hT.g.init v (by rw [hT.g.ilen]; exact hv)⟩
 have hr7:=hr.kp h7.kp
 have hrl:NtR w5.drew (lmT T T.nv T.init ⟨lv,hlo1⟩ k.ops):=NtR.lm hr7 hr7.init h7.drop.own.vw
 have hSL:SmT (lmT T T.nv T.init ⟨lv,hlo1⟩ k.ops):=lmT_small hT hst0
 have rl:cellsAt w5.drew ⟨lb,0,none⟩ 0 4=some [T.vv.1,T.nv.1,T.gv.1,lv]:=by simp [cellsAt,Addr.add,cell_blk obl]
 have hcv:∀w',CvOk (lmT T T.nv T.init ⟨lv,hlo1⟩ k.ops) (.slice none 0 0) (cst (lmT T T.nv T.init ⟨lv,hlo1⟩ k.ops) []) w':=fun w'=>.inl ⟨rfl,fun i o ho=>by unfold cst; simp [ho]⟩
 simp [g7,g3,g1,rl,cell_blk obt,raw_vv]
 refine ⟨?_,?_⟩ <;>
 ·refine cl_of (distances_spec (lmT T T.nv T.init ⟨lv,hlo1⟩ k.ops) (.slice none 0 0) (cst (lmT T T.nv T.init ⟨lv,hlo1⟩ k.ops) []) hrl hSL (hcv _) (cst_le hSL.g)) ?_
  rintro bv w8 ⟨d,hdl,hdok,hdcl,hdv,k8⟩
  have h8:=h7.kp0 hLX k8
  have obt8:=h8.drop.drop.drop.obj
  unfold tkO at obt8
  simp [g3,g1,cell_blk obt8,raw_vv]
  refine cl_of (rank_spec T.vv.1 sv T.vars s (hr.kp h8.kp).vars (hs.kp0 h8.kp) hst.len (by rw [hst.len]; omega) (fun k hk=>by have:=rk_sm hT hst k (by rw [←hst.len]; exact hk); omega)) ?_
  rintro _ w9 ⟨rfl,k9⟩
  rw [hst.len]
  have hdl:d.length=(stsK T.vars T.vars.length).length:=hdl
  have hrl2:rkK T.vars s T.vars.length < d.length:=by rw [hdl]; exact (List.getElem?_eq_some_iff.1 (rk_all hst)).1
  have hbest:=cut_best hT hst hst0 hC.cut hdok hdl
  obtain ⟨x,hx⟩:∃x,d[rkK T.vars s T.vars.length]? = some x:=⟨_,List.getElem?_eq_getElem hrl2⟩
  have hxd:d.getD (rkK T.vars s T.vars.length) 0=x:=by simp [List.getD,hx]
  rw [hxd] at hbest
  have hxi:(x:Int)=1125899906842624:=by unfold Inf at hbest; omega
  have hdv3:=hdv.kp0 k9
  have hkd:((rkK T.vars s T.vars.length:Nat):Int) < d.length:=by omega
  simp (disch:=omega) [hdv3.idx,nE_cell hdv3 hx,hxi]
  exact h8.kp.trans k9
end Go.Proofs.YtolkjbmcindhjaaGreat
end
