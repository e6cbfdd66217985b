/-
  A part of the proof of this claim's statement (SyFG, SyFH, SyFC, SyFD, RxYL, RxYM, LibN): plain theorems; no conditions beyond those each names.
-/
import Derived.Test.YtcoeknnghfajnaaGreatPk30
import Derived.Test.YtcoeknnghfajnaaGreatPk21
import Derived.Test.YtcoeknnghfajnaaGreatPk15
import Derived.Test.YtcoeknnghfajnaaGreatPk11
import Derived.Test.YtcoeknnghfajnaaGreatPk06
import Derived.Test.YtcoeknnghfajnaaGreatPk05
import Derived.HandedShaped
import Derived.Shelf.Vars
set_option maxRecDepth 100000
set_option linter.unusedSimpArgs false
set_option linter.unusedVariables false
set_option linter.unusedSectionVars false
section
namespace Go.Proofs.YtcoeknnghfajnaaGreat
open Go Go.W Go.Tk Go.Rx Go.Bd Go.Sy Go.Maps
theorem valK_less {g h:Nat→Bool} {k:Nat} (he:∀j,j < k→g j=h j) (hg:g k=false) (hh:h k=true):∀d,valK g (k+1+d) < valK h (k+1+d)
 | 0=>by
  have e:valK g k=valK h k:=valK_congr k he
  show 2 * valK g k+(if g k=true then 1 else 0) < 2 * valK h k+(if h k=true then 1 else 0)
  rw [e,hg,hh]
  simp
 | d+1=>by
  have ih:=valK_less he hg hh d
  show 2 * valK g (k+1+d)+(if g (k+1+d)=true then 1 else 0) < 2 * valK h (k+1+d)+(if h (k+1+d)=true then 1 else 0)
  split <;> split <;> omega
theorem rk_same {vars s t:List Nat} {v:Nat} (he:∀u,u < v→s.getD u 0=t.getD u 0):∀k,k≤v→rkK vars s k=rkK vars t k
 | 0,_=>rfl
 | k+1,h=>by
  unfold rkK
  rw [rk_same he k (by omega),he k (by omega)]
theorem rk_lex {vars s t:List Nat} (hs:StN vars s) {v:Nat} (he:∀u,u < v→s.getD u 0=t.getD u 0) (hl:s.getD v 0 < t.getD v 0):∀d,v+1+d≤vars.length→rkK vars s (v+1+d) < rkK vars t (v+1+d)
 | 0,_=>by
  show rkK vars s v * vars.getD v 0+s.getD v 0 < rkK vars t v * vars.getD v 0+t.getD v 0
  rw [rk_same he v (Nat.le_refl _)]
  omega
 | d+1,h=>by
  have ih:=rk_lex hs he hl d (by omega)
  show rkK vars s (v+1+d) * vars.getD (v+1+d) 0+s.getD (v+1+d) 0 < rkK vars t (v+1+d) * vars.getD (v+1+d) 0+t.getD (v+1+d) 0
  have h1:=hs.rng (v+1+d) (by omega)
  have h2:(rkK vars s (v+1+d)+1) * vars.getD (v+1+d) 0≤rkK vars t (v+1+d) * vars.getD (v+1+d) 0:=Nat.mul_le_mul_right _ ih
  rw [Nat.add_mul,Nat.one_mul] at h2
  omega
theorem pick_first {vars:List Nat} {ns:Ns} {a:Nat} {P:List Nat→Bool} {t:List Nat} (h64:∀n ∈ vars,n≤64) (hw:Wf (2 * nBits vars) ns) (ha:SetOk vars ns a P) (hs:StN vars (rs vars (pickF (2 * nBits vars) ns a) 0)) (ht:StN vars t) (hP:P t=true) :
  rkK vars (rs vars (pickF (2 * nBits vars) ns a) 0) vars.length≤rkK vars t vars.length:=by
 obtain ⟨p,hp⟩:∃p,p=pickF (2 * nBits vars) ns a:=⟨_,rfl⟩
 obtain ⟨b,hb⟩:∃b:Nat→Bool,b=fun i=>decide (i % 2=0) && mk2 vars t [] i:=⟨_,rfl⟩
 have hx:rs vars b 0=t:=by
  rw [←rs_mk2 (y:=[]) h64 ht]
  refine rs_congr fun p hp=>?_
  have e2:decide ((2 * p+0) % 2=0)=true:=by simp
  rw [hb]
  simp only [e2,Bool.true_and]
 have hev:eval ns b a=true:=by
  rw [ha.2,hx,hP,Bool.and_true,okB_iff,hx]
  exact ht
 have hlx:=pick_lex hw ha.1 hev 0 (Nat.zero_le _)
 rw [←hp] at hlx hs ⊢
 rcases hlx with ⟨i,_,hi,he,h1,h2⟩ | h
 ·by_cases hi2:i % 2=0
  ·obtain ⟨q,rfl⟩:∃q,i=2 * q:=⟨i / 2,by omega⟩
   obtain ⟨v,n,k,hv,hk,rfl⟩:=bP_cover vars q (by omega)
   have hvl:=(List.getElem?_eq_some_iff.1 hv).1
   have hn:vars.getD v 0=n:=by simp [List.getD,hv]
   have eq:∀u,u < v→(rs vars p 0).getD u 0=t.getD u 0:=fun u hu=>by
    rw [←hx,rs_at (by omega),rs_at (by omega)]
    obtain ⟨m,hm⟩:∃m,vars[u]? = some m:=⟨_,List.getElem?_eq_getElem (by omega)⟩
    have hmd:vars.getD u 0=m:=by simp [List.getD,hm]
    unfold rv
    rw [hmd]
    refine valK_congr _ fun k' hk'=>he _ (Nat.zero_le _) ?_
    have h1:=bP_succ hm
    have h2:=bP_mono (vars:=vars) (show u+1≤v by omega)
    omega
   have lt:(rs vars p 0).getD v 0 < t.getD v 0:=by
    rw [←hx,rs_at hvl,rs_at hvl]
    unfold rv
    rw [hn]
    obtain ⟨d,hd⟩:∃d,wd n=k+1+d:=⟨wd n - (k+1),by omega⟩
    rw [hd]
    exact valK_less (g:=fun j=>p (2 * (bP vars v+j)+0)) (h:=fun j=>b (2 * (bP vars v+j)+0)) (k:=k) (fun j hj=>he _ (Nat.zero_le _) (by omega)) h1 h2 d
   obtain ⟨d,hd⟩:∃d,vars.length=v+1+d:=⟨vars.length - (v+1),by omega⟩
   have:=rk_lex hs eq lt d (by omega)
   rw [←hd] at this
   omega
  ·rw [hb] at h2
   simp [hi2] at h2
 ·have:rs vars p 0=t:=by
   rw [←hx]
   exact rs_congr fun q hq=>h _ (Nat.zero_le _) (by omega)
  rw [this]
  exact Nat.le_refl _
theorem ct_sts {vars:List Nat} {P:List Nat→Bool}:ctB (stT vars P)=ctN vars P:=by
 have e:stT vars P=(stsK vars vars.length).map P:=by
  refine List.ext_getElem? fun i=>?_
  rw [List.getElem?_map]
  cases h:(stsK vars vars.length)[i]? with
  | none =>
   have:=List.getElem?_eq_none_iff.1 h
   rw [List.getElem?_eq_none_iff.2 (by rw [stT_len]; exact this)]
   rfl
  | some s=>rw [stT_at h]; rfl
 rw [e]
 unfold ctB ctN
 rw [List.filter_map,List.length_map]
 rfl
theorem stT_inj {vars:List Nat} {P Q:List Nat→Bool} (h:stT vars P=stT vars Q) {s:List Nat} (hs:StN vars s):P s=Q s:=by
 have h1:=stT_at (P:=P) (rk_all hs)
 rw [h,stT_at (rk_all hs)] at h1
 exact (Option.some.inj h1).symm
theorem set_eq {vars:List Nat} {ns:Ns} {x y:Nat} {P Q:List Nat→Bool} (hv:∀n ∈ vars,n≤64) (hw:Wf (2 * nBits vars) ns) (hx:SetOk vars ns x P) (hy:SetOk vars ns y Q):x=y↔stT vars P=stT vars Q:=by
 constructor
 ·rintro rfl
  refine stT_congr fun s hs=>?_
  have e:rs vars (mk2 vars s []) 0=s:=rs_mk2 hv hs
  have h1:=hx.2 (mk2 vars s [])
  rw [hy.2,e,okB_iff.2 (by rw [e]; exact hs)] at h1
  exact h1.symm
 ·intro h
  refine canon hw hx.1 hy.1 fun a=>?_
  rw [hx.2,hy.2]
  cases ho:okB vars a with
  | false=>rfl
  | true =>
   show (true && P (rs vars a 0))=(true && Q (rs vars a 0))
   rw [stT_inj h (okB_iff.1 ho)]
theorem set_zero {vars:List Nat} {ns:Ns} {x:Nat} {P:List Nat→Bool} (hv:∀n ∈ vars,n≤64) (hw:Wf (2 * nBits vars) ns) (hx:SetOk vars ns x P):x=0↔ctN vars P=0:=by
 have h0:SetOk vars ns 0 fun _=>false:=⟨by unfold Ref; omega,fun a=>by simp [eval]⟩
 rw [set_eq hv hw hx h0]
 unfold ctN
 rw [List.length_eq_zero_iff,List.filter_eq_nil_iff]
 constructor
 ·intro h s hs
  rw [stT_inj h (sts_st hs)]
  simp
 ·exact fun h=>stT_congr fun s hs=>Bool.eq_false_iff.2 (h s (sts_mem.2 hs))
end Go.Proofs.YtcoeknnghfajnaaGreat
end
section
namespace Go.Proofs.YtcoeknnghfajnaaGreat
open Go Go.W Go.Tk Go.Rx Go.Bd Go.Sy Go.Maps
section
variable {w w1:World} {F:List Nat} {A B B':Asr} {s m lim:Nat} {T:Nt} {q:SpC} {ns:Ns} {ks:List (Nat × Bool)} {ss:List (Nat × Nat)}
set_option maxHeartbeats 4000000 in
theorem spick2_spec (a:Nat) (P:List Nat→Bool) (hG:SpG lim T q ns ks ss) (hB:Lcl B) (h:At w F (SpcA s m lim T q ns ks ss B) w1) (ha:Kn T ns ks a P) (h0:a≠0) :
  Calls Tryz.prog 22 [.pointer (some ⟨s,0,none⟩),.int .i64 (a:Nat)].toArray w1 fun en w'=>∃v,en=.returned v∧∃u st,v=.tuple #[u,.nilIface]∧st=rs T.vars (pickF (2 * nBits T.vars) ns a) 0∧StN T.vars st∧P st=true∧At w F (SpcA s m lim T q ns ks ss (Star (OwnA u 3 1 nE st) B)) w':=by
 refine enter Tryz.func22 mixed low22 (Nat.le_of_ble_eq_true rfl) ?_
 simp only [L22]
 have os:=SpcA.obj h
 unfold spO at os
 rw [hG.cells.1] at os
 have hvl:=hG.g.vlen
 have hbt:=hG.ok.bt
 have hale:=ha.le hG
 have hka:i64ok a:=by unfold i64ok; omega
 have hLS:Lcl (SpcA s m lim T q ns ks ss B):=SpcA.lcl hB
 simp [cell_blk os]
 refine MapM.look1 (x:=a) (SpcA.km h) bkeyI Tryz.underlying72 zbool hka ?_
 simp [ha.kn,boolV,cell_blk os]
 have h':=h
 unfold SpcA at h'
 refine cl_of (pick_spec m (2 * nBits T.vars) lim ns a (SpcA.rest hB) h' hG.ok.wf hG.ok.bnd ha.ok.1 h0) ?_
 rintro _ w2 ⟨bw,rfl,h2⟩
 have h2:At w F (Star (OwnA bw 4 1 bv ((List.range (2 * nBits T.vars)).map (pickF (2 * nBits T.vars) ns a))) (SpcA s m lim T q ns ks ss B)) w2:=h2
 obtain ⟨p,hp⟩:∃p,p=pickF (2 * nBits T.vars) ns a:=⟨_,rfl⟩
 have hpt:eval ns p a=true:=by rw [hp]; exact pick_true hG.ok.wf ha.ok.1 h0
 rw [←hp] at h2
 rw [ha.ok.2,Bool.and_eq_true] at hpt
 have hst:StN T.vars (rs T.vars p 0):=okB_iff.1 hpt.1
 have h2s:=h2.by Imp.dr
 have os2:=SpcA.obj h2s
 unfold spO at os2
 rw [hG.cells.1] at os2
 have hT2:=SpcA.tsk h2s
 simp (disch:=omega) [cell_blk os2,hT2.vars.len]
 obtain ⟨n,hn⟩:∃n,n=T.vars.length:=⟨_,rfl⟩
 have h3:=h2.made (E:=3) (enc:=nE) (x:=0) (z:=[.int .i64 0]) (n:=n) (Lcl.own.star hLS) rfl nE_len (by unfold maxLen; omega)
 rw [hn,←pL_zero T.vars p,←hn] at h3
 rw [←hn]
 refine gd_mk (by omega) ?_
 simp
 obtain ⟨ov,hov⟩:∃ov,ov=Value.slice (some ⟨w2.heap.size,0,none⟩) n n:=⟨_,rfl⟩
 rw [←hov] at h3 ⊢
 refine range_loop (n:=n) (by omega) (fun v ρ w'=>PkI s m lim T q ns ks ss B w F p bw ov v 0 ρ w') (by simp) (by simp)
  ⟨by simp,by simp,by simp,h3⟩ (by decide) (fun _ _ _ _ h=>by unfold PkI at h ⊢; simpa using h) (fun _ _ _ _ h=>by unfold PkI at h ⊢; simpa using h) ?_ ?_
 ·rintro v ρ w4 hv hcv hlv ⟨e0,e6,e8,h4⟩
  have hvt:v < T.vars.length:=by omega
  obtain ⟨nn,hvn⟩:∃nn,T.vars[v]? = some nn:=⟨_,List.getElem?_eq_getElem hvt⟩
  have hnd:T.vars.getD v 0=nn:=by simp [List.getD,hvn]
  have hw6:=wd_le nn
  obtain ⟨W,hW⟩:∃W,W=wd nn:=⟨_,rfl⟩
  rw [←hW] at hw6
  have h4s:=(h4.by Imp.dr).by Imp.dr
  have os4:=SpcA.obj h4s
  unfold spO at os4
  have hwv4:=SpcA.wv h4s
  have hwc:=nE_cell hwv4 (widthL_at hvn)
  rw [←hW] at hwc
  have hvw:(v:Int) < (widthL T.vars).length:=by simp [widthL]; omega
  simp (disch:=omega) [e0,hcv,hlv,cell_blk os4,hwv4.idx,hwc]
  obtain ⟨g,hg⟩:∃g:Nat→Bool,g=fun k=>p (2 * (bP T.vars v+k)):=⟨_,rfl⟩
  refine range_loop (n:=W) (by omega) (fun k ρ w'=>ρ 9=.int .i64 (v:Nat)∧ρ 42=.int .i64 (n:Nat)∧ρ 43=.int .i64 (v:Nat)∧PkI s m lim T q ns ks ss B w F p bw ov v (valK g k) ρ w') (by simp) (by simp)
   ⟨by simp,by simp [hlv],by simp [hcv],by simp [e0],by simp [e6],by simp [e8],h4⟩ (by decide) (fun _ _ _ _ h=>by unfold PkI at h ⊢; simpa using h) (fun _ _ _ _ h=>by unfold PkI at h ⊢; simpa using h) ?_ ?_
  ·rintro k ρ w5 hk hck hlk ⟨g9,g42,g43,g0,g6,g8,h5⟩
   obtain ⟨x,hx⟩:∃x,x=valK g k:=⟨_,rfl⟩
   have hxl:x < 64:=by
    have h1:=valK_lt g k
    have h2:2 ^ k≤2 ^ 5:=Nat.pow_le_pow_right (by omega) (by omega)
    omega
   rw [←hx] at h5
   have hl5:(pL T.vars p v x).length=n:=by rw [pL_len,hn]
   have hc5:=h5.own.cell nE_len (pL_get (p:=p) (x:=x) hvt) (o:=0) (by omega)
   rw [Nat.mul_one,Nat.add_zero] at hc5
   have hc5:w5.cell? ⟨ov.blk,v,none⟩=some (.int .i64 (x:Nat)):=hc5
   obtain ⟨y,hy⟩:∃y,y=2 * x:=⟨_,rfl⟩
   have ey:(x:Int) * 2=(y:Int):=by omega
   have h5d:=h5.drew (Lcl.own.star (Lcl.own.star hLS))
   simp (disch:=omega) [g0,g8,g9,g43,hck,hlk,h5.own.idx,hl5,hc5,ey,wrap_i64]
   refine h5.store1 (x:=y) (Lcl.own.star hLS) nE_len nE_one (by rw [hl5]; omega) rfl fun w6 h6=>?_
   rw [pL_set] at h6
   simp only [↓wpT_nil,put_none,merge_nil,rangeQ_nrm]
   have h6s:=(h6.by Imp.dr).by Imp.dr
   have os6:=SpcA.obj h6s
   unfold spO at os6
   have hfv6:=SpcA.fv h6s
   have hfc6:=nE_cell hfv6 (firstL_at hvt)
   have hvf:(v:Int) < (firstL T.vars).length:=by simp [firstL]; omega
   have hbp:=bP_in hvn (show k < wd nn by omega)
   obtain ⟨p2,hp2⟩:∃p,p=bP T.vars v+k:=⟨_,rfl⟩
   have ei1:(bP T.vars v:Int)+(k:Int)=(p2:Int):=by omega
   obtain ⟨p3,hp3⟩:∃p,p=2 * p2:=⟨_,rfl⟩
   have ei2:2 * (p2:Int)=(p3:Int):=by omega
   have hbw:=(h6.by Imp.dr).own
   have hbl:((List.range (2 * nBits T.vars)).map p).length=2 * nBits T.vars:=by simp
   have hp3l:p3 < 2 * nBits T.vars:=by omega
   have hbc:=hbw.cell bv_len (show ((List.range (2 * nBits T.vars)).map p)[p3]? = some (p p3) by simp [hp3l]) (o:=0) (by omega)
   rw [Nat.mul_one,Nat.add_zero] at hbc
   have hbc:w6.cell? ⟨bw.blk,p3,none⟩=some (.bool (p p3)):=hbc
   have hgk:g k=p p3:=by rw [hg,hp3,hp2]
   have hp3i:(p3:Int) < 2 * (nBits T.vars:Nat):=by omega
   have hv2:valK g (k+1)=y+if p p3=true then 1 else 0:=by rw [valK_succ,hgk,←hx,hy]
   cases hb:p p3 with
   | true =>
    rw [hb] at hbc hv2
    rw [if_pos rfl] at hv2
    have hl6:(pL T.vars p v y).length=n:=by rw [pL_len,hn]
    have hc6:=h6.own.cell nE_len (pL_get (p:=p) (x:=y) hvt) (o:=0) (by omega)
    rw [Nat.mul_one,Nat.add_zero] at hc6
    have hc6:w6.cell? ⟨ov.blk,v,none⟩=some (.int .i64 (y:Nat)):=hc6
    obtain ⟨z,hz⟩:∃z,z=y+1:=⟨_,rfl⟩
    have ez:(y:Int)+1=(z:Int):=by omega
    have h6d:=h6.drew (Lcl.own.star (Lcl.own.star hLS))
    simp (disch:=omega) [g0,g6,g8,g9,hck,hlk,cell_blk os6,hfv6.idx,hfc6,ei1,ei2,ez,wrap_i64,hbw.idx,hbl,hbc,h6.own.idx,hl6,hc6]
    refine h6.store1 (x:=z) (Lcl.own.star hLS) nE_len nE_one (by rw [hl6]; omega) rfl fun w7 h7=>?_
    rw [pL_set,hz,←hv2] at h7
    simp only [↓wpT_nil,put_none,merge_nil,rangeQ_nrm]
    simp [g9,g42,g43,hck,hlk]
    exact ⟨by simpa using g0,by simpa using g6,by simpa using g8,h7⟩
   | false =>
    rw [hb] at hbc hv2
    have hv2:valK g (k+1)=y:=hv2
    rw [←hv2] at h6
    simp (disch:=omega) [g0,g6,g8,g9,hck,hlk,cell_blk os6,hfv6.idx,hfc6,ei1,ei2,wrap_i64,hbw.idx,hbl,hbc,g42,g43]
    exact ⟨by simpa using g0,by simpa using g6,by simpa using g8,h6⟩
  ·rintro ρ w5 ⟨g9,g42,g43,g0,g6,g8,h5⟩
   have er:valK g W=rv T.vars p 0 v:=by
    unfold rv
    rw [hnd,←hW,hg]
    rfl
   rw [er,pL_next] at h5
   simp [g42,g43]
   exact ⟨by simp [g0],by simp [g6],by simp [g8],h5⟩
 rintro ρ w4 ⟨e0,e6,e8,h4⟩
 rw [hn,pL_end] at h4
 simp [e8]
 rw [←hp]
 exact ⟨hst,hpt.2,SpcA.into (h4.by (Imp.un Imp.dr))⟩
theorem spick_zero (a:Nat) (P:List Nat→Bool) (hG:SpG lim T q ns ks ss) (hB:Lcl B) (h:At w F (SpcA s m lim T q ns ks ss B) w1) (ha:Kn T ns ks a P) (h0:a=0) :
  Calls Tryz.prog 22 [.pointer (some ⟨s,0,none⟩),.int .i64 (a:Nat)].toArray w1 fun en w'=>∃v,en=.returned v∧v=.tuple #[.slice none 0 0,errV 3]∧At w F (SpcA s m lim T q ns ks ss B) w':=by
 refine enter Tryz.func22 mixed low22 (Nat.le_of_ble_eq_true rfl) ?_
 simp only [L22]
 have os:=SpcA.obj h
 unfold spO at os
 rw [hG.cells.1] at os
 have hale:=ha.le hG
 have hka:i64ok a:=by unfold i64ok; omega
 simp [cell_blk os]
 refine MapM.look1 (x:=a) (SpcA.km h) bkeyI Tryz.underlying72 zbool hka ?_
 simp [ha.kn,boolV,cell_blk os]
 have h':=h
 unfold SpcA at h'
 subst h0
 refine cl_of (pick_zero m (2 * nBits T.vars) lim ns (SpcA.rest hB) h' hG.ok.bnd) ?_
 rintro _ w2 ⟨rfl,h2⟩
 simp [errV,berrV]
 exact h2
end
end Go.Proofs.YtcoeknnghfajnaaGreat
end
section
namespace Go.Proofs.YtcoeknnghfajnaaGreat
open Go Go.W Go.Tk Go.Rx Go.Bd Go.Sy Go.Maps
theorem getM_ksR {ks:List (Nat × Bool)} {x y:Nat} {e:Bool} (h:getM ks y=some true):getM (ksR ks x e) y=some true:=by
 unfold ksR
 split
 ·exact h
 ·by_cases hxy:y=x
  ·subst hxy; exact getM_put _ _ _
  ·rw [getM_put_ne (Ne.symm hxy)]; exact h
theorem Kn.step {lim:Nat} {T':Nt} {ns ns':Ns} {ks:List (Nat × Bool)} {x y:Nat} {e e':Bool} {P:List Nat→Bool} {W:BFn→Prop} (h:Kn T' ns ks y P) (hw:SpOk T'.vars lim ns) (hs:Stp (2 * nBits T'.vars) lim W false ns e' ns'):Kn T' ns' (ksR ks x e) y P :=
 ⟨getM_ksR h.kn,h.ok.stp hw hs⟩
theorem set_none (vars:List Nat) (ns:Ns):SetOk vars ns 0 fun _=>false:=⟨by unfold Ref; omega,fun a=>by simp [eval]⟩
structure AcsR (w:World) (av:Value) (cs:List Ac):Prop where
 vw:Vw w av acE cs
 p:∀c ∈ cs,Vw w c.pv.1 faE c.p
 k:∀c ∈ cs,c.k≤255
 a:∀c ∈ cs,c.a≤255
 b:∀c ∈ cs,c.b≤255
 l:∀c ∈ cs,c.p.length≤9223372036854775807
theorem AcsR.kp {w w':World} {av:Value} {cs:List Ac} (h:AcsR w av cs) (k:Kp [] w w'):AcsR w' av cs:=⟨h.vw.kp0 k,fun c hc=>(h.p c hc).kp0 k,h.k,h.a,h.b,h.l⟩
theorem zp_append {w w1:World} {F:List Nat} {B:Asr} {ov:Value} {l:List Pr} {x:Pr} {KV:Kont (Value × World)} (hB:Lcl B) (h:At w F (Star (OwnA ov 53 2 zpE l) B) w1) (hl:l.length≤1000000)
  (H:∀v' w2,At w F (Star (OwnA v' 53 2 zpE (l ++ [x])) B) w2→KV.run (v',w2)) :
  @efH Tryz.prog (Builtin.append_ #[47,47] 47 [ov,.slice (some ⟨w1.heap.size,0,none⟩) 1 1].toArray) (w1.alloc (.cells #[.int .i64 (x.1:Nat),x.2.1.1] 53)) KV:=by
 have h4:=h.kp0 (Lcl.own.star hB) ((Kp.refl [] w1).alloc (.cells #[.int .i64 (x.1:Nat),x.2.1.1] 53))
 refine At.append (xs:=[x]) hB h4 zpE_len zpE_one sl_47 rfl (fun j u hj=>?_) (by omega) (by unfold maxLen; omega) fun v' w5 h5=>H v' w5 h5
 simp [zpE] at hj
 rw [add_none,cell_blk alloc_new]
 simpa using hj
def acZ:Obj:=.cells #[.int .u8 0,.int .u8 0,.int .u8 0,.slice none 0 0] 50 (0,0)
theorem rd_ac {w:World} {b:Nat} {c:Ac} (h:w.heap[b]? = some (acO c)):cellsAt w ⟨b,0,none⟩ 0 4=some [.int .u8 (c.k:Nat),.int .u8 (c.a:Nat),.int .u8 (c.b:Nat),c.pv.1]:=by
 unfold acO at h
 simp [cellsAt,Addr.add,cell_blk h]
def SeI (s m:Nat) (T T':Nt) (q:SpC) (B:Asr) (w:World) (F:List Nat) (i:Nat) (lv:Value) (w':World):Prop :=
 ∃ns ks ss ps,RunZ T' 1048576 (i * actZ (nBits T'.vars)) ns∧SpG 1048576 T' q ns ks ss∧(∀p ∈ ps,Kn T' ns ks p.1 p.2.2)∧ps.length=2+i∧ks.length≤2+i∧ss.length≤i∧At w F (SpcA s m 1048576 T' q ns ks ss (PrsA T.vars lv ps B)) w'
def SeB (sv:Value) (rs:List (Cell1 × List Nat)) (B:Asr):Asr:=Star (OwnA sv 22 1 sv1 rs) (Star (VwsA nE rs) B)
theorem SeB.lcl {sv:Value} {rs:List (Cell1 × List Nat)} {B:Asr} (hB:Lcl B):Lcl (SeB sv rs B):=Lcl.own.star (Lcl.vws.star hB)
def SeJ (s m:Nat) (T':Nt) (q:SpC) (ks:List (Nat × Bool)) (ss:List (Nat × Nat)) (ps:List Pr) (B:Asr) (w:World) (F:List Nat) (i:Nat) (w':World):Prop :=
 ∃ns,RunZ T' 1048576 (20 * actZ (nBits T'.vars)+i * ctC (nBits T'.vars)) ns∧SpG 1048576 T' q ns ks ss∧(∀p ∈ ps,Kn T' ns ks p.1 p.2.2)∧At w F (SpcA s m 1048576 T' q ns ks ss B) w'
end Go.Proofs.YtcoeknnghfajnaaGreat
end
section
namespace Go.Proofs.YtcoeknnghfajnaaGreat
open Go Go.W Go.Tk Go.Rx Go.Bd Go.Sy Go.Maps
theorem ct_lt {T:Nt} (hT:SmT T) (P:List Nat→Bool):ctN T.vars P≤512:=by
 have h1:(List.filter P (stsK T.vars T.vars.length)).length≤_:=List.length_filter_le _ _
 have h2:nS T.vars≤512:=sts512 hT
 unfold nS at h2
 unfold ctN
 omega
theorem bas_vars {T T':Nt} (h:T'.vars=T.vars):BasS T'=BasS T:=by
 unfold BasS NewS
 rw [h]
set_option maxHeartbeats 2000000 in
theorem law_ssets {w:World} (t:Tk) (av:Value) (cs:List Ac) (ht:TkR w t) (hl:TkL t) (hc:AcsR w av cs) (hcl:cs.length≤9223372036854775807) :
  Calls Tryz.prog 5 [tkV t,av].toArray w fun e w'=>∃x,e=.returned x∧x=.bool true∧Kp [] w w':=by
 refine enter Tryz.func5 mixed low5 (Nat.le_of_ble_eq_true rfl) ?_
 simp only [L5]
 obtain ⟨tb,htb⟩:∃tb,tb=w.heap.size:=⟨_,rfl⟩
 obtain ⟨w1,hw1⟩:∃w1,w1=w.alloc (tkO t):=⟨_,rfl⟩
 obtain ⟨R,hR⟩:∃R,R=List.range w.heap.size:=⟨_,rfl⟩
 have hw1':w.alloc (.cells #[t.vv.1,t.nv.1,t.gv.1,t.ov.1] 26 (0,0))=w1:=by rw [hw1]; rfl
 obtain ⟨B,hB⟩:∃B,B=Star (ObjA tb (tkO t)) (OldA w):=⟨_,rfl⟩
 have hLB:Lcl B:=by rw [hB]; exact Lcl.obj.star OldA.lcl
 have h1:At w R B w1:=by rw [hB,htb,hw1,hR]; exact At.alloc _ OldA.lcl (OldA.start w)
 have rO:Rds B fun w'=>w'.heap[tb]? = some (tkO t):=by rw [hB]; exact Rds.obj
 have rK:Rds B fun w'=>Kp [] w w':=by rw [hB]; exact Rds.star (OldA.rds fun w' k=>k)
 have at0:∀{w'},At w R B w'→w'.heap[tb]? = some (tkO t)∧Kp [] w w':=fun h=>by
  obtain ⟨⟨F',h2,_⟩,_⟩:=h
  exact ⟨rO _ _ h2,rK _ _ h2⟩
 have ob1:=(at0 h1).1
 simp [tkV,←htb,hw1',rd_tk ob1]
 refine cl_of (small_spec t (ht.kp (at0 h1).2) hl) ?_
 rintro _ w2 ⟨rfl,k2⟩
 have h2:=h1.kp0 hLB k2
 cases hsm:smallB t with
 | false =>
  simp
  refine cl_of (awake_spec hLB h2) ?_
  rintro _ w3 ⟨rfl,h3⟩
  simp
  exact (at0 h3).2
 | true =>
  obtain ⟨T,rfl,hT⟩:=small_nat hl hsm
  have hr:=NtR.raw.1 ht
  by_cases h20:(20:Int) < cs.length
  ·have h20':20 < cs.length:=by omega
   simp [(hc.kp (at0 h2).2).vw.len,h20,h20']
   refine cl_of (awake_spec hLB h2) ?_
   rintro _ w3 ⟨rfl,h3⟩
   simp
   exact (at0 h3).2
  have h20':¬20 < cs.length:=by omega
  simp [(hc.kp (at0 h2).2).vw.len,h20,h20']
  refine cl_of (awake_spec hLB h2) ?_
  rintro _ w3 ⟨rfl,h3⟩
  have rN:Rds B fun w'=>NtR w' T:=by rw [hB]; exact Rds.star (OldA.rds fun w' k=>hr.kp k)
  have rC:Rds B fun w'=>AcsR w' av cs:=by rw [hB]; exact Rds.star (OldA.rds fun w' k=>hc.kp k)
  simp [rd_tk (at0 h3).1,raw_vv,raw_nv,raw_gv,raw_ov]
  have hA0:Alk T T:=⟨rfl,rfl,rfl,rfl⟩
  have hK0:=smc hT hA0
  refine cl_of (snew_spec T 1048576 hLB h3 rN hT.g hT.good hl (by omega) (by omega) (newW (W:=BasS T) fun G h=>.inl h)) ?_
  rintro _ w4 hnew
  have hbits:=(sm_bs hT).1
  rcases hnew with ⟨hbig,_⟩ | ⟨_,e,ns,hs,hnew⟩
  ·omega
  have hsn:=sets_num (nBits T.vars) (by omega)
  unfold setsN at hsn
  have hns:e=false:=(RunZ.start hK0 (hs.mono fun G h=>.inl h) (by omega)).1
  subst hns
  rcases hnew with ⟨h,_⟩ | ⟨_,s,m,T',q,hA,rfl,hG,h4⟩
  ·cases h
  have hK:=smc hT hA
  rw [←hA.vars] at hsn
  have hr0:RunZ T' 1048576 0 ns:=by
   refine (RunZ.start hK (e:=false) ?_ (by omega)).2
   rw [hA.vars]
   refine hs.mono fun G hG=>.inl ?_
   rw [bas_vars hA.vars]
   exact hG
  simp
  have h4d:=SpcA.frame h4 rO
  simp [rd_tk h4d,raw_vv,raw_nv,raw_gv,raw_ov]
  refine cl_of (ybegin_spec hG hLB h4 hT rN) ?_
  rintro lv w5 ⟨c0,c1,h5⟩
  have rC5:∀{ns ks ss lv ps w'},At w R (SpcA s m 1048576 T' q ns ks ss (PrsA T.vars lv ps B)) w'→AcsR w' av cs∧w'.heap[tb]? = some (tkO T.raw)∧Kp [] w w':=fun h=>by
   have e1:∀{P:World→Prop},Rds B P→P _:=fun hP=>SpcA.frame h (by unfold PrsA; exact Rds.star (Rds.star hP))
   exact ⟨e1 rC,e1 rO,e1 rK⟩
  have hks0:(putM [((0:Nat),true)] q.all true).length≤2:=putM_len_le
  obtain ⟨NA,hNA⟩:∃N,N=actZ (nBits T'.vars):=⟨_,rfl⟩
  obtain ⟨NC,hNC⟩:∃N,N=ctC (nBits T'.vars):=⟨_,rfl⟩
  rw [←hNA,←hNC] at hsn
  have I5:SeI s m T T' q B w R 0 lv w5:=by
   refine ⟨ns,_,[],_,by rw [Nat.zero_mul]; exact hr0,hG,fun p hp=>?_,by simp,hks0,by simp,h5⟩
   simp at hp
   rcases hp with rfl | rfl
   ·refine ⟨?_,set_none _ _⟩
    by_cases h0:q.all=0
    ·rw [h0]; exact getM_put _ _ _
    ·rw [getM_put_ne h0]; rfl
   ·exact ⟨getM_put _ _ _,hG.all⟩
  have acs5:=(rC5 h5).1
  simp [acs5.vw.len]
  refine range_loop (n:=cs.length) (by omega) (fun i ρ w'=>ρ 2=.pointer (some ⟨tb,0,none⟩)∧ρ 5=.pointer (some ⟨s,0,none⟩)∧ρ 48=av∧SeI s m T T' q B w R i (ρ 7) w') (by simp) (by simp)
   ⟨by simp,by simp,by simp,by simpa using I5⟩ (by decide) (fun _ _ _ _ h=>by simpa using h) (fun _ _ _ _ h=>by simpa using h) ?_ ?_
  ·rintro i ρ w6 hi hci hli ⟨g2,g5,g48,ns6,ks6,ss6,ps6,hr6,hG6,hk6,hp6,hkl6,hsl6,h6⟩
   obtain ⟨c,hcc⟩:∃c,cs[i]? = some c:=⟨_,List.getElem?_eq_getElem hi⟩
   have hcm:=List.mem_of_getElem? hcc
   have acs6:=(rC5 h6).1
   have ec:=acs6.vw.cells acE_len hcc
   simp only [acE] at ec
   have hii:(i:Int) < cs.length:=by omega
   obtain ⟨lv6,hlv6⟩:∃lv6,lv6=ρ 7:=⟨_,rfl⟩
   rw [←hlv6] at h6
   have hLP:Lcl (PrsA T.vars lv6 ps6 B):=PrsA.lcl hLB
   obtain ⟨cb,hcb⟩:∃cb,cb=w6.heap.size:=⟨_,rfl⟩
   have h6a:At w R (Star (ObjA cb acZ) (SpcA s m 1048576 T' q ns6 ks6 ss6 (PrsA T.vars lv6 ps6 B))) (w6.alloc acZ):=by rw [hcb]; exact At.alloc _ (SpcA.lcl hLP) h6
   unfold acZ at h6a
   simp (disch:=omega) [g2,g5,g48,hci,hli,acs6.vw.idx,ec,←hcb]
   refine h6a.st (SpcA.lcl hLP) (by simp) (by simp [c.pv.2]) fun w7 h7=>?_
   have h7':At w R (Star (ObjA cb (acO c)) (SpcA s m 1048576 T' q ns6 ks6 ss6 (PrsA T.vars lv6 ps6 B))) w7:=by simpa [acO] using h7
   have ob7:=(rC5 h7'.drop).2.1
   simp [g2,g5,←hcb,←hlv6,rd_tk ob7,rd_ac h7'.obj,raw_vv,raw_nv,raw_gv,raw_ov]
   refine cl_of (ydo_spec c hG6 hLB h7'.drop hA hT rN (fun w' F' hs=>(rC w' F' hs).p c hcm) hk6 (by omega) (by omega) (hc.a c hcm) (hc.b c hcm) (hc.k c hcm) (hc.l c hcm) (by omega) (by omega)) ?_
   rintro _ w8 ⟨x',e',ns',ss',cc,P',cst,rfl,hs',hact,hok',hG',hsl',h8⟩
   have hmul:(i+1) * NA≤20 * NA:=Nat.mul_le_mul_right _ (by omega)
   rw [Nat.add_mul,Nat.one_mul] at hmul
   obtain ⟨he',hr'⟩:=RunZ.step hr6 hK hs' hact (by rw [←hNA]; omega)
   subst he'
   have hLV:Lcl (Star (VwA cc.1 bE (stT T.vars P')) (PrsA T.vars lv6 ps6 B)):=Lcl.vw.star hLP
   obtain ⟨pb,hpb⟩:∃pb,pb=w8.heap.size:=⟨_,rfl⟩
   have h8a:At w R (Star (ObjA pb zpZ) (SpcA s m 1048576 T' q ns' (ksR ks6 x' false) ss' (Star (VwA cc.1 bE (stT T.vars P')) (PrsA T.vars lv6 ps6 B)))) (w8.alloc zpZ):=by rw [hpb]; exact At.alloc _ (SpcA.lcl hLV) h8
   unfold zpZ at h8a
   simp [zpV,←hpb,cells_o1 cc.2]
   refine h8a.st (SpcA.lcl hLV) (by simp) (by simp [cc.2]) fun w9 h9=>?_
   have h9':At w R (Star (ObjA pb (zpO (x',cc,P'))) (SpcA s m 1048576 T' q ns' (ksR ks6 x' false) ss' (Star (VwA cc.1 bE (stT T.vars P')) (PrsA T.vars lv6 ps6 B)))) w9:=by simpa [zpO] using h9
   have hksl:(ksR ks6 x' false).length≤ks6.length+1:=ksR_len
   have hk9:∀p ∈ ps6,Kn T' ns' (ksR ks6 x' false) p.1 p.2.2:=fun p hp=>(hk6 p hp).step hG6.ok hs'
   have h10:=SpcA.out (h9'.drop.by (SpcA.map (Imp.sw.trans (Imp.un (VwsA.add cc.2)))))
   have hL10:Lcl (SpcA s m 1048576 T' q ns' (ksR ks6 x' false) ss' (Star (VwsA bE (ps6.map (zpW T.vars) ++ [(⟨cc.1,cc.2⟩,stT T.vars P')])) B)):=SpcA.lcl (Lcl.vws.star hLB)
   simp [g2,g5,g48,hci,hli,←hlv6,←hpb,rd_zp h9'.obj,cells_o1 cc.2,rowOf]
   refine zp_append (x:=(x',cc,P')) hL10 h10 (by omega) fun v' w11 h11=>?_
   simp [g2,g5,g48,hci,hli]
   refine ⟨ns',_,ss',ps6 ++ [(x',cc,P')],?_,hG',fun p hp=>?_,by simp; omega,by omega,by omega,?_⟩
   ·rw [Nat.add_mul,Nat.one_mul]
    exact hr'
   ·rcases List.mem_append.1 hp with h | h
    ·exact hk9 p h
    ·simp at h
     subst h
     exact ⟨getM_put _ _ _,hok' rfl⟩
   ·unfold PrsA
    rw [List.map_append]
    exact SpcA.into h11
  rintro ρ w6 ⟨g2,g5,g48,ns6,ks6,ss6,ps6,hr6,hG6,hk6,hp6,hkl6,hsl6,h6⟩
  obtain ⟨lv6,hlv6⟩:∃lv6,lv6=ρ 7:=⟨_,rfl⟩
  rw [←hlv6] at h6
  have hLP:Lcl (PrsA T.vars lv6 ps6 B):=PrsA.lcl hLB
  have oc6:=(rC5 h6).2.1
  unfold tkO at oc6
  have hvl:=hT.vl
  have hN:nS T.vars≤512:=sts512 hT
  simp [g2,cell_blk oc6,raw_vv]
  refine cl_of (states_spec T.vv.1 T.vars (SpcA.frame h6 (show Rds (PrsA T.vars lv6 ps6 B) fun w'=>NtR w' T by unfold PrsA; exact Rds.star (Rds.star rN))).vars (by omega) (fun n hn=>by have:=hT.g.vars n hn; omega) (SmT.sts hT) (fun k hk s hs=>by have:=(sts_ok k hk s hs).1; omega)) ?_
  rintro sv w7 h7
  obtain ⟨rs,hrs,h7a⟩:=LLA.opn (At.join (SpcA.lcl hLP) h6 h7)
  have h7b:=SpcA.into (h7a.by (Imp.un SpcA.intoI))
  obtain ⟨X,hX⟩:∃X,X=SeB sv rs (PrsA T.vars lv6 ps6 B):=⟨_,rfl⟩
  have hLX:Lcl X:=by rw [hX]; exact SeB.lcl hLP
  have h7c:At w R (SpcA s m 1048576 T' q ns6 ks6 ss6 X) w7:=by rw [hX]; exact h7b
  have rsv:Rds X fun w'=>Vw w' sv sv1 rs:=by rw [hX]; exact Rds.own
  have rrw:∀r ∈ rs,Rds X fun w'=>Vw w' r.1.1 nE r.2:=fun r hr=>by rw [hX]; exact Rds.star (Rds.vws hr)
  have rpv:Rds X fun w'=>Vw w' lv6 zpE ps6:=by rw [hX]; exact Rds.star (Rds.star Rds.own)
  have rps:∀p ∈ ps6,Rds X fun w'=>Vw w' p.2.1.1 bE (stT T.vars p.2.2):=fun p hp=>by rw [hX]; exact Rds.star (Rds.star (Rds.star (Rds.vws (p:=zpW T.vars p) (List.mem_map.2 ⟨p,hp,rfl⟩))))
  have rB:∀{P:World→Prop},Rds B P→Rds X P:=fun h=>by rw [hX]; exact Rds.star (Rds.star (Rds.star (Rds.star h)))
  clear h7a h7b
  have hrl:rs.length=nS T.vars:=by unfold nS; rw [←hrs]; simp
  have hmul:cs.length * NA≤20 * NA:=Nat.mul_le_mul_right _ (by omega)
  have J7:SeJ s m T' q ks6 ss6 ps6 X w R 0 w7:=⟨ns6,hr6.mono (by rw [←hNA]; omega),hG6,hk6,h7c⟩
  have hv64:∀n ∈ T'.vars,n≤64:=fun n hn=>(hK.vars n hn).2
  simp [←hlv6,(SpcA.frame h7c rpv).len]
  refine range_loop (n:=ps6.length) (by omega) (fun i ρ w'=>ρ 2=.pointer (some ⟨tb,0,none⟩)∧ρ 5=.pointer (some ⟨s,0,none⟩)∧ρ 7=lv6∧ρ 12=sv∧ρ 72=lv6∧SeJ s m T' q ks6 ss6 ps6 X w R i w') (by simp) (by simp)
   ⟨by simp [g2],by simp [g5],by simp [hlv6],by simp,by simp [hlv6],J7⟩ (by decide) (fun _ _ _ _ h=>by simpa using h) (fun _ _ _ _ h=>by simpa using h) ?_ ?_
  rotate_left
  ·rintro ρ w8 ⟨g2,g5,g7,g12,g72,ns8,hr8,hG8,hk8,h8⟩
   simp
   exact SpcA.frame h8 (rB rK)
  clear hr6 hG6 hk6 h7c h6 h7 J7 h5 I5 acs5 hr0 hG
  rintro i ρ w8 hi hci hli ⟨g2,g5,g7,g12,g72,ns8,hr8,hG8,hk8,h8⟩
  obtain ⟨p,hp⟩:∃p,ps6[i]? = some p:=⟨_,List.getElem?_eq_getElem hi⟩
  have hpm:=List.mem_of_getElem? hp
  have hv8:=SpcA.frame h8 rpv
  have ep:=hv8.cells zpE_len hp
  simp only [zpE] at ep
  have hii:(i:Int) < ps6.length:=by omega
  obtain ⟨pb,hpb⟩:∃pb,pb=w8.heap.size:=⟨_,rfl⟩
  have h8a:At w R (Star (ObjA pb zpZ) (SpcA s m 1048576 T' q ns8 ks6 ss6 X)) (w8.alloc zpZ):=by rw [hpb]; exact At.alloc _ (SpcA.lcl hLX) h8
  unfold zpZ at h8a
  simp (disch:=omega) [g2,g5,g7,g12,g72,hci,hli,hv8.idx,ep,←hpb]
  refine h8a.st (SpcA.lcl hLX) (by simp) (by simp [p.2.1.2]) fun w9 h9=>?_
  have h9':At w R (Star (ObjA pb (zpO p)) (SpcA s m 1048576 T' q ns8 ks6 ss6 X)) w9:=by simpa [zpO] using h9
  obtain ⟨Y,hY⟩:∃Y,Y=Star (ObjA pb (zpO p)) X:=⟨_,rfl⟩
  have hLY:Lcl Y:=by rw [hY]; exact Lcl.obj.star hLX
  have h9c:At w R (SpcA s m 1048576 T' q ns8 ks6 ss6 Y) w9:=by rw [hY]; exact SpcA.into h9'
  have rX:∀{P:World→Prop},Rds X P→Rds Y P:=fun h=>by rw [hY]; exact Rds.star h
  have rp:Rds Y fun w'=>w'.heap[pb]? = some (zpO p):=by rw [hY]; exact Rds.obj
  have op9:=SpcA.frame h9c rp
  unfold zpO at op9
  clear h9 h9' h8a
  simp [g5,←hpb,cell_blk op9]
  refine cl_of (count_spec p.1 p.2.2 hG8 hLY h9c (hk8 p hpm) (W:=fun G=>W0Z T' G∨G=ctF T'.vars p.2.2) (litZ (W:=fun G=>G=ctF T'.vars p.2.2)) (zbZ (W:=fun G=>G=ctF T'.vars p.2.2)) (.inr rfl)) ?_
  rintro _ w10 ⟨e',ns',rfl,hs',hG',h10⟩
  have hmul2:(i+1) * NC≤22 * NC:=Nat.mul_le_mul_right _ (by omega)
  rw [Nat.add_mul,Nat.one_mul] at hmul2
  obtain ⟨he',hr'⟩:=RunZ.step hr8 hK hs' (N1:=ctC (nBits T'.vars)) ((cov_gt (ctF_g _ _)).mono (fun G h=>h.1.elim (fun h1=>absurd h1 h.2) id) (Nat.le_refl _)) (by rw [←hNA,←hNC]; omega)
  subst he'
  have hk10:∀z ∈ ps6,Kn T' ns' ks6 z.1 z.2.2:=fun z hz=>⟨(hk8 z hz).kn,(hk8 z hz).ok.stp hG8.ok hs'⟩
  rw [ct_num hv64,if_neg (by simp)]
  have hfin:∀w',At w R (SpcA s m 1048576 T' q ns' ks6 ss6 X) w'→SeJ s m T' q ks6 ss6 ps6 X w R (i+1) w':=fun w' h=>⟨ns',by rw [Nat.add_mul,Nat.one_mul,←Nat.add_assoc]; exact hr',hG',hk10,h⟩
  obtain ⟨n,hn⟩:∃n,n=ctN T'.vars p.2.2:=⟨_,rfl⟩
  have hnl:n≤512:=by rw [hn,hA.vars]; exact ct_lt hT _
  rw [←hn]
  have hmany:n < many:=by unfold many; omega
  rw [show cntV n=okV n by unfold cntV; rw [if_pos hmany]]
  have op10:=SpcA.frame h10 rp
  have ob10:=SpcA.frame h10 (rX (rB rO))
  simp [okV,g2,g5,rd_tk ob10,rd_zp op10,raw_vv,raw_nv,raw_gv,raw_ov]
  refine cl_of (ymeans_spec p hG' hLY h10 hA hT (rX (rB rN)) (rX (rps p hpm)) (hk10 p hpm)) ?_
  rintro _ w11 ⟨rfl,h11⟩
  have op11:=SpcA.frame h11 rp
  unfold zpO at op11
  simp [cell_blk op11]
  refine cl_of (zcount_spec p.2.1.1 (stT T.vars p.2.2) (SpcA.frame h11 (rX (rps p hpm))) (by rw [stT_len]; omega)) ?_
  rintro _ w12 ⟨rfl,k12⟩
  rw [ct_sts,←hA.vars,←hn]
  have h12:=At.kp0 (SpcA.lcl hLY) h11 k12
  have hv12:=SpcA.frame h12 (rX rpv)
  simp [g7,hci]
  refine hv12.slice_hi zpE_len sl_47 (hi:=i) (by omega) fun v' hv' _=>?_
  have htl:(ps6.take i).length=i:=by simp; omega
  simp [hv'.len,htl]
  obtain ⟨R2,hR2⟩:∃R2,R2=List.range w12.heap.size:=⟨_,rfl⟩
  have o12:At w12 R2 (OldA w12) w12:=by rw [hR2]; exact OldA.start w12
  have ko:∀{w'},At w12 R2 (OldA w12) w'→Kp [] w12 w':=fun h=>by
   obtain ⟨⟨F',h2,_⟩,_⟩:=h
   exact (OldA.rds fun w' k=>k) _ _ h2
  refine range_loop (n:=i) (by omega) (fun j ρ w'=>ρ 2=.pointer (some ⟨tb,0,none⟩)∧ρ 5=.pointer (some ⟨s,0,none⟩)∧ρ 7=lv6∧ρ 12=sv∧ρ 14=.pointer (some ⟨pb,0,none⟩)∧ρ 15=.int .i64 (n:Nat)∧ρ 72=lv6∧ρ 73=.int .i64 (ps6.length:Nat)∧ρ 74=.int .i64 (i:Nat)∧ρ 104=v'∧At w12 R2 (OldA w12) w') (by simp) (by simp)
   ⟨by simp [g2],by simp [g5],by simp [g7],by simp [g12],by simp,by simp,by simp [g72],by simp [hli],by simp [hci],by simp,o12⟩ (by decide) (fun _ _ _ _ h=>by simpa using h) (fun _ _ _ _ h=>by simpa using h) ?_ ?_
  ·clear g2 g5 g7 g12 g72 hci hli
   rintro j ρ w13 hj hcj hlj ⟨g2,g5,g7,g12,g14,g15,g72,g73,g74,g104,h13⟩
   obtain ⟨y,hy⟩:∃y,ps6[j]? = some y:=⟨_,List.getElem?_eq_getElem (by omega)⟩
   have hym:=List.mem_of_getElem? hy
   have hy':(ps6.take i)[j]? = some y:=by rw [List.getElem?_take,if_pos hj]; exact hy
   have hv13:=hv'.kp0 (ko h13)
   have ey:=hv13.cells zpE_len hy'
   simp only [zpE] at ey
   have hji:(j:Int) < (ps6.take i).length:=by omega
   obtain ⟨yb,hyb⟩:∃yb,yb=w13.heap.size:=⟨_,rfl⟩
   have h13a:At w12 R2 (Star (ObjA yb zpZ) (OldA w12)) (w13.alloc zpZ):=by rw [hyb]; exact At.alloc _ OldA.lcl h13
   unfold zpZ at h13a
   simp (disch:=omega) [g104,hcj,hlj,hv13.idx,ey,←hyb]
   refine h13a.st OldA.lcl (by simp) (by simp [y.2.1.2]) fun w14 h14=>?_
   have h14':At w12 R2 (Star (ObjA yb (zpO y)) (OldA w12)) w14:=by simpa [zpO] using h14
   have k14:=ko h14'.drop
   have h14c:=At.kp0 (SpcA.lcl hLY) h12 k14
   have op14:=SpcA.frame h14c rp
   have oy14:=h14'.obj
   unfold zpO at op14 oy14
   simp [g14,←hyb,cell_blk op14,cell_blk oy14]
   have h14d:=At.drew OldA.lcl h14'.drop
   have h14e:=At.kp0 (SpcA.lcl hLY) h12 (ko h14d)
   have hsame:=zsame_spec p.2.1.1 y.2.1.1 (stT T.vars p.2.2) (stT T.vars y.2.2) (SpcA.frame h14e (rX (rps p hpm))) (SpcA.frame h14e (rX (rps y hym))) (by rw [stT_len,stT_len]) (by rw [stT_len]; omega)
   have heq:=set_eq hv64 hG'.ok.wf (hk10 p hpm).ok (hk10 y hym).ok
   rw [hA.vars] at heq
   have op15:∀{wx:World},Kp [] w14.drew wx→wx.heap[pb]? = some (.cells #[.int .i64 (p.1:Nat),p.2.1.1] 53 (0,0)):=fun k=>by
    have:=SpcA.frame (At.kp0 (SpcA.lcl hLY) h14e k) rp
    unfold zpO at this
    exact this
   have oy15:∀{wx:World},Kp [] w14.drew wx→wx.heap[yb]? = some (.cells #[.int .i64 (y.1:Nat),y.2.1.1] 53 (0,0)):=fun k=>by
    have:=(At.kp0 (Lcl.obj.star OldA.lcl) (At.drew (Lcl.obj.star OldA.lcl) h14') k).obj
    unfold zpO at this
    exact this
   refine ⟨?_,?_,?_,?_⟩ <;>
   ·refine cl_of hsame ?_
    rintro _ w15 ⟨rfl,k15⟩
    have h15:=At.kp0 OldA.lcl h14d k15
    have op:=op15 k15
    have oy:=oy15 k15
    by_cases he:p.1=y.1
    ·have hd:decide (stT T.vars p.2.2=stT T.vars y.2.2)=true:=decide_eq_true (heq.1 he)
     rw [hd]
     simp [he,cell_blk op,cell_blk oy,g2,g5,g7,g12,g14,g15,g72,g73,g74,g104,hcj,hlj]
     exact h15
    ·have hd:decide (stT T.vars p.2.2=stT T.vars y.2.2)=false:=decide_eq_false fun h=>he (heq.2 h)
     have he2:(((p.1:Nat):Int) == ((y.1:Nat):Int))=false:=by rw [beq_eq_false_iff_ne]; omega
     rw [hd]
     simp [he,he2,cell_blk op,cell_blk oy,g2,g5,g7,g12,g14,g15,g72,g73,g74,g104,hcj,hlj]
     exact h15
  clear g2 g5 g7 g12 g72 hci hli
  rintro ρ w13 ⟨g2,g5,g7,g12,g14,g15,g72,g73,g74,g104,h13⟩
  have h13c:=At.kp0 (SpcA.lcl hLY) h12 (ko h13)
  have op13:=SpcA.frame h13c rp
  unfold zpO at op13
  simp [g5,g14,cell_blk op13]
  have hz:=set_zero hv64 hG'.ok.wf (hk10 p hpm).ok
  rw [←hn] at hz
  by_cases hp0:p.1=0
  ·refine cl_of (spick_zero p.1 p.2.2 hG' hLY h13c (hk10 p hpm) hp0) ?_
   rintro _ w14 ⟨rfl,h14⟩
   have hn0:=hz.1 hp0
   rw [hn0] at g15
   simp [g15,errV]
   refine cl_of (is_err 3 3 w14) ?_
   rintro _ w15 ⟨rfl,k15⟩
   simp [g2,g5,g7,g12,g72,g73,g74]
   exact hfin _ (by have:=At.kp0 (SpcA.lcl hLY) h14 k15; rw [hY] at this; exact SpcA.less this)
  refine cl_of (spick2_spec p.1 p.2.2 hG' hLY h13c (hk10 p hpm) hp0) ?_
  rintro _ w14 ⟨u,st,rfl,est,hst,hPst,h14⟩
  have hn0:¬n=0:=fun h=>hp0 (hz.2 h)
  have hn0i:(((n:Nat):Int) == 0)=false:=by rw [beq_eq_false_iff_ne]; omega
  have hfirst:∀t,StN T'.vars t→p.2.2 t=true→rkK T'.vars st T'.vars.length≤rkK T'.vars t T'.vars.length:=fun t h1 h2=>by
   rw [est]
   exact pick_first hv64 hG'.ok.wf (hk10 p hpm).ok (by rw [←est]; exact hst) h1 h2
  rw [hA.vars] at hst hfirst
  obtain ⟨r,hr1⟩:∃r,r=rkK T.vars st T.vars.length:=⟨_,rfl⟩
  rw [←hr1] at hfirst
  have hrk:=rk_all hst
  rw [←hr1] at hrk
  have hrN:r < nS T.vars:=(List.getElem?_eq_some_iff.1 hrk).1
  obtain ⟨Z,hZ⟩:∃Z,Z=Star (OwnA u 3 1 nE st) Y:=⟨_,rfl⟩
  have hLZ:Lcl Z:=by rw [hZ]; exact Lcl.own.star hLY
  have rZ:∀{P:World→Prop},Rds Y P→Rds Z P:=fun h=>by rw [hZ]; exact Rds.star h
  have ru:Rds Z fun w'=>Vw w' u nE st:=by rw [hZ]; exact Rds.own
  rw [←hZ] at h14
  have hsT:(stT T.vars p.2.2).length=nS T.vars:=stT_len _ _
  simp [g15,hn0,hn0i]
  refine loop_inv (fun j ρ w'=>∃k:Nat,k+j=r∧ρ 20=.int .i64 (k:Nat)∧ρ 2=.pointer (some ⟨tb,0,none⟩)∧ρ 5=.pointer (some ⟨s,0,none⟩)∧ρ 7=lv6∧ρ 12=sv∧ρ 14=.pointer (some ⟨pb,0,none⟩)∧ρ 16=.nilIface∧ρ 19=u∧ρ 72=lv6∧ρ 73=.int .i64 (ps6.length:Nat)∧ρ 74=.int .i64 (i:Nat)∧At w R (SpcA s m 1048576 T' q ns' ks6 ss6 Z) w') r
   ⟨0,by omega,by simp,by simp [g2],by simp [g5],by simp [g7],by simp [g12],by simp [g14],by simp,by simp,by simp [g72],by simp [g73],by simp [g74],h14⟩ ?_
  clear g2 g5 g7 g12 g14 g15 g72 g73 g74 h14
  rintro j ρ w15 ⟨k,hkj,g20,g2,g5,g7,g12,g14,g16,g19,g72,g73,g74,h15⟩
  have op:=SpcA.frame h15 (rZ rp)
  unfold zpO at op
  have hps:=SpcA.frame h15 (rZ (rX (rps p hpm)))
  have hkN:(k:Int) < nS T.vars:=by omega
  obtain ⟨x,hx⟩:∃x,(stsK T.vars T.vars.length)[k]? = some x:=⟨_,List.getElem?_eq_getElem (by unfold nS at hrN; omega)⟩
  have cx:=bE_cell hps (stT_at hx)
  cases hPx:p.2.2 x with
  | false =>
   rw [hPx] at cx
   have hne:k≠r:=fun e=>by
    rw [e,hrk] at hx
    rw [←Option.some.inj hx,hPst] at hPx
    cases hPx
   obtain ⟨k',hk'⟩:∃k',k'=k+1:=⟨_,rfl⟩
   have ek:(k:Int)+1=(k':Int):=by omega
   simp (disch:=omega) [g14,g20,cell_blk op,hps.idx,hsT,cx,ek,wrap_i64]
   refine ⟨j - 1,by omega,k',by omega,?_⟩
   simp [g2,g5,g7,g12,g14,g16,g19,g72,g73,g74]
   exact h15
  | true =>
   rw [hPx] at cx
   have hke:k=r:=by
    have hxs:=sts_st (List.mem_of_getElem? hx)
    have h1:=hfirst x hxs hPx
    have h2:rkK T.vars x T.vars.length=k:=(List.getElem?_inj (List.getElem?_eq_some_iff.1 (rk_all hxs)).1 (sts_nd T.vars T.vars.length)).1 ((rk_all hxs).trans hx.symm)
    omega
   subst hke
   obtain ⟨z,hz1,hz2⟩:=ps_at hrs hrN
   have hzs:z.2=st:=by
    rw [hrk] at hz2
    exact (Option.some.inj hz2).symm
   have hsv:=SpcA.frame h15 (rZ (rX rsv))
   have es:w15.cell? (sv.adr.add k)=some z.1.1:=by simpa using hsv.at_ sv1_len hz1 (o:=0) (u:=z.1.1) rfl
   have hki:(k:Int) < rs.length:=by omega
   simp (disch:=omega) [g14,g20,cell_blk op,hps.idx,hsT,cx,g16,g19,g12,hsv.idx,es]
   have hsl:st.length≤1000000:=by rw [hst.len]; omega
   have hvz:=SpcA.frame h15 (rZ (rX (rrw z (List.mem_of_getElem? hz1))))
   rw [hzs] at hvz
   refine cl_of (ints_spec u z.1.1 (st.map iN) (st.map iN) (ints_vw (SpcA.frame h15 ru)) (ints_vw hvz) (by simpa using hsl) (by simpa using hsl)) ?_
   rintro _ w16 ⟨rfl,k16⟩
   simp [g2,g5,g7,g12,g72,g73,g74]
   exact hfin _ (by have:=At.kp0 (SpcA.lcl hLZ) h15 k16; rw [hZ,hY] at this; exact SpcA.less (SpcA.less this))
end Go.Proofs.YtcoeknnghfajnaaGreat
end
section
namespace Go.Rx
open Go Go.W Go.Tk
theorem getD_set_ne {d:List Nat} {i j x:Nat} (h:i≠j):(d.set i x).getD j 0=d.getD j 0:=by simp only [List.getD,List.getElem?_set_ne h]
end Go.Rx
namespace Go.Proofs.YtcoeknnghfajnaaGreat
open Go Go.W Go.Tk Go.Rx Go.Maps
def goalB (T:Nt) (i:Nat):Bool:=match (stsK T.vars T.vars.length)[i]? with | some s=>hdB s T.goal | none=>false
def d0 (T:Nt) (i:Nat):Nat:=if goalB T i=true then 0 else Inf
end Go.Proofs.YtcoeknnghfajnaaGreat
end
section
namespace Go.Rx
open Go Go.W Go.Tk
end Go.Rx
namespace Go.Proofs.YtcoeknnghfajnaaGreat
open Go Go.W Go.Tk Go.Rx Go.Maps
def hM (T:Nt) (vS:List Nat→Nat→Nat) (s:List Nat):Nat:=grF T.vars (vS s) T.goal
def hI (T:Nt) (vS:List Nat→Nat→Nat) (i:Nat):Nat:=match (stsK T.vars T.vars.length)[i]? with | some s=>hM T vS s | none=>0
end Go.Proofs.YtcoeknnghfajnaaGreat
end
section
namespace Go.W
open Go Go.ChangeShapes Go.WideShapes Go.ChangeAt Go.RowKit Go.Deep
section
variable {H:Type} {enc:TypeId × Value→H} {P:Program}
theorem el_vw {α:Type} {encα:α→List Value} {ok:α→Prop} {W:World} {t e:TypeId} {sz:Nat} {v:Value} {fu:Nat} {x:DataW H × List MemPlace} (ht:P.underlying t=some (.slice e)) (hC:P.cellsOf e=sz) (hz:0 < sz) (he:∀x,(encα x).length=sz)
  (hel:∀n cs x,cs.length=sz→DataW.trod enc P W 0 (fun _=>true) true n e cs=some x→∃a,cs=encα a∧ok a)
  (h:DataW.trod enc P W 0 (fun _=>true) true fu t [v]=some x) :
  ∃l:List α,Vw W v encα l∧(∀a ∈ l,ok a)∧l.length≤maxLen:=by
 rcases open_slice ht h with ⟨hcs,hx⟩ | ⟨a,len,cap,m,n,D,Pl,hcs,hb,hl,hm,hmm,hx,hi⟩
 ·simp at hcs
  subst hcs
  exact ⟨[],Vw.nil _ _,by simp,by simp⟩
 ·simp at hcs
  subst hcs
  simp only [if_true] at hmm
  subst hmm
  obtain ⟨n0,hn0⟩:∃n0,n0=len:=⟨_,rfl⟩
  rw [←hn0] at hl ⊢
  have key:∀k,k≤m→∃l:List α,l.length=k∧(∀x ∈ l,ok x)∧∀j u,(l.flatMap encα)[j]? = some u→W.cell? (a.add j)=some u:=by
   intro k
   induction k with
   | zero=>exact fun _=>⟨[],rfl,by simp,by simp⟩
   | succ k ih =>
    intro hk
    obtain ⟨l,hll,ho,hc⟩:=ih (by omega)
    obtain ⟨cs,hcs,htr⟩:=hi k (by omega)
    rw [hC] at hcs
    obtain ⟨_,hlen,hat⟩:=World.cells?_some hcs
    obtain ⟨x,rfl,hox⟩:=hel _ _ _ hlen htr
    refine ⟨l ++ [x],by simp [hll],?_,?_⟩
    ·intro y hy
     rcases List.mem_append.1 hy with h1 | h1
     ·exact ho y h1
     ·simp at h1; subst h1; exact hox
    ·intro j u hj
     rw [List.flatMap_append,List.flatMap_cons,List.flatMap_nil,List.append_nil] at hj
     have hfl:=flatMap_len he l
     rw [hll] at hfl
     by_cases hjl:j < k * sz
     ·rw [List.getElem?_append_left (by omega)] at hj
      exact hc j u hj
     ·rw [List.getElem?_append_right (by omega),hfl] at hj
      have hjs:j - k * sz < sz:=by have h9:=(List.getElem?_eq_some_iff.1 hj).1; rw [he x] at h9; exact h9
      have:=hat (j - k * sz) hjs
      rw [Go.Deep.add_add,show k * sz+(j - k * sz)=j by omega] at this
      rw [this]; exact hj
  obtain ⟨l,hll,ho,hc⟩:=key m (Nat.le_refl _)
  have hvw:Vw W (.slice (some a) n0 m) encα (l.take n0):=by
   have hlen:(l.take n0).length=n0:=by simp; omega
   refine .inr ⟨a,m,by rw [hlen],by omega,fun hne=>?_,fun j u hj=>hc j u ?_⟩
   ·have hn0:0 < n0:=by
     rcases Nat.eq_zero_or_pos n0 with h0 | h0
     ·subst h0; simp at hne
     ·exact h0
    obtain ⟨cs,hcs,_⟩:=hi 0 (by omega)
    rw [hC] at hcs
    obtain ⟨_,hlen',hat⟩:=World.cells?_some hcs
    have h1:=hat 0 hz
    rw [List.getElem?_eq_getElem (by omega)] at h1
    have:=World.cell?_spot h1
    rw [Go.Deep.add_add] at this
    simp at this
    simpa [Addr.add] using this
   ·have:l.flatMap encα=(l.take n0).flatMap encα ++ (l.drop n0).flatMap encα:=by rw [←List.flatMap_append,List.take_append_drop]
    rw [this,List.getElem?_append_left (List.getElem?_eq_some_iff.1 hj).1]
    exact hj
  exact ⟨_,hvw,fun x hx=>ho x (List.mem_of_mem_take hx),by rw [List.length_take]; omega⟩
end
end Go.W
end
