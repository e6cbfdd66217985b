/-
  A part of the proof of this claim's statement (SyW4, SyW5, SyW6, SyW7, SyW8, SyW9, SyWA): plain theorems; no conditions beyond those each names.
-/
import Derived.Test.YtcoeknnghfajnaaGreatPk16
set_option maxRecDepth 100000
set_option linter.unusedSimpArgs false
set_option linter.unusedVariables false
set_option linter.unusedSectionVars false
section
namespace Go.Proofs.YtcoeknnghfajnaaGreat
open Go Go.W Go.Tk Go.Rx Go.Bd Go.Sy Go.Maps
theorem Rds.star {A B:Asr} {P:World→Prop} (h:Rds B P):Rds (Star A B) P:=fun w' F' hs=>by
 obtain ⟨Fa,Fb,_,hb,_⟩:=hs
 exact h w' Fb hb
theorem Rds.obj {B:Asr} {b:Nat} {o:Obj}:Rds (Star (ObjA b o) B) fun w'=>w'.heap[b]? = some o:=fun w' F' hs=>by
 obtain ⟨Fa,Fb,ha,_⟩:=hs
 exact ha.1
theorem BlA.into {w w1:World} {F:List Nat} {A B:Asr} {b s m lim:Nat} {vars:List Nat} {q:SpC} {e:Bool} {ns:Ns} (h:At w F (Star A (BlA b s m lim vars q e ns B)) w1):At w F (BlA b s m lim vars q e ns (Star A B)) w1:=by
 unfold BlA at h ⊢
 exact h.by Imp.bk6
theorem BlA.less {w w1:World} {F:List Nat} {A B:Asr} {b s m lim:Nat} {vars:List Nat} {q:SpC} {e:Bool} {ns:Ns} (h:At w F (BlA b s m lim vars q e ns (Star A B)) w1):At w F (BlA b s m lim vars q e ns B) w1:=by
 unfold BlA at h ⊢
 exact h.by (Imp.un4 (Imp.un Imp.dr))
def lsE (vars:List Nat) (o:No) (v n:Nat) (a:Nat→Bool):Option Nat:=lastE o (rs vars a 0) v (o.effs.length - n) n
def ouB (vars:List Nat) (o:No) (v n:Nat) (a:Nat→Bool):Bool:=match lsE vars o v n a with | some z=>decide (rv vars a 1 v=z) | none=>false
def leB (vars:List Nat) (o:No) (v n:Nat) (a:Nat→Bool):Bool:=(lsE vars o v n a).isNone
theorem lsE_end {vars:List Nat} {o:No} {v:Nat} {a:Nat→Bool}:lsE vars o v o.effs.length a=none:=by unfold lsE; rw [Nat.sub_self]; rfl
theorem lsE_step {vars:List Nat} {o:No} {v j:Nat} {a:Nat→Bool} {x:Nf} (h:o.effs[j]? = some x):lsE vars o v j a=(match lsE vars o v (j+1) a with
  | some z=>some z
  | none=>if x.v=v∧hdB (rs vars a 0) x.cnd=true then some x.x else none):=by
 have hj:=(List.getElem?_eq_some_iff.1 h).1
 unfold lsE
 rw [show o.effs.length - j=(o.effs.length - (j+1))+1 by omega,lastE_succ,h]
 cases lastE o (rs vars a 0) v (o.effs.length - (j+1)) (j+1) <;> rfl
theorem ou_skip {vars:List Nat} {o:No} {v j:Nat} {a:Nat→Bool} {x:Nf} (h:o.effs[j]? = some x) (hv:x.v≠v):ouB vars o v j a=ouB vars o v (j+1) a∧leB vars o v j a=leB vars o v (j+1) a:=by
 have:lsE vars o v j a=lsE vars o v (j+1) a:=by
  rw [lsE_step h]
  cases lsE vars o v (j+1) a with
  | some z=>rfl
  | none=>simp [hv]
 unfold ouB leB
 rw [this]
 exact ⟨rfl,rfl⟩
theorem ou_step {vars:List Nat} {o:No} {v j:Nat} {a:Nat→Bool} {x:Nf} (h:o.effs[j]? = some x) (hv:x.v=v):ouB vars o v j a=(ouB vars o v (j+1) a || (leB vars o v (j+1) a && hdB (rs vars a 0) x.cnd && decide (rv vars a 1 v=x.x)))∧leB vars o v j a=(leB vars o v (j+1) a && !hdB (rs vars a 0) x.cnd):=by
 unfold ouB leB
 rw [lsE_step h]
 cases lsE vars o v (j+1) a with
 | some z=>simp
 | none =>
  cases hc:hdB (rs vars a 0) x.cnd with
  | true=>simp [hv]
  | false=>simp
theorem chg_end {vars:List Nat} {o:No} {v:Nat} {a:Nat→Bool} (hv:v < vars.length):(ouB vars o v 0 a || (leB vars o v 0 a && decide (rv vars a 0 v=rv vars a 1 v)))=decide (rv vars a 1 v=chgV o (rs vars a 0) v):=by
 unfold ouB leB chgV lsE
 rw [Nat.sub_zero]
 cases lastE o (rs vars a 0) v o.effs.length 0 with
 | some z=>simp
 | none =>
  rw [Bool.eq_iff_iff]
  simp only [Option.isNone_none,Bool.true_and,Bool.false_or,decide_eq_true_eq,Option.getD_none,rs_at hv]
  exact eq_comm
structure ChW (vars:List Nat) (o:No) (v:Nat) (W:((Nat→Bool)→Bool)→Prop):Prop where
 sa:SaW vars v W
 kp:W fun a=>leB vars o v 0 a && decide (rv vars a 0 v=rv vars a 1 v)
 ch:W fun a=>decide (rv vars a 1 v=chgV o (rs vars a 0) v)
 fc:∀(j:Nat) (x:Nf),o.effs[j]? = some x→x.v=v→FcW vars x.cnd W
 vl:∀(j:Nat) (x:Nf),o.effs[j]? = some x→x.v=v→VlW vars v x.x 1 W
 lw:∀(j:Nat) (x:Nf),o.effs[j]? = some x→x.v=v→W fun a=>leB vars o v (j+1) a && hdB (rs vars a 0) x.cnd
 lv:∀(j:Nat) (x:Nf),o.effs[j]? = some x→x.v=v→W fun a=>(leB vars o v (j+1) a && hdB (rs vars a 0) x.cnd) && decide (rv vars a 1 v=x.x)
 ou:∀(j:Nat) (x:Nf),o.effs[j]? = some x→x.v=v→W (ouB vars o v j)
 nw:∀(j:Nat) (x:Nf),o.effs[j]? = some x→x.v=v→W fun a=>!hdB (rs vars a 0) x.cnd
 le:∀(j:Nat) (x:Nf),o.effs[j]? = some x→x.v=v→W (leB vars o v j)
def sChI (b s m lim:Nat) (vars:List Nat) (q:SpC) (e:Bool) (ns:Ns) (B:Asr) (w:World) (F:List Nat) (W:((Nat→Bool)→Bool)→Prop) (ob:Nat) (o:No) (v n:Nat) (ρ:Env) (w':World):Prop :=
 ρ 0=.pointer (some ⟨b,0,none⟩)∧ρ 2=.int .i64 (v:Nat)∧ρ 4=.pointer (some ⟨ob,0,none⟩)∧ρ 9=.int .i64 ((n:Int) - 1)∧n≤o.effs.length ∧
  ∃f g e' ns',ρ 7=.int .i64 (f:Nat)∧ρ 8=.int .i64 (g:Nat)∧Stp (2 * nBits vars) lim W e ns e' ns'∧Mn ns' e' f (ouB vars o v n)∧Mn ns' e' g (leB vars o v n)∧At w F (BlA b s m lim vars q e' ns' (Star (ObjA ob (oqO o.raw)) B)) w'
section
variable {w w1:World} {F:List Nat} {B:Asr} {b s m lim:Nat} {vars:List Nat} {q:SpC} {e:Bool} {ns:Ns} {W:((Nat→Bool)→Bool)→Prop}
set_option maxHeartbeats 2000000 in
theorem bChanged_spec (o:No) (v:Nat) (hk:SpOk vars lim ns) (hB:Lcl B) (h:At w F (BlA b s m lim vars q e ns B) w1) (hv:v < vars.length) (hr:Rds B fun w'=>NoR w' o) (hg:NoG vars o) (hL:LitW vars W) (hC:ChW vars o v W) :
  Calls Tryz.prog 79 [.pointer (some ⟨b,0,none⟩),noV o,.int .i64 (v:Nat)].toArray w1 fun en w'=>∃u,en=.returned u∧BPost b s m lim vars q e ns B w F W (fun a=>decide (rv vars a 1 v=chgV o (rs vars a 0) v)) u w':=by
 refine enter Tryz.func79 mixed low79 (Nat.le_of_ble_eq_true rfl) ?_
 simp only [L79]
 have helen:=hg.elen
 have hvl:=hk.len
 obtain ⟨ob,hob⟩:∃ob,ob=w1.heap.size:=⟨_,rfl⟩
 have h1:At w F (Star (ObjA ob (oqO o.raw)) (BlA b s m lim vars q e ns B)) (w1.alloc (oqO o.raw)):=by rw [hob]; exact h.alloc _ (BlA.lcl hB)
 obtain ⟨w2,hw2⟩:∃w2,w2=w1.alloc (oqO o.raw):=⟨_,rfl⟩
 rw [←hw2] at h1
 have hw2':w1.alloc (.cells #[.string o.name,.int .i64 (o.cost:Nat),o.pv.1,o.ev.1] 66 (0,0))=w2:=by rw [hw2]; rfl
 have h2:=BlA.into h1
 have hB2:Lcl (Star (ObjA ob (oqO o.raw)) B):=Lcl.obj.star hB
 have oo2:=BlA.frame h2 Rds.obj
 unfold oqO No.raw at oo2
 have ro2:=BlA.frame h2 hr.star
 simp (disch:=omega) [noV,←hob,hw2',cell_blk oo2,ro2.effs.len,wrap_i64]
 refine loop_inv (sChI b s m lim vars q e ns B w F W ob o v) o.effs.length ⟨by simp,by simp,by simp [hob],by simp,Nat.le_refl _,0,1,e,ns,by simp,by simp,Stp.refl hk.wf hk.nl,⟨Nat.zero_le _,fun _=>⟨Ref.zero ns,fun a=>by rw [eval_zero]; unfold ouB; rw [lsE_end]⟩⟩,one_mn hk.wf _ _ (fun a=>by unfold leB; rw [lsE_end]; rfl),h2⟩ ?_
 clear h h1 h2 oo2 ro2
 rintro n ρ w3 ⟨g0,g2,g4,g9,hnl,f,g,e3,ns3,g7,g8,hs,hmf,hmg,h3⟩
 have hk3:=hk.stp hs
 by_cases hn0:n=0
 ·subst hn0
  simp [g9,g0,g2]
  refine cl_of (bSame_spec v hk3 hB2 h3 hv hL hC.sa) ?_
  rintro _ w4 ⟨y,e4,ns4,rfl,hs4,hm4,h4⟩
  have hk4:=hk3.stp hs4
  simp [g0,g8]
  refine cl_of (bAnd_spec g y _ _ hk4 hB2 h4 (hmg.keep hk3.wf hs4) hm4 hC.kp) ?_
  rintro _ w5 ⟨y5,e5,ns5,rfl,hs5,hm5,h5⟩
  have hk5:=hk4.stp hs5
  simp [g0,g7]
  have hch:W fun a=>ouB vars o v 0 a || (leB vars o v 0 a && decide (rv vars a 0 v=rv vars a 1 v)):=by
   have:=hC.ch
   rwa [←show (fun a=>ouB vars o v 0 a || (leB vars o v 0 a && decide (rv vars a 0 v=rv vars a 1 v)))=fun a=>decide (rv vars a 1 v=chgV o (rs vars a 0) v) from funext fun a=>chg_end hv] at this
  refine cl_of (bOr_spec f y5 _ _ hk5 hB2 h5 ((hmf.keep hk3.wf hs4).keep hk4.wf hs5) hm5 hch) ?_
  rintro _ w6 ⟨u,e6,ns6,rfl,hs6,hm6,h6⟩
  simp
  refine ⟨u,e6,ns6,rfl,((hs.trans hs4).trans hs5).trans hs6,⟨hm6.1,fun he=>⟨(hm6.2 he).1,fun a=>?_⟩⟩,BlA.less h6⟩
  rw [(hm6.2 he).2 a]
  exact chg_end hv
 obtain ⟨j,rfl⟩:∃j,n=j+1:=⟨n - 1,by omega⟩
 have hj9:((j+1:Nat):Int) - 1=(j:Int):=by omega
 rw [hj9] at g9
 obtain ⟨x,hx⟩:∃x,o.effs[j]? = some x:=⟨_,List.getElem?_eq_getElem (by omega)⟩
 have hxm:=List.mem_of_getElem? hx
 have oo3:=BlA.frame h3 Rds.obj
 unfold oqO No.raw at oo3
 have ro3:=BlA.frame h3 hr.star
 have ec:=ro3.effs.cells nfE_len hx
 simp only [nfE] at ec
 have hji:(j:Int) < o.effs.length:=by omega
 obtain ⟨eb,heb⟩:∃eb,eb=w3.heap.size:=⟨_,rfl⟩
 simp (disch:=omega) [g9,g4,cell_blk oo3,ro3.effs.idx,ec,←heb]
 refine st_ef (e:=x.raw) (BlA.lcl hB2) h3 heb fun w4 h4=>?_
 have oe4:=h4.obj
 unfold efO Nf.raw at oe4
 by_cases hxv:x.v=v
 case neg =>
  have hxv':((x.v:Int) == (v:Int))=false:=by simp; omega
  have hxv2:¬(x.v:Int)=(v:Int):=by omega
  have hxv3:((x.v:Int) != (v:Int))=true:=by unfold bne; rw [hxv']; rfl
  simp (disch:=omega) [cell_blk oe4,←heb,g2,hxv3,g9,wrap_i64]
  refine ⟨j,by omega,by simp [g0],by simp [g2],by simp [g4],by simp,by omega,f,g,e3,ns3,by simp [g7],by simp [g8],hs,?_,?_,h4.by Imp.dr⟩
  ·exact ⟨hmf.1,fun he=>⟨(hmf.2 he).1,fun a=>by rw [(hmf.2 he).2 a,(ou_skip hx hxv).1]⟩⟩
  ·exact ⟨hmg.1,fun he=>⟨(hmg.2 he).1,fun a=>by rw [(hmg.2 he).2 a,(ou_skip hx hxv).2]⟩⟩
 have hxv':((x.v:Int) == (v:Int))=true:=by simp; omega
 have hxv2:(x.v:Int)=(v:Int):=by omega
 have hgc:=hg.cnd x hxm
 have hcl:=hgc.len
 obtain ⟨f1,f2⟩:=hg.eff x hxm
 have hxv3:((x.v:Int) != (v:Int))=false:=by unfold bne; rw [hxv']; rfl
 simp (disch:=omega) [cell_blk oe4,←heb,g2,hxv3,g0]
 have h4b:=BlA.into h4
 have hB4:Lcl (Star (ObjA eb (efO x.raw)) (Star (ObjA ob (oqO o.raw)) B)):=Lcl.obj.star hB2
 have hrc:Rds (Star (ObjA eb (efO x.raw)) (Star (ObjA ob (oqO o.raw)) B)) fun w'=>Vw w' x.wv.1 fcE x.cnd:=Rds.star (Rds.star fun w' F' hb=>(hr w' F' hb).cnd x hxm)
 have hw8:W fun a=>ouB vars o v (j+1) a || ((leB vars o v (j+1) a && hdB (rs vars a 0) x.cnd) && decide (rv vars a 1 v=x.x)):=by
  have:=hC.ou j x hx hxv
  rwa [show ouB vars o v j=fun a=>ouB vars o v (j+1) a || ((leB vars o v (j+1) a && hdB (rs vars a 0) x.cnd) && decide (rv vars a 1 v=x.x)) from funext fun a=>(ou_step hx hxv).1] at this
 have hw11:W fun a=>leB vars o v (j+1) a && !hdB (rs vars a 0) x.cnd:=by
  have:=hC.le j x hx hxv
  rwa [show leB vars o v j=fun a=>leB vars o v (j+1) a && !hdB (rs vars a 0) x.cnd from funext fun a=>(ou_step hx hxv).2] at this
 refine cl_of (bFacts_spec x.wv.1 x.cnd hk3 hB4 h4b hrc hgc.rng (by omega) hL (hC.fc j x hx hxv)) ?_
 rintro _ w5 ⟨y5,e5,ns5,rfl,hs5,hm5,h5⟩
 have hk5:=hk3.stp hs5
 have oe5:=BlA.frame h5 Rds.obj
 unfold efO Nf.raw at oe5
 have h5d:=h5.drew (BlA.lcl hB4)
 have h64:=hk.v64 (vars.getD x.v 0) (by simp [List.getD,List.getElem?_eq_getElem f1])
 have hx2:x.x < 2 ^ wd (vars.getD v 0):=by rw [←hxv]; exact Nat.lt_of_lt_of_le f2 (wd_ge h64.2)
 have mg5:=hmg.keep hk3.wf hs5
 have mf5:=hmf.keep hk3.wf hs5
 simp [g0,g8,cell_blk oe5,←heb]
 refine ⟨?_,?_⟩ <;>
 ·refine cl_of (bAnd_spec g y5 _ _ hk5 hB4 h5d mg5 hm5 (hC.lw j x hx hxv)) ?_
  rintro _ w6 ⟨y6,e6,ns6,rfl,hs6,hm6,h6⟩
  have hk6:=hk5.stp hs6
  have oe6:=BlA.frame h6 Rds.obj
  unfold efO Nf.raw at oe6
  simp [g0,g2,cell_blk oe6,←heb]
  refine cl_of (bValue_spec v x.x 1 hk6 hB4 h6 hv hx2 (by omega) hL (hC.vl j x hx hxv)) ?_
  rintro _ w7 ⟨y7,e7,ns7,rfl,hs7,hm7,h7⟩
  have hk7:=hk6.stp hs7
  simp [g0]
  refine cl_of (bAnd_spec y6 y7 _ _ hk7 hB4 h7 (hm6.keep hk6.wf hs7) hm7 (hC.lv j x hx hxv)) ?_
  rintro _ w8 ⟨y8,e8,ns8,rfl,hs8,hm8,h8⟩
  have hk8:=hk7.stp hs8
  simp [g0,g7]
  refine cl_of (bOr_spec f y8 _ _ hk8 hB4 h8 (((mf5.keep hk5.wf hs6).keep hk6.wf hs7).keep hk7.wf hs8) hm8 hw8) ?_
  rintro _ w9 ⟨y9,e9,ns9,rfl,hs9,hm9,h9⟩
  have hk9:=hk8.stp hs9
  have m59:=(((hm5.keep hk5.wf hs6).keep hk6.wf hs7).keep hk7.wf hs8).keep hk8.wf hs9
  have mg9:=(((mg5.keep hk5.wf hs6).keep hk6.wf hs7).keep hk7.wf hs8).keep hk8.wf hs9
  simp [g0]
  refine cl_of (bNot_spec y5 _ hk9 hB4 h9 m59 (hC.nw j x hx hxv)) ?_
  rintro _ w10 ⟨y10,e10,ns10,rfl,hs10,hm10,h10⟩
  have hk10:=hk9.stp hs10
  simp [g0,g8]
  refine cl_of (bAnd_spec g y10 _ _ hk10 hB4 h10 (mg9.keep hk9.wf hs10) hm10 hw11) ?_
  rintro _ w11 ⟨y11,e11,ns11,rfl,hs11,hm11,h11⟩
  have m9:=(hm9.keep hk9.wf hs10).keep hk10.wf hs11
  simp (disch:=omega) [g9,wrap_i64]
  refine ⟨j,by omega,by simp [g0],by simp [g2],by simp [g4],by simp,by omega,y9,y11,e11,ns11,by simp,by simp,((((((hs.trans hs5).trans hs6).trans hs7).trans hs8).trans hs9).trans hs10).trans hs11,?_,?_,BlA.less h11⟩
  ·exact ⟨m9.1,fun he=>⟨(m9.2 he).1,fun a=>by rw [(m9.2 he).2 a,(ou_step hx hxv).1]⟩⟩
  ·exact ⟨hm11.1,fun he=>⟨(hm11.2 he).1,fun a=>by rw [(hm11.2 he).2 a,(ou_step hx hxv).2]⟩⟩
end
end Go.Proofs.YtcoeknnghfajnaaGreat
end
section
namespace Go.Proofs.YtcoeknnghfajnaaGreat
open Go Go.W Go.Tk Go.Rx Go.Bd Go.Sy Go.Maps
def pvW (o:No):Cell1 × List Go.Tk.Fc:=(o.pv,o.pre)
def evW (o:No):Cell1 × List Nf:=(o.ev,o.effs)
def cdW (o:No):List (Cell1 × List Go.Tk.Fc):=o.effs.map fun e=>(e.wv,e.cnd)
def TskA (T:Nt):Asr:=Star (VwA T.vv.1 nE T.vars) (Star (VwA T.nv.1 nE T.init) (Star (VwA T.gv.1 fcE T.goal) (Star (VwA T.ov.1 noE T.ops) (Star (VwsA fcE (T.ops.map pvW)) (Star (VwsA nfE (T.ops.map evW)) (VwsA fcE (T.ops.flatMap cdW)))))))
theorem TskA.lcl {T:Nt}:Lcl (TskA T):=Lcl.vw.star (Lcl.vw.star (Lcl.vw.star (Lcl.vw.star (Lcl.vws.star (Lcl.vws.star Lcl.vws)))))
theorem TskA.rd {T:Nt} {B:Asr}:Rds (Star (TskA T) B) fun w'=>NtR w' T:=fun w' F' hs=>by
 obtain ⟨Fa,Fb,⟨F1,_,⟨h1,_⟩,⟨F2,_,⟨h2,_⟩,⟨F3,_,⟨h3,_⟩,⟨F4,_,⟨h4,_⟩,⟨F5,_,⟨h5,_⟩,⟨F6,F7,⟨h6,_⟩,⟨h7,_⟩,_⟩,_⟩,_⟩,_⟩,_⟩,_⟩,_⟩:=hs
 exact ⟨h1,h2,h3,h4,fun o ho=>⟨h5 (pvW o) (List.mem_map.2 ⟨o,ho,rfl⟩),h6 (evW o) (List.mem_map.2 ⟨o,ho,rfl⟩),fun e he=>h7 (e.wv,e.cnd) (List.mem_flatMap.2 ⟨o,ho,List.mem_map.2 ⟨e,he,rfl⟩⟩)⟩⟩
def boolV (b:Bool):Value:=.bool b
def KmA (km:Nat) (ks:List (Nat × Bool)):Asr:=MapA km natV boolV i64ok ks
def SmA (sm:Nat) (ss:List (Nat × Nat)):Asr:=MapA sm natV natV i64ok ss
def SpcA (s m lim:Nat) (T:Nt) (q:SpC) (ns:Ns) (ks:List (Nat × Bool)) (ss:List (Nat × Nat)) (B:Asr):Asr :=
 Star (MgrA m (2 * nBits T.vars) lim ns) (Star (ObjA s (spO m T.vars q)) (Star (OwnA q.fv 3 1 nE (firstL T.vars)) (Star (OwnA q.wv 3 1 nE (widthL T.vars)) (Star (KmA q.km ks) (Star (SmA q.sm ss) (Star (TskA T) B))))))
def RelOk (T:Nt) (ns:Ns) (p:Nat × Nat):Prop:=Ref ns p.2∧∃o,T.ops[p.1]? = some o∧∀a,eval ns a p.2=relB T o a
def SetOk (vars:List Nat) (ns:Ns) (f:Nat) (P:List Nat→Bool):Prop:=Ref ns f∧∀a,eval ns a f=(okB vars a && P (rs vars a 0))
structure SpG (lim:Nat) (T:Nt) (q:SpC) (ns:Ns) (ks:List (Nat × Bool)) (ss:List (Nat × Nat)):Prop where
 ok:SpOk T.vars lim ns
 g:NtG T
 cells:q.t0=T.vv.1∧q.t1=T.nv.1∧q.t2=T.gv.1∧q.t3=T.ov.1
 all:SetOk T.vars ns q.all fun _=>true
 set:∀p ∈ ks,p.2=true∧∃P,SetOk T.vars ns p.1 P
 rel:∀p ∈ ss,RelOk T ns p
 kl:ks.length≤1000000
 sl:ss.length≤1000000
theorem SetOk.ext {n:Nat} {vars:List Nat} {ns ns':Ns} {f:Nat} {P:List Nat→Bool} (h:SetOk vars ns f P) (hw:Wf n ns) (hx:Ext n ns ns'):SetOk vars ns' f P:=⟨hx.ref h.1,fun a=>by rw [hx.eval hw a h.1,h.2]⟩
theorem SpG.stp {lim:Nat} {W:((Nat→Bool)→Bool)→Prop} {T:Nt} {q:SpC} {ns ns':Ns} {ks:List (Nat × Bool)} {ss:List (Nat × Nat)} {e e':Bool} (h:SpG lim T q ns ks ss) (hs:Stp (2 * nBits T.vars) lim W e ns e' ns'):SpG lim T q ns' ks ss :=
 ⟨h.ok.stp hs,h.g,h.cells,h.all.ext h.ok.wf hs.ext,fun p hp=>by
  obtain ⟨h1,P,h2⟩:=h.set p hp
  exact ⟨h1,P,h2.ext h.ok.wf hs.ext⟩,fun p hp=>by
  obtain ⟨h1,o,h2,h3⟩:=h.rel p hp
  exact ⟨hs.ext.ref h1,o,h2,fun a=>by rw [hs.ext.eval h.ok.wf a h1,h3]⟩,h.kl,h.sl⟩
section
variable {w w1:World} {F:List Nat} {B:Asr} {b s m lim:Nat} {T:Nt} {q:SpC} {e:Bool} {ns:Ns} {ks:List (Nat × Bool)} {ss:List (Nat × Nat)}
theorem SpcA.lcl (hB:Lcl B):Lcl (SpcA s m lim T q ns ks ss B):=Lcl.mgr.star (Lcl.obj.star (Lcl.own.star (Lcl.own.star (Lcl.map.star (Lcl.map.star (TskA.lcl.star hB))))))
def RestA (T:Nt) (q:SpC) (ks:List (Nat × Bool)) (ss:List (Nat × Nat)) (B:Asr):Asr:=Star (KmA q.km ks) (Star (SmA q.sm ss) (Star (TskA T) B))
theorem RestA.lcl (hB:Lcl B):Lcl (RestA T q ks ss B):=Lcl.map.star (Lcl.map.star (TskA.lcl.star hB))
theorem RestA.rd:Rds (RestA T q ks ss B) fun w'=>NtR w' T:=Rds.star (Rds.star TskA.rd)
theorem SpcA.bl (hB:Lcl B) (h:At w F (SpcA s m lim T q ns ks ss B) w1):At w F (BlA w1.heap.size s m lim T.vars q false ns (RestA T q ks ss B)) (w1.alloc (blO s false)):=by
 have h1:=h.alloc (blO s false) (SpcA.lcl hB)
 unfold SpcA at h1
 unfold BlA RestA
 exact h1.by Imp.sw
theorem SpcA.un (h:At w F (BlA b s m lim T.vars q e ns (RestA T q ks ss B)) w1):At w F (SpcA s m lim T q ns ks ss B) w1:=by
 unfold BlA RestA at h
 unfold SpcA
 exact h.by (Imp.un Imp.dr)
theorem SpcA.obj (h:At w F (SpcA s m lim T q ns ks ss B) w1):w1.heap[s]? = some (spO m T.vars q):=by
 unfold SpcA at h
 exact h.drop.obj
theorem SpcA.mgr (h:At w F (SpcA s m lim T q ns ks ss B) w1):MgrF w1 m (2 * nBits T.vars) lim ns:=by
 unfold SpcA at h
 exact MgrA.rd h
theorem SpcA.km (h:At w F (SpcA s m lim T q ns ks ss B) w1):MapM w1 q.km natV boolV i64ok ks:=by
 unfold SpcA KmA at h
 exact h.drop.drop.drop.drop.map
theorem SpcA.sm (h:At w F (SpcA s m lim T q ns ks ss B) w1):MapM w1 q.sm natV natV i64ok ss:=by
 unfold SpcA SmA at h
 exact h.drop.drop.drop.drop.drop.map
theorem SpcA.tsk (h:At w F (SpcA s m lim T q ns ks ss B) w1):NtR w1 T:=by
 unfold SpcA at h
 obtain ⟨_,hq,_⟩:=h.drop.drop.drop.drop.drop.drop.ex
 exact TskA.rd _ _ hq
theorem SpcA.frame {P:World→Prop} (h:At w F (SpcA s m lim T q ns ks ss B) w1) (hP:Rds B P):P w1:=by
 unfold SpcA at h
 obtain ⟨_,hq,_⟩:=h.drop.drop.drop.drop.drop.drop.ex
 exact (Rds.star hP) _ _ hq
theorem SpcA.putS {KW:Kont World} {x v:Nat} (hB:Lcl B) (h:At w F (SpcA s m lim T q ns ks ss B) w1) (hx:i64ok x) (hl:ss.length≤1000000)
  (H:∀w2,At w F (SpcA s m lim T q ns ks (putM ss x v) B) w2→KW.run w2):@efuH Tryz.prog (Instr.mapUpdate 73 (.map (some q.sm)) (natV x) (natV v)) w1 KW:=by
 unfold SpcA SmA at h
 refine At.put (x:=x) (v:=v) (by repeat' (first | exact hB | exact Lcl.mgr | exact Lcl.own | exact Lcl.obj | exact Lcl.map | exact TskA.lcl | apply Lcl.star)) (h.by Imp.fr6) bkeyI Tryz.underlying73 hx (by unfold maxLen; omega) fun w2 h2=>H w2 ?_
 unfold SpcA SmA
 exact h2.by Imp.bk6
theorem SpcA.putK {KW:Kont World} {x:Nat} (hB:Lcl B) (h:At w F (SpcA s m lim T q ns ks ss B) w1) (hx:i64ok x) (hl:ks.length≤1000000)
  (H:∀w2,At w F (SpcA s m lim T q ns (putM ks x true) ss B) w2→KW.run w2):@efuH Tryz.prog (Instr.mapUpdate 72 (.map (some q.km)) (natV x) (.bool true)) w1 KW:=by
 unfold SpcA KmA at h
 refine At.put (x:=x) (v:=true) (by repeat' (first | exact hB | exact Lcl.mgr | exact Lcl.own | exact Lcl.obj | exact Lcl.map | exact TskA.lcl | apply Lcl.star)) (h.by Imp.fr5) bkeyI Tryz.underlying72 hx (by unfold maxLen; omega) fun w2 h2=>H w2 ?_
 unfold SpcA KmA
 exact h2.by Imp.bk5
end
end Go.Proofs.YtcoeknnghfajnaaGreat
end
section
namespace Go.Proofs.YtcoeknnghfajnaaGreat
open Go Go.W Go.Tk Go.Rx Go.Bd Go.Sy Go.Maps
def rlB (T:Nt) (o:No) (k:Nat) (a:Nat→Bool):Bool:=(List.range (T.vars.length - k)).all fun j=>decide (rv T.vars a 1 (k+j)=chgV o (rs T.vars a 0) (k+j))
theorem rlB_end {T:Nt} {o:No} {a:Nat→Bool}:rlB T o T.vars.length a=true:=by unfold rlB; simp
theorem rlB_step {T:Nt} {o:No} {k:Nat} {a:Nat→Bool} (hk:k < T.vars.length):rlB T o k a=(decide (rv T.vars a 1 k=chgV o (rs T.vars a 0) k) && rlB T o (k+1) a):=by
 unfold rlB
 rw [show T.vars.length - k=(T.vars.length - (k+1))+1 by omega,List.range_succ_eq_map,List.all_cons,List.all_map]
 congr 1
 refine congrArg (fun f=>(List.range (T.vars.length - (k+1))).all f) ?_
 funext j
 simp only [Function.comp]
 rw [show k+j.succ=k+1+j by omega]
theorem rlB_all {T:Nt} {o:No} {a:Nat→Bool}:rlB T o 0 a=decide (rs T.vars a 1=apS o (rs T.vars a 0)):=by
 rw [Bool.eq_iff_iff,decide_eq_true_iff,←rel_all]
 unfold rlB relV
 rw [List.all_eq_true]
 constructor
 ·intro h v hv
  have:=h v (List.mem_range.2 (by omega))
  simpa using this
 ·intro h k hk
  have:=h k (by have:=List.mem_range.1 hk; omega)
  simpa using this
structure RelW (T:Nt) (o:No) (W:((Nat→Bool)→Bool)→Prop):Prop where
 lit:LitW T.vars W
 ch:∀v,v < T.vars.length→ChW T.vars o v W
 rl:∀j,j < T.vars.length→W (rlB T o j)
 pre:FcW T.vars o.pre W
 fin:W fun a=>hdB (rs T.vars a 0) o.pre && rlB T o 0 a
theorem getM_mem {l:List (Nat × Nat)} {x v:Nat} (h:getM l x=some v):(x,v) ∈ l:=by
 unfold getM at h
 rw [Option.map_eq_some_iff] at h
 obtain ⟨p,hp,rfl⟩:=h
 have h1:=List.mem_of_find?_eq_some hp
 have h2:=List.find?_some hp
 simp at h2
 obtain ⟨a,b⟩:=p
 simp at h2
 subst h2
 exact h1
theorem putM_len_le {κ α:Type} [DecidableEq κ] {l:List (κ × α)} {x:κ} {v:α}:(putM l x v).length≤l.length+1:=by
 unfold putM
 split <;> simp
def RlI (b s m lim:Nat) (T:Nt) (q:SpC) (ns:Ns) (R:Asr) (w:World) (F:List Nat) (W:((Nat→Bool)→Bool)→Prop) (op:Nat) (o:No) (n:Nat) (ρ:Env) (w':World):Prop :=
 ρ 0=.pointer (some ⟨s,0,none⟩)∧ρ 1=.int .i64 (op:Nat)∧ρ 8=.pointer (some ⟨b,0,none⟩)∧ρ 10=.int .i64 ((n:Int) - 1)∧n≤T.vars.length ∧
  ∃f e' ns',ρ 9=.int .i64 (f:Nat)∧Stp (2 * nBits T.vars) lim W false ns e' ns'∧Mn ns' e' f (rlB T o n)∧At w F (BlA b s m lim T.vars q e' ns' R) w'
def RlPost (s m lim:Nat) (T:Nt) (q:SpC) (ns:Ns) (ks:List (Nat × Bool)) (ss:List (Nat × Nat)) (B:Asr) (w:World) (F:List Nat) (W:((Nat→Bool)→Bool)→Prop) (op:Nat) (o:No) (v:Value) (w':World):Prop :=
 ∃r e' ns' ss',v=.tuple #[.int .i64 (r:Nat),eB e']∧Stp (2 * nBits T.vars) lim W false ns e' ns'∧(e'=false→RelOk T ns' (op,r))∧SpG lim T q ns' ks ss'∧ss'.length≤ss.length+1∧At w F (SpcA s m lim T q ns' ks ss' B) w'
section
variable {w w1:World} {F:List Nat} {B:Asr} {s m lim:Nat} {T:Nt} {q:SpC} {ns:Ns} {ks:List (Nat × Bool)} {ss:List (Nat × Nat)} {W:((Nat→Bool)→Bool)→Prop}
set_option maxHeartbeats 2000000 in
theorem relation_spec (op:Nat) (o:No) (hG:SpG lim T q ns ks ss) (hB:Lcl B) (h:At w F (SpcA s m lim T q ns ks ss B) w1) (ho:T.ops[op]? = some o) (hsl:ss.length < 1000000) (hW:RelW T o W) :
  Calls Tryz.prog 41 [.pointer (some ⟨s,0,none⟩),.int .i64 (op:Nat)].toArray w1 fun en w'=>∃u,en=.returned u∧RlPost s m lim T q ns ks ss B w F W op o u w':=by
 refine enter Tryz.func41 mixed low41 (Nat.le_of_ble_eq_true rfl) ?_
 simp only [L41]
 have os:=SpcA.obj h
 unfold spO at os
 have hol:=hG.g.olen
 have hopl:=(List.getElem?_eq_some_iff.1 ho).1
 have hok:i64ok op:=by unfold i64ok; omega
 simp [cell_blk os]
 refine MapM.look2 (x:=op) (SpcA.sm h) bkeyI Tryz.underlying73 zint hok ?_
 cases hg:getM ss op with
 | some r =>
  simp [natV]
  have hm:=hG.rel _ (getM_mem hg)
  exact ⟨r,false,ns,ss,by simp [eB],Stp.refl hG.ok.wf hG.ok.nl,fun _=>hm,hG,Nat.le_succ _,h⟩
 | none =>
  obtain ⟨b,hb⟩:∃b,b=w1.heap.size:=⟨_,rfl⟩
  have h2:=SpcA.bl hB h
  obtain ⟨w2,hw2⟩:∃w2,w2=w1.alloc (blO s false):=⟨_,rfl⟩
  rw [←hb,←hw2] at h2
  have hw2':w1.alloc (.cells #[.pointer (some ⟨s,0,none⟩),.nilIface] 81 (0,0))=w2:=by rw [hw2]; rfl
  have h2':=h2
  unfold BlA at h2'
  have os2:=h2'.drop.drop.obj
  unfold spO at os2
  rw [hG.cells.1] at os2
  have hT2:=BlA.frame h2 RestA.rd
  have hvl:=hG.g.vlen
  simp (disch:=omega) [←hb,hw2',cell_blk os2,hT2.vars.len,wrap_i64]
  have hR:Lcl (RestA T q ks ss B):=RestA.lcl hB
  have hom:=List.mem_of_getElem? ho
  have hog:=hG.g.ops o hom
  have helen:=hog.elen
  have hpl:=hog.pre.len
  refine loop_inv (RlI b s m lim T q ns (RestA T q ks ss B) w F W op o) T.vars.length ⟨by simp,by simp,by simp,by simp,Nat.le_refl _,1,false,ns,by simp,Stp.refl hG.ok.wf hG.ok.nl,one_mn hG.ok.wf _ _ (fun a=>rlB_end),h2⟩ ?_
  clear os2 hT2 h2
  rintro n ρ w3 ⟨g0,g1,g8,g10,hnl,f,e3,ns3,g9,hs,hmf,h3⟩
  have hk3:=hG.ok.stp hs
  have h3':=h3
  unfold BlA at h3'
  have os3:=h3'.drop.drop.obj
  unfold spO at os3
  rw [hG.cells.2.2.2] at os3
  have hT3:=BlA.frame h3 RestA.rd
  have hR3:=hT3.op o hom
  have hopi:(op:Int) < T.ops.length:=by omega
  by_cases hn0:n=0
  ·subst hn0
   have c2:=hT3.ops.fld noE_len ho (o:=2) (u:=o.pv.1) rfl
   simp (disch:=omega) [g10,g0,g1,g8,g9,cell_blk os3,hT3.ops.idx,c2]
   refine cl_of (bFacts_spec o.pv.1 o.pre hk3 hR h3 (fun w' F' hb'=>((RestA.rd w' F' hb').op o hom).pre) hog.pre.rng (by omega) hW.lit hW.pre) ?_
   rintro _ w4 ⟨y4,e4,ns4,rfl,hs4,hm4,h4⟩
   have hk4:=hk3.stp hs4
   simp [g8,g9]
   refine cl_of (bAnd_spec y4 f _ _ hk4 hR h4 hm4 (hmf.keep hk3.wf hs4) hW.fin) ?_
   rintro _ w5 ⟨y5,e5,ns5,rfl,hs5,hm5,h5⟩
   have hk5:=hk4.stp hs5
   have hst:=(hs.trans hs4).trans hs5
   have h5':=h5
   unfold BlA at h5'
   have ob5:=h5'.drop.obj
   unfold blO at ob5
   cases e5 with
   | true =>
    simp [g8,cell_blk ob5,eB,berrV]
    exact ⟨0,true,ns5,ss,by simp [eB,berrV],hst,fun h=>(by cases h),hG.stp hst,Nat.le_succ _,SpcA.un (h5.drew (BlA.lcl hR))⟩
   | false =>
    have h6:=SpcA.un h5
    have os6:=SpcA.obj h6
    unfold spO at os6
    simp [g8,g0,g1,cell_blk ob5,cell_blk os6,eB]
    refine SpcA.putS hB h6 hok (by omega) fun w7 h7=>?_
    simp
    have hm:=hm5.2 rfl
    have hrl:RelOk T ns5 (op,y5):=⟨hm.1,o,ho,fun a=>by rw [hm.2 a]; unfold relB; rw [←rlB_all]⟩
    have hG5:=hG.stp hst
    refine ⟨y5,false,ns5,putM ss op y5,by simp [eB],hst,fun _=>hrl,?_,putM_len_le,h7⟩
    exact ⟨hG5.ok,hG5.g,hG5.cells,hG5.all,hG5.set,fun p hp=>by
     rcases putM_mem hp with h | rfl
     ·exact hG5.rel p h
     ·exact hrl,hG5.kl,by have:(putM ss op y5).length≤ss.length+1:=putM_len_le; omega⟩
  obtain ⟨j,rfl⟩:∃j,n=j+1:=⟨n - 1,by omega⟩
  have hj9:((j+1:Nat):Int) - 1=(j:Int):=by omega
  rw [hj9] at g10
  have ec:=hT3.ops.cells noE_len ho
  simp only [noE] at ec
  simp (disch:=omega) [g10,g0,g1,g8,cell_blk os3,hT3.ops.idx,ec]
  have hand:W fun a=>decide (rv T.vars a 1 j=chgV o (rs T.vars a 0) j) && rlB T o (j+1) a:=by
   have:=hW.rl j (by omega)
   rwa [show rlB T o j=fun a=>decide (rv T.vars a 1 j=chgV o (rs T.vars a 0) j) && rlB T o (j+1) a from funext fun a=>rlB_step (by omega)] at this
  refine cl_of (bChanged_spec o j hk3 hR h3 (by omega) (fun w' F' hb'=>(RestA.rd w' F' hb').op o hom) hog hW.lit (hW.ch j (by omega))) ?_
  rintro _ w4 ⟨y4,e4,ns4,rfl,hs4,hm4,h4⟩
  have hk4:=hk3.stp hs4
  simp [g8,g9]
  refine cl_of (bAnd_spec y4 f _ _ hk4 hR h4 hm4 (hmf.keep hk3.wf hs4) hand) ?_
  rintro _ w5 ⟨y5,e5,ns5,rfl,hs5,hm5,h5⟩
  simp (disch:=omega) [g10,wrap_i64]
  refine ⟨j,by omega,by simp [g0],by simp [g1],by simp [g8],by simp,by omega,y5,e5,ns5,by simp,(hs.trans hs4).trans hs5,?_,h5⟩
  ·exact ⟨hm5.1,fun he=>⟨(hm5.2 he).1,fun a=>by rw [(hm5.2 he).2 a,rlB_step (by omega)]⟩⟩
end
end Go.Proofs.YtcoeknnghfajnaaGreat
end
section
namespace Go.Proofs.YtcoeknnghfajnaaGreat
open Go Go.W Go.Tk Go.Rx Go.Bd Go.Sy Go.Maps
def ksR (ks:List (Nat × Bool)) (x:Nat) (e:Bool):List (Nat × Bool):=if e=true then ks else putM ks x true
theorem ksR_len {ks:List (Nat × Bool)} {x:Nat} {e:Bool}:(ksR ks x e).length≤ks.length+1:=by
 unfold ksR
 split
 ·omega
 ·exact putM_len_le
def setF (vars:List Nat) (P:List Nat→Bool):(Nat→Bool)→Bool:=fun a=>okB vars a && P (rs vars a 0)
def SRes (s m lim:Nat) (T:Nt) (q:SpC) (ns:Ns) (ks:List (Nat × Bool)) (ss:List (Nat × Nat)) (B:Asr) (w:World) (F:List Nat) (W:((Nat→Bool)→Bool)→Prop) (P:List Nat→Bool) (v:Value) (w':World):Prop :=
 ∃x e' ns' ss',v=.tuple #[.int .i64 (x:Nat),eB e']∧Stp (2 * nBits T.vars) lim W false ns e' ns'∧(e'=true→x=0)∧(e'=false→SetOk T.vars ns' x P)∧SpG lim T q ns' (ksR ks x e') ss'∧ss'.length≤ss.length+1∧At w F (SpcA s m lim T q ns' (ksR ks x e') ss' B) w'
theorem SpG.put {lim:Nat} {T:Nt} {q:SpC} {ns:Ns} {ks:List (Nat × Bool)} {ss:List (Nat × Nat)} {x:Nat} {e:Bool} {P:List Nat→Bool} (h:SpG lim T q ns ks ss) (hl:ks.length < 1000000) (hx:e=false→SetOk T.vars ns x P):SpG lim T q ns (ksR ks x e) ss:=by
 cases e with
 | true=>exact h
 | false =>
  refine ⟨h.ok,h.g,h.cells,h.all,fun p hp=>?_,h.rel,by have:(ksR ks x false).length≤ks.length+1:=ksR_len; omega,h.sl⟩
  rcases putM_mem hp with h1 | rfl
  ·exact h.set p h1
  ·exact ⟨rfl,P,hx rfl⟩
theorem ref_le {lim:Nat} {vars:List Nat} {ns:Ns} {x:Nat} (hk:SpOk vars lim ns) (h:Ref ns x):x≤2000000:=by
 have h1:=hk.lmx
 have h2:=hk.nl
 unfold Ref at h
 omega
structure Kn (T:Nt) (ns:Ns) (ks:List (Nat × Bool)) (x:Nat) (P:List Nat→Bool):Prop where
 kn:getM ks x=some true
 ok:SetOk T.vars ns x P
section
variable {w w1:World} {F:List Nat} {B:Asr} {s m lim:Nat} {T:Nt} {q:SpC} {ns:Ns} {ks:List (Nat × Bool)} {ss:List (Nat × Nat)}
theorem Kn.le {x:Nat} {P:List Nat→Bool} (h:Kn T ns ks x P) (hG:SpG lim T q ns ks ss):x≤2000000:=ref_le hG.ok h.ok.1
theorem returned_spec (x:Nat) (e:Bool) (hB:Lcl B) (h:At w F (SpcA s m lim T q ns ks ss B) w1) (hx:x≤2000000) (hkl:ks.length≤1000000) :
  Calls Tryz.prog 36 [.pointer (some ⟨s,0,none⟩),.int .i64 (x:Nat),eB e].toArray w1 fun en w'=>∃v,en=.returned v∧v=.tuple #[.int .i64 ((if e=true then 0 else x:Nat):Nat),eB e]∧At w F (SpcA s m lim T q ns (ksR ks x e) ss B) w':=by
 refine enter Tryz.func36 mixed low36 (Nat.le_of_ble_eq_true rfl) ?_
 simp only [L36]
 have os:=SpcA.obj h
 unfold spO at os
 have hok:i64ok x:=by unfold i64ok; omega
 cases e with
 | true =>
  simp [eB,berrV]
  exact h
 | false =>
  simp [eB,cell_blk os]
  refine SpcA.putK hB h hok hkl fun w2 h2=>?_
  simp
  exact h2
set_option maxHeartbeats 1000000 in
theorem two_spec (a b:Nat) (h:At w F (SpcA s m lim T q ns ks ss B) w1) (ha:getM ks a=some true) (hb:getM ks b=some true) (hxa:a≤2000000) (hxb:b≤2000000) (hB:Lcl B) :
  Calls Tryz.prog 46 [.pointer (some ⟨s,0,none⟩),.int .i64 (a:Nat),.int .i64 (b:Nat)].toArray w1 fun en w'=>∃v,en=.returned v∧v=.nilIface∧At w F (SpcA s m lim T q ns ks ss B) w':=by
 refine enter Tryz.func46 mixed low46 (Nat.le_of_ble_eq_true rfl) ?_
 simp only [L46]
 have os:=SpcA.obj h
 unfold spO at os
 have hka:i64ok a:=by unfold i64ok; omega
 have hkb:i64ok b:=by unfold i64ok; omega
 simp [cell_blk os]
 refine MapM.look1 (x:=a) (SpcA.km h) bkeyI Tryz.underlying72 zbool hka ?_
 simp [ha,boolV,cell_blk os]
 refine MapM.look1 (x:=b) (SpcA.km h) bkeyI Tryz.underlying72 zbool hkb ?_
 simp [hb,boolV]
 exact h
theorem step_spec (a op:Nat) (h:At w F (SpcA s m lim T q ns ks ss B) w1) (ha:getM ks a=some true) (hxa:a≤2000000) (hG:SpG lim T q ns ks ss) (ho:op < T.ops.length) (hB:Lcl B) :
  Calls Tryz.prog 40 [.pointer (some ⟨s,0,none⟩),.int .i64 (a:Nat),.int .i64 (op:Nat)].toArray w1 fun en w'=>∃v,en=.returned v∧v=.nilIface∧At w F (SpcA s m lim T q ns ks ss B) w':=by
 refine enter Tryz.func40 mixed low40 (Nat.le_of_ble_eq_true rfl) ?_
 simp only [L40]
 have os:=SpcA.obj h
 unfold spO at os
 rw [hG.cells.2.2.2] at os
 have hT:=SpcA.tsk h
 have hka:i64ok a:=by unfold i64ok; omega
 have h0:¬(op:Int) < 0:=by omega
 have h1:¬(T.ops.length:Int)≤(op:Int):=by omega
 simp [cell_blk os]
 refine MapM.look1 (x:=a) (SpcA.km h) bkeyI Tryz.underlying72 zbool hka ?_
 simp [ha,boolV,cell_blk os,h0,hT.ops.len,h1]
 exact h
end
end Go.Proofs.YtcoeknnghfajnaaGreat
end
section
namespace Go.Proofs.YtcoeknnghfajnaaGreat
open Go Go.W Go.Tk Go.Rx Go.Bd Go.Sy Go.Maps
section
variable {w w1:World} {F:List Nat} {B:Asr} {s m lim:Nat} {T:Nt} {q:SpC} {ns:Ns} {ks:List (Nat × Bool)} {ss:List (Nat × Nat)} {W:((Nat→Bool)→Bool)→Prop}
theorem SpcA.rest (hB:Lcl B):Lcl (Star (ObjA s (spO m T.vars q)) (Star (OwnA q.fv 3 1 nE (firstL T.vars)) (Star (OwnA q.wv 3 1 nE (widthL T.vars)) (Star (KmA q.km ks) (Star (SmA q.sm ss) (Star (TskA T) B)))))):=Lcl.obj.star (Lcl.own.star (Lcl.own.star (Lcl.map.star (Lcl.map.star (TskA.lcl.star hB)))))
theorem sres_end {x:Nat} {e:Bool} {ns':Ns} {P:List Nat→Bool} {w':World} {v:Value} (hG:SpG lim T q ns ks ss) (hkl:ks.length < 1000000) (hs:Stp (2 * nBits T.vars) lim W false ns e ns') (hx:e=false→SetOk T.vars ns' x P) (hv:v=.tuple #[.int .i64 ((if e=true then 0 else x:Nat):Nat),eB e])
  (h:At w F (SpcA s m lim T q ns' (ksR ks x e) ss B) w'):SRes s m lim T q ns ks ss B w F W P v w':=by
 cases e with
 | true=>exact ⟨0,true,ns',ss,by rw [hv]; rfl,hs,fun _=>rfl,fun h=>(by cases h),hG.stp hs,Nat.le_succ _,h⟩
 | false=>exact ⟨x,false,ns',ss,by rw [hv]; rfl,hs,fun h=>(by cases h),hx,(hG.stp hs).put hkl hx,Nat.le_succ _,h⟩
set_option maxHeartbeats 1000000 in
theorem union_spec (a b:Nat) (P Q:List Nat→Bool) (hG:SpG lim T q ns ks ss) (hB:Lcl B) (h:At w F (SpcA s m lim T q ns ks ss B) w1) (ha:Kn T ns ks a P) (hb:Kn T ns ks b Q) (hkl:ks.length < 1000000) (hW:W (setF T.vars fun x=>P x || Q x)) :
  Calls Tryz.prog 13 [.pointer (some ⟨s,0,none⟩),.int .i64 (a:Nat),.int .i64 (b:Nat)].toArray w1 fun en w'=>∃v,en=.returned v∧SRes s m lim T q ns ks ss B w F W (fun x=>P x || Q x) v w':=by
 refine enter Tryz.func13 mixed low13 (Nat.le_of_ble_eq_true rfl) ?_
 simp only [L13]
 simp
 refine cl_of (two_spec a b h ha.kn hb.kn (ha.le hG) (hb.le hG) hB) ?_
 rintro _ w2 ⟨rfl,h2⟩
 have os:=SpcA.obj h2
 unfold spO at os
 simp [cell_blk os]
 obtain ⟨p1,p2⟩:=ps_clo hG.ok.wf 1 ha.ok.1 hb.ok.1
 have h2':=h2
 unfold SpcA at h2'
 refine cl_of (or_of (binary_spec m (2 * nBits T.vars) lim ns 1 a b _ (by omega) (SpcA.rest hB) h2' hG.ok.wf hG.ok.bnd ha.ok.1 hb.ok.1 p2 p1) (by rintro v w' ⟨r,_,rfl,_⟩; exact optV_tup r)) ?_
 rintro _ w3 ⟨r,ns',rfl,hbin,h3⟩
 obtain ⟨s1,s2⟩:=op_end (W:=W) (G:=setF T.vars fun x=>P x || Q x) hG.ok hbin (fun _ _ h=>h) (fun x=>by
  show (eval ns x a || eval ns x b)=_
  rw [ha.ok.2,hb.ok.2]
  unfold setF
  cases okB T.vars x <;> rfl) hW
 rw [optV_parts]
 simp
 have h3':At w F (SpcA s m lim T q ns' ks ss B) w3:=h3
 refine cl_of (returned_spec (r.getD 0) r.isNone hB h3' s2.1 (by omega)) ?_
 rintro _ w4 ⟨rfl,h4⟩
 simp
 refine sres_end hG hkl s1 (fun e=>⟨(s2.2 e).1,fun x=>?_⟩) (by cases r <;> rfl) h4
 rw [(s2.2 e).2]
 rfl
end
end Go.Proofs.YtcoeknnghfajnaaGreat
end
section
namespace Go.Proofs.YtcoeknnghfajnaaGreat
open Go Go.W Go.Tk Go.Rx Go.Bd Go.Sy Go.Maps
def sF (s:List Nat) (k:Nat):List Go.Tk.Fc:=(List.range k).map fun v=>(v,s.getD v 0)
theorem sF_succ (s:List Nat) (k:Nat):sF s (k+1)=sF s k ++ [(k,s.getD k 0)]:=by unfold sF; rw [List.range_succ,List.map_append]; rfl
theorem sF_len (s:List Nat) (k:Nat):(sF s k).length=k:=by unfold sF; simp
theorem sF_hd {x s:List Nat} (h:x.length=s.length):hdB x (sF s s.length)=decide (x=s):=by
 rw [Bool.eq_iff_iff,decide_eq_true_iff]
 unfold hdB sF
 rw [List.all_eq_true]
 constructor
 ·intro hh
  refine ext_getD h fun v hv=>?_
  have:=hh (v,s.getD v 0) (List.mem_map.2 ⟨v,List.mem_range.2 (by omega),rfl⟩)
  simpa using this
 ·rintro rfl f hf
  obtain ⟨v,hv,rfl⟩:=List.mem_map.1 hf
  simp
theorem sF_rng {vars s:List Nat} (h:StN vars s):FcRng vars (sF s s.length):=by
 intro f hf
 unfold sF at hf
 obtain ⟨v,hv,rfl⟩:=List.mem_map.1 hf
 have:=List.mem_range.1 hv
 rw [h.len] at this
 exact ⟨this,h.rng v this⟩
section
variable {w w1:World} {F:List Nat} {A B:Asr} {s m lim:Nat} {T:Nt} {q:SpC} {ns:Ns} {ks:List (Nat × Bool)} {ss:List (Nat × Nat)} {W:((Nat→Bool)→Bool)→Prop}
theorem SpcA.into (h:At w F (Star A (SpcA s m lim T q ns ks ss B)) w1):At w F (SpcA s m lim T q ns ks ss (Star A B)) w1:=by
 unfold SpcA at h ⊢
 exact h.by Imp.bk8
theorem SpcA.out (h:At w F (SpcA s m lim T q ns ks ss (Star A B)) w1):At w F (Star A (SpcA s m lim T q ns ks ss B)) w1:=by
 unfold SpcA at h ⊢
 exact h.by Imp.fr8
theorem SpcA.less (h:At w F (SpcA s m lim T q ns ks ss (Star A B)) w1):At w F (SpcA s m lim T q ns ks ss B) w1:=(SpcA.out h).by Imp.dr
theorem SRes.less {P:List Nat→Bool} {v:Value} {w':World} (h:SRes s m lim T q ns ks ss (Star A B) w F W P v w'):SRes s m lim T q ns ks ss B w F W P v w':=by
 obtain ⟨x,e',ns',ss',h1,h2,h3,h4,h5,h6,h7⟩:=h
 exact ⟨x,e',ns',ss',h1,h2,h3,h4,h5,h6,SpcA.less h7⟩
set_option maxHeartbeats 1000000 in
theorem single_spec (sv:Value) (st:List Nat) (hG:SpG lim T q ns ks ss) (hB:Lcl B) (h:At w F (SpcA s m lim T q ns ks ss B) w1) (hr:Rds B fun w'=>Vw w' sv nE st) (hst:StN T.vars st) (hkl:ks.length < 1000000) (hL:LitW T.vars W) (hF:FcW T.vars (sF st st.length) W) :
  Calls Tryz.prog 9 [.pointer (some ⟨s,0,none⟩),sv].toArray w1 fun en w'=>∃v,en=.returned v∧SRes s m lim T q ns ks ss B w F W (fun x=>decide (x=st)) v w':=by
 refine enter Tryz.func9 mixed low9 (Nat.le_of_ble_eq_true rfl) ?_
 simp only [L9]
 have os:=SpcA.obj h
 unfold spO at os
 rw [hG.cells.1] at os
 have hT:=SpcA.tsk h
 have hvl:=hG.g.vlen
 have hsl:=hst.len
 have hLS:Lcl (SpcA s m lim T q ns ks ss B):=SpcA.lcl hB
 simp [cell_blk os]
 refine cl_of (tproper_spec T.vv.1 sv _ _ (vw_n.2 hT.vars) (vw_n.2 (SpcA.frame h hr)) (by simp; omega)) ?_
 rintro _ w2 ⟨rfl,k2⟩
 have h2:=h.kp0 hLS k2
 have hsv2:=SpcA.frame h2 hr
 have h2n:=h2.nil (E:=85) (sz:=2) (enc:=fcE) hLS
 simp [hst.ok,hsv2.len]
 refine range_loop (n:=st.length) (by omega) (fun k ρ w'=>ρ 0=.pointer (some ⟨s,0,none⟩)∧ρ 23=sv∧At w F (Star (OwnA (ρ 6) 85 2 fcE (sF st k)) (SpcA s m lim T q ns ks ss B)) w') (by simp) (by simp)
  ⟨by simp,by simp,by simpa [sF] using h2n⟩ (by decide) (fun _ _ _ _ h=>by simpa using h) (fun _ _ _ _ h=>by simpa using h) ?_ ?_
 ·rintro k ρ w3 hk hck hlk ⟨e0,e23,h3⟩
  obtain ⟨x,hx⟩:∃x,st[k]? = some x:=⟨_,List.getElem?_eq_getElem hk⟩
  have hxd:st.getD k 0=x:=by simp [List.getD,hx]
  have hs3:=SpcA.frame (h3.by Imp.dr) hr
  have hki:(k:Int) < st.length:=by omega
  obtain ⟨ov,hov⟩:∃ov,ρ 6=ov:=⟨_,rfl⟩
  rw [hov] at h3
  simp (disch:=omega) [e23,hck,hlk,hs3.idx,nE_cell hs3 hx,hov,rowOf]
  refine fc_append (x:=(k,x)) hLS h3 (by rw [sF_len]; omega) fun v' w9 h9=>?_
  simp [e0,e23,hck,hlk]
  rw [sF_succ,hxd]
  exact h9
 rintro ρ w3 ⟨e0,e23,h3⟩
 obtain ⟨ov,hov⟩:∃ov,ρ 6=ov:=⟨_,rfl⟩
 rw [hov] at h3
 have h3i:=SpcA.into h3
 have hB3:Lcl (Star (OwnA ov 85 2 fcE (sF st st.length)) B):=Lcl.own.star hB
 obtain ⟨bb,hbb⟩:∃bb,bb=w3.heap.size:=⟨_,rfl⟩
 have h4:=SpcA.bl hB3 h3i
 obtain ⟨w4,hw4⟩:∃w4,w4=w3.alloc (blO s false):=⟨_,rfl⟩
 rw [←hbb,←hw4] at h4
 have hw4':w3.alloc (.cells #[.pointer (some ⟨s,0,none⟩),.nilIface] 81 (0,0))=w4:=by rw [hw4]; rfl
 have hR:Lcl (RestA T q ks ss (Star (OwnA ov 85 2 fcE (sF st st.length)) B)):=RestA.lcl hB3
 have hrR:Rds (RestA T q ks ss (Star (OwnA ov 85 2 fcE (sF st st.length)) B)) fun w'=>Vw w' ov fcE (sF st st.length):=by
  unfold RestA
  exact Rds.star (Rds.star (Rds.star fun w' F' hs=>by obtain ⟨Fa,Fb,ha,_⟩:=hs; exact ha.1.vw))
 simp [e0,hov,←hbb,hw4']
 refine cl_of (bFacts_spec ov (sF st st.length) hG.ok hR h4 hrR (sF_rng hst) (by rw [sF_len]; omega) hL hF) ?_
 rintro _ w5 ⟨y5,e5,ns5,rfl,hs5,hm5,h5⟩
 have hk5:=hG.ok.stp hs5
 have h5':=h5
 unfold BlA at h5'
 have ob5:=h5'.drop.obj
 unfold blO at ob5
 simp [e0,cell_blk ob5]
 refine cl_of (returned_spec y5 e5 hB3 (SpcA.un h5) hm5.1 (by omega)) ?_
 rintro _ w6 ⟨rfl,h6⟩
 simp
 refine SRes.less (sres_end hG hkl hs5 (fun e=>⟨(hm5.2 e).1,fun x=>?_⟩) rfl h6)
 rw [(hm5.2 e).2]
 show hdB _ _=_
 rw [sF_hd (by rw [rs_len,hsl])]
 by_cases hx:rs T.vars x 0=st
 ·have:okB T.vars x=true:=okB_iff.2 (by rw [hx]; exact hst)
  rw [this]
  simp [hx]
 ·simp [hx]
end
end Go.Proofs.YtcoeknnghfajnaaGreat
end
section
namespace Go.Proofs.YtcoeknnghfajnaaGreat
open Go Go.W Go.Tk Go.Rx Go.Bd Go.Sy Go.Maps
def tlL (g:Nat→Int) (n k:Nat):List Int:=(List.range n).map fun i=>if i < k then g i else 0
theorem tlL_len (g:Nat→Int) (n k:Nat):(tlL g n k).length=n:=by simp [tlL]
theorem tlL_zero (g:Nat→Int) (n:Nat):tlL g n 0=List.replicate n 0:=by
 unfold tlL
 apply List.ext_getElem
 ·simp
 ·intro i h1 h2
  simp
theorem tlL_set (g:Nat→Int) (n k:Nat) (hk:k < n):(tlL g n k).set k (g k)=tlL g n (k+1):=by
 unfold tlL
 apply List.ext_getElem
 ·simp
 ·intro i h1 h2
  rw [List.getElem_set]
  simp only [List.getElem_map,List.getElem_range]
  by_cases h:k=i
  ·subst h
   simp
  ·rw [if_neg h]
   by_cases h3:i < k
   ·rw [if_pos h3,if_pos (by omega)]
   ·rw [if_neg h3,if_neg (by omega)]
theorem tlL_full (g:Nat→Int) (n:Nat):tlL g n n=(List.range n).map g:=by
 unfold tlL
 apply List.map_congr_left
 intro i hi
 rw [if_pos (List.mem_range.1 hi)]
def hfL (nx k:Nat):List Int:=((List.range k).filter fun i=>i % 2 == nx).map fun (i:Nat)=>(i:Int)
def toG (nx i:Nat):Int:=if i % 2=nx then (i:Int)+1 - 2 * nx else i
theorem hfL_in {nx k:Nat} (h:k % 2=nx):hfL nx (k+1)=hfL nx k ++ [(k:Int)]:=by
 unfold hfL
 rw [List.range_succ,List.filter_append,List.map_append]
 simp [h]
theorem hfL_out {nx k:Nat} (h:k % 2≠nx):hfL nx (k+1)=hfL nx k:=by
 unfold hfL
 rw [List.range_succ,List.filter_append,List.map_append]
 simp [h]
theorem hfL_len (nx k:Nat):(hfL nx k).length≤k:=by
 unfold hfL
 rw [List.length_map]
 exact Nat.le_trans (List.length_filter_le _ _) (by simp)
theorem hfL_mem {nx k i:Nat}:((i:Nat):Int) ∈ hfL nx k↔i < k∧i % 2=nx:=by
 unfold hfL
 constructor
 ·intro h
  obtain ⟨j,hj,e⟩:=List.mem_map.1 h
  have:j=i:=by have e:(j:Int)=(i:Int):=e; omega
  subst this
  have:=List.mem_filter.1 hj
  exact ⟨List.mem_range.1 this.1,by simpa using this.2⟩
 ·rintro ⟨h1,h2⟩
  exact List.mem_map.2 ⟨i,List.mem_filter.2 ⟨List.mem_range.2 h1,by simp [h2]⟩,rfl⟩
section
variable {w w1:World} {F:List Nat} {B:Asr} {s m:Nat} {vars:List Nat} {q:SpC}
set_option maxHeartbeats 2000000 in
theorem half_spec (nx:Nat) (hn:nx < 2) (hB:Lcl B) (h:At w F B w1) (hs:Rds B fun w'=>w'.heap[s]? = some (spO m vars q)) (hb:nBits vars≤100) :
  Calls Tryz.prog 42 [.pointer (some ⟨s,0,none⟩),.int .i64 (nx:Nat)].toArray w1 fun en w'=>∃v,en=.returned v∧∃ov tv,v=.tuple #[ov,tv]∧At w F (Star (OwnA ov 3 1 iv (hfL nx (2 * nBits vars))) (Star (OwnA tv 3 1 iv ((List.range (2 * nBits vars)).map (toG nx))) B)) w':=by
 refine enter Tryz.func42 mixed low42 (Nat.le_of_ble_eq_true rfl) ?_
 simp only [L42]
 obtain ⟨_,hq,_⟩:=h.ex
 have os:=hs _ _ hq
 unfold spO at os
 obtain ⟨n,hn2⟩:∃n,n=2 * nBits vars:=⟨_,rfl⟩
 have hnI:(2:Int) * (nBits vars:Nat)=(n:Int):=by omega
 have h1:=h.made (E:=3) (enc:=iv) (x:=0) (z:=[.int .i64 0]) (n:=n) hB rfl iv_len (by unfold maxLen; omega)
 rw [←tlL_zero (toG nx)] at h1
 have hLO:Lcl (Star (OwnA (.slice (some ⟨w1.heap.size,0,none⟩) n n) 3 1 iv (tlL (toG nx) n 0)) B):=Lcl.own.star hB
 have h2:=h1.nil (E:=3) (sz:=1) (enc:=iv) hLO
 simp (disch:=omega) [cell_blk os,wrap_i64,hnI]
 refine gd_mk (by omega) ?_
 simp
 obtain ⟨tv,htv⟩:∃tv,tv=Value.slice (some ⟨w1.heap.size,0,none⟩) n n:=⟨_,rfl⟩
 rw [←htv] at h2 ⊢
 refine range_loop (n:=n) (by omega) (fun k ρ w'=>ρ 1=.int .i64 (nx:Nat)∧ρ 7=tv∧At w F (Star (OwnA (ρ 6) 3 1 iv (hfL nx k)) (Star (OwnA tv 3 1 iv (tlL (toG nx) n k)) B)) w') (by simp) (by rw [htv]; simp)
  ⟨by simp,by simp,by simpa [hfL] using h2⟩ (by decide) (fun _ _ _ _ h=>by simpa using h) (fun _ _ _ _ h=>by simpa using h) ?_ ?_
 ·rintro k ρ w2 hk hck hlk ⟨g1,g7,h3⟩
  obtain ⟨ov,hov⟩:∃ov,ρ 6=ov:=⟨_,rfl⟩
  rw [hov] at h3
  have hki:(k:Int) < n:=by omega
  have hr:=h3.by Imp.sw
  have hL2:Lcl (Star (OwnA ov 3 1 iv (hfL nx k)) B):=Lcl.own.star hB
  have hl:(tlL (toG nx) n k).length=n:=tlL_len _ _ _
  have e2:((k:Int) % 2 == (nx:Int))=(k % 2 == nx):=by
   rw [Bool.eq_iff_iff]
   simp
   omega
  simp (disch:=omega) [hck,hlk,g7,hr.own.idx,hl]
  have et:(k:Int).tmod 2=((k % 2:Nat):Int):=(Int.ofNat_tmod k 2).symm
  refine hr.store1 (x:=(k:Int)) hL2 iv_len iv_one (by rw [hl]; exact hk) rfl fun w3 h4=>?_
  by_cases hp:k % 2=nx
  ·have ep:((k:Int).tmod 2 == (nx:Int))=true:=by
    rw [beq_iff_eq,et]
    omega
   have h5:=h4.by Imp.sw
   have hl4:((tlL (toG nx) n k).set k (k:Int)).length=n:=by rw [List.length_set,hl]
   have hLX:Lcl (Star (OwnA tv 3 1 iv ((tlL (toG nx) n k).set k (k:Int))) B):=Lcl.own.star hB
   simp (disch:=omega) [ep,g1,g7,hov,rowOf]
   have h6:=h5.kp0 (Lcl.own.star hLX) ((Kp.refl [] w3).alloc (.cells #[.int .i64 (k:Nat)] 3))
   have hfl:=hfL_len nx k
   refine At.append (xs:=[(k:Int)]) hLX h6 iv_len iv_one sl_22 rfl (fun j u hj=>?_) (by omega) (by unfold maxLen; omega) fun v' w9 h9=>?_
   ·rw [add_none,cell_blk alloc_new]
    simpa [iv] using hj
   have h10:=h9.by Imp.sw
   have hL10:Lcl (Star (OwnA v' 3 1 iv (hfL nx k ++ [(k:Int)])) B):=Lcl.own.star hB
   simp (disch:=omega) [hck,hlk,g1,g7,h10.own.idx,hl4,wrap_i64]
   refine h10.store1 (x:=(k:Int)+1 - 2 * nx) hL10 iv_len iv_one (by rw [hl4]; exact hk) rfl fun w11 h11=>?_
   rw [List.set_set,show (k:Int)+1 - 2 * nx=toG nx k by unfold toG; rw [if_pos hp],tlL_set _ _ _ hk] at h11
   simp [g1,g7,hck,hlk]
   rw [hfL_in hp]
   exact h11.by Imp.sw
  ·have ep:((k:Int).tmod 2 == (nx:Int))=false:=by
    rw [beq_eq_false_iff_ne,et]
    intro h
    apply hp
    omega
   simp [ep,g1,g7,hov,hck,hlk]
   rw [hfL_out hp,←tlL_set _ _ _ hk,show toG nx k=(k:Int) by unfold toG; rw [if_neg hp]]
   exact h4.by Imp.sw
 rintro ρ w2 ⟨g1,g7,h3⟩
 simp [g7]
 rw [tlL_full] at h3
 rw [←hn2]
 exact ⟨_,_,⟨rfl,rfl⟩,h3⟩
end
end Go.Proofs.YtcoeknnghfajnaaGreat
end
