/-
  A part of the proof of this claim's statement (LdP, LdQ, LdR, LdS): plain theorems; no conditions beyond those each names.
-/
import Derived.Test.YtolkjbmcindhjaaGreatPk27
import Derived.Test.YtolkjbmcindhjaaGreatPk14
set_option maxRecDepth 100000
set_option linter.unusedSimpArgs false
set_option linter.unusedVariables false
set_option linter.unusedSectionVars false
section
namespace Go.Proofs.YtolkjbmcindhjaaGreat
open Go Go.W Go.Tk Go.Rx Go.Lm Go.Maps Go.Sx
theorem RowsA.nils {α:Type} {enc:α→List Value} {E:Nat} {w w1:World} {F:List Nat} {B:Asr} (hB:Lcl B) (h:At w F B w1):∀n,At w F (RowsA E 1 enc (List.replicate n ((⟨.slice none 0 0,rfl⟩,[]):Cell1 × List α)) B) w1
 | 0=>h
 | n+1=>by
  rw [List.replicate_succ]
  exact At.nil (Lcl.rows hB _) (RowsA.nils hB h n)
def rowsK (vars:List Nat) (R:Nat→Bool) (k:Nat):List (List Bool):=(List.range vars.length).map fun u=>if u < k then rowB vars R u else []
theorem rowsK_succ {vars:List Nat} {R:Nat→Bool} {k:Nat} (hk:k < vars.length):(rowsK vars R k).set k (rowB vars R k)=rowsK vars R (k+1):=by
 apply List.ext_getElem
 ·simp [rowsK]
 ·intro i h1 h2
  simp only [List.getElem_set,rowsK,List.getElem_map,List.getElem_range]
  by_cases e:k=i
  ·subst e; simp
  ·rw [if_neg e]
   by_cases e2:i < k
   ·rw [if_pos e2,if_pos (by omega)]
   ·rw [if_neg e2,if_neg (by omega)]
theorem rowsK_all {vars:List Nat} {R:Nat→Bool}:rowsK vars R vars.length=rowsB vars R:=by
 unfold rowsK rowsB
 apply List.map_congr_left
 intro u hu
 rw [if_pos (List.mem_range.1 hu)]
def r0F (vars s:List Nat):Nat→Bool:=fun f=>decide (f ∈ stN vars s vars.length)
theorem r0_row {vars s:List Nat} (hst:StN vars s) {v:Nat} (hv:v < vars.length):(tabB (vars.getD v 0) fB).set (s.getD v 0) true=rowB vars (r0F vars s) v:=by
 have h1:=hst.rng v hv
 rw [tabB_set h1]
 unfold rowB tabB
 apply List.map_congr_left
 intro x hx
 have hx:=List.mem_range.1 hx
 by_cases e:x=s.getD v 0
 ·subst e
  rw [updN_same]
  refine (decide_eq_true ?_).symm
  unfold stN
  exact List.mem_map.2 ⟨v,List.mem_range.2 hv,rfl⟩
 ·rw [updN_ne e]
  refine (decide_eq_false fun hm=>e ?_).symm
  unfold stN at hm
  obtain ⟨u,hu,e2⟩:=List.mem_map.1 hm
  have hu:=List.mem_range.1 hu
  have:=numF_inj (vars:=vars) (f:=(u,s.getD u 0)) (g:=(v,x)) hu (hst.rng u hu) hv hx e2
  have e3:u=v:=congrArg Prod.fst this
  have e4:s.getD u 0=x:=congrArg Prod.snd this
  rw [←e4,e3]
theorem tabA_cell {α:Type} {enc:α→List Value} {E E2:Nat} {w w1:World} {F:List Nat} {B:Asr} {v:Value} {ps:List (Cell1 × List α)} {i:Nat} {p:Cell1 × List α} (h:At w F (Star (TabA v E2 E enc ps) B) w1) (hi:ps[i]? = some p):w1.cell? ⟨v.blk,i,none⟩=some p.1.1:=by
 have:=(TabA.own h).cell sv1_len hi (o:=0) (by omega)
 simpa [sv1] using this
theorem eq_fact (a b c d:Int) (w:World):(Op.equalIn 10000 100 (.agg #[.int .i64 a,.int .i64 b]) (.agg #[.int .i64 c,.int .i64 d])).run Tryz.prog w=.ok (a == c && b == d) w:=by
 have u3:=Tryz.underlying3
 have a3:=Tryz.isAgg3
 have z3:=Tryz.sizeOf3
 have hS:Tryz.prog.underlying 100=some (.struct (Tryz.prog.fieldsOf 100)):=by kernel_rfl
 rw [show (10000:Nat)=9999+1 from rfl,run_equalIn_agg w 9999 100 _ _ hS (by kernel_rfl)]
 simp only [Program.fieldsOf,Tryz.underlying100]
 go_simp
 by_cases h1:a=c <;> by_cases h2:b=d <;> simp [h1,h2]
theorem eq_pair (f g:Fa):(f.1 == g.1 && f.2 == g.2)=decide (f=g):=by
 obtain ⟨x1,x2⟩:=f
 obtain ⟨y1,y2⟩:=g
 rw [Bool.eq_iff_iff]
 simp only [Bool.and_eq_true,beq_iff_eq,decide_eq_true_eq,Prod.mk.injEq]
theorem rd_nf {x y:Operand} {w:World} {K:Kont Value} (f g:Fa) (h:K.run (.bool (!decide (f=g)))) :
  @rdH Tryz.prog (do eqGuard .neq 100 x y (.agg #[.int .i64 f.1,.int .i64 f.2]) (.agg #[.int .i64 g.1,.int .i64 g.2]); binOp .neq 100 (.agg #[.int .i64 f.1,.int .i64 f.2]) (.agg #[.int .i64 g.1,.int .i64 g.2])) w K :=
 rd_mk (v:=.bool (!decide (f=g))) (fun w' _=>by simp only [Sem.run_bind,run_eqGuard_agg w' _ _ _ _ _ _ (by kernel_rfl:Tryz.prog.eqGuardType Tryz.prog.depth 100=false),Result.andThen_ok,run_neq_struct,eq_fact,eq_pair]) h
theorem rd_ef {x y:Operand} {w:World} {K:Kont Value} (f g:Fa) (h:K.run (.bool (decide (f=g)))) :
  @rdH Tryz.prog (do eqGuard .eql 100 x y (.agg #[.int .i64 f.1,.int .i64 f.2]) (.agg #[.int .i64 g.1,.int .i64 g.2]); binOp .eql 100 (.agg #[.int .i64 f.1,.int .i64 f.2]) (.agg #[.int .i64 g.1,.int .i64 g.2])) w K :=
 rd_mk (v:=.bool (decide (f=g))) (fun w' _=>by simp only [Sem.run_bind,run_eqGuard_agg w' _ _ _ _ _ _ (by kernel_rfl:Tryz.prog.eqGuardType Tryz.prog.depth 100=false),Result.andThen_ok,run_eql_struct,eq_fact,eq_pair]) h
def ldO (r:Ld):Obj:=.cells #[.int .i64 (r.op:Nat),r.nv.1,.int .i64 (r.mkf.1:Nat),.int .i64 (r.mkf.2:Nat)] 123 (0,0)
theorem st_ld {r:Ld} {b:Nat} {w wa:World} {F:List Nat} {X:Asr} {KW:Kont World} (hX:Lcl X) (h:At w F X wa) (hb:b=wa.heap.size) (H:∀w2,At w F (Star (ObjA b (ldO r)) X) w2→KW.run w2) :
  @stJ (wa.alloc (.cells #[.int .i64 0,.slice none 0 0,.int .i64 0,.int .i64 0] 123 (0,0))) ⟨b,0,none⟩ [.int .i64 (r.op:Nat),r.nv.1,.int .i64 (r.mkf.1:Nat),.int .i64 (r.mkf.2:Nat)] KW:=by
 have h1:At w F (Star (ObjA b (.cells #[.int .i64 0,.slice none 0 0,.int .i64 0,.int .i64 0] 123 (0,0))) X) (wa.alloc (.cells #[.int .i64 0,.slice none 0 0,.int .i64 0,.int .i64 0] 123 (0,0))):=by rw [hb]; exact h.alloc _ hX
 exact h1.st hX (by simp) (by simp [r.nv.2]) fun w2 h2=>H w2 (by simpa [ldO] using h2)
def LrI (w:World) (fv:Value) (gb:Nat) (g:Fa) (vars:List Nat) (ls:List (List Bool)) (w':World):Prop :=
 ∃ps,ps.map (·.2)=ls∧At w [] (Star (TabA fv 96 4 bE ps) (Star (ObjA gb (faO g)) Emp)) w'
def cntF (N:Nat) (R:Nat→Bool):Nat:=((List.range N).filter fun x=>!R x).length
theorem cntF_upd {N f:Nat} {R:Nat→Bool} (hf:f < N) (hR:R f=false):cntF N (updN R f true) < cntF N R:=by
 induction N with
 | zero=>omega
 | succ N ih =>
  unfold cntF at ih ⊢
  rw [List.range_succ,List.filter_append,List.filter_append,List.length_append,List.length_append]
  by_cases e:f=N
  ·subst e
   have h1:((List.range f).filter fun x=>!(updN R f true) x)=(List.range f).filter fun x=>!R x:=List.filter_congr fun x hx=>by
    have:=List.mem_range.1 hx
    rw [updN_ne (by omega)]
   rw [h1]
   simp [updN_same,hR]
  ·have h1:=ih (by omega)
   have h2:((List.filter (fun x=>!(updN R f true) x) [N])).length=((List.filter (fun x=>!R x) [N])).length:=by
    have:updN R f true N=R N:=updN_ne (by omega)
    simp [List.filter_cons,this]
   omega
theorem rowsB_set {vars:List Nat} {R:Nat→Bool} {v x:Nat} (hv:v < vars.length) (hx:x < vars.getD v 0):(rowsB vars R).set v ((rowB vars R v).set x true)=rowsB vars (updN R (psum vars v+x) true):=by
 apply List.ext_getElem
 ·simp [rowsB]
 ·intro i h1 h2
  simp only [List.getElem_set,rowsB,List.getElem_map,List.getElem_range]
  have hi:i < vars.length:=by simpa [rowsB] using h2
  by_cases e:v=i
  ·subst e
   rw [if_pos rfl]
   unfold rowB
   rw [tabB_set hx]
   unfold tabB
   apply List.map_congr_left
   intro y hy
   by_cases e2:y=x
   ·subst e2; rw [updN_same,updN_same]
   ·rw [updN_ne e2,updN_ne (by omega)]
  ·rw [if_neg e]
   unfold rowB tabB
   apply List.map_congr_left
   intro y hy
   have hy:=List.mem_range.1 hy
   rw [updN_ne]
   intro e2
   exact e (congrArg Prod.fst (numF_inj (vars:=vars) (f:=(i,y)) (g:=(v,x)) hi hy hv hx e2)).symm
structure RcS (g:Fa) (vars s:List Nat) (rs:List Ld) (R:Nat→Bool):Prop where
 s0:∀x ∈ stN vars s vars.length,R x=true
 der:∀x,R x=true→Dr ((rs.filter fun r=>!decide (((r.mkf.1:Int),(r.mkf.2:Int))=g)).map (ldU vars)) (stN vars s vars.length) x
theorem RcS.start {g:Fa} {vars s:List Nat} {rs:List Ld}:RcS g vars s rs (r0F vars s):=⟨fun x hx=>decide_eq_true hx,fun x hx=>.base (by unfold r0F at hx; exact of_decide_eq_true hx)⟩
def ClL (g:Fa) (vars:List Nat) (R:Nat→Bool) (l:List Ld):Prop:=∀r ∈ l,((r.mkf.1:Int),(r.mkf.2:Int))≠g→(∀f ∈ r.needs,R (numF vars f)=true)→R (numF vars r.mkf)=true
theorem ClL.snoc {g:Fa} {vars:List Nat} {R:Nat→Bool} {rs:List Ld} {k:Nat} {r:Ld} (h:ClL g vars R (rs.take k)) (hr:rs[k]? = some r) (h1:((r.mkf.1:Int),(r.mkf.2:Int))≠g→(∀f ∈ r.needs,R (numF vars f)=true)→R (numF vars r.mkf)=true):ClL g vars R (rs.take (k+1)):=fun x hx=>by
 rw [take_snoc hr] at hx
 rcases List.mem_append.1 hx with hx | hx
 ·exact h x hx
 ·rw [List.mem_singleton] at hx
  rw [hx]; exact h1
theorem RcS.add {g:Fa} {vars s:List Nat} {rs:List Ld} {R:Nat→Bool} (h:RcS g vars s rs R) {r:Ld} (hr:r ∈ rs) (hg:¬((r.mkf.1:Int),(r.mkf.2:Int))=g) (hn:∀f ∈ r.needs,R (numF vars f)=true):RcS g vars s rs (updN R (numF vars r.mkf) true):=by
 refine ⟨fun x hx=>?_,fun x hx=>?_⟩
 ·by_cases e:x=numF vars r.mkf
  ·rw [e,updN_same]
  ·rw [updN_ne e]; exact h.s0 x hx
 ·by_cases e:x=numF vars r.mkf
  ·rw [e]
   refine Dr.step (u:=ldU vars r) (List.mem_map.2 ⟨r,List.mem_filter.2 ⟨hr,by simp [hg]⟩,rfl⟩) fun n hn'=>?_
   obtain ⟨f,hf,rfl⟩:=List.mem_map.1 hn'
   exact h.der _ (hn f hf)
  ·rw [updN_ne e] at hx; exact h.der x hx
def RcO (w:World) (b:Nat) (sv fv:Value) (gb:Nat) (g:Fa) (vars s:List Nat) (rs:List Ld) (n:Nat) (ρ:Env) (w':World):Prop :=
 ρ 0=.pointer (some ⟨b,0,none⟩)∧ρ 1=sv∧ρ 5=.pointer (some ⟨gb,0,none⟩)∧ρ 7=fv∧∃R ch,ρ 10=.bool ch∧RcS g vars s rs R∧(ch=false→ClL g vars R (rs.take rs.length))∧n=2 * cntF vars.sum R+(if ch=true then 1 else 0)∧LrI w fv gb g vars (rowsB vars R) w'
def RcN (w:World) (fv:Value) (gb:Nat) (g:Fa) (vars s:List Nat) (rs:List Ld) (c k:Nat) (ρ:Env) (w':World):Prop :=
 ∃R ch,ρ 10=.bool ch∧RcS g vars s rs R∧(ch=false→cntF vars.sum R=c∧ClL g vars R (rs.take k))∧(ch=true→cntF vars.sum R < c)∧LrI w fv gb g vars (rowsB vars R) w'
set_option maxHeartbeats 4000000 in
theorem reached_spec {w:World} {b:Nat} {vars costs:List Nat} {goal:List Fc} {vv gv cv lv:Value} {rs:List Ld} (sv:Value) (s:List Nat) (g:Fa) (hR:FdR b vars goal costs vv gv cv lv rs w) (hG:FdG vars goal costs rs) (hs:Vw w sv nE s) (hst:StN vars s) :
  Calls Tryz.prog 122 [.pointer (some ⟨b,0,none⟩),sv,faV g].toArray w fun e w'=>∃u,e=.returned u∧∃R,RcS g vars s rs R∧ClL g vars R rs∧∃ps,ps.map (·.2)=rowsB vars R∧At w [] (Star (TabA u 96 4 bE ps) Emp) w':=by
 refine enter Tryz.func122 mixed low122 (Nat.le_of_ble_eq_true rfl) ?_
 simp only [L122]
 have hob:=hR.obj
 unfold fdO at hob
 obtain ⟨gb,hgb⟩:∃gb,gb=w.heap.size:=⟨_,rfl⟩
 obtain ⟨w1,hw1⟩:∃w1,w1=w.alloc (faO g):=⟨_,rfl⟩
 have h1:At w [] (Star (ObjA gb (faO g)) Emp) w1:=by rw [hgb,hw1]; exact (At.start rfl).alloc _ .emp
 have hw1':w.alloc (.cells #[.int .i64 g.1,.int .i64 g.2] 100 (0,0))=w1:=by rw [hw1]; rfl
 have hR1:=hR.kp h1.kp
 have ob1:=hR1.obj
 unfold fdO at ob1
 have hvl:=hG.vlen
 have hLg:Lcl (Star (ObjA gb (faO g)) Emp):=Lcl.obj.star .emp
 simp (disch:=omega) [faV,←hgb,hw1',cell_blk ob1,hR1.vars.len]
 refine gd_mk (by omega) ?_
 have h2:=At.made (E:=96) (enc:=(sv1:Cell1 × List Bool→List Value)) (x:=((⟨.slice none 0 0,rfl⟩,[]):Cell1 × List Bool)) (z:=[.slice none 0 0]) (n:=vars.length) (Lcl.rows hLg (List.replicate vars.length ((⟨.slice none 0 0,rfl⟩,[]):Cell1 × List Bool))) (RowsA.nils (enc:=bE) (E:=4) hLg h1 vars.length) rfl sv1_len (by unfold maxLen; omega)
 have h3:=h2.by (TabA.cls (E:=4) (enc:=bE))
 clear h2
 obtain ⟨fv,hfv⟩:∃fv,fv=Value.slice (some ⟨w1.heap.size,0,none⟩) vars.length vars.length:=⟨_,rfl⟩
 rw [←hfv] at h3
 have hR3:=hR.kp h3.kp
 have ob3:=hR3.obj
 unfold fdO at ob3
 have e0:(List.replicate vars.length ((⟨.slice none 0 0,rfl⟩,[]):Cell1 × List Bool)).map (·.2)=rowsK vars (r0F vars s) 0:=by
  apply List.ext_getElem
  ·simp [rowsK]
  ·intro i h1 h2; simp [rowsK]
 simp [←hfv,cell_blk ob3,hR3.vars.len]
 refine range_loop (n:=vars.length) (by omega) (fun k ρ w'=>ρ 0=.pointer (some ⟨b,0,none⟩)∧ρ 1=sv∧ρ 5=.pointer (some ⟨gb,0,none⟩)∧ρ 7=fv∧ρ 22=vv∧LrI w fv gb g vars (rowsK vars (r0F vars s) k) w') (by simp) (by simp)
  ⟨by simp,by simp,by simp [←hgb],by simp [←hfv],by simp,_,e0,h3⟩ (by decide) (fun _ _ _ _ h=>by simpa [LrI] using h) (fun _ _ _ _ h=>by simpa [LrI] using h) ?_ ?_
 ·clear h3 h1 hR1 ob1 hR3 ob3 hw1' hw1 hob hfv hgb e0
  rintro k ρ w4 hk hck hlk ⟨g0,g1,g5,g7,g22,ps,hps,h4⟩
  obtain ⟨n,hn⟩:∃n,vars[k]? = some n:=⟨_,List.getElem?_eq_getElem hk⟩
  have hnd:vars.getD k 0=n:=getD_of hn
  have hR4:=hR.kp h4.kp
  have hki:(k:Int) < vars.length:=by omega
  have hns:n≤vars.sum:=by
   have h1:=psum_succ hn
   have h2:=psum_le (vars:=vars) (k+1)
   omega
  have hvs:=hG.vsum
  have hpl:ps.length=vars.length:=by have:=congrArg List.length hps; simpa [rowsK] using this
  have hkp:(k:Int) < ps.length:=by omega
  obtain ⟨p,hp⟩:∃p,ps[k]? = some p:=⟨_,List.getElem?_eq_getElem (by omega)⟩
  have hLt:Lcl (Star (TabA fv 96 4 bE ps) (Star (ObjA gb (faO g)) Emp)):=Lcl.tab.star hLg
  simp (disch:=omega) [g7,g22,hck,hlk,hR4.vars.idx,nE_cell hR4.vars hn]
  refine gd_mk (by omega) ?_
  have h5:=At.made (E:=4) (enc:=bE) (x:=false) (z:=[.bool false]) (n:=n) hLt h4 rfl bE_len (by unfold maxLen; omega)
  rw [tabB_false] at h5
  obtain ⟨u,hu⟩:∃u,u=Value.slice (some ⟨w4.heap.size,0,none⟩) n n:=⟨_,rfl⟩
  rw [←hu] at h5
  have o5:=TabA.own (h5.drop)
  have h5c:=h5.own.c1
  simp (disch:=omega) [←hu,g7,hck,o5.idx,h5c]
  refine TabA.put hLg (h5.by (Imp.un (TabA.opn.trans ((Tb2.rowI hp).trans Imp.dr)))) hp rfl fun ho w6 h6=>?_
  have hps6:(ps.set k (⟨u,ho⟩,tabB n fB))[k]? = some (⟨u,ho⟩,tabB n fB):=by rw [List.getElem?_set_self (by omega)]
  have o6:=TabA.own h6
  have r6:=(TabA.row h6 hps6)
  have hs6:=hs.kp0 h6.kp
  have hrk:=hst.rng k hk
  rw [hnd] at hrk
  obtain ⟨x,hx⟩:∃x,s[k]? = some x:=⟨_,List.getElem?_eq_getElem (by have:=hst.len; omega)⟩
  have hxd:s.getD k 0=x:=getD_of hx
  rw [hxd] at hrk
  have hsi:(k:Int) < s.length:=by have:=hst.len; omega
  have hk6:(k:Int) < (ps.set k (⟨u,ho⟩,tabB n fB)).length:=by rw [List.length_set]; omega
  have hx6:(x:Int) < (tabB n fB).length:=by rw [tabB_len]; omega
  simp (disch:=omega) [g7,g1,hck,o6.idx,tabA_cell h6 hps6,hs6.idx,nE_cell hs6 hx,r6.idx]
  refine TabA.store (x:=true) hLg (h6.drew (Lcl.tab.star hLg)) hps6 bE_len bE_one (k:=x) (by rw [tabB_len]; exact hrk) rfl fun w7 h7=>?_
  simp [hck,hlk,g0,g1,g5,g7,g22]
  refine ⟨_,?_,h7⟩
  rw [List.map_set,List.map_set,hps,List.set_set,←rowsK_succ hk,←r0_row hst hk,hnd,hxd]
 clear h3 h1 hR1 ob1 hR3 ob3 hw1' hw1 hob hfv hgb e0
 rintro ρ w4 ⟨g0,g1,g5,g7,g22,ps,hps,h4⟩
 rw [rowsK_all] at hps
 simp
 refine loop_inv (RcO w b sv fv gb g vars s rs) (2 * cntF vars.sum (r0F vars s)+1) ⟨by simp [g0],by simp [g1],by simp [g5],by simp [g7],r0F vars s,true,by simp,RcS.start,(fun h=>by cases h),by simp,ps,hps,h4⟩ ?_
 clear h4 g0 g1 g5 g7 g22 hps ps
 rintro n ρ w4 ⟨g0,g1,g5,g7,R,ch,g10,hS,hcl,rfl,ps,hps,h4⟩
 cases ch with
 | false =>
  have hc:=hcl rfl
  rw [List.take_length] at hc
  simp [g10,g7]
  exact ⟨R,hS,hc,ps,hps,h4.by (Imp.un Imp.dr)⟩
 | true =>
  have hR4:=hR.kp h4.kp
  have ob4:=hR4.obj
  unfold fdO at ob4
  have hrl:=hG.rl
  simp [g10,g0,cell_blk ob4,hR4.list.len]
  refine range_loop (n:=rs.length) (by omega) (fun k ρ w'=>ρ 0=.pointer (some ⟨b,0,none⟩)∧ρ 1=sv∧ρ 5=.pointer (some ⟨gb,0,none⟩)∧ρ 7=fv∧ρ 48=lv∧RcN w fv gb g vars s rs (cntF vars.sum R) k ρ w') (by simp) (by simp)
   ⟨by simp [g0],by simp [g1],by simp [g5],by simp [g7],by simp,R,false,by simp,hS,fun _=>⟨rfl,fun r hr=>absurd hr (by simp)⟩,(fun h=>by cases h),ps,hps,h4⟩ (by decide) (fun _ _ _ _ h=>by simpa [RcN] using h) (fun _ _ _ _ h=>by simpa [RcN] using h) ?_ ?_
  rotate_left
  ·clear h4 g0 g1 g5 g7 hps ps
   rintro ρ w5 ⟨g0,g1,g5,g7,g48,R',ch,g10,hS',hf,ht,hL⟩
   simp
   cases ch with
   | true =>
    have:=ht rfl
    exact ⟨2 * cntF vars.sum R'+1,by first | omega | (simp; omega),by simp [g0],by simp [g1],by simp [g5],by simp [g7],R',true,by simp [g10],hS',(fun h=>by cases h),by simp,hL⟩
   | false =>
    obtain ⟨e,hc⟩:=hf rfl
    exact ⟨2 * cntF vars.sum R',by first | omega | (simp; omega),by simp [g0],by simp [g1],by simp [g5],by simp [g7],R',false,by simp [g10],hS',fun _=>hc,rfl,hL⟩
  clear h4 g0 g1 g5 g7 hps ps
  rintro k ρ w5 hk hck hlk ⟨g0,g1,g5,g7,g48,R',ch,g10,hS',hf,ht,ps,hps,h5⟩
  obtain ⟨r,hr⟩:∃r,rs[k]? = some r:=⟨_,List.getElem?_eq_getElem hk⟩
  have rm:=List.mem_of_getElem? hr
  have hR5:=hR.kp h5.kp
  have er:=hR5.list.cells ldE_len hr
  simp only [ldE] at er
  obtain ⟨ub,hub⟩:∃ub,ub=w5.heap.size:=⟨_,rfl⟩
  have hki:(k:Int) < rs.length:=by omega
  have hLt:Lcl (Star (TabA fv 96 4 bE ps) (Star (ObjA gb (faO g)) Emp)):=Lcl.tab.star hLg
  simp (disch:=omega) [g48,hck,hlk,hR5.list.idx,er,←hub]
  refine st_ld (r:=r) hLt h5 hub fun w6 h6=>?_
  have hou:=h6.obj
  have hog:=h6.drop.drop.obj
  unfold ldO at hou
  unfold faO at hog
  have eg:cellsAt w6 ⟨gb,0,none⟩ 0 2=some [.int .i64 g.1,.int .i64 g.2]:=by simp [cellsAt,Addr.add,cell_blk hog]
  have em:cellsAt w6 ⟨ub,2,none⟩ 0 2=some [.int .i64 (r.mkf.1:Nat),.int .i64 (r.mkf.2:Nat)]:=by simp [cellsAt,Addr.add,cell_blk hou]
  simp [g5,eg,em,←hub]
  refine rd_nf (((r.mkf.1:Nat):Int),((r.mkf.2:Nat):Int)) g ?_
  have hL6:Lcl (Star (ObjA ub (ldO r)) (Star (TabA fv 96 4 bE ps) (Star (ObjA gb (faO g)) Emp))):=Lcl.obj.star hLt
  by_cases hgm:(((r.mkf.1:Nat):Int),((r.mkf.2:Nat):Int))=g
  ·simp [hgm,hck,hlk,g0,g1,g5,g7,g48]
   exact ⟨R',ch,by simp [g10],hS',fun h=>⟨(hf h).1,(hf h).2.snoc hr fun h=>absurd hgm h⟩,ht,ps,hps,(h6.drop).drew hLt⟩
  ·obtain ⟨m1,m2⟩:=hG.rmk r rm
   obtain ⟨p,hp,ep⟩:=rows_at hps m1
   have o6:=TabA.own h6.drop
   have r6:=TabA.row h6.drop hp
   have hpl:=rows_len hps
   have hi1:(r.mkf.1:Int) < ps.length:=by omega
   have hi2:(r.mkf.2:Int) < p.2.length:=by rw [ep]; unfold rowB; rw [tabB_len]; omega
   have hb:p.2[r.mkf.2]? = some (R' (numF vars r.mkf)):=by rw [ep]; unfold rowB; rw [tabB_at m2]; rfl
   have hbc:w6.cell? ⟨p.1.1.blk,r.mkf.2,none⟩=some (.bool (R' (numF vars r.mkf))):=by simpa [bE] using r6.cell bE_len hb (o:=0) (by omega)
   by_cases hRm:R' (numF vars r.mkf)=true
   ·simp (disch:=omega) [hgm,g7,←hub,cell_blk hou,o6.idx,tabA_cell h6.drop hp,r6.idx,hbc,hRm,hck,hlk,g0,g1,g5,g48]
    exact ⟨R',ch,by simp [g10],hS',fun h=>⟨(hf h).1,(hf h).2.snoc hr fun _ _=>hRm⟩,ht,ps,hps,(h6.drop).drew hLt⟩
   ·rw [Bool.not_eq_true] at hRm
    simp (disch:=omega) [hgm,g7,←hub,cell_blk hou,o6.idx,tabA_cell h6.drop hp,r6.idx,hbc,hRm]
    have hF:FvR vars R' fv ps w6.drew:=⟨(TabA.own (h6.drop.drew hLt)).vw,fun q hq=>by
     obtain ⟨i,hi⟩:=List.mem_iff_getElem?.1 hq
     exact (TabA.row (h6.drop.drew hLt) hi).vw,hps⟩
    obtain ⟨n1,n2⟩:=hG.rneeds r rm
    refine cl_of (has_spec r.nv.1 r.needs hF (((hR.kp h6.kp).kp (Kp.refl [] w6).drew).needs r rm) n2 n1) ?_
    rintro _ w7 ⟨rfl,k7⟩
    have h7:=(h6.drew hL6).kp0 hL6 k7
    by_cases hal:(r.needs.all fun f=>R' (numF vars f))=true
    ·have hal':=List.all_eq_true.1 hal
     have hou7:=h7.obj
     unfold ldO at hou7
     have o7:=TabA.own h7.drop
     have r7:=TabA.row h7.drop hp
     simp (disch:=omega) [hal,g7,←hub,cell_blk hou7,o7.idx,tabA_cell h7.drop hp,r7.idx]
     have hR'f:R' (numF vars r.mkf)=false:=hRm
     have hlt:=cntF_upd (N:=vars.sum) (numF_lt m1 m2) hR'f
     have hpx:p.2=rowB vars R' r.mkf.1:=ep
     refine TabA.store (x:=true) hLg (h7.drop.drew hLt) hp bE_len bE_one (k:=r.mkf.2) (by omega) rfl fun w8 h8=>?_
     simp [hck,hlk,g0,g1,g5,g7,g48]
     refine ⟨updN R' (numF vars r.mkf) true,true,by simp,hS'.add rm hgm hal',(fun h=>by cases h),fun _=>?_,_,?_,h8⟩
     ·cases ch with
      | true=>have:=ht rfl; omega
      | false=>have:=(hf rfl).1; omega
     ·rw [List.map_set,hps,hpx]
      exact rowsB_set m1 m2
    ·have hno:¬∀f ∈ r.needs,R' (numF vars f)=true:=fun h=>hal (List.all_eq_true.2 h)
     rw [Bool.not_eq_true] at hal
     simp [hal,hck,hlk,g0,g1,g5,g7,g48]
     exact ⟨R',ch,by simp [g10],hS',fun h=>⟨(hf h).1,(hf h).2.snoc hr fun _ h=>absurd h hno⟩,ht,ps,hps,h7.drop⟩
end Go.Proofs.YtolkjbmcindhjaaGreat
end
section
namespace Go.Proofs.YtolkjbmcindhjaaGreat
open Go Go.W Go.Tk Go.Rx Go.Lm Go.Maps Go.Sx
def allK (vars:List Nat) (k:Nat):List Fc:=(List.range k).flatMap fun v=>(List.range (vars.getD v 0)).map fun x=>((v,x):Fc)
def pairL (v k:Nat):List Fc:=(List.range k).map fun x=>((v,x):Fc)
theorem allK_succ {vars:List Nat} {k:Nat}:allK vars (k+1)=allK vars k ++ pairL k (vars.getD k 0):=by
 unfold allK pairL
 rw [List.range_succ,List.flatMap_append]
 simp
theorem pairL_succ {v k:Nat}:pairL v (k+1)=pairL v k ++ [(v,k)]:=by
 unfold pairL
 rw [List.range_succ,List.map_append]
 rfl
theorem allK_len {vars:List Nat}:∀k,k≤vars.length→(allK vars k).length=psum vars k
 | 0,_=>by simp [allK,psum]
 | k+1,h=>by
  rw [allK_succ,List.length_append,allK_len k (by omega)]
  obtain ⟨n,hn⟩:∃n,vars[k]? = some n:=⟨_,List.getElem?_eq_getElem (by omega)⟩
  rw [psum_succ hn,getD_of hn]
  simp [pairL]
theorem allK_mem {vars:List Nat} {k:Nat} {f:Fc}:f ∈ allK vars k↔f.1 < k∧f.2 < vars.getD f.1 0:=by
 unfold allK
 rw [List.mem_flatMap]
 constructor
 ·rintro ⟨v,hv,hf⟩
  obtain ⟨x,hx,rfl⟩:=List.mem_map.1 hf
  exact ⟨List.mem_range.1 hv,List.mem_range.1 hx⟩
 ·rintro ⟨h1,h2⟩
  exact ⟨f.1,List.mem_range.2 h1,List.mem_map.2 ⟨f.2,List.mem_range.2 h2,rfl⟩⟩
set_option maxHeartbeats 1000000 in
theorem all_spec {w:World} {b:Nat} {vars costs:List Nat} {goal:List Fc} {vv gv cv lv:Value} {rs:List Ld} (hR:FdR b vars goal costs vv gv cv lv rs w) (hG:FdG vars goal costs rs) :
  Calls Tryz.prog 125 [.pointer (some ⟨b,0,none⟩)].toArray w fun e w'=>∃u,e=.returned u∧At w [] (Star (OwnA u 100 2 fcE (allK vars vars.length)) Emp) w':=by
 refine enter Tryz.func125 mixed low125 (Nat.le_of_ble_eq_true rfl) ?_
 simp only [L125]
 have hob:=hR.obj
 unfold fdO at hob
 have hvl:=hG.vlen
 have hvs:=hG.vsum
 have h1:=At.nil (E:=100) (sz:=2) (enc:=fcE) .emp (At.start rfl:At w [] Emp w)
 simp [cell_blk hob,hR.vars.len]
 refine range_loop (n:=vars.length) (by omega) (fun k ρ w'=>ρ 10=vv∧At w [] (Star (OwnA (ρ 3) 100 2 fcE (allK vars k)) Emp) w') (by simp) (by simp)
  ⟨by simp,by simpa [allK] using h1⟩ (by decide) (fun _ _ _ _ h=>by simpa using h) (fun _ _ _ _ h=>by simpa using h) ?_ ?_
 rotate_left
 ·rintro ρ w4 ⟨g10,h4⟩
  simp
  exact h4
 clear h1
 rintro k ρ w4 hk hck hlk ⟨g10,h4⟩
 obtain ⟨n,hn⟩:∃n,vars[k]? = some n:=⟨_,List.getElem?_eq_getElem hk⟩
 have hnd:vars.getD k 0=n:=getD_of hn
 have hps:=psum_succ hn
 have hpl:=psum_le (vars:=vars) (k+1)
 have hal:=allK_len (vars:=vars) k (by omega)
 have hR4:=hR.kp h4.kp
 have hki:(k:Int) < vars.length:=by omega
 simp (disch:=omega) [g10,hck,hlk,hR4.vars.idx,nE_cell hR4.vars hn]
 refine range_loop (n:=n) (by omega) (fun j ρ w'=>ρ 10=vv∧ρ 12=.int .i64 (k:Nat)∧ρ 11=.int .i64 (vars.length:Nat)∧ρ 4=.int .i64 (k:Nat)∧At w [] (Star (OwnA (ρ 3) 100 2 fcE (allK vars k ++ pairL k j)) Emp) w') (by simp) (by simp)
  ⟨by simp [g10],by simp [hck],by simp [hlk],by simp [hck],by simpa [pairL] using h4⟩ (by decide) (fun _ _ _ _ h=>by simpa using h) (fun _ _ _ _ h=>by simpa using h) ?_ ?_
 rotate_left
 ·rintro ρ w5 ⟨g10,g12,g11,g4,h5⟩
  simp [g10,g12,g11]
  rw [allK_succ,hnd]
  exact h5
 clear h4 g10 hck hlk
 rintro j ρ w5 hj hcj hlj ⟨g10,g12,g11,g4,h5⟩
 obtain ⟨ov,hov⟩:∃ov,ov=ρ 3:=⟨_,rfl⟩
 rw [←hov] at h5
 have g3:=hov.symm
 simp [g3,g4,hcj]
 refine fc_append (x:=(k,j)) .emp h5 (by rw [List.length_append,hal]; simp [pairL]; omega) fun v' w6 h6=>?_
 simp [hcj,hlj,g10,g12,g11,g4]
 rw [pairL_succ,←List.append_assoc]
 exact h6
end Go.Proofs.YtolkjbmcindhjaaGreat
end
section
namespace Go.Proofs.YtolkjbmcindhjaaGreat
open Go Go.W Go.Tk Go.Rx Go.Lm Go.Maps Go.Sx
def gAll (vars:List Nat) (goal:List Fc) (R:Nat→Bool):Bool:=goal.all fun f=>R (numF vars f)
def lkF (f:Fc):Fa:=((f.1:Int),(f.2:Int))
structure FcLm (vars s:List Nat) (goal:List Fc) (rs:List Ld) (f:Fc):Prop where
 r1:f.1 < vars.length
 r2:f.2 < vars.getD f.1 0
 ne:s.getD f.1 0≠f.2
 no:∃R,RcS (lkF f) vars s rs R∧ClL (lkF f) vars R rs∧gAll vars goal R=false
def FtP (vars s:List Nat) (goal:List Fc) (rs:List Ld) (w:World) (x:Value) (w':World):Prop :=
 (x=.tuple #[.slice none 0 0,errV 3]∧Kp [] w w'∧∃R,RcS (-1,-1) vars s rs R∧ClL (-1,-1) vars R rs∧gAll vars goal R=false) ∨
 ∃xv fs,x=.tuple #[xv,.nilIface]∧fs.length≤4096∧(∀f ∈ fs,FcLm vars s goal rs f)∧(∃R,RcS (-1,-1) vars s rs R∧ClL (-1,-1) vars R rs∧gAll vars goal R=true)∧At w [] (Star (OwnA xv 100 2 fcE fs) Emp) w'
theorem fvR_of {vars:List Nat} {R:Nat→Bool} {fv:Value} {ps:List (Cell1 × List Bool)} {w w1:World} {F:List Nat} {B:Asr} (h:At w F (Star (TabA fv 96 4 bE ps) B) w1) (hps:ps.map (·.2)=rowsB vars R):FvR vars R fv ps w1 :=
 ⟨(TabA.own h).vw,fun q hq=>by
  obtain ⟨i,hi⟩:=List.mem_iff_getElem?.1 hq
  exact (TabA.row h hi).vw,hps⟩
def FtI (w:World) (av:Value) (vars s:List Nat) (goal:List Fc) (rs:List Ld) (k:Nat) (ρ:Env) (w':World):Prop :=
 ∃fs,fs.length≤k∧(∀f ∈ fs,FcLm vars s goal rs f)∧At w [] (Star (OwnA (ρ 6) 100 2 fcE fs) (Star (OwnA av 100 2 fcE (allK vars vars.length)) Emp)) w'
set_option maxHeartbeats 4000000 in
theorem facts_spec {w:World} {b:Nat} {vars costs:List Nat} {goal:List Fc} {vv gv cv lv:Value} {rs:List Ld} (sv:Value) (s:List Nat) (hR:FdR b vars goal costs vv gv cv lv rs w) (hG:FdG vars goal costs rs) (hs:Vw w sv nE s) (hst:StN vars s) :
  Calls Tryz.prog 64 [.pointer (some ⟨b,0,none⟩),sv].toArray w fun e w'=>∃x,e=.returned x∧FtP vars s goal rs w x w':=by
 refine enter Tryz.func64 mixed low64 (Nat.le_of_ble_eq_true rfl) ?_
 simp only [L64]
 have hlen:=hst.len
 have hvl:=hG.vlen
 have hob:=hR.obj
 unfold fdO at hob
 simp [cell_blk hob]
 refine cl_of (tproper_spec vv sv _ _ (vw_n.2 hR.vars) (vw_n.2 hs) (by simp; omega)) ?_
 rintro _ w1 ⟨rfl,k1⟩
 rw [hst.ok]
 have ob1:=(hR.kp k1).obj
 unfold fdO at ob1
 simp [cell_blk ob1]
 have kd1:=k1.drew
 refine ⟨?_,?_,?_⟩
 all_goals
  refine cl_of nothing_spec ?_
  rintro _ w2 ⟨rfl,k2⟩
  have k2:=kd1.trans k2
  have ob2:=(hR.kp k2).obj
  unfold fdO at ob2
  simp [faV,cell_blk ob2]
  refine cl_of (reached_spec sv s (-1,-1) (hR.kp k2) hG (hs.kp0 k2) hst) ?_
  rintro fv w3 ⟨R,hS,hC,ps,hps,h3⟩
  have h3':At w [] (Star (TabA fv 96 4 bE ps) Emp) w3:=(at_join2 .emp ((At.start rfl:At w [] Emp w).kp0 .emp k2) h3).by (Imp.as.trans (Imp.un Imp.dr))
  have hR3:=hR.kp h3'.kp
  have ob3:=hR3.obj
  unfold fdO at ob3
  simp [cell_blk ob3]
  refine cl_of (has_spec gv goal (fvR_of h3' hps) hR3.goal hG.gl hG.goal) ?_
  rintro _ w4 ⟨rfl,k4⟩
  have h4:=(h3'.kp0 (Lcl.tab.star .emp) k4).drop
  have hgl:(goal.all fun f=>R (numF vars f))=gAll vars goal R:=rfl
  rw [hgl]
  cases hga:gAll vars goal R with
  | false =>
   simp
   exact .inl ⟨rfl,h4.kp,R,hS,hC,hga⟩
  | true =>
   simp
   refine cl_of (all_spec (hR.kp h4.kp) hG) ?_
   rintro av w5 h5
   have h5:At w [] (Star (OwnA av 100 2 fcE (allK vars vars.length)) Emp) w5:=(at_join2 .emp h4 h5).by (Imp.as.trans (Imp.un Imp.dr))
   have h6:=(At.nil (E:=100) (sz:=2) (enc:=fcE) (Lcl.own.star .emp) h5)
   have hall:=allK_len (vars:=vars) vars.length (Nat.le_refl _)
   have hpsl:=psum_le (vars:=vars) vars.length
   have hvs:=hG.vsum
   simp [h5.own.len]
   clear h3 h3' h4 hR3 ob3 ob1 hob k1 kd1 k2 k4 ob2
   refine range_loop (n:=(allK vars vars.length).length) (by omega) (fun k ρ w'=>ρ 0=.pointer (some ⟨b,0,none⟩)∧ρ 1=sv∧ρ 35=av∧FtI w av vars s goal rs k ρ w') (by simp) (by simp)
    ⟨by simp,by simp,by simp,[],by simp,fun f hf=>absurd hf (by simp),by simpa using h6⟩ (by decide) (fun _ _ _ _ h=>by simpa [FtI] using h) (fun _ _ _ _ h=>by simpa [FtI] using h) ?_ ?_
   ·clear h5 h6
    rintro k ρ w6 hk hck hlk ⟨g0,g1,g35,fs,hfl,hfs,h6⟩
    obtain ⟨ov,hov⟩:∃ov,ov=ρ 6:=⟨_,rfl⟩
    rw [←hov] at h6
    have g6:=hov.symm
    obtain ⟨f,hf⟩:∃f,(allK vars vars.length)[k]? = some f:=⟨_,List.getElem?_eq_getElem hk⟩
    obtain ⟨f1,f2⟩:=allK_mem.1 (List.mem_of_getElem? hf)
    have o6:=h6.drop.own.vw
    have ef:=o6.cells fcE_len hf
    simp only [fcE] at ef
    obtain ⟨fb,hfb⟩:∃fb,fb=w6.heap.size:=⟨_,rfl⟩
    have hki:(k:Int) < (allK vars vars.length).length:=by omega
    have hLo:Lcl (Star (OwnA ov 100 2 fcE fs) (Star (OwnA av 100 2 fcE (allK vars vars.length)) Emp)):=Lcl.own.star (Lcl.own.star .emp)
    simp (disch:=omega) [g35,hck,hlk,o6.idx,ef,←hfb]
    refine st_fc (f:=f) hLo h6 hfb fun w7 h7=>?_
    have hof:=h7.obj
    unfold fcO at hof
    have hs7:=hs.kp0 h7.kp
    have hR7:=hR.kp h7.kp
    have ob7:=hR7.obj
    unfold fdO at ob7
    obtain ⟨x,hx⟩:∃x,s[f.1]? = some x:=⟨_,List.getElem?_eq_getElem (by omega)⟩
    have hxd:s.getD f.1 0=x:=getD_of hx
    have hsi:(f.1:Int) < s.length:=by omega
    have efb:cellsAt w7 ⟨fb,0,none⟩ 0 2=some [.int .i64 (f.1:Nat),.int .i64 (f.2:Nat)]:=by simp [cellsAt,Addr.add,cell_blk hof]
    have hL7:Lcl (Star (ObjA fb (fcO f)) (Star (OwnA ov 100 2 fcE fs) (Star (OwnA av 100 2 fcE (allK vars vars.length)) Emp))):=Lcl.obj.star hLo
    by_cases hxe:x=f.2
    ·have hxe':((x:Int) != (f.2:Int))=false:=by rw [hxe]; simp
     simp (disch:=omega) [g0,g1,g35,hck,hlk,←hfb,cell_blk hof,hs7.idx,nE_cell hs7 hx,hxe']
     exact ⟨fs,by omega,hfs,by simpa [g6] using h7.drop.drew hLo⟩
    ·have hxe':=len_bne hxe
     simp (disch:=omega) [g0,g1,g35,hck,hlk,←hfb,cell_blk hof,hs7.idx,nE_cell hs7 hx,hxe',hxe,efb,cell_blk ob7]
     refine ⟨?_,?_⟩
     all_goals
      have h7d:=h7.drew hL7
      refine cl_of (reached_spec sv s (lkF f) (hR.kp h7d.kp) hG (hs.kp0 h7d.kp) hst) ?_
      rintro fv2 w8 ⟨R2,hS2,hC2,ps2,hps2,h8⟩
      have h8:At w [] (Star (TabA fv2 96 4 bE ps2) (Star (ObjA fb (fcO f)) (Star (OwnA ov 100 2 fcE fs) (Star (OwnA av 100 2 fcE (allK vars vars.length)) Emp)))) w8:=(at_join2 hL7 h7d h8).by (Imp.as.trans (Imp.un Imp.dr))
      have hR8:=hR.kp h8.kp
      have ob8:=hR8.obj
      unfold fdO at ob8
      simp [g0,cell_blk ob8,hxe',hxe]
      refine cl_of (has_spec gv goal (fvR_of h8 hps2) hR8.goal hG.gl hG.goal) ?_
      rintro _ w9 ⟨rfl,k9⟩
      have h9:=(h8.kp0 (Lcl.tab.star hL7) k9).drop
      have hgl2:(goal.all fun f=>R2 (numF vars f))=gAll vars goal R2:=rfl
      rw [hgl2]
      have hof9:=h9.obj
      unfold fcO at hof9
      have ef9:cellsAt w9 ⟨fb,0,none⟩ 0 2=some [.int .i64 (f.1:Nat),.int .i64 (f.2:Nat)]:=by simp [cellsAt,Addr.add,cell_blk hof9]
      cases hga2:gAll vars goal R2 with
      | true =>
       simp [hck,hlk,g0,g1,g35,hxe',hxe]
       exact ⟨fs,by omega,hfs,by simpa [g6] using h9.drop⟩
      | false =>
       simp [g6,←hfb,ef9,hxe',hxe]
       refine fc_append (x:=f) (Lcl.own.star .emp) h9.drop (by omega) fun v' w10 h10=>?_
       simp [hck,hlk,g0,g1,g35]
       refine ⟨fs ++ [f],by simp; omega,fun y hy=>?_,by simpa using h10⟩
       rcases List.mem_append.1 hy with hy | hy
       ·exact hfs y hy
       ·rw [List.mem_singleton] at hy
        subst hy
        exact ⟨f1,f2,by rw [hxd]; exact hxe,R2,hS2,hC2,hga2⟩
   ·clear h5 h6
    rintro ρ w6 ⟨g0,g1,g35,fs,hfl,hfs,h6⟩
    simp
    exact .inr ⟨ρ 6,fs,rfl,by omega,hfs,⟨R,hS,hC,hga⟩,h6.by (Imp.un Imp.dr)⟩
end Go.Proofs.YtolkjbmcindhjaaGreat
end
section
namespace Go.Proofs.YtolkjbmcindhjaaGreat
open Go Go.W Go.Tk Go.Rx Go.Lm Go.Maps Go.Sx
def acP (vars:List Nat) (R:Nat→Bool) (f:Fc) (r:Ld):Bool:=decide (r.mkf=f) && r.needs.all fun g=>R (numF vars g)
def acK (vars:List Nat) (R:Nat→Bool) (f:Fc) (rs:List Ld) (k:Nat):List Nat:=((rs.take k).filter (acP vars R f)).map (·.op)
theorem acK_succ {vars:List Nat} {R:Nat→Bool} {f:Fc} {rs:List Ld} {k:Nat} {r:Ld} (hr:rs[k]? = some r):acK vars R f rs (k+1)=acK vars R f rs k ++ if acP vars R f r=true then [r.op] else []:=by
 unfold acK
 rw [take_snoc hr,List.filter_append,List.map_append]
 congr 1
 by_cases h:acP vars R f r=true
 ·rw [if_pos h,List.filter_cons,if_pos h]; rfl
 ·rw [if_neg h,List.filter_cons,if_neg h]; rfl
theorem acK_len {vars:List Nat} {R:Nat→Bool} {f:Fc} {rs:List Ld} {k:Nat}:(acK vars R f rs k).length≤k:=by
 unfold acK
 rw [List.length_map]
 refine Nat.le_trans (List.length_filter_le _ _) ?_
 rw [List.length_take]
 omega
structure AcR (vars s:List Nat) (rs:List Ld) (f:Fc) (L:List Nat):Prop where
 asc:L.Pairwise (· < ·)
 mem:∃R,RcS (lkF f) vars s rs R∧ClL (lkF f) vars R rs∧∀q,q ∈ L↔∃r ∈ rs,r.op=q∧r.mkf=f∧∀g ∈ r.needs,R (numF vars g)=true
theorem acK_asc {vars:List Nat} {R:Nat→Bool} {f:Fc} {rs:List Ld} (h:rs.Pairwise fun a b=>a.op≤b.op) (k:Nat):(acK vars R f rs k).Pairwise (·≤·):=by
 unfold acK
 rw [List.pairwise_map]
 exact (h.sublist ((List.filter_sublist).trans (List.take_sublist k rs)))
set_option maxHeartbeats 4000000 in
theorem ach_spec {w:World} {b:Nat} {vars costs:List Nat} {goal:List Fc} {vv gv cv lv:Value} {rs:List Ld} (sv:Value) (s:List Nat) (f:Fc) (hR:FdR b vars goal costs vv gv cv lv rs w) (hG:FdG vars goal costs rs) (hs:Vw w sv nE s) (hst:StN vars s) :
  Calls Tryz.prog 65 [.pointer (some ⟨b,0,none⟩),sv,fcV f].toArray w fun e w'=>∃u,e=.returned u∧∃L,AcR vars s rs f L∧L.length≤1000000∧Nw w w' u 3 1 nE L:=by
 refine enter Tryz.func65 mixed low65 (Nat.le_of_ble_eq_true rfl) ?_
 simp only [L65]
 obtain ⟨fb,hfb⟩:∃fb,fb=w.heap.size:=⟨_,rfl⟩
 obtain ⟨w1,hw1⟩:∃w1,w1=w.alloc (fcO f):=⟨_,rfl⟩
 have h1:At w [] (Star (ObjA fb (fcO f)) Emp) w1:=by rw [hfb,hw1]; exact (At.start rfl).alloc _ .emp
 have hw1':w.alloc (.cells #[.int .i64 (f.1:Nat),.int .i64 (f.2:Nat)] 100 (0,0))=w1:=by rw [hw1]; rfl
 have hof:=h1.obj
 unfold fcO at hof
 have ef1:cellsAt w1 ⟨fb,0,none⟩ 0 2=some [.int .i64 (f.1:Nat),.int .i64 (f.2:Nat)]:=by simp [cellsAt,Addr.add,cell_blk hof]
 simp [fcV,←hfb,hw1',ef1]
 refine cl_of (reached_spec sv s (lkF f) (hR.kp h1.kp) hG (hs.kp0 h1.kp) hst) ?_
 rintro fv w2 ⟨R,hS,hC,ps,hps,h2⟩
 have hLf:Lcl (Star (ObjA fb (fcO f)) Emp):=Lcl.obj.star .emp
 have h2:At w [] (Star (TabA fv 96 4 bE ps) (Star (ObjA fb (fcO f)) Emp)) w2:=(at_join2 hLf h1 h2).by (Imp.as.trans (Imp.un Imp.dr))
 have hR2:=hR.kp h2.kp
 have ob2:=hR2.obj
 unfold fdO at ob2
 simp [cell_blk ob2,hR2.list.len]
 have hrl:=hG.rl
 have hLt:Lcl (Star (TabA fv 96 4 bE ps) (Star (ObjA fb (fcO f)) Emp)):=Lcl.tab.star hLf
 have h3:=At.nil (E:=3) (sz:=1) (enc:=nE) hLt h2
 refine range_loop (n:=rs.length) (by omega) (fun k ρ w'=>ρ 5=.pointer (some ⟨fb,0,none⟩)∧ρ 7=fv∧ρ 18=lv∧At w [] (Star (OwnA (ρ 8) 3 1 nE (acK vars R f rs k)) (Star (TabA fv 96 4 bE ps) (Star (ObjA fb (fcO f)) Emp))) w') (by simp) (by simp)
  ⟨by simp,by simp,by simp,by simpa [acK] using h3⟩ (by decide) (fun _ _ _ _ h=>by simpa using h) (fun _ _ _ _ h=>by simpa using h) ?_ ?_
 ·clear h1 h2 h3 hR2 ob2 hw1' hw1 hof ef1 hfb
  rintro k ρ w4 hk hck hlk ⟨g5,g7,g18,h4⟩
  obtain ⟨ov,hov⟩:∃ov,ov=ρ 8:=⟨_,rfl⟩
  rw [←hov] at h4
  have g8:=hov.symm
  have hal:=acK_len (vars:=vars) (R:=R) (f:=f) (rs:=rs) (k:=k)
  have hLo:Lcl (Star (OwnA ov 3 1 nE (acK vars R f rs k)) (Star (TabA fv 96 4 bE ps) (Star (ObjA fb (fcO f)) Emp))):=Lcl.own.star hLt
  obtain ⟨r,hr⟩:∃r,rs[k]? = some r:=⟨_,List.getElem?_eq_getElem hk⟩
  have rm:=List.mem_of_getElem? hr
  have hR4:=hR.kp h4.kp
  have er:=hR4.list.cells ldE_len hr
  simp only [ldE] at er
  obtain ⟨ub,hub⟩:∃ub,ub=w4.heap.size:=⟨_,rfl⟩
  have hki:(k:Int) < rs.length:=by omega
  simp (disch:=omega) [g18,hck,hlk,hR4.list.idx,er,←hub]
  refine st_ld (r:=r) hLo h4 hub fun w5 h5=>?_
  have hou:=h5.obj
  have hof:=h5.drop.drop.drop.obj
  unfold ldO at hou
  unfold fcO at hof
  have ef:cellsAt w5 ⟨fb,0,none⟩ 0 2=some [.int .i64 (f.1:Nat),.int .i64 (f.2:Nat)]:=by simp [cellsAt,Addr.add,cell_blk hof]
  have em:cellsAt w5 ⟨ub,2,none⟩ 0 2=some [.int .i64 (r.mkf.1:Nat),.int .i64 (r.mkf.2:Nat)]:=by simp [cellsAt,Addr.add,cell_blk hou]
  simp [g5,ef,em,←hub]
  refine rd_ef (lkF r.mkf) (lkF f) ?_
  have hL5:Lcl (Star (ObjA ub (ldO r)) (Star (OwnA ov 3 1 nE (acK vars R f rs k)) (Star (TabA fv 96 4 bE ps) (Star (ObjA fb (fcO f)) Emp)))):=Lcl.obj.star hLo
  have hlk2:lkF r.mkf=lkF f↔r.mkf=f:=by
   unfold lkF
   rw [Prod.mk.injEq]
   constructor
   ·rintro ⟨h1,h2⟩
    exact Prod.ext (by omega) (by omega)
   ·rintro rfl; exact ⟨rfl,rfl⟩
  by_cases hmf:r.mkf=f
  ·have hd:decide (lkF r.mkf=lkF f)=true:=decide_eq_true (hlk2.2 hmf)
   obtain ⟨n1,n2⟩:=hG.rneeds r rm
   simp [hd,hlk2,hmf,g7,←hub,cell_blk hou]
   refine cl_of (has_spec r.nv.1 r.needs (fvR_of h5.drop.drop hps) ((hR.kp h5.kp).needs r rm) n2 n1) ?_
   rintro _ w6 ⟨rfl,k6⟩
   have h6:=h5.kp0 hL5 k6
   have hou6:=h6.obj
   unfold ldO at hou6
   cases hal2:(r.needs.all fun g=>R (numF vars g)) with
   | true =>
    have hac:acP vars R f r=true:=by unfold acP; rw [decide_eq_true hmf,hal2]; rfl
    simp [hd,hlk2,hmf,g8,←hub,cell_blk hou6]
    have h7:=(h6.drop).kp0 hLo ((Kp.refl [] w6).alloc (.cells #[.int .i64 (r.op:Nat)] 3))
    refine At.append (xs:=[r.op]) hLt h7 nE_len nE_one sl_22 rfl (fun j u hj=>?_) (by omega) (by unfold maxLen; omega) fun v' w8 h8=>?_
    ·rw [add_none,cell_blk alloc_new]
     simpa [nE] using hj
    simp [hck,hlk,g5,g7,g18]
    rw [acK_succ hr,if_pos hac]
    exact h8
   | false =>
    have hac:acP vars R f r=false:=by unfold acP; rw [decide_eq_true hmf,hal2]; rfl
    simp [hd,hlk2,hmf,hck,hlk,g5,g7,g18]
    rw [acK_succ hr,if_neg (by rw [hac]; simp),List.append_nil]
    simpa [g8] using h6.drop
  ·have hd:decide (lkF r.mkf=lkF f)=false:=decide_eq_false fun h=>hmf (hlk2.1 h)
   have hac:acP vars R f r=false:=by unfold acP; rw [decide_eq_false hmf]; rfl
   simp [hd,hlk2,hmf,hck,hlk,g5,g7,g18]
   rw [acK_succ hr,if_neg (by rw [hac]; simp),List.append_nil]
   simpa [g8] using h5.drop
 clear h1 h2 h3 hR2 ob2 hw1' hw1 hof ef1 hfb
 rintro ρ w4 ⟨g5,g7,g18,h4⟩
 obtain ⟨ov,hov⟩:∃ov,ov=ρ 8:=⟨_,rfl⟩
 rw [←hov] at h4
 have g8:=hov.symm
 have hal:=acK_len (vars:=vars) (R:=R) (f:=f) (rs:=rs) (k:=rs.length)
 simp [g8]
 refine cl_of (compact_spec h4.own (acK_asc hG.rasc _) (by omega)) ?_
 rintro x w5 ⟨k5,hxo,L,hL,hLm,hLa,hLl⟩
 simp
 have h5:At w [] (Star (OwnA x 3 1 nE L) (Star (TabA fv 96 4 bE ps) (Star (ObjA fb (fcO f)) Emp))) w5:=h4.step Lcl.own hLt (fun Fa ⟨ho,ee⟩=>⟨x.own,⟨hL,rfl⟩,by rw [ee]; exact k5,fun y hy=>.inl (by rw [ee,←hxo]; exact hy)⟩)
 refine ⟨L,⟨hLa,R,hS,hC,fun q=>?_⟩,by omega,Nw.of h5⟩
 rw [hLm]
 unfold acK
 rw [List.take_length,List.mem_map]
 constructor
 ·rintro ⟨r,hr,rfl⟩
  obtain ⟨h1,h2⟩:=List.mem_filter.1 hr
  unfold acP at h2
  rw [Bool.and_eq_true,decide_eq_true_eq,List.all_eq_true] at h2
  exact ⟨r,h1,rfl,h2.1,h2.2⟩
 ·rintro ⟨r,h1,rfl,h2,h3⟩
  exact ⟨r,List.mem_filter.2 ⟨h1,by unfold acP; rw [Bool.and_eq_true,decide_eq_true_eq,List.all_eq_true]; exact ⟨h2,h3⟩⟩,rfl⟩
end Go.Proofs.YtolkjbmcindhjaaGreat
end
