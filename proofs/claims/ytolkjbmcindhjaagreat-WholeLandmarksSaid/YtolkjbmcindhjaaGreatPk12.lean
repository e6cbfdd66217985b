/-
  A part of the proof of this claim's statement (RxW3, RxW4): plain theorems; no conditions beyond those each names.
-/
import Derived.Test.YtolkjbmcindhjaaGreatPk11
set_option maxRecDepth 100000
set_option linter.unusedSimpArgs false
set_option linter.unusedVariables false
set_option linter.unusedSectionVars false
section
namespace Go.Proofs.YtolkjbmcindhjaaGreat
open Go Go.W Go.Tk Go.Rx
def cst (T:Nt) (cs:List Int) (i:Nat):Nat:=if cs.length=0 then (match T.ops[i]? with | some o=>o.cost | none=>0) else (cs.getD i 0).toNat
def cOk (c:Int):Bool:=decide (0≤c) && decide (c≤1048576)
def nwC (t:Tk) (cs:List Int):Option Int:=match chkC t with
 | some c=>some c
 | none=>if 0 < cs.length∧cs.length≠t.ops.length then some 11 else if cs.all cOk=false then some 1 else none
theorem RlA.frame {b:Nat} {vv gv fv:Value} {vars:List Nat} {uv nd fr:Value} {rs:List Ru} {ps:List (Cell1 × List Nat)} {X Y:Asr} (h:Imp X Y):Imp (RlA b vv gv fv vars uv nd fr rs ps X) (RlA b vv gv fv vars uv nd fr rs ps Y) :=
 Imp.un (Imp.un (Imp.un (Imp.un (Imp.un (Imp.un h)))))
theorem RlA.inn {b:Nat} {vv gv fv:Value} {vars:List Nat} {uv nd fr:Value} {rs:List Ru} {ps:List (Cell1 × List Nat)} {A X:Asr}:Imp (Star A (RlA b vv gv fv vars uv nd fr rs ps X)) (RlA b vv gv fv vars uv nd fr rs ps (Star A X)):=Imp.bk7
def FrA (vv gv:Value) (vars:List Nat) (goal:List Fc) (tb:Nat) (t:Tk):Asr:=Star (OwnA vv 3 1 nE vars) (Star (OwnA gv 100 2 fcE goal) (Star (ObjA tb (tkO t)) Emp))
theorem FrA.lcl {vv gv:Value} {vars:List Nat} {goal:List Fc} {tb:Nat} {t:Tk}:Lcl (FrA vv gv vars goal tb t):=Lcl.own.star (Lcl.own.star (Lcl.obj.star .emp))
def NwP (T:Nt) (cs:List Int) (w:World) (x:Value) (w':World):Prop:=match nwC T.raw cs with
 | some c=>x=.tuple #[.pointer none,errV c]∧Kp [] w w'
 | none=>∃b vv gv fv tb,x=.tuple #[.pointer (some ⟨b,0,none⟩),.nilIface]∧RlI b vv gv fv T.vars (uns T (cst T cs)) w [] (FrA vv gv T.vars T.goal tb T.raw) w'
theorem RlI.kp0 {b:Nat} {vv gv fv:Value} {vars:List Nat} {U:List Un} {w w1 w2:World} {F:List Nat} {B:Asr} (hB:Lcl B) (h:RlI b vv gv fv vars U w F B w1) (k:Kp [] w1 w2):RlI b vv gv fv vars U w F B w2:=by
 obtain ⟨uv,nd,fr,rs,ps,h1,h2,h3⟩:=h
 exact ⟨uv,nd,fr,rs,ps,h1,h2,h3.kp0 (RlA.lcl hB) k⟩
theorem RlI.kp {b:Nat} {vv gv fv:Value} {vars:List Nat} {U:List Un} {w w1:World} {F:List Nat} {B:Asr} (h:RlI b vv gv fv vars U w F B w1):Kp F w w1:=by
 obtain ⟨uv,nd,fr,rs,ps,h1,h2,h3⟩:=h
 exact h3.kp
theorem RlI.by {b:Nat} {vv gv fv:Value} {vars:List Nat} {U:List Un} {w w1:World} {F:List Nat} {B C:Asr} (h:RlI b vv gv fv vars U w F B w1) (i:Imp B C):RlI b vv gv fv vars U w F C w1:=by
 obtain ⟨uv,nd,fr,rs,ps,h1,h2,h3⟩:=h
 exact ⟨uv,nd,fr,rs,ps,h1,h2,h3.by (RlA.frame i)⟩
theorem RlI.frm {b:Nat} {vv gv fv:Value} {vars:List Nat} {U:List Un} {w w1:World} {F:List Nat} {B:Asr} (h:RlI b vv gv fv vars U w F B w1):At w F B w1:=by
 obtain ⟨uv,nd,fr,rs,ps,h1,h2,h3⟩:=h
 exact At.drop (At.drop (At.drop (At.drop (At.drop (At.drop h3)))))
theorem RlI.fst {b:Nat} {vv gv fv:Value} {vars:List Nat} {U:List Un} {w w1:World} {F:List Nat} {B:Asr} (h:RlI b vv gv fv vars U w F B w1):(∃uv nd fr,w1.heap[b]? = some (relO vv gv fv vars.sum uv nd fr))∧Vw w1 fv nE (firsts vars vars.length):=by
 obtain ⟨uv,nd,fr,rs,ps,h1,h2,h3⟩:=h
 exact ⟨⟨uv,nd,fr,At.obj h3⟩,(At.own (At.drop h3)).vw⟩
theorem psum_zero (vars:List Nat):psum vars 0=0:=by simp [psum]
theorem firsts_succ (vars:List Nat) (k:Nat):firsts vars (k+1)=firsts vars k ++ [psum vars k]:=by
 unfold firsts; rw [List.range_succ]; simp
set_option maxHeartbeats 4000000 in
theorem rNew_good {w:World} (T:Nt) (cv:Value) (cs:List Int) (hg:NtG T) (hgood:goodB T.raw=true) (hr:NtR w T) (hnm:∀o ∈ T.ops,o.name.size≤9223372036854775807) (hc:Vw w cv iE cs) (hcl:cs.length≤9223372036854775807) :
  Calls Tryz.prog 19 [tkV T.raw,cv].toArray w fun e w'=>∃x,e=.returned x∧NwP T cs w x w':=by
 refine enter Tryz.func19 mixed low19 (Nat.le_of_ble_eq_true rfl) ?_
 simp only [L19]
 obtain ⟨t,ht⟩:∃t,t=T.raw:=⟨_,rfl⟩
 have htr:TkR w t:=by rw [ht]; exact NtR.raw.2 hr
 have htl:TkL t:=by rw [ht]; exact hg.lens hnm
 have hchk:chkC t=none:=(chk_good t).2 (by rw [ht]; exact hgood)
 have hvl:=hg.vlen
 have hol:=hg.olen
 have hto:t.ops.length=T.ops.length:=by rw [ht]; simp [Nt.raw]
 have hsum:T.vars.sum≤4096:=by
  have:=sum_le (N:=64) fun n hn=>(hg.vars n hn).2
  omega
 unfold NwP
 rw [←ht]
 have hnw:nwC t cs=if 0 < cs.length∧cs.length≠t.ops.length then some 11 else if cs.all cOk=false then some 1 else none:=by unfold nwC; rw [hchk]
 have h0:At w [] Emp w:=At.start rfl
 have h1:At w [] (Star (ObjA w.heap.size (tkO t)) Emp) _:=h0.alloc (tkO t) Lcl.emp
 obtain ⟨tb,htb⟩:∃tb,tb=w.heap.size:=⟨_,rfl⟩
 rw [←htb] at h1
 have hLB:Lcl (Star (ObjA tb (tkO t)) Emp):=.star .obj .emp
 obtain ⟨w1,hw1⟩:∃w1,w1=w.alloc (tkO t):=⟨_,rfl⟩
 rw [←hw1] at h1
 have hw1':w.alloc (.cells #[t.vv.1,t.nv.1,t.gv.1,t.ov.1] 26 (0,0))=w1:=by rw [hw1]; rfl
 refine seq_cut (fun ρ w'=>ρ 1=cv∧ρ 2=.pointer (some ⟨tb,0,none⟩)∧At w [] (Star (ObjA tb (tkO t)) Emp) w') ?_ ?_
 ·simp [tkV,←htb,hw1']
  exact h1
 clear h1 hw1 hw1'
 rintro ρ w1 ⟨g1,g2,h1⟩
 refine seq_cut (fun ρ w'=>ρ 1=cv∧ρ 2=.pointer (some ⟨tb,0,none⟩)∧At w [] (Star (ObjA tb (tkO t)) Emp) w') ?_ ?_
 ·simp [g2,rd_tk h1.obj]
  refine cl_of (tcheck_spec t (htr.kp h1.kp) htl) ?_
  rintro _ w2 ⟨rfl,k2⟩
  rw [hchk]
  simp [chkV]
  exact ⟨g1,g2,h1.kp0 hLB k2⟩
 clear g1 g2 h1
 rintro ρ w1 ⟨g1,g2,h1⟩
 have hob:=h1.obj
 unfold tkO at hob
 have hc1:=hc.kp0 h1.kp
 have ht1:=htr.kp h1.kp
 refine seq_cut (fun ρ w'=>(ρ 1=cv∧ρ 2=.pointer (some ⟨tb,0,none⟩)∧w'=w1)∧¬(0 < cs.length∧cs.length≠t.ops.length)) ?_ ?_
 ·by_cases t1:0 < cs.length
  ·have t1':(0:Int) < cs.length:=by omega
   by_cases t2:cs.length=t.ops.length
   ·have t2':((cs.length:Int) != t.ops.length)=false:=by simp; omega
    simp [g1,g2,hc1.len,t1,t1',cell_blk hob,ht1.ops.len,t2']
    omega
   ·have t2':((cs.length:Int) != t.ops.length)=true:=by simp; omega
    rw [if_pos ⟨t1,t2⟩] at hnw
    simp [g1,g2,hc1.len,t1,t1',cell_blk hob,ht1.ops.len,t2',hnw,errV]
    exact h1.kp
  ·have t1':¬(0:Int) < cs.length:=by omega
   simp [g1,g2,hc1.len,t1,t1']
 rintro ρ w2 ⟨⟨g1,g2,rfl⟩,hcn⟩
 rw [if_neg hcn] at hnw
 refine seq_cut (fun ρ w'=>(ρ 1=cv∧ρ 2=.pointer (some ⟨tb,0,none⟩)∧w'=w2)∧cs.all cOk=true) ?_ ?_
 ·simp [g1,hc1.len]
  refine range_loop (n:=cs.length) (by omega) (fun k ρ w'=>ρ 1=cv∧ρ 2=.pointer (some ⟨tb,0,none⟩)∧ρ 34=cv∧AllK cs cOk k∧w'=w2) (by simp) (by simp)
   ⟨by simp [g1],by simp [g2],by simp,AllK.zero _ _,rfl⟩ (by decide) (fun _ _ _ _ h=>by simpa using h) (fun _ _ _ _ h=>by simpa using h) ?_ ?_
  ·rintro k ρ w4 hk hcc hlm ⟨g1,g2,g34,hall,rfl⟩
   obtain ⟨x,hx⟩:∃x,cs[k]? = some x:=⟨_,List.getElem?_eq_getElem hk⟩
   have bad:cOk x=false→nwC t cs=some 1:=fun h=>by
    rw [hnw,if_pos (all_false (List.mem_of_getElem? hx) h)]
   by_cases s1:x < 0
   ·have e:=bad (by simp [cOk]; omega)
    simp (disch:=omega) [g1,g2,g34,hcc,hlm,hc1.idx,iE_cell hc1 hx,s1,e,errV]
    exact h1.kp
   by_cases s2:1048576 < x
   ·have e:=bad (by simp [cOk]; omega)
    simp (disch:=omega) [g1,g2,g34,hcc,hlm,hc1.idx,iE_cell hc1 hx,s1,s2,e,errV]
    exact h1.kp
   simp (disch:=omega) [g1,g2,g34,hcc,hlm,hc1.idx,iE_cell hc1 hx,s1,s2]
   exact hall.succ hx (by simp [cOk]; omega)
  rintro ρ w4 ⟨g1,g2,g34,hall,rfl⟩
  simp only [thenK_nrm]
  exact ⟨⟨g1,g2,by simp⟩,by simpa using hall.all⟩
 clear g1 g2
 rintro ρ w2 ⟨⟨g1,g2,rfl⟩,hcok⟩
 rw [if_neg (by rw [hcok]; simp)] at hnw
 rw [hnw]
 have hr1:NtR w2 T:=hr.kp h1.kp
 have ev:t.vv=T.vv:=by rw [ht]; rfl
 have eg:t.gv=T.gv:=by rw [ht]; rfl
 have eo:t.ov=T.ov:=by rw [ht]; rfl
 -- the copies
 refine seq_cut (fun ρ w'=>ρ 1=cv∧ρ 2=.pointer (some ⟨tb,0,none⟩)∧∃b vv gv,ρ 9=.pointer (some ⟨b,0,none⟩)∧At w [] (Star (ObjA b (relO vv gv (.slice none 0 0) 0 (.slice none 0 0) (.slice none 0 0) (.slice none 0 0))) (FrA vv gv T.vars T.goal tb t)) w') ?_ ?_
 ·simp [g1,g2,cell_blk hob]
  have h1:=h1.drew hLB
  refine ⟨?_,?_⟩ <;>
  ·simp only [ev,eg]
   refine cl_of (cloneI_spec T.vv.1 T.vars (hr1.kp ((Kp.refl [] w2).drew)).vars (by omega)) ?_
   rintro vvc w3 n3
   have h3:=At.nw hLB h1 n3
   have hob3:=h3.drop.obj
   unfold tkO at hob3
   simp [g2,cell_blk hob3]
   try simp only [eg]
   refine cl_of (cloneF_spec T.gv.1 T.goal (hr.kp h3.kp).goal (by have:=hg.goal.len; omega)) ?_
   rintro gvc w4 n4
   have h4:=At.nw (Lcl.own.star hLB) h3 n4
   have h5:=h4.by Imp.sw
   have cv4:=n3.own.c1
   have cg4:=n4.own.c1
   have h6:=h5.alloc (relO vvc gvc (.slice none 0 0) 0 (.slice none 0 0) (.slice none 0 0) (.slice none 0 0)) (Lcl.own.star (Lcl.own.star hLB))
   simp [g1,g2,cv4,cg4]
   exact ⟨vvc,gvc,h6⟩
 clear g1 g2 h1 hob hc1 ht1 hr1
 rintro ρ w2 ⟨g1,g2,b,vvc,gvc,g9,h2⟩
 have hLF:Lcl (FrA vvc gvc T.vars T.goal tb t):=FrA.lcl
 have rdT:∀{w'},At w [] (FrA vvc gvc T.vars T.goal tb t) w'→w'.heap[tb]? = some (.cells #[t.vv.1,t.nv.1,t.gv.1,t.ov.1] 26 (0,0)):=fun h=>(At.drop (At.drop h)).obj
 -- the first facts
 refine seq_cut (fun ρ w'=>ρ 1=cv∧ρ 2=.pointer (some ⟨tb,0,none⟩)∧ρ 9=.pointer (some ⟨b,0,none⟩)∧∃fv,At w [] (Star (ObjA b (relO vvc gvc fv T.vars.sum (.slice none 0 0) (.slice none 0 0) (.slice none 0 0))) (Star (OwnA fv 3 1 nE (firsts T.vars T.vars.length)) (FrA vvc gvc T.vars T.goal tb t))) w') ?_ ?_
 ·have hr2:=hr.kp h2.kp
  have e0:At w [] (Star (ObjA b (relO vvc gvc (.slice none 0 0) (psum T.vars 0) (.slice none 0 0) (.slice none 0 0) (.slice none 0 0))) (Star (OwnA (.slice none 0 0) 3 1 nE (firsts T.vars 0)) (FrA vvc gvc T.vars T.goal tb t))) w2:=by
   rw [psum_zero]
   exact (At.nil (Lcl.obj.star hLF) h2).by Imp.sw
  simp [g2,cell_blk (rdT h2.drop),ev,hr2.vars.len]
  refine range_loop (n:=T.vars.length) (by omega) (fun k ρ w'=>ρ 1=cv∧ρ 2=.pointer (some ⟨tb,0,none⟩)∧ρ 9=.pointer (some ⟨b,0,none⟩)∧ρ 58=T.vv.1∧(∃fv,At w [] (Star (ObjA b (relO vvc gvc fv (psum T.vars k) (.slice none 0 0) (.slice none 0 0) (.slice none 0 0))) (Star (OwnA fv 3 1 nE (firsts T.vars k)) (FrA vvc gvc T.vars T.goal tb t))) w')) (by simp) (by simp)
   ⟨by simp [g1],by simp [g2],by simp [g9],by simp,⟨_,e0⟩⟩ (by decide) (fun _ _ _ _ h=>by simpa using h) (fun _ _ _ _ h=>by simpa using h) ?_ ?_
  rotate_left
  ·rintro ρ w4 ⟨g1,g2,g9,g58,fv,h4⟩
   rw [psum_all] at h4
   exact ⟨g1,g2,g9,fv,h4⟩
  rintro k ρ w4 hk hcc hlm ⟨g1,g2,g9,g58,fv,h4⟩
  obtain ⟨x,hx⟩:∃x,T.vars[k]? = some x:=⟨_,List.getElem?_eq_getElem hk⟩
  have hr4:=(hr.kp h4.kp).vars
  have hps:=psum_le (vars:=T.vars) k
  have hps2:=psum_le (vars:=T.vars) (k+1)
  have hsx:=psum_succ hx
  have hfl:(firsts T.vars k).length=k:=by simp [firsts]
  have hb4:=h4.obj
  unfold relO at hb4
  have h5:=(h4.drew (Lcl.obj.star (Lcl.own.star hLF))).by Imp.sw
  have h6:=h5.kp0 (Lcl.own.star (Lcl.obj.star hLF)) ((Kp.refl [] _).alloc (.cells #[.int .i64 (psum T.vars k:Nat)] 3))
  simp (disch:=omega) [g58,hcc,hlm,hr4.idx,nE_cell hr4 hx,g9,cell_blk hb4,rowOf]
  refine At.append (xs:=[psum T.vars k]) (Lcl.obj.star hLF) h6 nE_len nE_one sl_22 rfl (fun j u hj=>?_) (by omega) (by unfold maxLen; omega) fun v' w7 h7=>?_
  ·rw [show w4.heap.size=w4.drew.heap.size from rfl,add_none,cell_blk alloc_new]
   simpa [nE] using hj
  rw [←firsts_succ] at h7
  have c7:=h7.own.c1
  have o7:=h7.own.o1
  have h8:=h7.by Imp.sw
  unfold relO at h8
  simp [g9,c7]
  refine h8.st (Lcl.own.star hLF) (by simp) (by simp [o7]) fun w9 h9=>?_
  have hb9:=h9.obj
  have esx:((psum T.vars k:Nat):Int)+(x:Nat)=((psum T.vars (k+1):Nat):Int):=by rw [hsx]; simp
  simp (disch:=omega) [g9,cell_blk hb9,esx,wrap_i64]
  refine h9.st (Lcl.own.star hLF) (by simp) (by simp) fun w10 h10=>?_
  simp [g1,g2,g9,g58,hcc,hlm]
  refine ⟨v',?_⟩
  unfold relO
  simpa using h10
 clear g1 g2 g9 h2
 rintro ρ w2 ⟨g1,g2,g9,fv,h2⟩
 -- the rows
 refine seq_cut (fun ρ w'=>ρ 1=cv∧ρ 2=.pointer (some ⟨tb,0,none⟩)∧ρ 9=.pointer (some ⟨b,0,none⟩)∧RlI b vvc gvc fv T.vars [] w [] (FrA vvc gvc T.vars T.goal tb t) w') ?_ ?_
 ·have hb2:=h2.obj
  unfold relO at hb2
  simp [g9,cell_blk hb2]
  refine gd_mk (by omega) ?_
  have h3:=h2.made (E:=22) (enc:=sv1) (x:=((⟨.slice none 0 0,rfl⟩,[]):Cell1 × List Nat)) (z:=[.slice none 0 0]) (n:=T.vars.sum) (Lcl.obj.star (Lcl.own.star hLF)) rfl sv1_len (by unfold maxLen; omega)
  have h4:=h3.by Imp.sw
  unfold relO at h4
  simp [g9]
  refine h4.st (Lcl.own.star (Lcl.own.star hLF)) (by simp) (by simp) fun w5 h5=>?_
  simp [g1,g2,g9]
  have e5:wrAt #[vvc,Value.slice none 0 0,gvc,.slice none 0 0,fv,.int .i64 (T.vars.sum:Nat),.slice none 0 0,.slice none 0 0,.slice none 0 0] 7 [.slice (some ⟨w2.heap.size,0,none⟩) T.vars.sum T.vars.sum]=#[vvc,.slice none 0 0,gvc,.slice none 0 0,fv,.int .i64 (T.vars.sum:Nat),.slice none 0 0,.slice (some ⟨w2.heap.size,0,none⟩) T.vars.sum T.vars.sum,.slice none 0 0]:=by simp
  rw [e5] at h5
  obtain ⟨ndv,hndv⟩:∃ndv,ndv=Value.slice (some ⟨w2.heap.size,0,none⟩) T.vars.sum T.vars.sum:=⟨_,rfl⟩
  rw [←hndv] at h5
  refine ⟨.slice none 0 0,ndv,.slice none 0 0,[],List.replicate T.vars.sum ((⟨.slice none 0 0,rfl⟩,[]):Cell1 × List Nat),rfl,?_,?_⟩
  ·rw [List.map_replicate]
   apply List.ext_getElem
   ·simp
   ·intro i h1 h2
    simp [nbF]
  ·have h6:At w [] (Star (OwnA ndv 22 1 sv1 (List.replicate T.vars.sum ((⟨.slice none 0 0,rfl⟩,[]):Cell1 × List Nat))) (Star (ObjA b (relO vvc gvc fv T.vars.sum (.slice none 0 0) ndv (.slice none 0 0))) (Star (OwnA fv 3 1 nE (firsts T.vars T.vars.length)) (FrA vvc gvc T.vars T.goal tb t)))) w5:=h5.by Imp.sw
   -- the rows themselves
   have h7:=(At.rows_nil (E:=3) (sz:=1) (enc:=nE) (Lcl.own.star (Lcl.obj.star (Lcl.own.star hLF))) h6 rfl T.vars.sum).by (RowsA.up _)
   have h8:=h7.by TabA.cls
   have h9:=At.nil (E:=137) (sz:=5) (enc:=ruE) (Lcl.tab.star (Lcl.obj.star (Lcl.own.star hLF))) h8
   have h10:=VwsA.nil (enc:=nE) (Lcl.own.star (Lcl.tab.star (Lcl.obj.star (Lcl.own.star hLF)))) h9
   have h11:=At.nil (E:=3) (sz:=1) (enc:=nE) (Lcl.vws.star (Lcl.own.star (Lcl.tab.star (Lcl.obj.star (Lcl.own.star hLF))))) h10
   -- fr vws uv tab obj first B
   exact h11.by (Imp.fr5.trans (Imp.un (Imp.fr5.trans (Imp.un (Imp.fr3.trans (Imp.un Imp.sw))))))
 clear g1 g2 g9 h2
 rintro ρ w2 ⟨g1,g2,g9,h2⟩
 have hr2:=hr.kp h2.kp
 have hU:∀n,n≤T.ops.length→(unsK T (cst T cs) n).length≤64 * 4096:=fun n hn=>by
  have:=unsK_len (cost:=cst T cs) (fun o ho=>(hg.ops o ho).elen) n
  omega
 simp [g2,cell_blk (rdT h2.frm),eo,hr2.ops.len]
 refine range_loop (n:=T.ops.length) (by omega) (fun k ρ w'=>ρ 1=cv∧ρ 9=.pointer (some ⟨b,0,none⟩)∧ρ 95=T.ov.1∧RlI b vvc gvc fv T.vars (unsK T (cst T cs) k) w [] (FrA vvc gvc T.vars T.goal tb t) w') (by simp) (by simp)
  ⟨by simp [g1],by simp [g9],by simp,h2⟩ (by decide) (fun _ _ _ _ h=>by simpa using h) (fun _ _ _ _ h=>by simpa using h) ?_ ?_
 rotate_left
 ·rintro ρ w4 ⟨g1,g9,g95,h4⟩
  simp [g9]
  exact ⟨vvc,gvc,fv,tb,h4⟩
 clear g1 g2 g9 h2 hr2
 rintro k ρ w5 hk hcc hlm ⟨g1,g9,g95,h5⟩
 obtain ⟨o,hok⟩:∃o,T.ops[k]? = some o:=⟨_,List.getElem?_eq_getElem hk⟩
 have hom:=List.mem_of_getElem? hok
 have hgo:=hg.ops o hom
 have hr5:=hr.kp h5.kp
 have ec:=hr5.ops.cells noE_len hok
 simp only [noE] at ec
 obtain ⟨ob,heb⟩:∃ob,ob=w5.heap.size:=⟨_,rfl⟩
 have hLO:Lcl (Star (ObjA ob (oqO o.raw)) (FrA vvc gvc T.vars T.goal tb t)):=Lcl.obj.star hLF
 refine seq_cut (fun ρ w'=>ρ 1=cv∧ρ 9=.pointer (some ⟨b,0,none⟩)∧ρ 95=T.ov.1∧ρ 96=.int .i64 (T.ops.length:Nat)∧ρ 97=.int .i64 (k:Nat)∧ρ 12=.int .i64 (k:Nat)∧ρ 13=.pointer (some ⟨ob,0,none⟩)∧RlI b vvc gvc fv T.vars (unsK T (cst T cs) k) w [] (Star (ObjA ob (oqO o.raw)) (FrA vvc gvc T.vars T.goal tb t)) w') ?_ ?_
 ·simp (disch:=omega) [g95,hcc,hlm,hr5.ops.idx,ec,←heb]
  obtain ⟨uv,nd,fr,rs,ps,e1,e2,h6⟩:=h5
  refine st_oq (o:=o.raw) (RlA.lcl hLF) h6 heb fun w6 h7=>?_
  simp [g1,g9,g95,hcc,hlm,←heb]
  exact ⟨uv,nd,fr,rs,ps,e1,e2,h7.by RlA.inn⟩
 clear g1 g9 g95 hcc hlm h5 hr5 ec
 rintro ρ w5 ⟨g1,g9,g95,g96,g97,g12,g13,h5⟩
 have rdO:∀{w'},At w [] (Star (ObjA ob (oqO o.raw)) (FrA vvc gvc T.vars T.goal tb t)) w'→w'.heap[ob]? = some (.cells #[.string o.name,.int .i64 (o.cost:Nat),o.pv.1,o.ev.1] 41 (0,0)):=fun h=>h.obj
 -- its cost
 refine seq_cut (fun ρ w'=>ρ 1=cv∧ρ 9=.pointer (some ⟨b,0,none⟩)∧ρ 95=T.ov.1∧ρ 96=.int .i64 (T.ops.length:Nat)∧ρ 97=.int .i64 (k:Nat)∧ρ 12=.int .i64 (k:Nat)∧ρ 13=.pointer (some ⟨ob,0,none⟩)∧ρ 14=.int .i64 (o.cost:Nat)∧w'=w5) ?_ ?_
 ·simp [g1,g9,g95,g96,g97,g12,g13,cell_blk (rdO h5.frm)]
 clear g1 g9 g95 g96 g97 g12 g13
 rintro ρ w5 ⟨g1,g9,g95,g96,g97,g12,g13,g14,rfl⟩
 have hc5:=hc.kp0 h5.kp
 refine seq_cut (fun ρ w'=>ρ 1=cv∧ρ 9=.pointer (some ⟨b,0,none⟩)∧ρ 95=T.ov.1∧ρ 96=.int .i64 (T.ops.length:Nat)∧ρ 97=.int .i64 (k:Nat)∧ρ 12=.int .i64 (k:Nat)∧ρ 13=.pointer (some ⟨ob,0,none⟩)∧ρ 14=.int .i64 (cst T cs k:Nat)∧w'=w5) ?_ ?_
 ·by_cases t1:0 < cs.length
  ·have t1':(0:Int) < cs.length:=by omega
   have hlen:cs.length=t.ops.length:=by
    by_cases h:cs.length=t.ops.length
    ·exact h
    ·exact absurd ⟨t1,h⟩ hcn
   obtain ⟨x,hx⟩:∃x,cs[k]? = some x:=⟨_,List.getElem?_eq_getElem (by omega)⟩
   have hxo:=List.all_eq_true.1 hcok x (List.mem_of_getElem? hx)
   simp [cOk] at hxo
   have ecx:((cst T cs k:Nat):Int)=x:=by
    unfold cst
    rw [if_neg (by omega),getD_at hx]
    omega
   simp (disch:=omega) [g1,g9,g95,g96,g97,g12,g13,hc5.len,t1,t1',hc5.idx,iE_cell hc5 hx,ecx]
  ·have t1':¬(0:Int) < cs.length:=by omega
   have ecx:cst T cs k=o.cost:=by
    unfold cst
    rw [if_pos (by omega),hok]
   simp [g1,g9,g95,g96,g97,g12,g13,g14,hc5.len,t1,t1',ecx]
 clear g1 g9 g95 g96 g97 g12 g13 g14
 rintro ρ w5 ⟨g1,g9,g95,g96,g97,g12,g13,g14,rfl⟩
 have hR:=(hr.kp h5.kp).op o hom
 have hel:=hgo.elen
 simp [g13,cell_blk (rdO h5.frm),hR.effs.len]
 refine range_loop (n:=o.effs.length) (by omega) (fun j ρ w'=>ρ 1=cv∧ρ 9=.pointer (some ⟨b,0,none⟩)∧ρ 95=T.ov.1∧ρ 96=.int .i64 (T.ops.length:Nat)∧ρ 97=.int .i64 (k:Nat)∧ρ 12=.int .i64 (k:Nat)∧ρ 13=.pointer (some ⟨ob,0,none⟩)∧ρ 14=.int .i64 (cst T cs k:Nat)∧ρ 112=o.ev.1∧RlI b vvc gvc fv T.vars (unsK T (cst T cs) k ++ opU T.vars o k (cst T cs k) j) w [] (Star (ObjA ob (oqO o.raw)) (FrA vvc gvc T.vars T.goal tb t)) w') (by simp) (by simp)
  ⟨by simp [g1],by simp [g9],by simp [g95],by simp [g96],by simp [g97],by simp [g12],by simp [g13],by simp [g14],by simp,by simpa [opU] using h5⟩ (by decide) (fun _ _ _ _ h=>by simpa using h) (fun _ _ _ _ h=>by simpa using h) ?_ ?_
 rotate_left
 ·rintro ρ w6 ⟨g1,g9,g95,g96,g97,g12,g13,g14,g112,h6⟩
  simp [g1,g9,g95,g96,g97]
  rw [unsK_succ hok]
  exact h6.by Imp.dr
 clear g1 g9 g95 g96 g97 g12 g13 g14 h5 hc5 hR
 rintro j ρ w6 hj hcj hlj ⟨g1,g9,g95,g96,g97,g12,g13,g14,g112,h6⟩
 obtain ⟨e,hej⟩:∃e,o.effs[j]? = some e:=⟨_,List.getElem?_eq_getElem hj⟩
 have hem:=List.mem_of_getElem? hej
 have hR6:=(hr.kp h6.kp).op o hom
 have ece:=hR6.effs.cells nfE_len hej
 simp only [nfE] at ece
 obtain ⟨eb,hfb⟩:∃eb,eb=w6.heap.size:=⟨_,rfl⟩
 have hLE:Lcl (Star (ObjA eb (efO e.raw)) (Star (ObjA ob (oqO o.raw)) (FrA vvc gvc T.vars T.goal tb t))):=Lcl.obj.star hLO
 refine seq_cut (fun ρ w'=>ρ 1=cv∧ρ 9=.pointer (some ⟨b,0,none⟩)∧ρ 95=T.ov.1∧ρ 96=.int .i64 (T.ops.length:Nat)∧ρ 97=.int .i64 (k:Nat)∧ρ 12=.int .i64 (k:Nat)∧ρ 13=.pointer (some ⟨ob,0,none⟩)∧ρ 14=.int .i64 (cst T cs k:Nat)∧ρ 112=o.ev.1∧ρ 113=.int .i64 (o.effs.length:Nat)∧ρ 114=.int .i64 (j:Nat)∧ρ 15=.int .i64 (j:Nat)∧ρ 16=.pointer (some ⟨eb,0,none⟩) ∧
   RlI b vvc gvc fv T.vars (unsK T (cst T cs) k ++ opU T.vars o k (cst T cs k) j) w [] (Star (ObjA eb (efO e.raw)) (Star (ObjA ob (oqO o.raw)) (FrA vvc gvc T.vars T.goal tb t))) w') ?_ ?_
 ·simp (disch:=omega) [g112,hcj,hlj,hR6.effs.idx,ece,←hfb]
  obtain ⟨uv,nd,fr,rs,ps,e1,e2,h7⟩:=h6
  refine st_ef (e:=e.raw) (RlA.lcl hLO) h7 hfb fun w7 h8=>?_
  simp [g1,g9,g95,g96,g97,g12,g13,g14,g112,hcj,hlj,←hfb]
  exact ⟨uv,nd,fr,rs,ps,e1,e2,h8.by RlA.inn⟩
 clear g1 g9 g95 g96 g97 g12 g13 g14 g112 hcj hlj h6 hR6 ece
 rintro ρ w6 ⟨g1,g9,g95,g96,g97,g12,g13,g14,g112,g113,g114,g15,g16,h6⟩
 have rdE:∀{w'},At w [] (Star (ObjA eb (efO e.raw)) (Star (ObjA ob (oqO o.raw)) (FrA vvc gvc T.vars T.goal tb t))) w'→w'.heap[eb]? = some (.cells #[e.wv.1,.int .i64 (e.v:Nat),.int .i64 (e.x:Nat)] 87 (0,0)):=fun h=>h.obj
 have h7:=h6.kp0 hLE ((Kp.refl [] w6).drew)
 obtain ⟨⟨uv7,nd7,fr7,ho7⟩,hf7⟩:=h7.fst
 obtain ⟨q1,q2⟩:=hgo.eff e hem
 have hnf:=numF_lt (f:=(e.v,e.x)) q1 q2
 have hUk:=hU k (by omega)
 have hstep:unsK T (cst T cs) k ++ opU T.vars o k (cst T cs k) (j+1)=(unsK T (cst T cs) k ++ opU T.vars o k (cst T cs k) j) ++ [⟨k,j,cst T cs k,numF T.vars (e.v,e.x),dedup ((o.pre ++ e.cnd).map (numF T.vars))⟩]:=by
  rw [opU_succ,←List.append_assoc]
  unfold unA
  rw [hej]
 simp [g9,g12,g13,g14,g15,g16,cell_blk (rdE h6.frm),cell_blk (rdO h6.frm.drop)]
 refine ⟨?_,?_,?_,?_⟩ <;>
 ·refine cl_of (number_spec T.vars (e.v,e.x) ho7 hf7 q1 (by omega)) ?_
  rintro _ w8 ⟨rfl,k8⟩
  have h8:=h7.kp0 hLE k8
  simp [g9,g12,g13,g14,g15,g16,cell_blk (rdE h8.frm),cell_blk (rdO h8.frm.drop)]
  refine cl_of (add_spec T.vars k j (cst T cs k) (numF T.vars (e.v,e.x)) o.pv e.wv o.pre e.cnd hLE h8 (fun w' kk=>((hr.kp kk).op o hom).pre) (fun w' kk=>((hr.kp kk).op o hom).cnd e hem) hgo.pre (hgo.cnd e hem)
   (by rw [List.length_append,opU_len]; omega) (by omega) hvl) ?_
  rintro x w9 h9
  simp [g1,g9,g95,g96,g97,g12,g13,g14,g112,g113,g114]
  rw [hstep]
  exact h9.by Imp.dr
end Go.Proofs.YtolkjbmcindhjaaGreat
end
section
namespace Go.Proofs.YtolkjbmcindhjaaGreat
open Go Go.W Go.Tk Go.Rx
theorem mt_len : mth Tryz.prog 219 "Len" = some (131, false) := by kernel_rfl
theorem mt_less : mth Tryz.prog 219 "Less" = some (289, false) := by kernel_rfl
theorem mt_swap : mth Tryz.prog 219 "Swap" = some (290, false) := by kernel_rfl
theorem mt_pop : mth Tryz.prog 219 "Pop" = some (291, true) := by kernel_rfl
theorem mt_push : mth Tryz.prog 219 "Push" = some (292, true) := by kernel_rfl
theorem mt_un:Tryz.prog.underlying 219=some (.pointer 217):=by kernel_rfl
theorem mt_ag:tyAgg Tryz.prog 217=some none:=by kernel_rfl
theorem en_len:enterable Tryz.prog 131=true:=by kernel_rfl
theorem en_less:enterable Tryz.prog 289=true:=by kernel_rfl
theorem en_swap:enterable Tryz.prog 290=true:=by kernel_rfl
theorem en_pop:enterable Tryz.prog 291=true:=by kernel_rfl
theorem en_push:enterable Tryz.prog 292=true:=by kernel_rfl
def enE (e:En):List Value:=[.int .i64 (e.1:Nat),.int .i64 (e.2:Nat)]
theorem enE_len (e:En):(enE e).length=2:=rfl
theorem enE_one (e:En):(enE e).all oneC=true:=rfl
def enV (e:En):Value:=.agg #[.int .i64 (e.1:Nat),.int .i64 (e.2:Nat)]
def qO (v:Value):Obj:=.cells #[v] 217 (0,0)
def hpV (qb:Nat):Value:=.iface 219 (.pointer (some ⟨qb,0,none⟩))
def QI (qb:Nat) (l:List En) (w:World) (F:List Nat) (B:Asr) (w':World):Prop:=∃sv,At w F (Star (ObjA qb (qO sv)) (Star (OwnA sv 221 2 enE l) B)) w'
theorem rd_q {w:World} {qb:Nat} {v:Value} (h:w.heap[qb]? = some (qO v)):w.cell? ⟨qb,0,none⟩=some v:=by
 unfold qO at h
 simp [cell_blk h]
theorem gt_get {l:List En} {i:Nat} (h:i < l.length):l[i]? = some (gt l i):=by rw [gt_lt h]; exact List.getElem?_eq_getElem h
theorem less_spec {w:World} (sv:Value) (l:List En) (i j:Nat) (hv:Vw w sv enE l) (hi:i < l.length) (hj:j < l.length) :
  Calls Tryz.prog 289 [sv,.int .i64 (i:Nat),.int .i64 (j:Nat)].toArray w fun e w'=>∃x,e=.returned x∧x=.bool (bef (gt l i) (gt l j))∧Kp [] w w':=by
 refine enter Tryz.func289 mixed low289 (Nat.le_of_ble_eq_true rfl) ?_
 simp only [L289]
 have e1:=hv.fld enE_len (gt_get hi) (o:=0) (u:=.int .i64 ((gt l i).1:Nat)) rfl
 have e2:=hv.fld enE_len (gt_get hj) (o:=0) (u:=.int .i64 ((gt l j).1:Nat)) rfl
 simp (disch:=omega) [hv.idx,e1,e2]
 exact ⟨rfl,(Kp.refl [] w).drew⟩
theorem len_spec {w:World} (sv:Value) (l:List En) (hv:Vw w sv enE l) :
  Calls Tryz.prog 131 [sv].toArray w fun e w'=>∃x,e=.returned x∧x=.int .i64 (l.length:Nat)∧Kp [] w w':=by
 refine enter Tryz.func131 mixed low131 (Nat.le_of_ble_eq_true rfl) ?_
 simp only [L131]
 simp [hv.len]
 exact Kp.refl [] w
theorem swap_spec {w w1:World} {F:List Nat} {B:Asr} (sv:Value) (l:List En) (i j:Nat) (hB:Lcl B) (h:At w F (Star (OwnA sv 221 2 enE l) B) w1) (hi:i < l.length) (hj:j < l.length) :
  Calls Tryz.prog 290 [sv,.int .i64 (i:Nat),.int .i64 (j:Nat)].toArray w1 fun e w'=>∃x,e=.returned x∧At w F (Star (OwnA sv 221 2 enE (swp l i j)) B) w':=by
 refine enter Tryz.func290 mixed low290 (Nat.le_of_ble_eq_true rfl) ?_
 simp only [L290]
 have h1:=h.drew (Lcl.own.star hB)
 have hO:=h1.own
 have c1:=hO.cells enE_len (gt_get hi)
 have c2:=hO.cells enE_len (gt_get hj)
 simp only [enE] at c1 c2
 simp (disch:=omega) [hO.idx,c1,c2]
 refine h1.store hB enE_len enE_one hi (x:=gt l j) rfl fun w2 h2=>?_
 have hO2:=h2.own
 have hj2:(j:Int) < (l.set i (gt l j)).length:=by simp; omega
 simp (disch:=omega) [hO2.idx]
 refine h2.store hB enE_len enE_one (by simpa using hj) (x:=gt l i) rfl fun w3 h3=>?_
 simp
 exact h3
theorem push_spec {w w1:World} {F:List Nat} {B:Asr} (qb:Nat) (l:List En) (e:En) (hB:Lcl B) (h:QI qb l w F B w1) (hl:l.length≤1000000) :
  Calls Tryz.prog 292 [.pointer (some ⟨qb,0,none⟩),.iface 221 (enV e)].toArray w1 fun x w'=>∃y,x=.returned y∧QI qb (l ++ [e]) w F B w':=by
 obtain ⟨sv,h1⟩:=h
 refine enter Tryz.func292 mixed low292 (Nat.le_of_ble_eq_true rfl) ?_
 simp only [L292]
 obtain ⟨eb,heb⟩:∃eb,eb=w1.heap.size:=⟨_,rfl⟩
 have hL1:Lcl (Star (ObjA qb (qO sv)) (Star (OwnA sv 221 2 enE l) B)):=Lcl.obj.star (Lcl.own.star hB)
 have h2:At w F (Star (ObjA eb (.cells #[.int .i64 0,.int .i64 0] 221 (0,0))) (Star (ObjA qb (qO sv)) (Star (OwnA sv 221 2 enE l) B))) (w1.alloc (.cells #[.int .i64 0,.int .i64 0] 221 (0,0))):=by rw [heb]; exact h1.alloc _ hL1
 simp [enV,←heb]
 refine h2.st hL1 (by simp) (by simp) fun w3 h3=>?_
 have hq:=rd_q h3.drop.obj
 have he:=h3.obj
 have ce:cellsAt w3 ⟨w1.heap.size,0,none⟩ 0 2=some [.int .i64 (e.1:Nat),.int .i64 (e.2:Nat)]:=by
  rw [←heb]
  simp at he
  simp [cellsAt,Addr.add,cell_blk he]
 have h4:=h3.drop.drew hL1
 have h5:=(h4.by Imp.sw).kp0 (Lcl.own.star (Lcl.obj.star hB)) ((Kp.refl [] _).alloc (.cells #[.int .i64 (e.1:Nat),.int .i64 (e.2:Nat)] 221))
 simp [hq,ce,rowOf]
 refine At.append (xs:=[e]) (Lcl.obj.star hB) h5 enE_len enE_one sl_217 rfl (fun j u hj=>?_) (by omega) (by unfold maxLen; omega) fun v' w6 h6=>?_
 ·rw [show w3.heap.size=w3.drew.heap.size from rfl,add_none,cell_blk alloc_new]
  simpa [enE] using hj
 have c6:=h6.own.c1
 have o6:=h6.own.o1
 have h7:=h6.by Imp.sw
 unfold qO at h7
 simp [c6]
 refine h7.st (Lcl.own.star hB) (by simp) (by simp [o6]) fun w8 h8=>?_
 simp
 exact ⟨v',by unfold qO; simpa using h8⟩
theorem pop_spec {w w1:World} {F:List Nat} {B:Asr} (qb:Nat) (l:List En) (e:En) (hB:Lcl B) (h:QI qb (l ++ [e]) w F B w1) (hl:l.length≤1000000) :
  Calls Tryz.prog 291 [.pointer (some ⟨qb,0,none⟩)].toArray w1 fun x w'=>∃y,x=.returned y∧y=.iface 221 (enV e)∧QI qb l w F B w':=by
 obtain ⟨sv,h1⟩:=h
 refine enter Tryz.func291 mixed low291 (Nat.le_of_ble_eq_true rfl) ?_
 simp only [L291]
 have hq:=rd_q h1.obj
 have hO:=h1.drop.own
 have hi:(l ++ [e])[l.length]? = some e:=by simp
 have ec:=hO.cells enE_len hi
 simp only [enE] at ec
 have hlen:((l ++ [e]).length:Int)=(l.length:Int)+1:=by simp
 have hidx:(l.length:Int) < (l ++ [e]).length:=by simp; omega
 obtain ⟨eb,heb⟩:∃eb,eb=w1.heap.size:=⟨_,rfl⟩
 have hL1:Lcl (Star (ObjA qb (qO sv)) (Star (OwnA sv 221 2 enE (l ++ [e])) B)):=Lcl.obj.star (Lcl.own.star hB)
 have h2:At w F (Star (ObjA eb (.cells #[.int .i64 0,.int .i64 0] 221 (0,0))) (Star (ObjA qb (qO sv)) (Star (OwnA sv 221 2 enE (l ++ [e])) B))) (w1.alloc (.cells #[.int .i64 0,.int .i64 0] 221 (0,0))):=by rw [heb]; exact h1.alloc _ hL1
 simp (disch:=omega) [hq,hO.vw.len,hlen,wrap_i64,hO.idx,hidx,ec,←heb]
 refine h2.st hL1 (by simp) (by simp) fun w3 h3=>?_
 have he:=h3.obj
 have h4:=h3.by Imp.fr3
 have hO4:=h4.own
 simp (disch:=omega) [hO4.vw.len,hlen,wrap_i64]
 refine hO4.slice_hi enE_len sl_217 (by simp) fun v' hv' hown=>?_
 have htk:(l ++ [e]).take l.length=l:=by simp
 rw [htk] at hv'
 have h5:At w F (Star (OwnA v' 221 2 enE l) (Star (ObjA eb _) (Star (ObjA qb (qO sv)) B))) w3:=h4.step (w2:=w3) Lcl.own (Lcl.obj.star (Lcl.obj.star hB)) (fun Fa ⟨_,hFa⟩=>⟨v'.own,⟨hv',rfl⟩,Kp.refl _ _,fun x hx=>.inl (by rw [hFa,←hown]; exact hx)⟩)
 have c5:=hv'.c1
 have o5:=hv'.o1
 have h6:=h5.by Imp.fr3
 unfold qO at h6
 simp [c5]
 refine h6.st (Lcl.own.star (Lcl.obj.star hB)) (by simp) (by simp [o5]) fun w7 h7=>?_
 have he7:=h7.drop.drop.obj
 have ce:cellsAt w7 ⟨w1.heap.size,0,none⟩ 0 2=some [.int .i64 (e.1:Nat),.int .i64 (e.2:Nat)]:=by
  rw [←heb]
  simp at he7
  simp [cellsAt,Addr.add,cell_blk he7]
 simp [ce,enV]
 exact ⟨v',(by unfold qO; simpa using h7.by (Imp.un (Imp.un Imp.dr)))⟩
theorem hUp_spec {w w1:World} {F:List Nat} {B:Asr} (qb:Nat) (l:List En) (j:Nat) (hB:Lcl B) (h:QI qb l w F B w1) (hl:l.length≤1000000) (hj:j < l.length) :
  Calls Tryz.prog 185 [hpV qb,.int .i64 (j:Nat)].toArray w1 fun x w'=>∃y,x=.returned y∧QI qb (upL l j) w F B w':=by
 refine enter Tryz.func185 mixed low185 (Nat.le_of_ble_eq_true rfl) ?_
 simp only [L185]
 refine loop_inv (fun n ρ w'=>∃l' j',j'=n∧upL l j=upL l' j'∧l'.length=l.length∧j' < l.length∧ρ 0=hpV qb∧ρ 1=.int .i64 (j':Nat)∧QI qb l' w F B w') j ⟨l,j,rfl,rfl,rfl,hj,by simp,by simp,h⟩ ?_
 rintro n ρ w2 ⟨l',j',rfl,hup,hl',hj',g0,g1,sv,h2⟩
 have hq:=rd_q h2.obj
 have hV:=h2.drop.own.vw
 have hL2:Lcl (Star (ObjA qb (qO sv)) (Star (OwnA sv 221 2 enE l') B)):=Lcl.obj.star (Lcl.own.star hB)
 by_cases hz:j'=0
 ·subst hz
  have ew:IntKind.i64.wrap (-1)=-1:=wrap_i64 (by omega) (by omega)
  have eq:(-1:Int).tdiv 2=0:=by decide
  have e0:IntKind.i64.wrap 0=0:=wrap_i64 (by omega) (by omega)
  conv at hup=>rhs; rw [upL,dif_pos rfl]
  simp [g0,g1,ew,eq,e0]
  rw [hup]
  exact ⟨sv,h2⟩
 obtain ⟨p,hp⟩:∃p,p=(j' - 1) / 2:=⟨_,rfl⟩
 have ew:IntKind.i64.wrap ((j':Int) - 1)=(j':Int) - 1:=wrap_i64 (by omega) (by omega)
 have eq:((j':Int) - 1).tdiv 2=(p:Int):=by rw [Int.tdiv_eq_ediv_of_nonneg (by omega)]; omega
 have ep:IntKind.i64.wrap (p:Int)=p:=wrap_i64 (by omega) (by omega)
 have hne:((p:Int) == (j':Int))=false:=by simp; omega
 simp [g0,g1,ew,eq,ep,hne,hpV,iv_v mt_less mt_un mt_ag en_less hq]
 refine cl_of (less_spec sv l' j' p hV (by omega) (by omega)) ?_
 rintro _ w3 ⟨rfl,k3⟩
 have h3:=h2.kp0 hL2 k3
 conv at hup=>rhs; rw [upL,dif_neg hz,←hp]
 cases hb:bef (gt l' j') (gt l' p) with
 | false =>
  rw [hb] at hup
  simp at hup
  simp [hne]
  rw [hup]
  exact ⟨sv,h3⟩
 | true =>
  rw [hb] at hup
  simp at hup
  have hq3:=rd_q h3.obj
  simp [hne,g0,g1,hpV,iv_v mt_swap mt_un mt_ag en_swap hq3]
  refine cl_of (swap_spec sv l' p j' (Lcl.obj.star hB) (h3.by Imp.sw) (by omega) (by omega)) ?_
  rintro _ w4 h4
  simp
  have hc:swp l' p j'=swp l' j' p:=by
   unfold swp
   exact (List.set_comm _ _ (by omega)).symm
  rw [hc] at h4
  exact ⟨p,by omega,swp l' j' p,hup,by simp [hl'],by omega,by simpa [hpV] using g0,rfl,sv,h4.by Imp.sw⟩
theorem gt_app {l:List En} {x:En} {i:Nat} (h:i < l.length):gt (l ++ [x]) i=gt l i:=by
 rw [gt_lt (by simp; omega),gt_lt h,List.getElem_append_left h]
theorem swp_app {l:List En} {x:En} {i p:Nat} (hi:i < l.length) (hp:p < l.length):swp (l ++ [x]) i p=swp l i p ++ [x]:=by
 unfold swp
 rw [gt_app hi,gt_app hp,List.set_append_left _ _ hi,List.set_append_left _ _ (by simpa using hp)]
theorem hDown_spec {w w1:World} {F:List Nat} {B:Asr} (qb:Nat) (l:List En) (x:En) (hB:Lcl B) (h:QI qb (l ++ [x]) w F B w1) (hl:l.length≤1000000) :
  Calls Tryz.prog 186 [hpV qb,.int .i64 0,.int .i64 (l.length:Nat)].toArray w1 fun r w'=>∃y,r=.returned y∧QI qb (downL l 0 ++ [x]) w F B w':=by
 refine enter Tryz.func186 mixed low186 (Nat.le_of_ble_eq_true rfl) ?_
 simp only [L186]
 simp
 refine loop_inv (fun n ρ w'=>∃l' i',n=l.length - i'∧downL l 0=downL l' i'∧l'.length=l.length∧i'≤l.length∧ρ 0=hpV qb∧ρ 1=.int .i64 0∧ρ 2=.int .i64 (l.length:Nat)∧ρ 7=.int .i64 (i':Nat)∧QI qb (l' ++ [x]) w F B w') l.length ⟨l,0,rfl,rfl,rfl,by omega,by simp,by simp,by simp,by simp,h⟩ ?_
 rintro n ρ w2 ⟨l',i',rfl,hdn,hl',hi',g0,g1,g2,g7,sv,h2⟩
 have hq:=rd_q h2.obj
 have hV:=h2.drop.own.vw
 have hL2:Lcl (Star (ObjA qb (qO sv)) (Star (OwnA sv 221 2 enE (l' ++ [x])) B)):=Lcl.obj.star (Lcl.own.star hB)
 obtain ⟨d,hd⟩:∃d,d=2 * i':=⟨_,rfl⟩
 have e1:(2:Int) * i'=(d:Int):=by omega
 have w1:IntKind.i64.wrap (d:Int)=(d:Int):=wrap_i64 (by omega) (by omega)
 obtain ⟨j1,hj1⟩:∃j1,j1=2 * i'+1:=⟨_,rfl⟩
 have e2:(d:Int)+1=(j1:Int):=by omega
 have w2':IntKind.i64.wrap (j1:Int)=j1:=wrap_i64 (by omega) (by omega)
 obtain ⟨j2,hj2⟩:∃j2,j2=j1+1:=⟨_,rfl⟩
 have e3:(j1:Int)+1=(j2:Int):=by omega
 have w3':IntKind.i64.wrap (j2:Int)=j2:=wrap_i64 (by omega) (by omega)
 by_cases hend:l.length≤j1
 ·have hend':(l.length:Int)≤j1:=by omega
  conv at hdn=>rhs; rw [downL,dif_pos (show l'.length≤2 * i'+1 by omega)]
  simp [g0,g1,g2,g7,e1,w1,e2,w2',hend,hend']
  rw [hdn]
  exact ⟨sv,h2⟩
 have hend':¬(l.length:Int)≤j1:=by omega
 have hneg:¬(j1:Int) < 0:=by omega
 conv at hdn=>rhs; rw [downL,dif_neg (show ¬l'.length≤2 * i'+1 by omega)]
 obtain ⟨kd,hkd⟩:∃kd,kd=kid l' i':=⟨_,rfl⟩
 obtain ⟨hk1,hk2,hk3⟩:=kid_le (l:=l') (i:=i') (by omega)
 rw [←hkd] at hk1 hk2 hk3 hdn
 -- the lesser child
 refine seq_cut (fun ρ w'=>ρ 0=hpV qb∧ρ 1=.int .i64 0∧ρ 2=.int .i64 (l.length:Nat)∧ρ 7=.int .i64 (i':Nat)∧ρ 8=.int .i64 (j1:Nat)∧w'=w2) ?_ ?_
 ·simp [g0,g1,g2,g7,e1,w1,e2,w2']
 rintro ρ w2 ⟨g0,g1,g2,g7,g8,rfl⟩
 refine seq_cut (fun ρ w'=>ρ 0=hpV qb∧ρ 1=.int .i64 0∧ρ 2=.int .i64 (l.length:Nat)∧ρ 7=.int .i64 (i':Nat)∧ρ 8=.int .i64 (j1:Nat)∧w'=w2) ?_ ?_
 ·simp [g0,g1,g2,g7,g8,hend,hend',hneg]
 clear g0 g1 g2 g7 g8
 rintro ρ w2 ⟨g0,g1,g2,g7,g8,rfl⟩
 refine seq_cut (fun ρ w'=>ρ 0=hpV qb∧ρ 1=.int .i64 0∧ρ 2=.int .i64 (l.length:Nat)∧ρ 7=.int .i64 (i':Nat)∧ρ 8=.int .i64 (j1:Nat)∧ρ 9=.int .i64 (j1:Nat)∧w'=w2) ?_ ?_
 ·simp [g0,g1,g2,g7,g8]
 clear g0 g1 g2 g7 g8
 rintro ρ w2 ⟨g0,g1,g2,g7,g8,g9,rfl⟩
 refine seq_cut (fun ρ w'=>ρ 0=hpV qb∧ρ 1=.int .i64 0∧ρ 2=.int .i64 (l.length:Nat)∧ρ 7=.int .i64 (i':Nat)∧ρ 9=.int .i64 (kd:Nat)∧At w F (Star (ObjA qb (qO sv)) (Star (OwnA sv 221 2 enE (l' ++ [x])) B)) w') ?_ ?_
 ·by_cases t:j2 < l.length
  ·have t':(j2:Int) < l.length:=by omega
   simp [g0,g1,g2,g7,g8,g9,e3,w3',t,t',hpV,iv_v mt_less mt_un mt_ag en_less hq]
   refine cl_of (less_spec sv (l' ++ [x]) j2 j1 hV (by simp; omega) (by simp; omega)) ?_
   rintro _ w3 ⟨rfl,k3⟩
   have h3:=h2.kp0 hL2 k3
   rw [gt_app (by omega),gt_app (by omega)]
   cases hb:bef (gt l' j2) (gt l' j1) with
   | true =>
    have:kd=j2:=by
     rw [hkd]; unfold kid
     rw [if_pos ⟨by omega,by rw [show 2 * i'+2=j2 by omega,show 2 * i'+1=j1 by omega]; exact hb⟩]
     omega
    simp [t,g0,g1,g2,g7,hpV,this]
    exact h3
   | false =>
    have:kd=j1:=by
     rw [hkd]; unfold kid
     rw [if_neg (fun h=>by rw [show 2 * i'+2=j2 by omega,show 2 * i'+1=j1 by omega,hb] at h; exact absurd h.2 (by simp))]
     omega
    simp [t,g0,g1,g2,g7,g9,hpV,this]
    exact h3
  ·have t':¬(j2:Int) < l.length:=by omega
   have:kd=j1:=by
    rw [hkd]; unfold kid
    rw [if_neg (fun h=>by omega)]
    omega
   simp [g0,g1,g2,g7,g8,g9,e3,w3',t,t',this]
   exact h2
 clear g0 g1 g2 g7 g8 g9
 rintro ρ w3 ⟨g0,g1,g2,g7,g9,h3⟩
 have hq3:=rd_q h3.obj
 have hV3:=h3.drop.own.vw
 simp [g0,g7,g9,hpV,iv_v mt_less mt_un mt_ag en_less hq3]
 refine cl_of (less_spec sv (l' ++ [x]) kd i' hV3 (by simp; omega) (by simp; omega)) ?_
 rintro _ w4 ⟨rfl,k4⟩
 have h4:=h3.kp0 hL2 k4
 rw [gt_app (by omega),gt_app (by omega)]
 cases hb:bef (gt l' kd) (gt l' i') with
 | false =>
  rw [hb] at hdn
  simp at hdn
  simp [g7,g1]
  rw [hdn]
  exact ⟨sv,h4⟩
 | true =>
  rw [hb] at hdn
  simp at hdn
  have hq4:=rd_q h4.obj
  simp [g0,g7,g9,hpV,iv_v mt_swap mt_un mt_ag en_swap hq4]
  refine cl_of (swap_spec sv (l' ++ [x]) i' kd (Lcl.obj.star hB) (h4.by Imp.sw) (by simp; omega) (by simp; omega)) ?_
  rintro _ w5 h5
  rw [swp_app (by omega) (by omega)] at h5
  simp [g9]
  exact ⟨l.length - kd,by omega,swp l' i' kd,kd,rfl,hdn,by simp [hl'],by omega,by simp [g0,hpV],g1,g2,rfl,sv,h5.by Imp.sw⟩
theorem hPush_spec {w w1:World} {F:List Nat} {B:Asr} (qb:Nat) (l:List En) (e:En) (hB:Lcl B) (h:QI qb l w F B w1) (hl:l.length≤900000) :
  Calls Tryz.prog 130 [hpV qb,.iface 221 (enV e)].toArray w1 fun x w'=>∃y,x=.returned y∧QI qb (upL (l ++ [e]) l.length) w F B w':=by
 refine enter Tryz.func130 mixed low130 (Nat.le_of_ble_eq_true rfl) ?_
 simp only [L130]
 simp [hpV,iv_p mt_push mt_un en_push]
 refine cl_of (push_spec qb l e hB h (by omega)) ?_
 rintro _ w2 ⟨sv,h2⟩
 have hL2:Lcl (Star (ObjA qb (qO sv)) (Star (OwnA sv 221 2 enE (l ++ [e])) B)):=Lcl.obj.star (Lcl.own.star hB)
 simp [hpV,iv_v mt_len mt_un mt_ag en_len (rd_q h2.obj)]
 refine cl_of (len_spec sv (l ++ [e]) h2.drop.own.vw) ?_
 rintro _ w3 ⟨rfl,k3⟩
 have h3:=h2.kp0 hL2 k3
 have e1:((l ++ [e]).length:Int) - 1=(l.length:Int):=by simp
 simp only [run_mk]
 simp (disch:=omega) [e1,wrap_i64]
 refine cl_of (hUp_spec qb (l ++ [e]) l.length hB ⟨sv,h3⟩ (by simp; omega) (by simp)) ?_
 rintro _ w4 h4
 simp
 exact h4
theorem hPop_spec {w w1:World} {F:List Nat} {B:Asr} (qb:Nat) (l:List En) (e:En) (hB:Lcl B) (h:QI qb (e :: l) w F B w1) (hl:l.length≤900000) :
  Calls Tryz.prog 132 [hpV qb].toArray w1 fun x w'=>∃y,x=.returned y∧y=.iface 221 (enV e)∧QI qb (downL (topL (e :: l)) 0) w F B w':=by
 obtain ⟨sv,h1⟩:=h
 refine enter Tryz.func132 mixed low132 (Nat.le_of_ble_eq_true rfl) ?_
 simp only [L132]
 have hL1:∀l',Lcl (Star (ObjA qb (qO sv)) (Star (OwnA sv 221 2 enE l') B)):=fun l'=>Lcl.obj.star (Lcl.own.star hB)
 simp [hpV,iv_v mt_len mt_un mt_ag en_len (rd_q h1.obj)]
 refine cl_of (len_spec sv (e :: l) h1.drop.own.vw) ?_
 rintro _ w2 ⟨rfl,k2⟩
 have h2:=h1.kp0 (hL1 _) k2
 have e1:((e :: l).length:Int) - 1=(l.length:Int):=by simp
 simp only [run_mk]
 simp (disch:=omega) [e1,wrap_i64,iv_v mt_swap mt_un mt_ag en_swap (rd_q h2.obj)]
 refine cl_of (swap_spec sv (e :: l) 0 l.length (Lcl.obj.star hB) (h2.by Imp.sw) (by simp) (by simp)) ?_
 rintro _ w3 h3
 have est:swp (e :: l) 0 l.length=topL (e :: l) ++ [e]:=by
  have:=swp_top (l:=e :: l) (by simp)
  simpa [gt] using this
 rw [est] at h3
 have htl:(topL (e :: l)).length=l.length:=by rw [topL_len]; simp
 simp
 have hd:=hDown_spec qb (topL (e :: l)) e hB ⟨sv,h3.by Imp.sw⟩ (by omega)
 rw [htl] at hd
 refine cl_of hd ?_
 rintro _ w4 h4
 simp [iv_p mt_pop mt_un en_pop]
 refine cl_of (pop_spec qb (downL (topL (e :: l)) 0) e hB h4 ?_) ?_
 ·rw [downL_len _ 0 _ (Nat.le_refl _)]; omega
 rintro _ w5 ⟨rfl,h5⟩
 simp
 exact h5
end Go.Proofs.YtolkjbmcindhjaaGreat
end
