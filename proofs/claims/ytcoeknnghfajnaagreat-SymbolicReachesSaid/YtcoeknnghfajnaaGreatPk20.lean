/-
  A part of the proof of this claim's statement (SyWI, SyCt, SyCu): plain theorems; no conditions beyond those each names.
-/
import Derived.Test.YtcoeknnghfajnaaGreatPk19
import Derived.Test.YtcoeknnghfajnaaGreatPk18
set_option maxRecDepth 100000
set_option linter.unusedSimpArgs false
set_option linter.unusedVariables false
set_option linter.unusedSectionVars false
section
namespace Go.Proofs.YtcoeknnghfajnaaGreat
open Go Go.W Go.Tk Go.Rx Go.Bd Go.Sy Go.Maps
theorem Alk.op {T T':Nt} (h:Alk T T') {i:Nat} {o:No} (ho:T'.ops[i]? = some o):∃o2,T.ops[i]? = some o2∧skO o=skO o2:=by
 have:=congrArg (fun l=>l[i]?) h.ops
 simp only [List.getElem?_map,ho,Option.map_some] at this
 cases h2:T.ops[i]? with
 | none=>rw [h2] at this; cases this
 | some o2=>rw [h2] at this; simp only [Option.map_some,Option.some.injEq] at this; exact ⟨o2,rfl,this⟩
theorem Alk.good {T T':Nt} (h:Alk T T') (hg:NtG T):NtG T':=by
 refine ⟨by rw [h.vars]; exact hg.vlen,?_,by rw [h.vars]; exact hg.vars,by rw [h.init,h.vars]; exact hg.ilen,by rw [h.init,h.vars]; exact hg.init,by rw [h.goal,h.vars]; exact hg.goal,fun o ho=>?_⟩
 ·have:=congrArg List.length h.ops
  rw [List.length_map,List.length_map] at this
  rw [this]
  exact hg.olen
 ·obtain ⟨i,hi⟩:=List.mem_iff_getElem?.1 ho
  obtain ⟨o2,h2,hs⟩:=h.op hi
  have g2:=hg.ops o2 (List.mem_of_getElem? h2)
  unfold skO at hs
  simp only [Prod.mk.injEq] at hs
  obtain ⟨_,s2,s3,s4⟩:=hs
  have hl:=congrArg List.length s4
  rw [List.length_map,List.length_map] at hl
  have he:∀e ∈ o.effs,∃e2 ∈ o2.effs,skE e=skE e2:=fun e he=>by
   have:skE e ∈ o2.effs.map skE:=by rw [←s4]; exact List.mem_map.2 ⟨e,he,rfl⟩
   obtain ⟨e2,h3,h4⟩:=List.mem_map.1 this
   exact ⟨e2,h3,h4.symm⟩
  rw [h.vars]
  refine ⟨by rw [s2]; exact g2.cost,by rw [hl]; exact g2.elen,by rw [s3]; exact g2.pre,fun e hm=>?_,fun e hm=>?_⟩
  ·obtain ⟨e2,h3,h4⟩:=he e hm
   unfold skE at h4
   simp only [Prod.mk.injEq] at h4
   rw [h4.1]
   exact g2.cnd e2 h3
  ·obtain ⟨e2,h3,h4⟩:=he e hm
   unfold skE at h4
   simp only [Prod.mk.injEq] at h4
   rw [h4.2.1,h4.2.2]
   exact g2.eff e2 h3
theorem ins_mk {T ty:Nat} {m k x:Operand} {ρ:Env} {w:World} {K:Value→World→Prop} (h:@efuH Tryz.prog (Instr.mapUpdate T (ρ.ev m) (ρ.ev k) (ρ.ev x)) w ⟨fun w'=>K undef w'⟩):opS Tryz.prog 2 (.insert T m k x) ty ρ w K:=by
 unfold efuH efuS at h
 obtain ⟨w',hr,hk⟩:=h
 simp only [opS,stepL,step2,LO.exec,execOp,Sem.run_bind,hr,Result.andThen_ok]
 exact hk
theorem shl_one {k:Nat} (h:k < 62):IntKind.i64.wrap (2 ^ min k IntKind.i64.bits)=((2 ^ k:Nat):Int):=by
 have hb:IntKind.i64.bits=64:=rfl
 rw [hb,Nat.min_eq_left (by omega)]
 have e:((2:Int) ^ k)=((2 ^ k:Nat):Int):=by simp
 have h2:2 ^ k≤2305843009213693952:=Nat.le_trans (Nat.pow_le_pow_right (by omega) (show k≤61 by omega)) (by decide)
 obtain ⟨y,hy⟩:∃y,y=2 ^ k:=⟨_,rfl⟩
 rw [e]
 rw [←hy] at h2 ⊢
 exact wrap_i64 (by omega) (by omega)
def spB (t0 t1 t2 t3 mv fv wv:Value) (bits all km sm:Nat):Obj:=.cells #[t0,t1,t2,t3,mv,fv,wv,.int .i64 (bits:Nat),.int .i64 (all:Nat),.map (some km),.map (some sm)] 76 (0,0)
def okP (vars:List Nat) (k:Nat) (a:Nat→Bool):Bool:=(List.range k).all fun v=>decide (rv vars a 0 v < vars.getD v 0)
theorem okP_succ (vars:List Nat) (k:Nat) (a:Nat→Bool):okP vars (k+1) a=(okP vars k a && decide (rv vars a 0 k < vars.getD k 0)):=by
 unfold okP
 rw [List.range_succ,List.all_append]
 simp
structure NewW (T:Nt) (W:((Nat→Bool)→Bool)→Prop):Prop where
 lit:LitW T.vars W
 vl:∀v x,v < T.vars.length→x < T.vars.getD v 0→VlW T.vars v x 0 W
 sm:∀v x,v < T.vars.length→x < T.vars.getD v 0→W fun a=>decide (rv T.vars a 0 v < x+1)
 ok:∀k,k < T.vars.length→W (okP T.vars (k+1))
def NewR (T:Nt) (L:Nat) (B:Asr) (w:World) (F:List Nat) (W:((Nat→Bool)→Bool)→Prop) (v:Value) (w':World):Prop :=
 (100 < nBits T.vars∧v=.tuple #[.pointer none,berrV 5]∧At w F B w') ∨
 (nBits T.vars≤100∧∃e ns,Stp (2 * nBits T.vars) L W false [] e ns ∧
  ((e=true∧v=.tuple #[.pointer none,eB true]∧At w F B w')∨(e=false∧∃s m T' q,Alk T T'∧v=.tuple #[.pointer (some ⟨s,0,none⟩),.nilIface]∧SpG L T' q ns (putM [(0,true)] q.all true) []∧At w F (SpcA s m L T' q ns (putM [(0,true)] q.all true) [] B) w')))
def qN (T':Nt) (fv wv:Value) (km sm f:Nat):SpC:=⟨T'.vv.1,T'.nv.1,T'.gv.1,T'.ov.1,fv,wv,f,km,sm⟩
def NwJ (bb tb sb m:Nat) (T T':Nt) (fv wv:Value) (km sm:Nat) (L:Nat) (B2:Asr) (w:World) (F:List Nat) (W:((Nat→Bool)→Bool)→Prop) (k:Nat) (ρ:Env) (w':World):Prop :=
 ρ 2=.pointer (some ⟨tb,0,none⟩)∧ρ 7=.pointer (some ⟨sb,0,none⟩)∧ρ 12=.pointer (some ⟨bb,0,none⟩)∧ρ 110=T.vv.1∧∃f e ns,Stp (2 * nBits T.vars) L W false [] e ns∧Mn ns e f (okP T.vars k)∧At w F (BlA bb sb m L T.vars (qN T' fv wv km sm f) e ns (RestA T' (qN T' fv wv km sm f) [(0,true)] [] B2)) w'
def NwK (bb tb sb m:Nat) (T T':Nt) (fv wv:Value) (km sm:Nat) (L:Nat) (B2:Asr) (w:World) (F:List Nat) (W:((Nat→Bool)→Bool)→Prop) (n k f:Nat) (x:Nat) (ρ:Env) (w':World):Prop :=
 ρ 2=.pointer (some ⟨tb,0,none⟩)∧ρ 7=.pointer (some ⟨sb,0,none⟩)∧ρ 12=.pointer (some ⟨bb,0,none⟩)∧ρ 110=T.vv.1∧ρ 13=.int .i64 (k:Nat)∧ρ 111=.int .i64 (n:Nat)∧ρ 112=.int .i64 (k:Nat)∧∃g e ns,ρ 15=.int .i64 (g:Nat)∧Stp (2 * nBits T.vars) L W false [] e ns∧Mn ns e f (okP T.vars k)∧Mn ns e g (fun a=>decide (rv T.vars a 0 k < x))∧At w F (BlA bb sb m L T.vars (qN T' fv wv km sm f) e ns (RestA T' (qN T' fv wv km sm f) [(0,true)] [] B2)) w'
def NwI (tb sb:Nat) (T T':Nt) (km sm:Nat) (L:Nat) (B:Asr) (w:World) (F:List Nat) (k:Nat) (ρ:Env) (w':World):Prop :=
 ρ 1=.int .i64 (L:Nat)∧ρ 2=.pointer (some ⟨tb,0,none⟩)∧ρ 7=.pointer (some ⟨sb,0,none⟩)∧ρ 37=T.vv.1∧∃fv wv,At w F (Star (ObjA sb (spB T'.vv.1 T'.nv.1 T'.gv.1 T'.ov.1 (.pointer none) fv wv (bP T.vars k) 0 km sm)) (Star (OwnA fv 3 1 nE ((List.range k).map (bP T.vars))) (Star (OwnA wv 3 1 nE ((T.vars.take k).map wd)) (Star (KmA km [(0,true)]) (Star (SmA sm []) (Star (TskA T') (Star (ObjA tb (ntO T)) B))))))) w'
section
variable {w w1:World} {F:List Nat} {B:Asr}
set_option maxHeartbeats 4000000 in
theorem snew_spec (T:Nt) (L:Nat) (hB:Lcl B) (h:At w F B w1) (hr:Rds B fun w'=>NtR w' T) (hg:NtG T) (hgd:goodB T.raw=true) (hl:TkL T.raw) (h1:1≤L) (h2:L≤1048576) {W:((Nat→Bool)→Bool)→Prop} (hW:NewW T W) :
  Calls Tryz.prog 8 [ntV T,.int .i64 (L:Nat)].toArray w1 fun en w'=>∃v,en=.returned v∧NewR T L B w F W v w':=by
 refine enter Tryz.func8 mixed low8 (Nat.le_of_ble_eq_true rfl) ?_
 simp only [L8]
 obtain ⟨tb,htb⟩:∃tb,tb=w1.heap.size:=⟨_,rfl⟩
 have b1:At w F (Star (ObjA tb (ntO T)) B) (w1.alloc (ntO T)):=by rw [htb]; exact h.alloc _ hB
 obtain ⟨w2,hw2⟩:∃w2,w2=w1.alloc (ntO T):=⟨_,rfl⟩
 rw [←hw2] at b1
 have hw2':w1.alloc (.cells #[T.vv.1,T.nv.1,T.gv.1,T.ov.1] 26 (0,0))=w2:=by rw [hw2]; rfl
 have hBt:Lcl (Star (ObjA tb (ntO T)) B):=Lcl.obj.star hB
 have hrt:Rds (Star (ObjA tb (ntO T)) B) fun w'=>NtR w' T:=Rds.star hr
 have rt2:=rd_c4 (show w2.heap[tb]? = some (.cells #[T.vv.1,T.nv.1,T.gv.1,T.ov.1] 26 (0,0)) from b1.obj)
 have hT2:NtR w2 T:=by
  obtain ⟨_,hq,_⟩:=b1.ex
  exact hrt _ _ hq
 have hck:chkC T.raw=none:=(chk_good T.raw).2 hgd
 simp [ntV,←htb,hw2',rt2]
 refine cl_of (tcheck_spec T.raw (NtR.raw.2 hT2) hl) ?_
 rintro _ w3 ⟨rfl,k3⟩
 have b3:=b1.kp0 hBt k3
 have rt3:=rd_c4 (show w3.heap[tb]? = some (.cells #[T.vv.1,T.nv.1,T.gv.1,T.ov.1] 26 (0,0)) from b3.obj)
 have c1:¬(L:Int) < 1:=by omega
 have c2:¬(1048576:Int) < (L:Int):=by omega
 simp [hck,chkV,c1,c2,←htb,rt3]
 refine cl_of (copied_spec T hBt b3 hrt hg) ?_
 rintro _ w4 ⟨T',rfl,hA,b4⟩
 simp [ntV]
 have hLT:Lcl (Star (TskA T') (Star (ObjA tb (ntO T)) B)):=TskA.lcl.star hBt
 have b5:=b4.newmap (ek:=natV) (ev:=boolV) (ok:=i64ok) hLT
 refine ins_mk ?_
 obtain ⟨km,hkm⟩:∃km,km=w4.heap.size:=⟨_,rfl⟩
 rw [←hkm] at b5 ⊢
 refine At.put (ek:=natV) (ev:=boolV) (ok:=i64ok) (x:=0) (v:=true) hLT b5 bkeyI Tryz.underlying72 (by unfold i64ok; omega) (by simp [maxLen]) fun w6 b6=>?_
 have b6':At w F (Star (KmA km [(0,true)]) (Star (TskA T') (Star (ObjA tb (ntO T)) B))) w6:=b6
 have b7:=b6'.newmap (ek:=natV) (ev:=natV) (ok:=i64ok) (Lcl.map.star hLT)
 obtain ⟨sm,hsm⟩:∃sm,sm=w6.heap.size:=⟨_,rfl⟩
 rw [←hsm] at b7
 obtain ⟨w7,hw7⟩:∃w7,w7=w6.alloc (.map #[] 0):=⟨_,rfl⟩
 rw [←hw7] at b7
 obtain ⟨sb,hsb⟩:∃sb,sb=w7.heap.size:=⟨_,rfl⟩
 have hsb':sm+1=sb:=by rw [hsb,hw7,hsm]; simp
 have b8:=b7.alloc (spB T'.vv.1 T'.nv.1 T'.gv.1 T'.ov.1 (.pointer none) nlV nlV 0 0 km sm) (Lcl.map.star (Lcl.map.star hLT))
 rw [←hsb] at b8
 obtain ⟨w8,hw8⟩:∃w8,w8=w7.alloc (spB T'.vv.1 T'.nv.1 T'.gv.1 T'.ov.1 (.pointer none) nlV nlV 0 0 km sm):=⟨_,rfl⟩
 rw [←hw8] at b8
 have hw8':w7.alloc (.cells #[T'.vv.1,T'.nv.1,T'.gv.1,T'.ov.1,.pointer none,.slice none 0 0,.slice none 0 0,.int .i64 0,.int .i64 0,.map (some km),.map (some sm)] 76 (0,0))=w8:=by rw [hw8]; rfl
 have rt8:=b8.drop.drop.drop.drop.obj
 unfold ntO at rt8
 have hT8:NtR w8 T:=by
  obtain ⟨_,hq,_⟩:=b8.drop.drop.drop.drop.drop.ex
  exact hr _ _ hq
 have hvl:=hg.vlen
 simp [←hsm,←hw7,←hsb,hw8',←htb,cell_blk rt8,hT8.vars.len]
 have hL8:Lcl (Star (SmA sm []) (Star (KmA km [(0,true)]) (Star (TskA T') (Star (ObjA tb (ntO T)) B)))):=Lcl.map.star (Lcl.map.star hLT)
 have b10:=(b8.nil (E:=3) (sz:=1) (enc:=nE) (Lcl.obj.star hL8))
 have b11:=((b10.nil (E:=3) (sz:=1) (enc:=nE) (Lcl.own.star (Lcl.obj.star hL8))).by Imp.fr3).by (Imp.un (Imp.un (Imp.un Imp.sw)))
 refine range_loop (n:=T.vars.length) (by omega) (NwI tb sb T T' km sm L B w F) (by simp) (by simp)
  ⟨by simp,by simp [htb],by simp [hsb'],by simp,nlV,nlV,by simpa [bP,nlV] using b11⟩ (by decide) (fun _ _ _ _ h=>by unfold NwI at h ⊢; simpa using h) (fun _ _ _ _ h=>by unfold NwI at h ⊢; simpa using h) ?_ ?_
 ·rintro k ρ w9 hk hck hlk ⟨g1,g2,g7,g37,fv,wv,h9⟩
  obtain ⟨nn,hnn⟩:∃nn,T.vars[k]? = some nn:=⟨_,List.getElem?_eq_getElem hk⟩
  have hn64:=hg.vars nn (List.mem_of_getElem? hnn)
  have hw6:=wd_le nn
  have hT9:NtR w9 T:=by
   obtain ⟨_,hq,_⟩:=h9.drop.drop.drop.drop.drop.drop.drop.ex
   exact hr _ _ hq
  have hki:(k:Int) < T.vars.length:=by omega
  simp (disch:=omega) [g37,hck,hlk,hT9.vars.idx,nE_cell hT9.vars hnn]
  refine loop_inv (fun n ρ' w'=>w'=w9∧∃x,x+n=wd nn∧ρ' 10=.int .i64 (x:Nat)∧ρ' 9=.int .i64 (nn:Nat)∧ρ' 1=.int .i64 (L:Nat)∧ρ' 2=.pointer (some ⟨tb,0,none⟩)∧ρ' 7=.pointer (some ⟨sb,0,none⟩)∧ρ' 37=T.vv.1∧ρ' 38=.int .i64 (T.vars.length:Nat)∧ρ' 39=.int .i64 (k:Nat)) (wd nn) ⟨rfl,0,by simp,by simp,by simp,by simp [g1],by simp [g2],by simp [g7],by simp [g37],by simp [hlk],by simp [hck]⟩ ?_
  rintro n ρ' w' ⟨rfl,x,hx,e10,e9,e1,e2,e7,e37,e38,e39⟩
  have hsh:=shl_one (k:=x) (by omega)
  have hlo:=wd_loop (n:=nn) (w:=x) (by omega) (by omega)
  obtain ⟨y,hy⟩:∃y,y=2 ^ x:=⟨_,rfl⟩
  rw [←hy] at hsh hlo
  by_cases hn0:n=0
  ·have hxw:¬y < nn:=by rw [hlo]; omega
   have h9d:=h9.drew (Lcl.obj.star (Lcl.own.star (Lcl.own.star (Lcl.map.star (Lcl.map.star hLT)))))
   have os9:=h9d.obj
   unfold spB at os9
   simp [e10,e9,e7,hsh,hxw,cell_blk os9,rowOf]
   have e0:∀(w:World) (o:Obj),(w.alloc o).heap.size=w.heap.size+1:=fun w o=>by simp
   have hxW:x=wd nn:=by omega
   have hbp:bP T.vars k≤384:=by
    have h1:=bP_mono (vars:=T.vars) (show k≤T.vars.length by omega)
    have h2:=nBits_le T.vars
    rw [bP_all] at h1
    omega
   have hwl:((T.vars.take k).map wd).length=k:=by rw [List.length_map,List.length_take]; omega
   have fin:∀fv' wv' w15,At w F (Star (ObjA sb (.cells #[T'.vv.1,T'.nv.1,T'.gv.1,T'.ov.1,.pointer none,fv',wv',.int .i64 ((bP T.vars k:Nat)+(x:Nat):Int),.int .i64 (0:Nat),.map (some km),.map (some sm)] 76 (0,0))) (Star (OwnA fv' 3 1 nE ((List.range k).map (bP T.vars) ++ [bP T.vars k])) (Star (OwnA wv' 3 1 nE ((T.vars.map wd).take k ++ [x])) (Star (KmA km [(0,true)]) (Star (SmA sm []) (Star (TskA T') (Star (ObjA tb (ntO T)) B))))))) w15→At w F (Star (ObjA sb (spB T'.vv.1 T'.nv.1 T'.gv.1 T'.ov.1 (.pointer none) fv' wv' (bP T.vars (k+1)) 0 km sm)) (Star (OwnA fv' 3 1 nE ((List.range (k+1)).map (bP T.vars))) (Star (OwnA wv' 3 1 nE ((T.vars.take (k+1)).map wd)) (Star (KmA km [(0,true)]) (Star (SmA sm []) (Star (TskA T') (Star (ObjA tb (ntO T)) B))))))) w15:=fun fv' wv' w15 hh=>by
    rw [List.range_succ,List.map_append,List.take_add_one,hnn,List.map_append,bP_succ hnn,List.map_take]
    simp only [List.map_cons,List.map_nil,Option.toList_some,←hxW]
    unfold spB
    rw [Int.natCast_add]
    exact hh
   refine ⟨?_,?_,?_,?_,?_,?_⟩
   ·have q1:=h9d.lit (xs:=[bP T.vars k]) (enc:=nE) (E:=3) (sz:=1) (cs:=#[.int .i64 (bP T.vars k:Nat)]) (m:=1) (by repeat' (first | exact hB | exact Lcl.own | exact Lcl.obj | exact Lcl.map | exact TskA.lcl | apply Lcl.star)) (by simp [nE]) nE_len (by simp [maxLen]) rfl
    refine At.appendV (by repeat' (first | exact hB | exact Lcl.own | exact Lcl.obj | exact Lcl.map | exact TskA.lcl | apply Lcl.star)) (q1.by Imp.fr3) q1.own.vw nE_len nE_one sl_22 (by simp; omega) (by simp; unfold maxLen; omega) fun fv' w10 h10=>?_
    have h10:=h10.by (Imp.un Imp.dr)
    have os10:=h10.drop.obj
    unfold spB at os10
    simp [e10,e9,e7,cell_blk os10,rowOf]
    have q2:=h10.lit (xs:=[x]) (enc:=nE) (E:=3) (sz:=1) (cs:=#[.int .i64 (x:Nat)]) (m:=1) (by repeat' (first | exact hB | exact Lcl.own | exact Lcl.obj | exact Lcl.map | exact TskA.lcl | apply Lcl.star)) (by simp [nE]) nE_len (by simp [maxLen]) rfl
    refine At.appendV (by repeat' (first | exact hB | exact Lcl.own | exact Lcl.obj | exact Lcl.map | exact TskA.lcl | apply Lcl.star)) (q2.by Imp.fr4) q2.own.vw nE_len nE_one sl_22 (by simp; omega) (by simp; unfold maxLen; omega) fun wv' w11 h11=>?_
    have h12:=(((h11.by (Imp.un Imp.dr)).by Imp.fr3)).by (Imp.un Imp.sw)
    have v1:=h12.drop.own.c1
    have o1:=h12.drop.own.o1
    have v2:=h12.drop.drop.own.c1
    have o2:=h12.drop.drop.own.o1
    unfold spB at h12
    simp [e7,v1]
    refine h12.st (by repeat' (first | exact hB | exact Lcl.own | exact Lcl.obj | exact Lcl.map | exact TskA.lcl | apply Lcl.star)) (by simp) (by simp [o1]) fun w13 h13=>?_
    simp at h13
    simp [e7,v2]
    refine h13.st (by repeat' (first | exact hB | exact Lcl.own | exact Lcl.obj | exact Lcl.map | exact TskA.lcl | apply Lcl.star)) (by simp) (by simp [o2]) fun w14 h14=>?_
    simp at h14
    have os14:=h14.obj
    simp (disch:=omega) [e7,e10,cell_blk os14,wrap_i64]
    refine h14.st (by repeat' (first | exact hB | exact Lcl.own | exact Lcl.obj | exact Lcl.map | exact TskA.lcl | apply Lcl.star)) (by simp) (by simp) fun w15 h15=>?_
    simp at h15
    simp [e1,e2,e7,e37,e38,e39]
    refine ⟨by simp [e1],by simp [e2],by simp [e7],by simp [e37],fv',wv',fin fv' wv' w15 ?_⟩
    exact h15
   ·have q1:=h9d.lit (xs:=[bP T.vars k]) (enc:=nE) (E:=3) (sz:=1) (cs:=#[.int .i64 (bP T.vars k:Nat)]) (m:=1) (by repeat' (first | exact hB | exact Lcl.own | exact Lcl.obj | exact Lcl.map | exact TskA.lcl | apply Lcl.star)) (by simp [nE]) nE_len (by simp [maxLen]) rfl
    have q2:=q1.lit (xs:=[x]) (enc:=nE) (E:=3) (sz:=1) (cs:=#[.int .i64 (x:Nat)]) (m:=1) (by repeat' (first | exact hB | exact Lcl.own | exact Lcl.obj | exact Lcl.map | exact TskA.lcl | apply Lcl.star)) (by simp [nE]) nE_len (by simp [maxLen]) rfl
    simp only [e0] at q2
    refine At.appendV (by repeat' (first | exact hB | exact Lcl.own | exact Lcl.obj | exact Lcl.map | exact TskA.lcl | apply Lcl.star)) (q2.by Imp.fr4) q2.drop.own.vw nE_len nE_one sl_22 (by simp; omega) (by simp; unfold maxLen; omega) fun fv' w10 h10=>?_
    have os10:=h10.drop.drop.drop.obj
    unfold spB at os10
    simp [e10,e9,e7,cell_blk os10,rowOf]
    refine At.appendV (by repeat' (first | exact hB | exact Lcl.own | exact Lcl.obj | exact Lcl.map | exact TskA.lcl | apply Lcl.star)) (h10.by Imp.fr5) h10.drop.own.vw nE_len nE_one sl_22 (by simp; omega) (by simp; unfold maxLen; omega) fun wv' w11 h11=>?_
    have h12:=((h11.by (Imp.un (Imp.un (Imp.trans Imp.dr Imp.dr)))).by Imp.fr3).by (Imp.un Imp.sw)
    have v1:=h12.drop.own.c1
    have o1:=h12.drop.own.o1
    have v2:=h12.drop.drop.own.c1
    have o2:=h12.drop.drop.own.o1
    unfold spB at h12
    simp [e7,v1]
    refine h12.st (by repeat' (first | exact hB | exact Lcl.own | exact Lcl.obj | exact Lcl.map | exact TskA.lcl | apply Lcl.star)) (by simp) (by simp [o1]) fun w13 h13=>?_
    simp at h13
    simp [e7,v2]
    refine h13.st (by repeat' (first | exact hB | exact Lcl.own | exact Lcl.obj | exact Lcl.map | exact TskA.lcl | apply Lcl.star)) (by simp) (by simp [o2]) fun w14 h14=>?_
    simp at h14
    have os14:=h14.obj
    simp (disch:=omega) [e7,e10,cell_blk os14,wrap_i64]
    refine h14.st (by repeat' (first | exact hB | exact Lcl.own | exact Lcl.obj | exact Lcl.map | exact TskA.lcl | apply Lcl.star)) (by simp) (by simp) fun w15 h15=>?_
    simp at h15
    simp [e1,e2,e7,e37,e38,e39]
    refine ⟨by simp [e1],by simp [e2],by simp [e7],by simp [e37],fv',wv',fin fv' wv' w15 ?_⟩
    exact h15
   ·have q1:=h9d.lit (xs:=[x]) (enc:=nE) (E:=3) (sz:=1) (cs:=#[.int .i64 (x:Nat)]) (m:=1) (by repeat' (first | exact hB | exact Lcl.own | exact Lcl.obj | exact Lcl.map | exact TskA.lcl | apply Lcl.star)) (by simp [nE]) nE_len (by simp [maxLen]) rfl
    have q2:=q1.lit (xs:=[bP T.vars k]) (enc:=nE) (E:=3) (sz:=1) (cs:=#[.int .i64 (bP T.vars k:Nat)]) (m:=1) (by repeat' (first | exact hB | exact Lcl.own | exact Lcl.obj | exact Lcl.map | exact TskA.lcl | apply Lcl.star)) (by simp [nE]) nE_len (by simp [maxLen]) rfl
    simp only [e0] at q2
    refine At.appendV (by repeat' (first | exact hB | exact Lcl.own | exact Lcl.obj | exact Lcl.map | exact TskA.lcl | apply Lcl.star)) (q2.by Imp.fr4) q2.own.vw nE_len nE_one sl_22 (by simp; omega) (by simp; unfold maxLen; omega) fun fv' w10 h10=>?_
    have os10:=h10.drop.drop.drop.obj
    unfold spB at os10
    simp [e10,e9,e7,cell_blk os10,rowOf]
    refine At.appendV (by repeat' (first | exact hB | exact Lcl.own | exact Lcl.obj | exact Lcl.map | exact TskA.lcl | apply Lcl.star)) (h10.by Imp.fr5) h10.drop.drop.own.vw nE_len nE_one sl_22 (by simp; omega) (by simp; unfold maxLen; omega) fun wv' w11 h11=>?_
    have h12:=((h11.by (Imp.un (Imp.un (Imp.trans Imp.dr Imp.dr)))).by Imp.fr3).by (Imp.un Imp.sw)
    have v1:=h12.drop.own.c1
    have o1:=h12.drop.own.o1
    have v2:=h12.drop.drop.own.c1
    have o2:=h12.drop.drop.own.o1
    unfold spB at h12
    simp [e7,v1]
    refine h12.st (by repeat' (first | exact hB | exact Lcl.own | exact Lcl.obj | exact Lcl.map | exact TskA.lcl | apply Lcl.star)) (by simp) (by simp [o1]) fun w13 h13=>?_
    simp at h13
    simp [e7,v2]
    refine h13.st (by repeat' (first | exact hB | exact Lcl.own | exact Lcl.obj | exact Lcl.map | exact TskA.lcl | apply Lcl.star)) (by simp) (by simp [o2]) fun w14 h14=>?_
    simp at h14
    have os14:=h14.obj
    simp (disch:=omega) [e7,e10,cell_blk os14,wrap_i64]
    refine h14.st (by repeat' (first | exact hB | exact Lcl.own | exact Lcl.obj | exact Lcl.map | exact TskA.lcl | apply Lcl.star)) (by simp) (by simp) fun w15 h15=>?_
    simp at h15
    simp [e1,e2,e7,e37,e38,e39]
    refine ⟨by simp [e1],by simp [e2],by simp [e7],by simp [e37],fv',wv',fin fv' wv' w15 ?_⟩
    exact h15
   ·have q1:=h9d.lit (xs:=[bP T.vars k]) (enc:=nE) (E:=3) (sz:=1) (cs:=#[.int .i64 (bP T.vars k:Nat)]) (m:=1) (by repeat' (first | exact hB | exact Lcl.own | exact Lcl.obj | exact Lcl.map | exact TskA.lcl | apply Lcl.star)) (by simp [nE]) nE_len (by simp [maxLen]) rfl
    refine At.appendV (by repeat' (first | exact hB | exact Lcl.own | exact Lcl.obj | exact Lcl.map | exact TskA.lcl | apply Lcl.star)) (q1.by Imp.fr3) q1.own.vw nE_len nE_one sl_22 (by simp; omega) (by simp; unfold maxLen; omega) fun fv' w10 h10=>?_
    have h10:=h10.by (Imp.un Imp.dr)
    have os10:=h10.drop.obj
    unfold spB at os10
    simp [e10,e9,e7,cell_blk os10,rowOf]
    have q2:=h10.lit (xs:=[x]) (enc:=nE) (E:=3) (sz:=1) (cs:=#[.int .i64 (x:Nat)]) (m:=1) (by repeat' (first | exact hB | exact Lcl.own | exact Lcl.obj | exact Lcl.map | exact TskA.lcl | apply Lcl.star)) (by simp [nE]) nE_len (by simp [maxLen]) rfl
    refine At.appendV (by repeat' (first | exact hB | exact Lcl.own | exact Lcl.obj | exact Lcl.map | exact TskA.lcl | apply Lcl.star)) (q2.by Imp.fr4) q2.own.vw nE_len nE_one sl_22 (by simp; omega) (by simp; unfold maxLen; omega) fun wv' w11 h11=>?_
    have h12:=(((h11.by (Imp.un Imp.dr)).by Imp.fr3)).by (Imp.un Imp.sw)
    have v1:=h12.drop.own.c1
    have o1:=h12.drop.own.o1
    have v2:=h12.drop.drop.own.c1
    have o2:=h12.drop.drop.own.o1
    unfold spB at h12
    simp [e7,v1]
    refine h12.st (by repeat' (first | exact hB | exact Lcl.own | exact Lcl.obj | exact Lcl.map | exact TskA.lcl | apply Lcl.star)) (by simp) (by simp [o1]) fun w13 h13=>?_
    simp at h13
    simp [e7,v2]
    refine h13.st (by repeat' (first | exact hB | exact Lcl.own | exact Lcl.obj | exact Lcl.map | exact TskA.lcl | apply Lcl.star)) (by simp) (by simp [o2]) fun w14 h14=>?_
    simp at h14
    have os14:=h14.obj
    simp (disch:=omega) [e7,e10,cell_blk os14,wrap_i64]
    refine h14.st (by repeat' (first | exact hB | exact Lcl.own | exact Lcl.obj | exact Lcl.map | exact TskA.lcl | apply Lcl.star)) (by simp) (by simp) fun w15 h15=>?_
    simp at h15
    simp [e1,e2,e7,e37,e38,e39]
    refine ⟨by simp [e1],by simp [e2],by simp [e7],by simp [e37],fv',wv',fin fv' wv' w15 ?_⟩
    exact h15
   ·have q1:=h9d.lit (xs:=[bP T.vars k]) (enc:=nE) (E:=3) (sz:=1) (cs:=#[.int .i64 (bP T.vars k:Nat)]) (m:=1) (by repeat' (first | exact hB | exact Lcl.own | exact Lcl.obj | exact Lcl.map | exact TskA.lcl | apply Lcl.star)) (by simp [nE]) nE_len (by simp [maxLen]) rfl
    have q2:=q1.lit (xs:=[x]) (enc:=nE) (E:=3) (sz:=1) (cs:=#[.int .i64 (x:Nat)]) (m:=1) (by repeat' (first | exact hB | exact Lcl.own | exact Lcl.obj | exact Lcl.map | exact TskA.lcl | apply Lcl.star)) (by simp [nE]) nE_len (by simp [maxLen]) rfl
    simp only [e0] at q2
    refine At.appendV (by repeat' (first | exact hB | exact Lcl.own | exact Lcl.obj | exact Lcl.map | exact TskA.lcl | apply Lcl.star)) (q2.by Imp.fr4) q2.drop.own.vw nE_len nE_one sl_22 (by simp; omega) (by simp; unfold maxLen; omega) fun fv' w10 h10=>?_
    have os10:=h10.drop.drop.drop.obj
    unfold spB at os10
    simp [e10,e9,e7,cell_blk os10,rowOf]
    refine At.appendV (by repeat' (first | exact hB | exact Lcl.own | exact Lcl.obj | exact Lcl.map | exact TskA.lcl | apply Lcl.star)) (h10.by Imp.fr5) h10.drop.own.vw nE_len nE_one sl_22 (by simp; omega) (by simp; unfold maxLen; omega) fun wv' w11 h11=>?_
    have h12:=((h11.by (Imp.un (Imp.un (Imp.trans Imp.dr Imp.dr)))).by Imp.fr3).by (Imp.un Imp.sw)
    have v1:=h12.drop.own.c1
    have o1:=h12.drop.own.o1
    have v2:=h12.drop.drop.own.c1
    have o2:=h12.drop.drop.own.o1
    unfold spB at h12
    simp [e7,v1]
    refine h12.st (by repeat' (first | exact hB | exact Lcl.own | exact Lcl.obj | exact Lcl.map | exact TskA.lcl | apply Lcl.star)) (by simp) (by simp [o1]) fun w13 h13=>?_
    simp at h13
    simp [e7,v2]
    refine h13.st (by repeat' (first | exact hB | exact Lcl.own | exact Lcl.obj | exact Lcl.map | exact TskA.lcl | apply Lcl.star)) (by simp) (by simp [o2]) fun w14 h14=>?_
    simp at h14
    have os14:=h14.obj
    simp (disch:=omega) [e7,e10,cell_blk os14,wrap_i64]
    refine h14.st (by repeat' (first | exact hB | exact Lcl.own | exact Lcl.obj | exact Lcl.map | exact TskA.lcl | apply Lcl.star)) (by simp) (by simp) fun w15 h15=>?_
    simp at h15
    simp [e1,e2,e7,e37,e38,e39]
    refine ⟨by simp [e1],by simp [e2],by simp [e7],by simp [e37],fv',wv',fin fv' wv' w15 ?_⟩
    exact h15
   ·have q1:=h9d.lit (xs:=[x]) (enc:=nE) (E:=3) (sz:=1) (cs:=#[.int .i64 (x:Nat)]) (m:=1) (by repeat' (first | exact hB | exact Lcl.own | exact Lcl.obj | exact Lcl.map | exact TskA.lcl | apply Lcl.star)) (by simp [nE]) nE_len (by simp [maxLen]) rfl
    have q2:=q1.lit (xs:=[bP T.vars k]) (enc:=nE) (E:=3) (sz:=1) (cs:=#[.int .i64 (bP T.vars k:Nat)]) (m:=1) (by repeat' (first | exact hB | exact Lcl.own | exact Lcl.obj | exact Lcl.map | exact TskA.lcl | apply Lcl.star)) (by simp [nE]) nE_len (by simp [maxLen]) rfl
    simp only [e0] at q2
    refine At.appendV (by repeat' (first | exact hB | exact Lcl.own | exact Lcl.obj | exact Lcl.map | exact TskA.lcl | apply Lcl.star)) (q2.by Imp.fr4) q2.own.vw nE_len nE_one sl_22 (by simp; omega) (by simp; unfold maxLen; omega) fun fv' w10 h10=>?_
    have os10:=h10.drop.drop.drop.obj
    unfold spB at os10
    simp [e10,e9,e7,cell_blk os10,rowOf]
    refine At.appendV (by repeat' (first | exact hB | exact Lcl.own | exact Lcl.obj | exact Lcl.map | exact TskA.lcl | apply Lcl.star)) (h10.by Imp.fr5) h10.drop.drop.own.vw nE_len nE_one sl_22 (by simp; omega) (by simp; unfold maxLen; omega) fun wv' w11 h11=>?_
    have h12:=((h11.by (Imp.un (Imp.un (Imp.trans Imp.dr Imp.dr)))).by Imp.fr3).by (Imp.un Imp.sw)
    have v1:=h12.drop.own.c1
    have o1:=h12.drop.own.o1
    have v2:=h12.drop.drop.own.c1
    have o2:=h12.drop.drop.own.o1
    unfold spB at h12
    simp [e7,v1]
    refine h12.st (by repeat' (first | exact hB | exact Lcl.own | exact Lcl.obj | exact Lcl.map | exact TskA.lcl | apply Lcl.star)) (by simp) (by simp [o1]) fun w13 h13=>?_
    simp at h13
    simp [e7,v2]
    refine h13.st (by repeat' (first | exact hB | exact Lcl.own | exact Lcl.obj | exact Lcl.map | exact TskA.lcl | apply Lcl.star)) (by simp) (by simp [o2]) fun w14 h14=>?_
    simp at h14
    have os14:=h14.obj
    simp (disch:=omega) [e7,e10,cell_blk os14,wrap_i64]
    refine h14.st (by repeat' (first | exact hB | exact Lcl.own | exact Lcl.obj | exact Lcl.map | exact TskA.lcl | apply Lcl.star)) (by simp) (by simp) fun w15 h15=>?_
    simp at h15
    simp [e1,e2,e7,e37,e38,e39]
    refine ⟨by simp [e1],by simp [e2],by simp [e7],by simp [e37],fv',wv',fin fv' wv' w15 ?_⟩
    exact h15
  ·have hxw:y < nn:=by rw [hlo]; omega
   simp (disch:=omega) [e10,e9,hsh,hxw,wrap_i64]
   exact ⟨n - 1,by omega,x+1,by omega,by omega,e1,e2,e7,e37,e38,e39⟩
 clear b1 b3 b4 b5 b6 b6' b7 b8 b10 b11 rt8 hT8 rt2 rt3 hT2
 rintro ρ w9 ⟨g1,g2,g7,_,fv,wv,h9⟩
 rw [bP_all,List.take_length] at h9
 have os9:=h9.obj
 unfold spB at os9
 have hbt6:=nBits_le T.vars
 obtain ⟨nb,hnb⟩:∃nb,nb=nBits T.vars:=⟨_,rfl⟩
 rw [←hnb] at os9 hbt6
 have e1:(2:Int) * (nb:Nat)=((2 * nb:Nat):Int):=by omega
 by_cases hbig:100 < nb
 ·have:(100:Int) < (nb:Nat):=by omega
  simp [g7,cell_blk os9,hbig,this]
  exact .inl ⟨by rw [←hnb]; exact hbig,by simp [berrV],h9.drop.drop.drop.drop.drop.drop.drop⟩
 have hbig2:¬(100:Int) < (nb:Nat):=by omega
 simp (disch:=omega) [g7,g1,cell_blk os9,hbig,hbig2,wrap_i64]
 rw [e1]
 obtain ⟨B2,hB2⟩:∃B2,B2=Star (ObjA tb (ntO T)) B:=⟨_,rfl⟩
 rw [←hB2] at h9 hBt hrt
 have hL9:Lcl (Star (ObjA sb (spB T'.vv.1 T'.nv.1 T'.gv.1 T'.ov.1 (.pointer none) fv wv (nBits T.vars) 0 km sm)) (Star (OwnA fv 3 1 nE ((List.range T.vars.length).map (bP T.vars))) (Star (OwnA wv 3 1 nE (T.vars.map wd)) (Star (KmA km [(0,true)]) (Star (SmA sm []) (Star (TskA T') B2)))))):=Lcl.obj.star (Lcl.own.star (Lcl.own.star (Lcl.map.star (Lcl.map.star (TskA.lcl.star hBt)))))
 refine cl_of (new_spec (2 * nb) L hL9 h9 (by omega) h1 h2) ?_
 rintro _ w10 ⟨m,rfl,h10⟩
 rw [hnb] at h10
 have h11:=h10.by Imp.sw
 unfold spB at h11
 simp [g7]
 refine h11.st (by repeat' (first | exact hBt | exact Lcl.mgr | exact Lcl.own | exact Lcl.obj | exact Lcl.map | exact TskA.lcl | apply Lcl.star)) (by simp) (by simp) fun w12 h12=>?_
 simp at h12
 obtain ⟨bb,hbb⟩:∃bb,bb=w12.heap.size:=⟨_,rfl⟩
 have h13:=h12.alloc (blO sb false) (by repeat' (first | exact hBt | exact Lcl.mgr | exact Lcl.own | exact Lcl.obj | exact Lcl.map | exact TskA.lcl | apply Lcl.star))
 rw [←hbb] at h13
 obtain ⟨w13,hw13⟩:∃w13,w13=w12.alloc (blO sb false):=⟨_,rfl⟩
 rw [←hw13] at h13
 have hw13':w12.alloc (.cells #[.pointer (some ⟨sb,0,none⟩),.nilIface] 81 (0,0))=w13:=by rw [hw13]; rfl
 have h14:=h13.by Imp.sw
 simp [g7,←hbb,hw13']
 refine h14.st (by repeat' (first | exact hBt | exact Lcl.mgr | exact Lcl.own | exact Lcl.obj | exact Lcl.map | exact TskA.lcl | apply Lcl.star)) (by simp) (by simp) fun w15 h15=>?_
 simp at h15
 have hR2:∀f,Lcl (RestA T' (qN T' fv wv km sm f) [(0,true)] [] B2):=fun f=>RestA.lcl hBt
 have h16:At w F (BlA bb sb m L T.vars (qN T' fv wv km sm 1) false [] (RestA T' (qN T' fv wv km sm 1) [(0,true)] [] B2)) w15:=by
  have hx:=(h15.by Imp.fr3).by (Imp.un Imp.sw)
  unfold BlA RestA
  exact hx
 have rt16:w15.heap[tb]? = some (ntO T):=BlA.frame h16 (by unfold RestA; rw [hB2]; exact Rds.star (Rds.star (Rds.star Rds.obj)))
 unfold ntO at rt16
 have hrR:∀f,Rds (RestA T' (qN T' fv wv km sm f) [(0,true)] [] B2) fun w'=>NtR w' T:=fun f=>by unfold RestA; exact Rds.star (Rds.star (Rds.star hrt))
 have hT16:=BlA.frame h16 (hrR 1)
 have hk0:SpOk T.vars L []:=⟨by omega,hg.vars,by omega,Wf.nil _,h1,h2,Nat.zero_le _⟩
 simp [g2,cell_blk rt16,hT16.vars.len]
 refine range_loop (n:=T.vars.length) (by omega) (NwJ bb tb sb m T T' fv wv km sm L B2 w F W) (by simp) (by simp)
  ⟨by simp [g2],by simp [g7],by simp [hbb],by simp,1,false,[],Stp.refl hk0.wf hk0.nl,one_mn hk0.wf _ _ (fun a=>by unfold okP; simp),h16⟩ (by decide) (fun _ _ _ _ h=>by unfold NwJ at h ⊢; simpa using h) (fun _ _ _ _ h=>by unfold NwJ at h ⊢; simpa using h) ?_ ?_
 ·clear h9 h10 h11 h12 h13 h14 h15 h16 rt16 hT16 os9
  rintro k ρ w17 hk hck hlk ⟨g2,g7,g12,g110,f,e,ns,hs,hmf,h17⟩
  have hk17:=hk0.stp hs
  obtain ⟨nn,hnn⟩:∃nn,T.vars[k]? = some nn:=⟨_,List.getElem?_eq_getElem hk⟩
  have hnd:T.vars.getD k 0=nn:=by simp [List.getD,hnn]
  have hn64:=hg.vars nn (List.mem_of_getElem? hnn)
  have hT17:=BlA.frame h17 (hrR f)
  have hki:(k:Int) < T.vars.length:=by omega
  simp (disch:=omega) [g110,hck,hlk,hT17.vars.idx,nE_cell hT17.vars hnn]
  refine range_loop (n:=nn) (by omega) (NwK bb tb sb m T T' fv wv km sm L B2 w F W T.vars.length k f) (by simp) (by simp)
   ⟨by simp [g2],by simp [g7],by simp [g12],by simp [g110],by simp,by simp [hlk],by simp [hck],0,e,ns,by simp,hs,hmf,⟨Nat.zero_le _,fun _=>⟨Ref.zero ns,fun a=>by rw [eval_zero]; simp⟩⟩,h17⟩ (by decide) (fun _ _ _ _ h=>by unfold NwK at h ⊢; simpa using h) (fun _ _ _ _ h=>by unfold NwK at h ⊢; simpa using h) ?_ ?_
  ·rintro x ρ w18 hx hcx hlx ⟨g2,g7,g12,g110,g13,g111,g112,g,e2,ns2,g15,hs2,mf2,mg2,h18⟩
   have hk18:=hk0.stp hs2
   have hxw:x < 2 ^ wd (T.vars.getD k 0):=by
    rw [hnd]
    exact Nat.lt_of_lt_of_le hx (wd_ge hn64.2)
   have hor:W fun a=>decide (rv T.vars a 0 k < x) || decide (rv T.vars a 0 k=x):=by
    have:=hW.sm k x hk (by rw [hnd]; exact hx)
    rwa [show (fun a=>decide (rv T.vars a 0 k < x+1))=fun a=>decide (rv T.vars a 0 k < x) || decide (rv T.vars a 0 k=x) from funext fun a=>by
     rw [Bool.eq_iff_iff]
     simp only [Bool.or_eq_true,decide_eq_true_eq]
     omega] at this
   simp [hcx,hlx,g12,g13,g15]
   refine cl_of (bValue_spec k x 0 hk18 (hR2 f) h18 hk hxw (by omega) hW.lit (hW.vl k x hk (by rw [hnd]; exact hx))) ?_
   rintro _ w19 ⟨y,e3,ns3,rfl,hs3,hm3,h19⟩
   have hk19:=hk18.stp hs3
   simp [g12,g15]
   refine cl_of (bOr_spec g y _ _ hk19 (hR2 f) h19 (mg2.keep hk18.wf hs3) hm3 hor) ?_
   rintro _ w20 ⟨u,e4,ns4,rfl,hs4,hm4,h20⟩
   simp [hcx,hlx]
   refine ⟨by simp [g2],by simp [g7],by simp [g12],by simp [g110],by simp [g13],by simp [g111],by simp [g112],u,e4,ns4,by simp,(hs2.trans hs3).trans hs4,(mf2.keep hk18.wf hs3).keep hk19.wf hs4,?_,h20⟩
   exact ⟨hm4.1,fun he=>⟨(hm4.2 he).1,fun a=>by
    rw [(hm4.2 he).2 a,Bool.eq_iff_iff]
    simp only [Bool.or_eq_true,decide_eq_true_eq]
    omega⟩⟩
  ·rintro ρ w18 ⟨g2,g7,g12,g110,g13,g111,g112,g,e2,ns2,g15,hs2,mf2,mg2,h18⟩
   have hk18:=hk0.stp hs2
   have h18':=h18
   unfold BlA at h18'
   have os18:=h18'.drop.drop.obj
   unfold spO qN at os18
   have hand:W fun a=>okP T.vars k a && decide (rv T.vars a 0 k < nn):=by
    have:=hW.ok k hk
    rwa [show okP T.vars (k+1)=fun a=>okP T.vars k a && decide (rv T.vars a 0 k < nn) from funext fun a=>by rw [okP_succ,hnd]] at this
   simp [g7,g12,g15,cell_blk os18]
   refine cl_of (bAnd_spec f g _ _ hk18 (hR2 f) h18 mf2 mg2 hand) ?_
   rintro _ w19 ⟨y,e3,ns3,rfl,hs3,hm3,h19⟩
   unfold BlA at h19
   have h20:=h19.by Imp.fr3
   unfold spO qN at h20
   simp [g7]
   refine h20.st (by repeat' (first | exact hR2 _ | exact Lcl.mgr | exact Lcl.own | exact Lcl.obj | exact Lcl.map | apply Lcl.star)) (by simp) (by simp) fun w21 h21=>?_
   simp at h21
   have h22:=h21.by Imp.bk3
   simp [g111,g112]
   refine ⟨by simp [g2],by simp [g7],by simp [g12],by simp [g110],y,e3,ns3,hs2.trans hs3,⟨hm3.1,fun he=>⟨(hm3.2 he).1,fun a=>by rw [(hm3.2 he).2 a,okP_succ,hnd]⟩⟩,h22⟩
 ·clear h9 h10 h11 h12 h13 h14 h15 h16 rt16 hT16 os9
  rintro ρ w17 ⟨g2,g7,g12,g110,f,e,ns,hs,hmf,h17⟩
  have h17':=h17
  unfold BlA RestA at h17'
  have ob17:=h17'.drop.obj
  unfold blO at ob17
  have hst:=hs
  cases e with
  | true =>
   simp [g12,cell_blk ob17,eB,berrV]
   have hd:=h17'.drop.drop.drop.drop.drop.drop.drop.drop
   rw [hB2] at hd
   exact .inr ⟨by omega,true,ns,hst,.inl ⟨rfl,by simp [eB,berrV],hd.drop.drew hB⟩⟩
  | false =>
   have h18:At w F (BlA bb sb m L T'.vars (qN T' fv wv km sm f) false ns (RestA T' (qN T' fv wv km sm f) [(0,true)] [] B2)) w17:=by rw [hA.vars]; exact h17
   have h19:=(SpcA.un h18).drew (SpcA.lcl hBt)
   have os19:=SpcA.obj h19
   unfold spO qN at os19
   obtain ⟨rf,ef⟩:=hmf.2 rfl
   have hk17:=hk0.stp hs
   have hfle:=ref_le hk17 rf
   simp [g7,g12,cell_blk ob17,eB,cell_blk os19]
   refine SpcA.putK hBt h19 (show i64ok f by unfold i64ok; omega) (by simp) fun w20 h20=>?_
   simp [g7]
   rw [hB2] at h20
   have hall:SetOk T'.vars ns f fun _=>true:=⟨rf,fun a=>by rw [ef a,Bool.and_true,hA.vars]; rfl⟩
   refine .inr ⟨by omega,false,ns,hst,.inr ⟨rfl,sb,m,T',qN T' fv wv km sm f,hA,rfl,⟨by rw [hA.vars]; exact hk17,hA.good hg,⟨rfl,rfl,rfl,rfl⟩,hall,fun p hp=>?_,fun p hp=>(by cases hp),?_,by simp⟩,SpcA.less h20⟩⟩
   ·rcases putM_mem hp with h | rfl
    ·simp at h
     subst h
     exact ⟨rfl,fun _=>false,Ref.zero ns,fun a=>by rw [eval_zero]; simp⟩
    ·exact ⟨rfl,_,hall⟩
   ·have:(putM [(0,true)] (qN T' fv wv km sm f).all true).length≤1+1:=putM_len_le
    omega
end
end Go.Proofs.YtcoeknnghfajnaaGreat
end
section
namespace Go.Proofs.YtcoeknnghfajnaaGreat
open Go Go.W Go.Tk Go.Rx Go.Bd Go.Sy Go.Maps
def asL:Nat→Nat→List (Nat→Bool)
 | 0,_=>[fun _=>false]
 | d+1,k=>(asL d (k+1)).map (fun a=>upd a k false) ++ (asL d (k+1)).map (fun a=>upd a k true)
theorem num_asL:∀(d k:Nat) (F:(Nat→Bool)→Bool),num d k F=((asL d k).filter F).length
 | 0,k,F=>by
  rw [num,asL]
  cases h:F fun _=>false <;> simp [h]
 | d+1,k,F=>by
  rw [num,asL,List.filter_append,List.length_append,num_asL,num_asL,List.filter_map,List.filter_map,List.length_map,List.length_map]
  rfl
theorem asL_mem:∀(d k:Nat) (a:Nat→Bool),a ∈ asL d k↔∀i,¬(k≤i∧i < k+d)→a i=false
 | 0,k,a=>by
  rw [asL,List.mem_singleton]
  constructor
  ·rintro rfl i _
   rfl
  ·intro h
   funext i
   exact h i (by omega)
 | d+1,k,a=>by
  rw [asL,List.mem_append,List.mem_map,List.mem_map]
  constructor
  ·rintro (⟨b,hb,rfl⟩ | ⟨b,hb,rfl⟩) i hi <;>
   ·have:i≠k:=by omega
    simp only [upd,if_neg this]
    exact (asL_mem d (k+1) b).1 hb i (by omega)
  ·intro h
   have hb:upd a k false ∈ asL d (k+1):=(asL_mem d (k+1) _).2 fun i hi=>by
    by_cases e:i=k
    ·subst e
     simp [upd]
    ·simp only [upd,if_neg e]
     exact h i (by omega)
   have e:∀x,a k=x→upd (upd a k false) k x=a:=fun x hx=>by
    funext i
    unfold upd
    by_cases e:i=k
    ·subst e
     rw [if_pos rfl,hx]
    ·rw [if_neg e,if_neg e]
   cases hx:a k with
   | false=>exact .inl ⟨_,hb,e _ hx⟩
   | true=>exact .inr ⟨_,hb,e _ hx⟩
theorem nd_map {α β:Type} {f:α→β} {l:List α} (h:l.Nodup) (hf:∀a ∈ l,∀b ∈ l,f a=f b→a=b):(l.map f).Nodup:=by
 unfold List.Nodup
 rw [List.pairwise_map]
 exact List.Pairwise.imp_of_mem (fun ha hb hne e=>hne (hf _ ha _ hb e)) h
theorem asL_nd:∀(d k:Nat),(asL d k).Nodup
 | 0,k=>by simp [asL]
 | d+1,k=>by
  have ih:=asL_nd d (k+1)
  have z:∀a ∈ asL d (k+1),a k=false:=fun a ha=>(asL_mem d (k+1) a).1 ha k (by omega)
  have inj:∀x,∀a ∈ asL d (k+1),∀b ∈ asL d (k+1),upd a k x=upd b k x→a=b:=fun x a ha b hb e=>by
   funext i
   by_cases h:i=k
   ·subst h
    rw [z a ha,z b hb]
   ·have:=congrFun e i
    simpa [upd,h] using this
  rw [asL,List.nodup_append]
  refine ⟨nd_map ih (inj false),nd_map ih (inj true),?_⟩
  rintro x hx y hy rfl
  obtain ⟨a,ha,rfl⟩:=List.mem_map.1 hx
  obtain ⟨b,hb,e⟩:=List.mem_map.1 hy
  have:=congrFun e k
  simp [upd] at this
theorem sts_lenS (vars:List Nat):∀k,∀s ∈ stsK vars k,s.length=k:=by
 intro k
 induction k with
 | zero=>intro s hs; simp [stsK] at hs; subst hs; rfl
 | succ k ih =>
  intro s hs
  unfold stsK at hs
  obtain ⟨x,hx,h⟩:=List.mem_flatMap.1 hs
  unfold extS at h
  obtain ⟨i,_,rfl⟩:=List.mem_map.1 h
  rw [List.length_append,ih x hx]
  rfl
theorem sts_nd (vars:List Nat):∀k,(stsK vars k).Nodup:=by
 intro k
 induction k with
 | zero=>simp [stsK]
 | succ k ih =>
  have hl:∀s ∈ stsK vars k,s.length=k:=sts_lenS vars k
  unfold stsK
  unfold List.Nodup
  rw [List.pairwise_flatMap]
  refine ⟨fun s hs=>?_,?_⟩
  ·unfold extS
   rw [List.pairwise_map]
   exact List.nodup_range.imp fun hne e=>hne (by simpa using e)
  ·refine List.Pairwise.imp_of_mem (fun {a b} ha hb hne x hx y hy e=>hne ?_) ih
   unfold extS at hx hy
   obtain ⟨i,_,rfl⟩:=List.mem_map.1 hx
   obtain ⟨j,_,rfl⟩:=List.mem_map.1 hy
   have:=congrArg (List.take k) e
   rwa [List.take_append_of_le_length (by rw [hl a ha]; exact Nat.le_refl _),List.take_append_of_le_length (by rw [hl b hb]; exact Nat.le_refl _),List.take_of_length_le (by rw [hl a ha]; exact Nat.le_refl _),List.take_of_length_le (by rw [hl b hb]; exact Nat.le_refl _)] at this
theorem bP_cover:∀(vars:List Nat) (p:Nat),p < nBits vars→∃v n k,vars[v]? = some n∧k < wd n∧p=bP vars v+k
 | [],p,h=>by simp [nBits] at h
 | m :: l,p,h=>by
  by_cases hp:p < wd m
  ·exact ⟨0,m,p,by simp,hp,by simp [bP]⟩
  ·have hn:nBits (m :: l)=wd m+nBits l:=by simp [nBits]
   obtain ⟨v,n,k,h1,h2,h3⟩:=bP_cover l (p - wd m) (by omega)
   refine ⟨v+1,n,k,by simpa using h1,h2,?_⟩
   have:bP (m :: l) (v+1)=wd m+bP l v:=by unfold bP; simp
   omega
theorem rs_inj {vars:List Nat} {a b:Nat→Bool} (h:rs vars a 0=rs vars b 0) {p:Nat} (hp:p < nBits vars):a (2 * p)=b (2 * p):=by
 obtain ⟨v,n,k,h1,h2,rfl⟩:=bP_cover vars p hp
 have hv:=(List.getElem?_eq_some_iff.1 h1).1
 have hn:vars.getD v 0=n:=by simp [List.getD,h1]
 have e:rv vars a 0 v=rv vars b 0 v:=by rw [←rs_at hv,←rs_at hv,h]
 unfold rv at e
 rw [hn] at e
 have hb:=(valK_eq (g:=fun k=>b (2 * (bP vars v+k)+0)) (wd n) _ (valK_lt _ _)).2 rfl
 have ha:=(valK_eq (g:=fun k=>a (2 * (bP vars v+k)+0)) (wd n) _ (valK_lt (fun k=>b (2 * (bP vars v+k)+0)) _)).2 e
 have:=(ha k h2).trans (hb k h2).symm
 simpa using this
end Go.Proofs.YtcoeknnghfajnaaGreat
end
section
namespace Go.Proofs.YtcoeknnghfajnaaGreat
open Go Go.W Go.Tk Go.Rx Go.Bd Go.Sy Go.Maps
def ctN (vars:List Nat) (P:List Nat→Bool):Nat:=((stsK vars vars.length).filter P).length
theorem ct_num {vars:List Nat} {P:List Nat→Bool} (h64:∀n ∈ vars,n≤64):num (2 * nBits vars) 0 (ctF vars P)=ctN vars P:=by
 rw [num_asL]
 unfold ctN
 have hm:∀a,a ∈ (asL (2 * nBits vars) 0).filter (ctF vars P)↔(∀i,¬i < 2 * nBits vars→a i=false)∧StN vars (rs vars a 0)∧P (rs vars a 0)=true∧∀p,p < nBits vars→a (2 * p+1)=false:=fun a=>by
  rw [List.mem_filter,asL_mem]
  unfold ctF
  rw [Bool.and_eq_true_iff,Bool.and_eq_true_iff,zB_all,okB_iff]
  constructor
  ·rintro ⟨h1,⟨h2,h3⟩,h4⟩
   exact ⟨fun i hi=>h1 i (by omega),h2,h3,h4⟩
  ·rintro ⟨h1,h2,h3,h4⟩
   exact ⟨fun i hi=>h1 i (by omega),⟨h2,h3⟩,h4⟩
 have nd:(((asL (2 * nBits vars) 0).filter (ctF vars P)).map fun a=>rs vars a 0).Nodup:=by
  refine nd_map ((asL_nd _ _).filter _) fun a ha b hb e=>?_
  obtain ⟨a1,_,_,a4⟩:=(hm a).1 ha
  obtain ⟨b1,_,_,b4⟩:=(hm b).1 hb
  funext i
  by_cases hi:i < 2 * nBits vars
  ·by_cases hp:i % 2=0
   ·obtain ⟨p,rfl⟩:∃p,i=2 * p:=⟨i / 2,by omega⟩
    exact rs_inj e (by omega)
   ·obtain ⟨p,rfl⟩:∃p,i=2 * p+1:=⟨i / 2,by omega⟩
    rw [a4 p (by omega),b4 p (by omega)]
  ·rw [a1 i hi,b1 i hi]
 have key:=(List.perm_ext_iff_of_nodup nd ((sts_nd vars vars.length).filter P)).2 fun x=>by
  rw [List.mem_map,List.mem_filter,sts_mem]
  constructor
  ·rintro ⟨a,ha,rfl⟩
   obtain ⟨_,h2,h3,_⟩:=(hm a).1 ha
   exact ⟨h2,h3⟩
  ·rintro ⟨h2,h3⟩
   obtain ⟨a,ha⟩:∃a:Nat→Bool,a=fun i=>decide (i < 2 * nBits vars) && (decide (i % 2=0) && mk2 vars x [] i):=⟨_,rfl⟩
   have hx:rs vars a 0=x:=by
    rw [←rs_mk2 (y:=[]) h64 h2]
    refine rs_congr fun p hp=>?_
    have e1:decide (2 * p+0 < 2 * nBits vars)=true:=by simp; omega
    have e2:decide ((2 * p+0) % 2=0)=true:=by simp
    rw [ha]
    simp only [e1,e2,Bool.true_and]
   refine ⟨a,(hm a).2 ⟨fun i hi=>?_,by rw [hx]; exact h2,by rw [hx]; exact h3,fun p hp=>?_⟩,hx⟩
   ·have:decide (i < 2 * nBits vars)=false:=by simpa using hi
    rw [ha]
    simp only [this,Bool.false_and]
   ·have:decide ((2 * p+1) % 2=0)=false:=by simp
    rw [ha]
    simp only [this,Bool.false_and,Bool.and_false]
 rw [←key.length_eq,List.length_map]
end Go.Proofs.YtcoeknnghfajnaaGreat
end
