/-
  A part of the proof of this claim's statement (RxW2, TkChk): plain theorems; no conditions beyond those each names.
-/
import Derived.Test.YtolkjbmcindhjaaGreatPk10
import Derived.Test.YtolkjbmcindhjaaGreatPk09
set_option maxRecDepth 100000
set_option linter.unusedSimpArgs false
set_option linter.unusedVariables false
set_option linter.unusedSectionVars false
section
namespace Go.Proofs.YtolkjbmcindhjaaGreat
open Go Go.W Go.Tk Go.Rx
structure Ru where
 u:Un
 nv:Cell1
def ruE (r:Ru):List Value:=[.int .i64 (r.u.op:Nat),.int .i64 (r.u.eff:Nat),.int .i64 (r.u.cost:Nat),.int .i64 (r.u.makes:Nat),r.nv.1]
theorem ruE_len (r:Ru):(ruE r).length=5:=rfl
theorem ruE_one (r:Ru):(ruE r).all oneC=true:=by simp [ruE,r.nv.2]
def unO (i k c m:Nat) (v:Value):Obj:=.cells #[.int .i64 (i:Nat),.int .i64 (k:Nat),.int .i64 (c:Nat),.int .i64 (m:Nat),v] 137 (0,0)
def unV (i k c m:Nat):Value:=.agg #[.int .i64 (i:Nat),.int .i64 (k:Nat),.int .i64 (c:Nat),.int .i64 (m:Nat),.slice none 0 0]
def nds (rs:List Ru):List (Cell1 × List Nat):=rs.map fun r=>(r.nv,r.u.needs)
def RlA (b:Nat) (vv gv fv:Value) (vars:List Nat) (uv nd fr:Value) (rs:List Ru) (ps:List (Cell1 × List Nat)) (B:Asr):Asr :=
 Star (ObjA b (relO vv gv fv vars.sum uv nd fr)) (Star (OwnA fv 3 1 nE (firsts vars vars.length)) (Star (OwnA uv 137 5 ruE rs) (Star (VwsA nE (nds rs)) (Star (OwnA fr 3 1 nE (frF (rs.map (·.u)))) (Star (TabA nd 22 3 nE ps) B)))))
theorem RlA.lcl {b:Nat} {vv gv fv:Value} {vars:List Nat} {uv nd fr:Value} {rs:List Ru} {ps:List (Cell1 × List Nat)} {B:Asr} (hB:Lcl B):Lcl (RlA b vv gv fv vars uv nd fr rs ps B) :=
 Lcl.obj.star (Lcl.own.star (Lcl.own.star (Lcl.vws.star (Lcl.own.star (Lcl.tab.star hB)))))
def RlI (b:Nat) (vv gv fv:Value) (vars:List Nat) (U:List Un) (w:World) (F:List Nat) (B:Asr) (w':World):Prop :=
 ∃uv nd fr rs ps,rs.map (·.u)=U∧ps.map (·.2)=(List.range vars.sum).map (nbF U)∧At w F (RlA b vv gv fv vars uv nd fr rs ps B) w'
def AdS (w:World) (F:List Nat) (R:Asr) (ub i k c m:Nat) (acc:List Nat) (w':World):Prop:=∃nv,At w F (Star (OwnA nv 3 1 nE acc) (Star (ObjA ub (unO i k c m nv)) R)) w'
theorem rd_fa {w:World} {b:Nat} {f:Fa} (h:w.heap[b]? = some (faO f)):cellsAt w ⟨b,0,none⟩ 0 2=some [.int .i64 f.1,.int .i64 f.2]:=by
 unfold faO at h
 simp [cellsAt,Addr.add,cell_blk h]
def rowsJ (U:List Un) (l:List Nat) (f:Nat):List Nat:=nbF U f ++ if f ∈ l then [U.length] else []
theorem rows_step {N:Nat} {U:List Un} {l:List Nat} {x:Nat} {ps:List (Cell1 × List Nat)} {p:Cell1 × List Nat} {u:Cell1} (h:ps.map (·.2)=(List.range N).map (rowsJ U l)) (hx:x < N) (hn:x ∉ l) (hp:ps[x]? = some p) :
  p.2=nbF U x∧(ps.set x (u,p.2 ++ [U.length])).map (·.2)=(List.range N).map (rowsJ U (l ++ [x])):=by
 have hpx:p.2=nbF U x:=by
  have e1:(ps.map (·.2))[x]? = some p.2:=by rw [List.getElem?_map,hp]; rfl
  rw [h] at e1
  simp [hx,rowsJ,hn] at e1
  exact e1.symm
 refine ⟨hpx,?_⟩
 rw [List.map_set,h,hpx]
 apply List.ext_getElem
 ·simp
 ·intro i h1 h2
  have hi:i < N:=by simpa using h1
  rw [List.getElem_set]
  by_cases e:x=i
  ·subst e
   simp [rowsJ]
  ·rw [if_neg e]
   simp [rowsJ,Ne.symm e]
def accF (vars:List Nat) (l:List Fc) (a0:List Nat) (y:Nat):List Nat:=((l.take y).map (numF vars)).foldl ndd a0
def accQ (vars:List Nat) (qs:List (Cell1 × List Fc)) (x:Nat):List Nat:=((qs.take x).flatMap fun q=>q.2.map (numF vars)).foldl ndd []
set_option maxHeartbeats 4000000 in
theorem add_spec {w w1:World} {F:List Nat} {B:Asr} {b:Nat} {vv gv fv:Value} {U:List Un} (vars:List Nat) (i k c m:Nat) (prv whv:Cell1) (pre cnd:List Fc) (hB:Lcl B) (hA:RlI b vv gv fv vars U w F B w1)
  (hpre:∀w',Kp F w w'→Vw w' prv.1 fcE pre) (hcnd:∀w',Kp F w w'→Vw w' whv.1 fcE cnd) (op:FcOk vars pre) (oc:FcOk vars cnd) (hU:U.length≤300000) (hs:vars.sum≤100000) (hvl:vars.length≤64) :
  Calls Tryz.prog 62 [.pointer (some ⟨b,0,none⟩),unV i k c m,prv.1,whv.1].toArray w1 fun e w'=>∃x,e=.returned x∧RlI b vv gv fv vars (U ++ [⟨i,k,c,m,dedup ((pre ++ cnd).map (numF vars))⟩]) w F B w':=by
 obtain ⟨uv,nd,fr,rs,ps,hrs,hps,h1⟩:=hA
 obtain ⟨nd0,hnd0⟩:∃nd0,nd0=dedup ((pre ++ cnd).map (numF vars)):=⟨_,rfl⟩
 rw [←hnd0]
 refine enter Tryz.func62 mixed low62 (Nat.le_of_ble_eq_true rfl) ?_
 simp only [L62]
 have hLR:Lcl (RlA b vv gv fv vars uv nd fr rs ps B):=RlA.lcl hB
 obtain ⟨ub,hub⟩:∃ub,ub=w1.heap.size:=⟨_,rfl⟩
 have h2:At w F (Star (ObjA ub (unO i k c m (.slice none 0 0))) (RlA b vv gv fv vars uv nd fr rs ps B)) (w1.alloc (unO i k c m (.slice none 0 0))):=by rw [hub]; exact h1.alloc _ hLR
 obtain ⟨w2,hw2⟩:∃w2,w2=w1.alloc (unO i k c m (.slice none 0 0)):=⟨_,rfl⟩
 rw [←hw2] at h2
 have hw2':w1.alloc (.cells #[.int .i64 (i:Nat),.int .i64 (k:Nat),.int .i64 (c:Nat),.int .i64 (m:Nat),.slice none 0 0] 137 (0,0))=w2:=by rw [hw2]; rfl
 have cp:=(hpre _ h2.kp).c1
 have cw:=(hcnd _ h2.kp).c1
 have h3:=h2.lit (xs:=[((prv,pre):Cell1 × List Fc),(whv,cnd)]) (enc:=sv1) (E:=23) (sz:=1) (cs:=#[prv.1,whv.1]) (m:=2) (Lcl.obj.star hLR) (by simp [sv1]) sv1_len (by simp [maxLen]) rfl
 obtain ⟨w3,hw3⟩:∃w3,w3=w2.alloc (.cells #[prv.1,whv.1] 23):=⟨_,rfl⟩
 obtain ⟨ls,hls⟩:∃ls,ls=Value.slice (some ⟨w2.heap.size,0,none⟩) 2 2:=⟨_,rfl⟩
 rw [←hw3,←hls] at h3
 obtain ⟨qs,hqs⟩:∃qs,qs=[((prv,pre):Cell1 × List Fc),(whv,cnd)]:=⟨_,rfl⟩
 rw [←hqs] at h3
 have hql:qs.length=2:=by rw [hqs]; rfl
 have hR:Lcl (Star (OwnA ls 23 1 sv1 qs) (RlA b vv gv fv vars uv nd fr rs ps B)):=Lcl.own.star hLR
 have h4:AdS w F (Star (OwnA ls 23 1 sv1 qs) (RlA b vv gv fv vars uv nd fr rs ps B)) ub i k c m [] w3:=⟨_,At.nil (Lcl.obj.star hR) (h3.by Imp.sw)⟩
 refine seq_cut (fun ρ w'=>ρ 0=.pointer (some ⟨b,0,none⟩)∧ρ 2=prv.1∧ρ 3=whv.1∧ρ 5=.pointer (some ⟨ub,0,none⟩)∧w'=w2) ?_ ?_
 ·simp [unV,←hub,hw2']
 rintro ρ w2 ⟨g0,g2,g3,g5,rfl⟩
 refine seq_cut (fun ρ w'=>ρ 0=.pointer (some ⟨b,0,none⟩)∧ρ 5=.pointer (some ⟨ub,0,none⟩)∧AdS w F (Star (OwnA ls 23 1 sv1 qs) (RlA b vv gv fv vars uv nd fr rs ps B)) ub i k c m nd0 w') ?_ ?_
 ·simp [g2,g3,rowOf,cp,cw,←hw3,←hls,h3.own.vw.len,hql]
  refine range_loop (n:=2) (by omega) (fun x ρ w'=>ρ 0=.pointer (some ⟨b,0,none⟩)∧ρ 5=.pointer (some ⟨ub,0,none⟩)∧ρ 18=ls∧AdS w F (Star (OwnA ls 23 1 sv1 qs) (RlA b vv gv fv vars uv nd fr rs ps B)) ub i k c m (accQ vars qs x) w') (by simp) (by simp)
   ⟨by simp [g0],by simp [g5],by simp,h4⟩ (by decide) (fun _ _ _ _ h=>by simpa using h) (fun _ _ _ _ h=>by simpa using h) ?_ ?_
  rotate_left
  ·rintro ρ w5 ⟨g0,g5,g18,h5⟩
   have e:accQ vars qs 2=nd0:=by
    rw [hqs,hnd0]; simp [dedup,accQ]
   rw [e] at h5
   exact ⟨g0,g5,h5⟩
  rintro x ρ w5 hx hc hlm ⟨g0,g5,g18,nv,h5⟩
  obtain ⟨q,hq⟩:∃q,qs[x]? = some q:=⟨_,List.getElem?_eq_getElem (by omega)⟩
  have hqr:∀w',Kp F w w'→Vw w' q.1.1 fcE q.2:=fun w' kk=>by
   have:=List.mem_of_getElem? hq
   rw [hqs] at this
   simp at this
   rcases this with rfl | rfl
   ·exact hpre w' kk
   ·exact hcnd w' kk
  have hqo:FcOk vars q.2:=by
   have:=List.mem_of_getElem? hq
   rw [hqs] at this
   simp at this
   rcases this with rfl | rfl
   ·exact op
   ·exact oc
  have hqll:=hqo.len
  have V5:=h5.drop.drop.own.vw
  have ei:w5.cell? (ls.adr.add x)=some q.1.1:=by simpa using V5.at_ sv1_len hq (o:=0) (u:=q.1.1) rfl
  have hx2:(x:Int) < qs.length:=by omega
  simp (disch:=omega) [g18,hc,hlm,V5.idx,ei,(hqr _ h5.kp).len]
  obtain ⟨a0,ha0⟩:∃a0,a0=accQ vars qs x:=⟨_,rfl⟩
  have ha1:accQ vars qs (x+1)=(q.2.map (numF vars)).foldl ndd a0:=by
   rw [ha0]
   unfold accQ
   rw [List.take_add_one,hq,List.flatMap_append,List.foldl_append]
   simp
  have ha0l:a0.length≤64 * 2:=by
   have:=fold_len ((qs.take x).flatMap fun q=>q.2.map (numF vars)) []
   have e9:((qs.take x).flatMap fun q=>q.2.map (numF vars)).foldl ndd []=a0:=ha0.symm
   rw [e9] at this
   have h6:((qs.take x).flatMap fun q=>q.2.map (numF vars)).length≤64 * 2:=by
    have o1:=op.len
    have o2:=oc.len
    rcases (show x=0∨x=1 by omega) with rfl | rfl
    ·simp
    ·rw [hqs]; simp; omega
   simp at this
   simp at h6
   omega
  rw [←ha0] at h5
  refine range_loop (n:=q.2.length) (by omega) (fun y ρ w'=>ρ 0=.pointer (some ⟨b,0,none⟩)∧ρ 5=.pointer (some ⟨ub,0,none⟩)∧ρ 18=ls∧ρ 19=.int .i64 (2:Nat)∧ρ 20=.int .i64 (x:Nat)∧ρ 24=q.1.1∧AdS w F (Star (OwnA ls 23 1 sv1 qs) (RlA b vv gv fv vars uv nd fr rs ps B)) ub i k c m (accF vars q.2 a0 y) w') (by simp) (by simp)
   ⟨by simp [g0],by simp [g5],by simp [g18],by simp [hlm],by simp [hc],by simp,⟨nv,h5⟩⟩ (by decide) (fun _ _ _ _ h=>by simpa using h) (fun _ _ _ _ h=>by simpa using h) ?_ ?_
  rotate_left
  ·rintro ρ w6 ⟨g0,g5,g18,g19,g20,g24,h6⟩
   have e:accF vars q.2 a0 q.2.length=(q.2.map (numF vars)).foldl ndd a0:=by unfold accF; rw [List.take_length]
   rw [e] at h6
   simp [g0,g5,g18,g19,g20]
   rw [ha1]
   exact h6
  rintro y ρ w6 hy hcy hly ⟨g0,g5,g18,g19,g20,g24,nv6,h6⟩
  obtain ⟨f,hf⟩:∃f,q.2[y]? = some f:=⟨_,List.getElem?_eq_getElem hy⟩
  have hfm:=List.mem_of_getElem? hf
  obtain ⟨f1,f2⟩:=hqo.rng f hfm
  have hnf:=numF_lt f1 f2
  have hq6:=hqr _ h6.kp
  have ec:=hq6.cells fcE_len hf
  simp only [fcE] at ec
  obtain ⟨fb,hfb⟩:∃fb,fb=w6.heap.size:=⟨_,rfl⟩
  have hL6:Lcl (Star (OwnA nv6 3 1 nE (accF vars q.2 a0 y)) (Star (ObjA ub (unO i k c m nv6)) (Star (OwnA ls 23 1 sv1 qs) (RlA b vv gv fv vars uv nd fr rs ps B)))):=Lcl.own.star (Lcl.obj.star hR)
  simp (disch:=omega) [g24,hcy,hly,hq6.idx,ec,←hfb]
  refine st_fa (f:=faN f) hL6 h6 hfb fun w7 h7=>?_
  have r7:=rd_fa h7.obj
  simp only [faN] at r7
  rw [hfb] at r7
  have hrel7:=h7.drop.drop.drop.drop.obj
  have hfi7:=h7.drop.drop.drop.drop.drop.own.vw
  simp [g0,g5,r7]
  refine cl_of (number_spec vars f hrel7 hfi7 f1 (by omega)) ?_
  rintro _ w8 ⟨rfl,k8⟩
  have h8:=h7.drop.kp0 hL6 k8
  have hu8:=h8.drop.obj
  unfold unO at hu8
  have hacl:(accF vars q.2 a0 y).length≤64 * 3:=by
   unfold accF
   have:=fold_len ((q.2.take y).map (numF vars)) a0
   rw [List.length_map,List.length_take] at this
   omega
  obtain ⟨acc,hacc⟩:∃acc,acc=accF vars q.2 a0 y:=⟨_,rfl⟩
  rw [←hacc] at h8 hacl hL6
  have hstep:accF vars q.2 a0 (y+1)=ndd acc (numF vars f):=by
   rw [hacc]
   unfold accF
   rw [List.take_add_one,hf,List.map_append,List.foldl_append]
   rfl
  simp [g0,g5,cell_blk hu8]
  refine cl_of (containsI_spec nv6 acc (numF vars f) h8.own.vw (by omega)) ?_
  rintro _ w9 ⟨rfl,k9⟩
  have h9:=h8.kp0 hL6 k9
  by_cases hin:numF vars f ∈ acc
  ·have e:accF vars q.2 a0 (y+1)=acc:=by rw [hstep]; unfold ndd; rw [if_pos hin]
   simp [hin,g0,g5,g18,g19,g20,g24,hcy,hly]
   rw [e]
   exact ⟨nv6,h9⟩
  ·have e:accF vars q.2 a0 (y+1)=acc ++ [numF vars f]:=by rw [hstep]; unfold ndd; rw [if_neg hin]
   have hu9:=h9.drop.obj
   unfold unO at hu9
   simp [hin,g5,cell_blk hu9,rowOf]
   have h10:=h9.kp0 hL6 ((Kp.refl [] w9).alloc (.cells #[.int .i64 (numF vars f:Nat)] 3))
   refine At.append (xs:=[numF vars f]) (Lcl.obj.star hR) h10 nE_len nE_one sl_22 rfl (fun j u hj=>?_) (by omega) (by unfold maxLen; omega) fun v' w11 h11=>?_
   ·rw [add_none,cell_blk alloc_new]
    simpa [nE] using hj
   have c11:=h11.own.c1
   have o11:=h11.own.o1
   have h12:=h11.by Imp.sw
   unfold unO at h12
   simp [g0,g5,c11]
   refine h12.st (Lcl.own.star hR) (by simp) (by simp [o11]) fun w13 h13=>?_
   simp [g0,g5,g18,g19,g20,g24,hcy,hly]
   rw [e]
   refine ⟨v',(h13.by Imp.sw).by (Imp.un (Imp.left ?_))⟩
   have e2:wrAt #[Value.int .i64 (i:Nat),.int .i64 (k:Nat),.int .i64 (c:Nat),.int .i64 (m:Nat),nv6] 4 [v']=#[.int .i64 (i:Nat),.int .i64 (k:Nat),.int .i64 (c:Nat),.int .i64 (m:Nat),v']:=by simp
   rw [e2]
   exact Imp.rfl
 have hndl:nd0.length≤128:=by
  have:=fold_len ((pre ++ cnd).map (numF vars)) []
  have o1:=op.len
  have o2:=oc.len
  rw [hnd0]
  unfold dedup
  simp at this ⊢
  omega
 have hndn:nd0.Nodup:=by rw [hnd0]; exact dedup_nodup _
 have hndr:∀x ∈ nd0,x < vars.sum:=fun x hx=>by
  rw [hnd0,dedup_mem] at hx
  obtain ⟨f,hf,rfl⟩:=List.mem_map.1 hx
  rcases List.mem_append.1 hf with h | h
  ·exact numF_lt (op.rng f h).1 (op.rng f h).2
  ·exact numF_lt (oc.rng f h).1 (oc.rng f h).2
 have hrl:rs.length=U.length:=by rw [←hrs]; simp
 rintro ρ w4 ⟨g0,g5,nv,h5⟩
 -- the rows of the needs
 refine seq_cut (fun ρ w'=>ρ 0=.pointer (some ⟨b,0,none⟩)∧ρ 5=.pointer (some ⟨ub,0,none⟩)∧ρ 13=.int .i64 (U.length:Nat)∧w'=w4) ?_ ?_
 ·have ho:=h5.drop.drop.drop.obj
  have hu:=h5.drop.drop.drop.drop.drop.own.vw
  unfold relO at ho
  simp [g0,g5,cell_blk ho,hu.len,hrl]
 rintro ρ w4 ⟨g0,g5,g13,rfl⟩
 obtain ⟨Z,hZ⟩:∃Z,Z=(Star (OwnA nv 3 1 nE nd0) (Star (ObjA ub (unO i k c m nv)) (Star (OwnA ls 23 1 sv1 qs) (Star (ObjA b (relO vv gv fv vars.sum uv nd fr)) (Star (OwnA fv 3 1 nE (firsts vars vars.length)) (Star (OwnA uv 137 5 ruE rs) (Star (VwsA nE (nds rs)) (Star (OwnA fr 3 1 nE (frF (rs.map (·.u)))) B)))))))):=⟨_,rfl⟩
 have hLZ:Lcl Z:=by
  rw [hZ]
  exact Lcl.own.star (Lcl.obj.star (Lcl.own.star (Lcl.obj.star (Lcl.own.star (Lcl.own.star (Lcl.vws.star (Lcl.own.star hB)))))))
 have hT0:At w F (Star (TabA nd 22 3 nE ps) Z) w4:=by rw [hZ]; exact h5.by Imp.fr9
 have hZn:∀{w'},At w F Z w'→Vw w' nv nE nd0:=fun h=>by rw [hZ] at h; exact h.own.vw
 have hZu:∀{w'},At w F Z w'→w'.heap[ub]? = some (unO i k c m nv):=fun h=>by rw [hZ] at h; exact h.drop.obj
 have hZb:∀{w'},At w F Z w'→w'.heap[b]? = some (.cells #[vv,.slice none 0 0,gv,.slice none 0 0,fv,.int .i64 (vars.sum:Nat),uv,nd,fr] 133 (0,0)):=fun h=>by rw [hZ] at h; exact h.drop.drop.drop.obj
 have hps0:ps.map (·.2)=(List.range vars.sum).map (rowsJ U []):=by
  rw [hps]
  exact List.map_congr_left fun f hf=>by simp [rowsJ]
 refine seq_cut (fun ρ w'=>ρ 0=.pointer (some ⟨b,0,none⟩)∧ρ 5=.pointer (some ⟨ub,0,none⟩)∧ρ 13=.int .i64 (U.length:Nat)∧∃ps':List (Cell1 × List Nat),ps'.map (·.2)=(List.range vars.sum).map (rowsJ U nd0)∧At w F (Star (TabA nd 22 3 nE ps') Z) w') ?_ ?_
 ·have hu:=hZu hT0.drop
  unfold unO at hu
  have hn:=hZn hT0.drop
  simp [g5,cell_blk hu,hn.len]
  refine range_loop (n:=nd0.length) (by omega) (fun j ρ w'=>ρ 0=.pointer (some ⟨b,0,none⟩)∧ρ 5=.pointer (some ⟨ub,0,none⟩)∧ρ 13=.int .i64 (U.length:Nat)∧ρ 52=nv∧(∃ps':List (Cell1 × List Nat),ps'.map (·.2)=(List.range vars.sum).map (rowsJ U (nd0.take j))∧At w F (Star (TabA nd 22 3 nE ps') Z) w')) (by simp) (by simp)
   ⟨by simp [g0],by simp [g5],by simp [g13],by simp,⟨ps,by simpa using hps0,hT0⟩⟩ (by decide) (fun _ _ _ _ h=>by simpa using h) (fun _ _ _ _ h=>by simpa using h) ?_ ?_
  rotate_left
  ·rintro ρ w6 ⟨g0,g5,g13,g52,ps',hps',h6⟩
   rw [List.take_length] at hps'
   simp only [thenK_nrm]
   exact ⟨g0,g5,g13,ps',hps',h6⟩
  rintro j ρ w6 hj hcj hlj ⟨g0,g5,g13,g52,ps',hps',h6⟩
  obtain ⟨x,hx⟩:∃x,nd0[j]? = some x:=⟨_,List.getElem?_eq_getElem hj⟩
  have hxr:=hndr x (List.mem_of_getElem? hx)
  have hpl:ps'.length=vars.sum:=by
   have:=congrArg List.length hps'
   simpa using this
  obtain ⟨p,hp⟩:∃p,ps'[x]? = some p:=⟨_,List.getElem?_eq_getElem (by omega)⟩
  have hxn:x ∉ nd0.take j:=fun h=>by
   obtain ⟨i',hi',e⟩:=List.getElem_of_mem h
   rw [List.length_take] at hi'
   rw [List.getElem_take] at e
   have e2:=(List.getElem?_eq_some_iff.1 hx).2
   have:=(List.nodup_iff_pairwise_ne.1 hndn)
   rw [List.pairwise_iff_getElem] at this
   exact this i' j (by omega) hj (by omega) (by rw [e,e2])
  have htk:nd0.take (j+1)=nd0.take j ++ [x]:=by rw [List.take_add_one,hx]; rfl
  have hn6:=hZn h6.drop
  have hb6:=hZb h6.drop
  have hO6:=TabA.own h6
  have hx2:(x:Int) < ps'.length:=by omega
  have ecell:w6.cell? ⟨nd.blk,x,none⟩=some p.1.1:=by
   have:=hO6.cell sv1_len hp (o:=0) (by omega)
   simpa [sv1] using this
  refine seq_cut (fun ρ w'=>ρ 0=.pointer (some ⟨b,0,none⟩)∧ρ 5=.pointer (some ⟨ub,0,none⟩)∧ρ 13=.int .i64 (U.length:Nat)∧ρ 52=nv∧ρ 53=.int .i64 (nd0.length:Nat)∧ρ 54=.int .i64 (j:Nat)∧ρ 15=.int .i64 (x:Nat)∧w'=w6) ?_ ?_
  ·simp (disch:=omega) [g0,g5,g13,g52,hcj,hlj,hn6.idx,nE_cell hn6 hx]
  clear g0 g5 g13 g52 hcj hlj
  rintro ρ w6 ⟨g0,g5,g13,g52,g53,g54,g15,rfl⟩
  have hr6:At w F (Star (TabA nd 22 3 nE ps') Z) _:=h6.kp0 (Lcl.tab.star hLZ) (((Kp.refl [] _).drew).alloc (.cells #[.int .i64 (U.length:Nat)] 3))
  obtain ⟨hp2,hnx⟩:p.2=nbF U x∧True:=⟨(rows_step (u:=p.1) hps' hxr hxn hp).1,trivial⟩
  have hpll:=nbF_len U x
  rw [←hp2] at hpll
  simp (disch:=omega) [g0,g15,g13,cell_blk hb6,hO6.idx,ecell,rowOf]
  refine ⟨?_,?_⟩ <;>
  ·refine TabA.append (xs:=[U.length]) hLZ hr6 hp nE_len nE_one sl_22 rfl (fun j u hj=>?_) (by omega) (by unfold maxLen; omega) fun v' w7 h7=>?_
   ·rw [show w6.heap.size=w6.drew.heap.size from rfl,add_none,cell_blk alloc_new]
    simpa [nE] using hj
   have hO7:=h7.drop.own
   have hb7:=hZb (h7.drop.drop.by (RowsA.drop _))
   have c7:=h7.own.c1
   simp (disch:=omega) [g0,g15,g13,hO7.idx,c7,cell_blk hb7]
   refine TabA.put hLZ h7 hp rfl fun ho w8 h8=>?_
   simp [g0,g5,g13,g52,g53,g54]
   refine ⟨_,?_,h8⟩
   rw [htk]
   exact (rows_step hps' hxr hxn hp).2
 rintro ρ w5 ⟨g0,g5,g13,ps',hps',h6⟩
 have hUr:(rs.map (·.u))=U:=hrs
 obtain ⟨u,hu⟩:∃u:Un,u=⟨i,k,c,m,nd0⟩:=⟨_,rfl⟩
 rw [←hu]
 have hfsn:frF (U ++ [u])=frF U ++ if nd0=[] then [U.length] else []:=by rw [frF_snoc,hu]
 have hfl:=frF_len U
 have hu6:=hZu h6.drop
 unfold unO at hu6
 have hn6:=hZn h6.drop
 have hb6:=hZb h6.drop
 refine seq_cut (fun ρ w'=>ρ 0=.pointer (some ⟨b,0,none⟩)∧ρ 5=.pointer (some ⟨ub,0,none⟩)∧∃fr',At w F (Star (ObjA b (relO vv gv fv vars.sum uv nd fr')) (Star (OwnA fr' 3 1 nE (frF (U ++ [u]))) (Star (TabA nd 22 3 nE ps') (Star (OwnA nv 3 1 nE nd0) (Star (ObjA ub (unO i k c m nv)) (Star (OwnA ls 23 1 sv1 qs) (Star (OwnA fv 3 1 nE (firsts vars vars.length)) (Star (OwnA uv 137 5 ruE rs) (Star (VwsA nE (nds rs)) B))))))))) w') ?_ ?_
 ·have h7:=h6
  rw [hZ,hUr] at h7
  have h8:=h7.by Imp.fr9
  by_cases hz:nd0=[]
  ·have hz2:((nd0.length:Int) == 0)=true:=by rw [hz]; rfl
   rw [if_pos hz] at hfsn
   rw [hfsn]
   have hL8:=Lcl.own (v:=fr) (E:=3) (sz:=1) (enc:=nE) (l:=frF U) |>.star (Lcl.tab (v:=nd) (E2:=22) (E:=3) (enc:=nE) (ps:=ps') |>.star (Lcl.own (v:=nv) (E:=3) (sz:=1) (enc:=nE) (l:=nd0) |>.star (Lcl.obj (b:=ub) (o:=unO i k c m nv) |>.star (Lcl.own (v:=ls) (E:=23) (sz:=1) (enc:=sv1) (l:=qs) |>.star (Lcl.obj (b:=b) (o:=relO vv gv fv vars.sum uv nd fr) |>.star (Lcl.own (v:=fv) (E:=3) (sz:=1) (enc:=nE) (l:=firsts vars vars.length) |>.star (Lcl.own (v:=uv) (E:=137) (sz:=5) (enc:=ruE) (l:=rs) |>.star (Lcl.vws (enc:=nE) (ps:=nds rs) |>.star hB))))))))
   have h9:=h8.kp0 hL8 ((Kp.refl [] w5).alloc (.cells #[.int .i64 (U.length:Nat)] 3))
   simp [g0,g5,g13,cell_blk hu6,hn6.len,hz2,cell_blk hb6,rowOf]
   refine At.append (xs:=[U.length]) (Lcl.tab.star (Lcl.own.star (Lcl.obj.star (Lcl.own.star (Lcl.obj.star (Lcl.own.star (Lcl.own.star (Lcl.vws.star hB)))))))) h9 nE_len nE_one sl_22 rfl (fun j x hj=>?_) (by omega) (by unfold maxLen; omega) fun v' w6 h10=>?_
   ·rw [add_none,cell_blk alloc_new]
    simpa [nE] using hj
   have c10:=h10.own.c1
   have o10:=h10.own.o1
   have h11:=h10.by Imp.fr6
   unfold relO at h11
   simp [g0,g5,g13,c10]
   refine h11.st (Lcl.own.star (Lcl.tab.star (Lcl.own.star (Lcl.obj.star (Lcl.own.star (Lcl.own.star (Lcl.own.star (Lcl.vws.star hB)))))))) (by simp) (by simp [o10]) fun w7 h12=>?_
   simp [g0,g5]
   refine ⟨v',?_⟩
   unfold relO
   simpa using h12
  ·have hz2:((nd0.length:Int) == 0)=false:=by simp; exact hz
   rw [if_neg hz,List.append_nil] at hfsn
   rw [hfsn]
   simp [g0,g5,g13,cell_blk hu6,hn6.len,hz2]
   exact ⟨fr,h8.by Imp.fr6⟩
 rintro ρ w6 ⟨g0,g5,fr',h7⟩
 have hb7:=h7.obj
 unfold relO at hb7
 have hn7:=h7.drop.drop.drop.own
 have cn7:=hn7.c1
 have on7:=hn7.o1
 have hu7:=h7.drop.drop.drop.drop.obj
 unfold unO at hu7
 have cu7:cellsAt w6.drew ⟨ub,0,none⟩ 0 5=some [.int .i64 (i:Nat),.int .i64 (k:Nat),.int .i64 (c:Nat),.int .i64 (m:Nat),nv]:=by simp [cellsAt,Addr.add,cell_blk hu7]
 have h8:=h7.by Imp.fr8
 have hL8:Lcl (Star (OwnA uv 137 5 ruE rs) (Star (ObjA b (relO vv gv fv vars.sum uv nd fr')) (Star (OwnA fr' 3 1 nE (frF (U ++ [u]))) (Star (TabA nd 22 3 nE ps') (Star (OwnA nv 3 1 nE nd0) (Star (ObjA ub (unO i k c m nv)) (Star (OwnA ls 23 1 sv1 qs) (Star (OwnA fv 3 1 nE (firsts vars vars.length)) (Star (VwsA nE (nds rs)) B))))))))) :=
  Lcl.own.star (Lcl.obj.star (Lcl.own.star (Lcl.tab.star (Lcl.own.star (Lcl.obj.star (Lcl.own.star (Lcl.own.star (Lcl.vws.star hB))))))))
 have h9:=h8.kp0 hL8 (((Kp.refl [] w6).drew).alloc (.cells #[.int .i64 (i:Nat),.int .i64 (k:Nat),.int .i64 (c:Nat),.int .i64 (m:Nat),nv] 137))
 simp [g0,g5,cell_blk hb7,cu7,rowOf,cn7]
 refine At.append (xs:=[(⟨u,⟨nv,on7⟩⟩:Ru)]) (Lcl.obj.star (Lcl.own.star (Lcl.tab.star (Lcl.own.star (Lcl.obj.star (Lcl.own.star (Lcl.own.star (Lcl.vws.star hB)))))))) h9 ruE_len ruE_one sl_131 rfl (fun j x hj=>?_) (by omega) (by unfold maxLen; omega) fun v' w7 h10=>?_
 ·rw [show w6.heap.size=w6.drew.heap.size from rfl,add_none,cell_blk alloc_new]
  simpa [ruE,hu] using hj
 have c10:=h10.own.c1
 have o10:=h10.own.o1
 have h11:=h10.by Imp.sw
 unfold relO at h11
 simp [g0,g5,c10]
 refine h11.st (Lcl.own.star (Lcl.own.star (Lcl.tab.star (Lcl.own.star (Lcl.obj.star (Lcl.own.star (Lcl.own.star (Lcl.vws.star hB)))))))) (by simp) (by simp [o10]) fun w8 h12=>?_
 simp
 have e12:wrAt #[vv,Value.slice none 0 0,gv,.slice none 0 0,fv,.int .i64 (vars.sum:Nat),uv,nd,fr'] 6 [v']=#[vv,.slice none 0 0,gv,.slice none 0 0,fv,.int .i64 (vars.sum:Nat),v',nd,fr']:=by simp
 rw [e12] at h12
 refine ⟨v',nd,fr',rs ++ [⟨u,⟨nv,on7⟩⟩],ps',by simp [hrs],?_,?_⟩
 ·rw [hps']
  exact List.map_congr_left fun f hf=>by rw [nbF_snoc,hu]; rfl
 ·have e:(rs ++ [(⟨u,⟨nv,on7⟩⟩:Ru)]).map (·.u)=U ++ [u]:=by simp [hrs]
  have e2:nds (rs ++ [(⟨u,⟨nv,on7⟩⟩:Ru)])=nds rs ++ [(⟨nv,on7⟩,nd0)]:=by simp [nds,hu]
  unfold RlA
  rw [e,e2]
  refine h12.by (Imp.un (Imp.fr7.trans (Imp.un (Imp.un (Imp.fr6.trans (Imp.fr4.trans (Imp.ow.trans ((VwsA.add on7).trans (Imp.un (Imp.un (Imp.un (Imp.dr.trans Imp.dr))))))))))))
end Go.Proofs.YtolkjbmcindhjaaGreat
end
section
namespace Go.Tk
open Go Go.W
theorem prop_len {vars:List Int} {l:List Fa} (hv:∀n ∈ vars,0≤n) (h:propF vars l=true):l.length≤vars.length:=by
 have hn:vars=(vars.map Int.toNat).map iN:=by
  rw [List.map_map]
  conv=>lhs; rw [←List.map_id vars]
  exact List.map_congr_left fun n hn2=>by have:=hv n hn2; simp [iN]; omega
 obtain ⟨m,hm,ok⟩:=prop_nat hn h
 have:=ok.len
 have:=congrArg List.length hm
 simp at *
 omega
theorem chk_good (t:Tk):chkC t=none↔goodB t=true:=by
 have hc:∀{vars:List Int},vars.all varB=true→∀n ∈ vars,0≤n:=fun h n hn=>by
  have:=List.all_eq_true.1 h n hn
  simp [varB] at this
  omega
 constructor
 ·intro h
  unfold chkC at h
  split at h; · cases h
  rename_i e1
  split at h; · cases h
  rename_i e2
  split at h; · cases h
  rename_i e3
  split at h; · cases h
  rename_i e4
  split at h; · cases h
  rename_i e5
  split at h; · cases h
  rename_i e6
  split at h; · cases h
  rename_i e7
  simp only [Bool.not_eq_true,Bool.not_eq_false] at e1 e2 e3 e4 e5 e6 e7
  unfold largeB at e1
  simp only [Bool.not_eq_false',Bool.and_eq_true,decide_eq_true_eq] at e1
  obtain ⟨⟨⟨l1,l2⟩,l3⟩,l4⟩:=e1
  rw [List.all_eq_true] at l3 e3 e5 e6 e7
  have hg:propF t.vars t.goal=true:=e5 (t.gv,t.goal) (by simp [condsL])
  have ho:t.ops.all (opB t.vars)=true:=by
   rw [List.all_eq_true]
   intro o ho
   have a1:=e3 o ho
   have a2:=e7 o ho
   have a3:=l3 o ho
   have a4:propF t.vars o.pre=true:=e5 (o.pv,o.pre) (by
    unfold condsL
    exact List.mem_cons_of_mem _ (List.mem_flatMap.2 ⟨o,ho,by simp [condsO]⟩))
   have a5:o.effs.all (effB t.vars)=true:=by
    rw [List.all_eq_true]
    intro e he
    have b1:=List.all_eq_true.1 (e6 o ho) e he
    have b2:propF t.vars e.cnd=true:=e5 (e.wv,e.cnd) (by
     unfold condsL
     exact List.mem_cons_of_mem _ (List.mem_flatMap.2 ⟨o,ho,by
      unfold condsO
      exact List.mem_cons_of_mem _ (List.mem_map.2 ⟨e,he,rfl⟩)⟩))
    simp [effB,b1,b2]
   simp only [Bool.and_eq_true,decide_eq_true_eq] at a1 a3
   simp only [opB,a2,a4,a5,Bool.and_true,Bool.and_eq_true,decide_eq_true_eq]
   exact ⟨a1,a3⟩
  simp only [goodB,e2,e4,hg,ho,Bool.and_true,Bool.and_eq_true,decide_eq_true_eq]
  exact ⟨l1,l2⟩
 ·intro h
  unfold goodB at h
  simp only [Bool.and_eq_true,decide_eq_true_eq] at h
  obtain ⟨⟨⟨⟨⟨h1,h2⟩,h3⟩,h4⟩,h5⟩,h6⟩:=h
  have h6':=List.all_eq_true.1 h6
  have hop:∀o ∈ t.ops,(0≤o.cost∧o.cost≤1048576)∧o.effs.length≤64∧nameB o.name=true∧propF t.vars o.pre=true∧∀e ∈ o.effs,propF t.vars e.cnd=true∧inR t.vars (e.v,e.x)=true:=fun o ho=>by
   have:=h6' o ho
   unfold opB at this
   simp only [Bool.and_eq_true,decide_eq_true_eq,List.all_eq_true] at this
   obtain ⟨⟨⟨⟨⟨c1,c2⟩,c3⟩,c4⟩,c5⟩,c6⟩:=this
   refine ⟨⟨c1,c2⟩,c3,c4,c5,fun e he=>?_⟩
   have:=c6 e he
   unfold effB at this
   simpa only [Bool.and_eq_true] using this
  have hcp:∀p ∈ condsL t,propF t.vars p.2=true:=fun p hp=>by
   unfold condsL at hp
   rcases List.mem_cons.1 hp with rfl | hp
   ·exact h5
   ·obtain ⟨o,ho,hp⟩:=List.mem_flatMap.1 hp
    unfold condsO at hp
    rcases List.mem_cons.1 hp with rfl | hp
    ·exact (hop o ho).2.2.2.1
    ·obtain ⟨e,he,rfl⟩:=List.mem_map.1 hp
     exact ((hop o ho).2.2.2.2 e he).1
  have hl:largeB t=false:=by
   unfold largeB
   simp only [Bool.not_eq_false',Bool.and_eq_true,decide_eq_true_eq,List.all_eq_true]
   exact ⟨⟨⟨h1,h2⟩,fun o ho=>(hop o ho).2.1⟩,fun p hp=>Nat.le_trans (prop_len (hc h3) (hcp p hp)) h1⟩
  have e3:(t.ops.all fun o=>decide (0≤o.cost) && decide (o.cost≤1048576))=true:=by
   rw [List.all_eq_true]
   intro o ho
   have:=(hop o ho).1
   simp; omega
  have e5:((condsL t).all fun p=>propF t.vars p.2)=true:=by rw [List.all_eq_true]; exact hcp
  have e6:(t.ops.all fun o=>o.effs.all fun e=>inR t.vars (e.v,e.x))=true:=by
   rw [List.all_eq_true]
   intro o ho
   rw [List.all_eq_true]
   exact fun e he=>((hop o ho).2.2.2.2 e he).2
  have e7:(t.ops.all fun o=>nameB o.name)=true:=by
   rw [List.all_eq_true]
   exact fun o ho=>(hop o ho).2.2.1
  unfold chkC
  rw [if_neg (by rw [hl]; simp),if_neg (by rw [h3]; simp),if_neg (by rw [e3]; simp),if_neg (by rw [h4]; simp),if_neg (by rw [e5]; simp),if_neg (by rw [e6]; simp),if_neg (by rw [e7]; simp)]
theorem NtG.lens {T:Nt} (h:NtG T) (hn:∀o ∈ T.ops,o.name.size≤9223372036854775807):TkL T.raw:=by
 have hg:=h.goal.len
 refine ⟨by simp [Nt.raw]; have:=h.ilen; have:=h.vlen; omega,by simp [Nt.raw]; have:=h.vlen; omega,by simp [Nt.raw]; have:=h.olen; omega,by simp [Nt.raw]; have:=h.vlen; omega,fun o ho=>?_⟩
 obtain ⟨o',ho',rfl⟩:=List.mem_map.1 ho
 have g:=h.ops o' ho'
 have:=g.pre.len
 have:=h.vlen
 have:=g.elen
 refine ⟨hn o' ho',by simp [No.raw]; omega,by simp [No.raw]; omega,fun e he=>?_⟩
 obtain ⟨e',he',rfl⟩:=List.mem_map.1 he
 have:=(g.cnd e' he').len
 simp [Nf.raw]; omega
end Go.Tk
end
