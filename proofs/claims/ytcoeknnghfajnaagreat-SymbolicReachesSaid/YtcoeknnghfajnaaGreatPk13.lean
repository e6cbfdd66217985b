/-
  A part of the proof of this claim's statement (SyRel, BdW1, BdW2, BdW3, BdW4): plain theorems; no conditions beyond those each names.
-/
import Derived.Test.YtcoeknnghfajnaaGreatPk12
import Derived.Test.YtcoeknnghfajnaaGreatPk11
import Derived.Test.YtcoeknnghfajnaaGreatPk07
import Derived.Test.YtcoeknnghfajnaaGreatPk06
set_option maxRecDepth 100000
set_option linter.unusedSimpArgs false
set_option linter.unusedVariables false
set_option linter.unusedSectionVars false
section
namespace Go.Proofs.YtcoeknnghfajnaaGreat
open Go Go.W Go.Tk Go.Rx Go.Sy Go.Maps
def okB (vars:List Nat) (a:Nat→Bool):Bool:=(List.range vars.length).all fun v=>decide (rv vars a 0 v < vars.getD v 0)
theorem okB_iff {vars:List Nat} {a:Nat→Bool}:okB vars a=true↔StN vars (rs vars a 0):=by
 unfold okB
 rw [List.all_eq_true]
 constructor
 ·intro h
  refine ⟨rs_len _ _ _,fun v hv=>?_⟩
  rw [rs_at hv]
  have:=h v (List.mem_range.2 hv)
  simpa using this
 ·intro h v hv
  have hv:=List.mem_range.1 hv
  have:=h.rng v hv
  rw [rs_at hv] at this
  simpa using this
def lastE (o:No) (s:List Nat) (v:Nat):Nat→Nat→Option Nat
 | 0,_=>none
 | d+1,i=>match lastE o s v d (i+1) with
  | some z=>some z
  | none=>match o.effs[i]? with
   | some e=>if e.v=v∧hdB s e.cnd=true then some e.x else none
   | none=>none
theorem lastE_succ (o:No) (s:List Nat) (v d i:Nat):lastE o s v (d+1) i=(match lastE o s v d (i+1) with
  | some z=>some z
  | none=>match o.effs[i]? with
   | some e=>if e.v=v∧hdB s e.cnd=true then some e.x else none
   | none=>none):=rfl
theorem gD_same {d:List Nat} {i x:Nat} (h:i < d.length):(d.set i x).getD i 0=x:=by simp [List.getD,List.getElem?_set_self h]
theorem gD_ne {d:List Nat} {i j x:Nat} (h:i≠j):(d.set i x).getD j 0=d.getD j 0:=by simp only [List.getD,List.getElem?_set_ne h]
theorem lastE_ap {o:No} {s:List Nat} {v:Nat} (hv:v < s.length):∀d i,i+d=o.effs.length→(apS o s).getD v 0=(lastE o s v d i).getD ((apK o s i).getD v 0)
 | 0,i,h=>by
  have:i=o.effs.length:=by omega
  subst this
  rfl
 | d+1,i,h=>by
  rw [lastE_ap hv d (i+1) (by omega)]
  obtain ⟨e,he⟩:∃e,o.effs[i]? = some e:=⟨_,List.getElem?_eq_getElem (by omega)⟩
  rw [lastE_succ]
  cases hl:lastE o s v d (i+1) with
  | some z=>rfl
  | none =>
   rw [he]
   simp only [Option.getD_none]
   rw [apK_succ he]
   by_cases hc:hdB s e.cnd=true
   ·by_cases hev:e.v=v
    ·subst hev
     rw [if_pos hc,if_pos ⟨rfl,hc⟩]
     rw [gD_same (by rw [apK_len]; exact hv)]
     rfl
    ·rw [if_pos hc,if_neg (fun h=>hev h.1),gD_ne hev]
     rfl
   ·rw [if_neg hc,if_neg (fun h=>hc h.2)]
    rfl
def chgV (o:No) (s:List Nat) (v:Nat):Nat:=(lastE o s v o.effs.length 0).getD (s.getD v 0)
theorem chg_ap {o:No} {s:List Nat} {v:Nat} (hv:v < s.length):(apS o s).getD v 0=chgV o s v:=by
 rw [lastE_ap hv o.effs.length 0 (by omega)]
 rfl
def relB (T:Nt) (o:No) (a:Nat→Bool):Bool:=hdB (rs T.vars a 0) o.pre && decide (rs T.vars a 1=apS o (rs T.vars a 0))
def relV (T:Nt) (o:No) (v:Nat) (a:Nat→Bool):Bool:=decide (rv T.vars a 1 v=chgV o (rs T.vars a 0) v)
theorem ext_getD {l l':List Nat} (h:l.length=l'.length) (hh:∀v,v < l.length→l.getD v 0=l'.getD v 0):l=l':=by
 apply List.ext_getElem h
 intro i h1 h2
 have:=hh i h1
 simpa [List.getD,h1,h2] using this
theorem rel_all {T:Nt} {o:No} {a:Nat→Bool}:(∀v,v < T.vars.length→relV T o v a=true)↔rs T.vars a 1=apS o (rs T.vars a 0):=by
 have hl:(apS o (rs T.vars a 0)).length=T.vars.length:=by unfold apS; rw [apK_len,rs_len]
 constructor
 ·intro h
  refine ext_getD (by rw [rs_len,hl]) fun v hv=>?_
  rw [rs_len] at hv
  have:=h v hv
  unfold relV at this
  rw [rs_at hv,chg_ap (by rw [rs_len]; exact hv)]
  simpa using this
 ·intro h v hv
  unfold relV
  rw [decide_eq_true_iff,←chg_ap (by rw [rs_len]; exact hv),←h,rs_at hv]
def imgP (T:Nt) (o:No) (P:List Nat→Bool) (s:List Nat):Bool:=(stsK T.vars T.vars.length).any fun x=>P x && hdB x o.pre && decide (apS o x=s)
theorem sts_mem {vars s:List Nat}:s ∈ stsK vars vars.length↔StN vars s:=by
 refine ⟨sts_st,fun h=>?_⟩
 have key:∀k,k≤vars.length→s.take k ∈ stsK vars k:=by
  intro k hk
  induction k with
  | zero=>simp [stsK]
  | succ k ih =>
   unfold stsK
   refine List.mem_flatMap.2 ⟨_,ih (by omega),?_⟩
   unfold extS
   have hks:k < s.length:=by rw [h.len]; omega
   refine List.mem_map.2 ⟨s.getD k 0,List.mem_range.2 (h.rng k (by omega)),?_⟩
   rw [List.take_add_one,List.getElem?_eq_getElem hks]
   simp [List.getD,List.getElem?_eq_getElem hks]
 have:=key _ (Nat.le_refl _)
 rwa [List.take_of_length_le (by rw [h.len]; exact Nat.le_refl _)] at this
theorem rs_mk2 {vars x y:List Nat} (h64:∀n ∈ vars,n≤64) (hx:StN vars x):rs vars (mk2 vars x y) 0=x:=by
 refine ext_getD (by rw [rs_len,hx.len]) fun v hv=>?_
 rw [rs_len] at hv
 have hm:vars.getD v 0 ∈ vars:=by simp [List.getD,List.getElem?_eq_getElem hv]
 have h1:=hx.rng v hv
 have h2:=wd_ge (h64 _ hm)
 rw [rs_at hv,rv_mk2 (nx:=0) hv (by omega) (by simp only [if_true]; omega)]
 rfl
end Go.Proofs.YtcoeknnghfajnaaGreat
end
section
namespace Go.Proofs.YtcoeknnghfajnaaGreat
open Go Go.W Go.Bd Go.Maps
theorem blaidOut:laidOutB Tryz.prog=true:=by kernel_rfl
def en (d:Nd):List Value:=ints [d.v,d.low,d.high]
theorem bn_len (d:Nd):(en d).length=3:=rfl
theorem en_one (d:Nd):(en d).all oneC=true:=rfl
def ndV (d:Nd):Value:=.agg (en d).toArray
def nd_ok (d:Nd):Prop:=∀x ∈ [d.v,d.low,d.high],i64ok x
theorem keyN:KeyEnc Tryz.prog 125 ndV nd_ok:={
 keyed:=Keyed.of_law (deep_law_laid blaidOut (m:=5) (by omega) (of_decide_eq_true (by kernel_rfl)) (by kernel_rfl) (by kernel_rfl))
 lit:=fun d hd=>key_struct Tryz.underlying125 (by kernel_rfl) (by intro f hf; simp at hf; rcases hf with rfl | rfl | rfl <;> kernel_rfl) (by kernel_rfl) (by kernel_rfl) (m:=Tryz.prog.types.size - 1) (by kernel_rfl) rfl hd
 inj:=fun x y h=>by
  have:=ints_inj h
  cases x; cases y; simp at this; simp [this] }
def natV (k:Nat):Value:=.int .i64 (k:Int)
def idx (ns:Ns):List (Nd × Nat):=ns.zipIdx.map fun p=>(p.1,p.2+2)
theorem idx_snoc (ns:Ns) (d:Nd):idx (ns ++ [d])=idx ns ++ [(d,ns.length+2)]:=by simp [idx,List.zipIdx_append]
theorem idx_len (ns:Ns):(idx ns).length=ns.length:=by simp [idx]
theorem getM_idx (ns:Ns) (d:Nd):getM (idx ns) d=(ns.findIdx? fun x=>decide (x=d)).map (·+2):=by
 have key:∀(l:Ns) (o:Nat),(((l.zipIdx o).map fun p=>(p.1,p.2+2)).find? fun p=>decide (p.1=d)).map (·.2)=(l.findIdx? fun x=>decide (x=d)).map (·+o+2):=by
  intro l
  induction l with
  | nil=>intro o; rfl
  | cons x l ih =>
   intro o
   rw [List.zipIdx_cons,List.map_cons,List.findIdx?_cons]
   by_cases hx:x=d
   ·simp [hx]
   ·rw [List.find?_cons_of_neg (by simpa using hx),ih (o+1)]
    simp only [hx,decide_false,Bool.false_eq_true,if_false,Option.map_map]
    congr 1
    funext k; simp only [Function.comp]; omega
 exact key ns 0
def mgrO (n lim:Nat) (nv:Value) (b:Nat):Obj:=.cells #[.int .i64 n,.int .i64 lim,nv,.map (some b)] 120 (0,0)
def MgrA (m n lim:Nat) (ns:Ns):Asr:=ExA fun q:Value × Nat=>Star (ObjA m (mgrO n lim q.1 q.2)) (Star (OwnA q.1 125 3 en ns) (MapA q.2 ndV natV nd_ok (idx ns)))
theorem Lcl.mgr {m n lim:Nat} {ns:Ns}:Lcl (MgrA m n lim ns):=Lcl.ex fun _=>Lcl.star Lcl.obj (Lcl.star Lcl.own Lcl.map)
section
variable {w w1:World} {F:List Nat} {B:Asr} {m n lim:Nat} {ns:Ns}
theorem MgrA.opn (h:At w F (Star (MgrA m n lim ns) B) w1):∃nv b,At w F (Star (ObjA m (mgrO n lim nv b)) (Star (OwnA nv 125 3 en ns) (Star (MapA b ndV natV nd_ok (idx ns)) B))) w1:=by
 obtain ⟨⟨nv,b⟩,h⟩:=h.ex_open
 exact ⟨nv,b,h.assoc.rot.assoc.rot3⟩
theorem MgrA.cls {nv:Value} {b:Nat} (h:At w F (Star (ObjA m (mgrO n lim nv b)) (Star (OwnA nv 125 3 en ns) (Star (MapA b ndV natV nd_ok (idx ns)) B))) w1):At w F (Star (MgrA m n lim ns) B) w1 :=
 At.ex_close (x:=(nv,b)) h.rot.rot3.rot.assoc'.rot.assoc'
structure MgrF (w:World) (m n lim:Nat) (ns:Ns):Prop where
 ex:∃nv b,w.heap[m]? = some (mgrO n lim nv b)∧Own w nv 125 3 en ns∧MapM w b ndV natV nd_ok (idx ns)
theorem MgrF.kp0 {w':World} (h:MgrF w m n lim ns) (hk:Kp [] w w'):MgrF w' m n lim ns:=by
 obtain ⟨nv,b,h1,h2,h3⟩:=h
 exact ⟨nv,b,hk.blk h1 (by simp),h2.kp hk (by simp),h3.kp hk (by simp)⟩
theorem MgrA.rd (h:At w F (Star (MgrA m n lim ns) B) w1):MgrF w1 m n lim ns:=by
 obtain ⟨nv,b,h⟩:=MgrA.opn h
 exact ⟨nv,b,h.obj,h.drop.own,h.drop.drop.map⟩
end
structure Bnd (n lim:Nat) (ns:Ns):Prop where
 hn:n≤256
 hl:lim≤1048576
 hs:ns.length≤lim
theorem at_spec (m n lim f:Nat) (ns:Ns) (w:World) (h:MgrF w m n lim ns) (hb:Bnd n lim ns) (hf:Ref ns f) :
  Calls Tryz.prog 78 [.pointer (some ⟨m,0,none⟩),.int .i64 (f:Nat)].toArray w fun e w'=>∃v,e=.returned v∧v=ndV (at_ n ns f)∧Kp [] w w':=by
 obtain ⟨hbn,hbl,hbs⟩:=hb
 obtain ⟨nv,b,ho,hown,hmap⟩:=h
 have hf':f < ns.length+2:=hf
 refine enter Tryz.func78 mixed low78 (Nat.le_of_ble_eq_true rfl) ?_
 simp only [L78]
 have ka:Kp [] w (w.alloc (.cells #[.int .i64 0,.int .i64 0,.int .i64 0] 125)):=(Kp.refl _ _).alloc _
 have ho':=ka.blk ho (by simp)
 have hown':=hown.kp ka (by simp)
 unfold mgrO at ho'
 rcases Nat.lt_or_ge f 2 with h2 | h2
 ·have h2':(f:Int) < 2:=by omega
  simp [h2',cell_blk ho']
  refine st_obj alloc_new (by simp) (by simp) ?_
  intro w2 hk2 hs2 hb2
  simp
  refine postL_c1 (g:=w.heap.size) (n:=3) ag_125 (by simp) (by simpa using hb2) rfl rfl ?_
  refine ⟨_,rfl,?_,ka.trans' hk2 (fun x hx=>.inr (by simp at hx; omega))⟩
  rw [at_lt h2]; rfl
 ·have h2':¬(f:Int) < 2:=by omega
  have hlt:f - 2 < ns.length:=by omega
  have hi:((f:Int) - 2)=((f - 2:Nat):Int):=by omega
  have hget:ns[f - 2]? = some (at_ n ns f):=by rw [at_ge h2 hf]; exact List.getElem?_eq_getElem _
  simp (disch:=omega) [h2',cell_blk ho',wrap_i64]
  rw [hi]
  simp (disch:=omega) [hown'.idx,hown'.cells bn_len hget,bn_len]
  refine st_obj alloc_new (by simp [en,ints]) (by simp [en,ints]) ?_
  intro w2 hk2 hs2 hb2
  simp
  refine postL_c1 (g:=w.heap.size) (n:=3) ag_125 (by simp) (by simpa [en,ints] using hb2) rfl rfl ?_
  exact ⟨_,rfl,rfl,ka.trans' hk2 (fun x hx=>.inr (by simp at hx; omega))⟩
end Go.Proofs.YtcoeknnghfajnaaGreat
end
section
namespace Go.Proofs.YtcoeknnghfajnaaGreat
open Go Go.W Go.Bd Go.Maps
def berrV (c:Int):Value:=.iface 39 (.int .i64 c)
def okV (x:Nat):Value:=.tuple #[.int .i64 (x:Int),.nilIface]
def bnoV (c:Int):Value:=.tuple #[.int .i64 0,berrV c]
def optV:Option Nat→Value
 | some x=>okV x
 | none=>bnoV 10
theorem kindex:Tryz.prog.underlying 117=some (.map 125 3):=Tryz.underlying117
theorem zint (w:World):(zeroValue 3).run Tryz.prog w=.ok (.int .i64 0) w:=Tryz.zeroValue3 w
theorem make_spec {w w1:World} {F:List Nat} {B:Asr} (m n lim:Nat) (ns:Ns) (v l h:Nat) (hB:Lcl B) (hA:At w F (Star (MgrA m n lim ns) B) w1) (hb:Bnd n lim ns) (hv:v≤1000000) (hl:l≤2000000) (hh:h≤2000000) :
  Calls Tryz.prog 89 [.pointer (some ⟨m,0,none⟩),.int .i64 (v:Nat),.int .i64 (l:Nat),.int .i64 (h:Nat)].toArray w1 fun e w'=>∃x,e=.returned x∧x=optV (mkF lim ns v l h).1∧At w F (Star (MgrA m n lim (mkF lim ns v l h).2) B) w':=by
 obtain ⟨hbn,hbl,hbs⟩:=hb
 refine enter Tryz.func89 mixed low89 (Nat.le_of_ble_eq_true rfl) ?_
 simp only [L89]
 by_cases hlh:l=h
 ·subst hlh
  simp
  exact ⟨by simp [mkF,optV,okV],by simpa [mkF] using hA⟩
 have hlh':((l:Int) == h)=false:=by rw [beq_eq_false_iff_ne]; omega
 simp [hlh',hlh]
 have hlm:Lcl (MgrA m n lim ns):=Lcl.mgr
 have h0:=hA.alloc (.cells #[.int .i64 0,.int .i64 0,.int .i64 0] 125) (hlm.star hB)
 refine h0.st (hlm.star hB) (by simp) (by simp) fun w2 h2=>?_
 obtain ⟨t,ht⟩:∃t,t=w1.heap.size:=⟨_,rfl⟩
 rw [←ht] at h2 ⊢
 have hLl:=Lcl.obj.star (hlm.star hB) (A:=ObjA t (.cells (wrAt #[.int .i64 0,.int .i64 0,.int .i64 0] 0 [.int .i64 (v:Nat),.int .i64 (l:Nat),.int .i64 (h:Nat)]) 125 (0,0)))
 have ht2:=h2.obj
 simp at ht2
 obtain ⟨nv,b,h5⟩:=MgrA.opn h2.rot
 have ho:=h5.obj
 have hown:=h5.drop.own
 have hmap:=h5.drop.drop.map
 have hmapd:MapM w2.drew b ndV natV nd_ok (idx ns):=hmap
 have hok:nd_ok ⟨v,l,h⟩:=by
  intro x hx
  simp at hx
  unfold i64ok
  rcases hx with rfl | rfl | rfl <;> omega
 unfold mgrO at ho
 simp [cell_blk ho,cell_blk ht2]
 have hcs:cellsAt w2 ⟨t,0,none⟩ 0 3=some (en ⟨v,l,h⟩):=by
  simp [cellsAt,Addr.add,cell_blk ht2,en,ints]
 simp [hcs]
 refine hmapd.look2 (x:=(⟨v,l,h⟩:Nd)) keyN kindex zint hok ?_
 have hgi:=getM_idx ns ⟨v,l,h⟩
 cases hf:ns.findIdx? fun x=>decide (x=(⟨v,l,h⟩:Nd)) with
 | some k =>
  rw [hf] at hgi
  simp only [Option.map_some] at hgi
  have hm:mkF lim ns v l h=(some (k+2),ns):=by simp [mkF,hlh,hf]
  simp [hgi,natV]
  rw [hm]
  exact ⟨by simp [optV,okV],(h2.drew hLl).drop⟩
 | none =>
 rw [hf] at hgi
 simp only [Option.map_none] at hgi
 simp [hgi,cell_blk ho,hown.len]
 by_cases hlim:lim≤ns.length
 ·have hlim':(lim:Int)≤ns.length:=by omega
  have hm:mkF lim ns v l h=(none,ns):=by simp [mkF,hlh,hf,hlim]
  simp [hlim,hlim']
  rw [hm]
  exact ⟨by simp [optV,bnoV,berrV],((h2.drew hLl).drew hLl).drop⟩
 have hlim':¬(lim:Int)≤ns.length:=by omega
 have hm:mkF lim ns v l h=(some (ns.length+2),ns ++ [⟨v,l,h⟩]):=by simp [mkF,hlh,hf,hlim]
 have h4:=((h2.drew hLl).drew hLl).drew hLl
 have hL5:Lcl (Star (ObjA m (mgrO n lim nv b)) (Star (OwnA nv 125 3 en ns) (Star (MapA b ndV natV nd_ok (idx ns)) (Star (ObjA t (.cells (wrAt #[.int .i64 0,.int .i64 0,.int .i64 0] 0 [.int .i64 (v:Nat),.int .i64 (l:Nat),.int .i64 (h:Nat)]) 125 (0,0))) B)))) :=
  Lcl.obj.star (Lcl.own.star (Lcl.map.star (Lcl.obj.star hB)))
 have h6:=((h5.drew hL5).drew hL5).drew hL5
 simp [hlim,hlim',cell_blk ho,hcs,bn_len,rowOf]
 have e3:wrAt #[.int .i64 0,.int .i64 0,.int .i64 0] 0 (en ⟨v,l,h⟩)=(en ⟨v,l,h⟩).toArray:=by simp [en,ints]
 rw [e3]
 have h7:=(h6.rot).kp0 (Lcl.own.star (Lcl.obj.star (Lcl.map.star (Lcl.obj.star hB)))) ((Kp.refl [] w2.drew.drew.drew).alloc (.cells (en ⟨v,l,h⟩).toArray 125))
 refine At.append (xs:=[(⟨v,l,h⟩:Nd)]) (Lcl.obj.star (Lcl.map.star (Lcl.obj.star hB))) h7 bn_len en_one sl_118 rfl (fun j u hj=>?_) (by omega) (by unfold maxLen; omega) fun v8 w8 h8=>?_
 ·rw [addr_add,Nat.zero_add,show w2.heap.size=w2.drew.drew.drew.heap.size from rfl,cell_blk alloc_new]
  simpa using hj
 have h9:=h8.rot
 have ho9:=h9.obj
 unfold mgrO at h9 ho9
 simp [h8.own.c1]
 refine h9.st (Lcl.own.star (Lcl.map.star (Lcl.obj.star hB))) (by simp) (by simp [h8.own.o1]) fun w10 h10=>?_
 have hL10:=Lcl.obj.star (Lcl.own.star (Lcl.map.star (Lcl.obj.star hB))) (A:=ObjA m (mgrO n lim v8 b)) (B:=Star (OwnA v8 125 3 en (ns ++ [(⟨v,l,h⟩:Nd)])) (Star (MapA b ndV natV nd_ok (idx ns)) (Star (ObjA t (.cells (wrAt #[.int .i64 0,.int .i64 0,.int .i64 0] 0 [.int .i64 (v:Nat),.int .i64 (l:Nat),.int .i64 (h:Nat)]) 125 (0,0))) B)))
 have h10:At w F (Star (ObjA m (mgrO n lim v8 b)) (Star (OwnA v8 125 3 en (ns ++ [(⟨v,l,h⟩:Nd)])) (Star (MapA b ndV natV nd_ok (idx ns)) (Star (ObjA t (.cells (wrAt #[.int .i64 0,.int .i64 0,.int .i64 0] 0 [.int .i64 (v:Nat),.int .i64 (l:Nat),.int .i64 (h:Nat)]) 125 (0,0))) B)))) w10:=by
  simpa [mgrO] using h10
 have hoa:=h10.obj
 unfold mgrO at hoa
 have hta:=h10.drop.drop.drop.obj
 have hown10:=h10.drop.own
 simp at hta
 have hcsa:cellsAt w10 ⟨t,0,none⟩ 0 3=some (en ⟨v,l,h⟩):=by
  simp [cellsAt,Addr.add,cell_blk hta,en,ints]
 simp (disch:=omega) [cell_blk hoa,hcsa,hown10.len,wrap_i64]
 have e1:Value.int .i64 ((ns.length:Int)+1+1)=natV (ns.length+2):=by unfold natV; congr 1
 rw [e1]
 have hb11:=(h10.drew hL10).drop.drop
 refine At.put (x:=(⟨v,l,h⟩:Nd)) (Lcl.obj.star (Lcl.own.star (Lcl.obj.star hB))) ((h10.drew hL10).rot3) keyN kindex hok (by rw [idx_len]; unfold maxLen; omega) fun w12 h12=>?_
 have hput:putM (idx ns) (⟨v,l,h⟩:Nd) (ns.length+2)=idx (ns ++ [(⟨v,l,h⟩:Nd)]):=by
  rw [idx_snoc,putM,if_neg]
  simp only [getM,Option.map_eq_none_iff,List.find?_eq_none] at hgi
  simp only [List.any_eq_true,not_exists,not_and]
  exact hgi
 rw [hput] at h12
 have h12:=h12.rot.rot3.rot
 have hoc:=h12.obj
 unfold mgrO at hoc
 have hownc:=h12.drop.own
 simp (disch:=omega) [cell_blk hoc,hownc.len,wrap_i64]
 rw [hm]
 exact ⟨by simp [optV,okV]; omega,(MgrA.cls h12).rot.drop⟩
theorem short_spec (op f g:Nat) (w:World) (hop:op≤2):Calls Tryz.prog 101 [.int .i64 (op:Nat),.int .i64 (f:Nat),.int .i64 (g:Nat)].toArray w fun e w'=>∃x,e=.returned x∧x=.tuple #[.int .i64 ((sh op f g).1:Nat),.bool (sh op f g).2]∧Kp [] w w':=by
 refine enter Tryz.func101 mixed low101 (Nat.le_of_ble_eq_true rfl) ?_
 simp only [L101]
 have e:∀a b:Nat,((a:Int) == (b:Int))=decide (a=b):=fun a b=>by
  by_cases h:a=b
  ·simp [h]
  ·have:((a:Int) == b)=false:=by rw [beq_eq_false_iff_ne]; omega
   rw [this]; simp [h]
 have e0:∀a:Nat,((a:Int) == 0)=decide (a=0):=fun a=>e a 0
 have e1:∀a:Nat,((a:Int) == 1)=decide (a=1):=fun a=>e a 1
 unfold sh
 have hc:op=0∨op=1∨op=2:=by omega
 rcases hc with rfl | rfl | rfl
 ·by_cases h1:f=0
  ·subst h1
   simp
   exact Kp.refl _ _
  by_cases h2:g=0
  ·subst h2
   simp [e0,h1]
   exact Kp.refl _ _
  by_cases h3:f=1
  ·subst h3
   simp [e0,h2]
   exact Kp.refl _ _
  by_cases h4:f=g
  ·subst h4
   simp [e0,e1,h1,h3]
   exact Kp.refl _ _
  ·simp [e0,e1,e,h1,h2,h3,h4]
   exact Kp.refl _ _
 ·by_cases h1:f=1
  ·subst h1
   simp
   exact Kp.refl _ _
  by_cases h2:g=1
  ·subst h2
   simp [e1,h1]
   exact Kp.refl _ _
  by_cases h3:f=0
  ·subst h3
   simp [e1,h2]
   exact Kp.refl _ _
  by_cases h4:f=g
  ·subst h4
   simp [e0,e1,h1,h3]
   exact Kp.refl _ _
  ·simp [e0,e1,e,h1,h2,h3,h4]
   exact Kp.refl _ _
 ·by_cases h4:f=g
  ·subst h4
   simp
   exact Kp.refl _ _
  by_cases h3:f=0
  ·subst h3
   have h5:((0:Int) == g)=false:=by rw [beq_eq_false_iff_ne]; omega
   simp [h5,h4]
   exact Kp.refl _ _
  ·simp [e0,e1,e,h3,h4]
   exact Kp.refl _ _
end Go.Proofs.YtcoeknnghfajnaaGreat
end
section
namespace Go.Proofs.YtcoeknnghfajnaaGreat
open Go Go.W Go.Bd Go.Maps
def p2V (p:Nat × Nat):Value:=.agg (ints [p.1,p.2]).toArray
def p2_ok (p:Nat × Nat):Prop:=∀x ∈ [p.1,p.2],i64ok x
theorem key2:KeyEnc Tryz.prog 150 p2V p2_ok:={
 keyed:=Keyed.of_law (deep_law_laid blaidOut (m:=5) (by omega) (of_decide_eq_true (by kernel_rfl)) (by kernel_rfl) (by kernel_rfl))
 lit:=fun d hd=>key_array Tryz.underlying150 Tryz.underlying3 (by kernel_rfl) (by kernel_rfl) (by kernel_rfl) (m:=Tryz.prog.types.size - 1) (by kernel_rfl) rfl hd
 inj:=fun x y h=>by
  have:=ints_inj h
  cases x; cases y; simp at this; simp [this] }
abbrev MemA (b:Nat) (M:Mem2):Asr:=MapA b p2V natV p2_ok M
def ApPost (m n lim op:Nat) (S:Nat→Nat→Prop) (ns:Ns) (M:Mem2) (f g b:Nat) (B:Asr) (w:World) (F:List Nat) (v:Value) (w':World):Prop :=
 ∃r ns' M',v=optV r∧ApOk n lim op S ns M f g r ns' M'∧At w F (Star (MgrA m n lim ns') (Star (MemA b M') B)) w'
def ApE (m op p q b:Nat) (ρ:Env):Prop:=ρ 0=.pointer (some ⟨m,0,none⟩)∧ρ 1=.int .i64 (op:Nat)∧ρ 2=.int .i64 (p:Nat)∧ρ 3=.int .i64 (q:Nat)∧ρ 4=.map (some b)
theorem getM_in {κ α:Type} [DecidableEq κ] {l:List (κ × α)} {x:κ} {v:α} (h:getM l x=some v):(x,v) ∈ l:=by
 rw [getM,Option.map_eq_some_iff] at h
 obtain ⟨q,hq,rfl⟩:=h
 have h1:=List.mem_of_find?_eq_some hq
 have h2:q.1=x:=by simpa using List.find?_some hq
 rw [←h2]; exact h1
theorem getM_no {κ α:Type} [DecidableEq κ] {l:List (κ × α)} {x:κ} (h:getM l x=none):∀q ∈ l,q.1≠x:=by
 rw [getM,Option.map_eq_none_iff,List.find?_eq_none] at h
 intro q hq; simpa using h q hq
theorem putM_no {κ α:Type} [DecidableEq κ] {l:List (κ × α)} {x:κ} {v:α} (h:∀q ∈ l,q.1≠x):putM l x v=l ++ [(x,v)]:=by
 rw [putM,if_neg]
 simp only [List.any_eq_true,decide_eq_true_eq,not_exists,not_and]
 exact h
theorem MapM.nodup {κ α:Type} {ek:κ→Value} {ev:α→Value} {ok:κ→Prop} {w:World} {b:Nat} {l:List (κ × α)} (h:MapM w b ek ev ok l):(l.map (·.1)).Nodup:=by
 obtain ⟨es,clock,_,_,_,_,hnd,_⟩:=h
 exact hnd
set_option maxHeartbeats 4000000 in
theorem apply_aux (m n lim op b:Nat) (hop:op≤2) (S:Nat→Nat→Prop) (w:World) (F:List Nat):∀(d f g:Nat) (ns:Ns) (M:Mem2) (B:Asr) (w1:World),Lcl B→Wf n ns→Bnd n lim ns→Ref ns f→Ref ns g→n≤d+min (tv n ns f) (tv n ns g)→MemOk op ns M→Clo n op ns S→Sn op S f g →
  At w F (Star (MgrA m n lim ns) (Star (MemA b M) B)) w1 →
  Calls Tryz.prog 95 [.pointer (some ⟨m,0,none⟩),.int .i64 (op:Nat),.int .i64 (f:Nat),.int .i64 (g:Nat),.map (some b)].toArray w1 fun e w'=>∃v,e=.returned v∧ApPost m n lim op S ns M f g b B w F v w':=by
 intro d
 induction d using Nat.strongRecOn with
 | ind d ih =>
 intro f g ns M B w1 hB hw hb hf hg hd hM hC hS hA
 obtain ⟨hbn,hbl,hbs⟩:=hb
 refine enter Tryz.func95 mixed low95 (Nat.le_of_ble_eq_true rfl) ?_
 simp only [L95]
 refine seq_cut (fun ρ w'=>ApE m op f g b ρ∧w'=w1) (by simp [ApE]) ?_
 rintro ρ w' ⟨⟨g0,g1,g2,g3,g4⟩,rfl⟩
 refine seq_cut (fun ρ w''=>ApE m op (min f g) (max f g) b ρ∧w''=w') ?_ ?_
 ·rcases Nat.lt_or_ge g f with h | h
  ·have h':(g:Int) < f:=by omega
   simp [g2,g3,h,h',ApE,g0,g1,g4]
   omega
  ·have h':¬(g:Int) < f:=by omega
   have h'':¬g < f:=by omega
   simp [g2,g3,h',h'',ApE,g0,g1,g4]
   omega
 clear g0 g1 g2 g3 g4
 rintro ρ w2 ⟨⟨g0,g1,g2,g3,g4⟩,rfl⟩
 have hfin:∀v w'',ApPost m n lim op S ns M (min f g) (max f g) b B w F v w''→ApPost m n lim op S ns M f g b B w F v w'':=by
  rintro v w'' ⟨r,ns',M',h1,h2,h3⟩
  refine ⟨r,ns',M',h1,?_,h3⟩
  rcases Nat.le_total f g with h | h
  ·rwa [Nat.min_eq_left h,Nat.max_eq_right h] at h2
  ·rw [Nat.min_eq_right h,Nat.max_eq_left h] at h2; exact h2.swap
 have hpq:min f g≤max f g:=by omega
 have hrp:Ref ns (min f g):=by unfold Ref at *; omega
 have hrq:Ref ns (max f g):=by unfold Ref at *; omega
 have hdm:n≤d+min (tv n ns (min f g)) (tv n ns (max f g)):=by
  rcases Nat.le_total f g with h | h
  ·rwa [Nat.min_eq_left h,Nat.max_eq_right h]
  ·rw [Nat.min_eq_right h,Nat.max_eq_left h,Nat.min_comm]; exact hd
 unfold Sn at hS
 obtain ⟨p,hp⟩:∃p,p=min f g:=⟨_,rfl⟩
 obtain ⟨q,hq⟩:∃q,q=max f g:=⟨_,rfl⟩
 rw [←hp,←hq] at hfin hpq hdm hS
 rw [←hp] at hrp g2
 rw [←hq] at hrq g3
 refine seq_cut (fun ρ w''=>ApE m op p q b ρ∧(sh op p q).2=false∧At w F (Star (MgrA m n lim ns) (Star (MemA b M) B)) w'') ?_ ?_
 ·simp [g1,g2,g3]
  refine cl_of (short_spec op p q w2 hop) ?_
  rintro v w3 ⟨rfl,k3⟩
  have h3:=hA.kp0 (Lcl.mgr.star (Lcl.map.star hB)) k3
  cases hsh:sh op p q with
  | mk r t =>
  cases t with
  | true =>
   simp
   refine hfin _ _ ⟨some r,ns,M,rfl,ap_short hw hbs hrp hrq hM hsh,h3⟩
  | false =>
   simp [ApE,g0,g1,g2,g3,g4]
   exact h3
 clear g0 g1 g2 g3 g4
 rintro ρ w3 ⟨⟨g0,g1,g2,g3,g4⟩,hshf,h3⟩
 have hSpq:S p q:=by
  rcases hS with h | h
  ·rw [h] at hshf; cases hshf
  ·exact h
 have hok:p2_ok (p,q):=by
  intro x hx
  unfold i64ok Ref at *
  simp at hx
  rcases hx with rfl | rfl <;> omega
 refine seq_cut (fun ρ w''=>ApE m op p q b ρ∧getM M (p,q)=none∧At w F (Star (MgrA m n lim ns) (Star (MemA b M) B)) w'') ?_ ?_
 ·simp [g2,g3,g4]
  refine MapM.look2 (x:=(p,q)) h3.drop.map key2 Tryz.underlying144 zint hok ?_
  cases hgm:getM M (p,q) with
  | some r =>
   simp [natV]
   exact hfin _ _ ⟨some r,ns,M,rfl,ap_known hw hbs hM (getM_in hgm),h3⟩
  | none =>
   simp [ApE,g0,g1,g2,g3,g4]
   exact h3
 clear g0 g1 g2 g3 g4
 rintro ρ w4 ⟨⟨g0,g1,g2,g3,g4⟩,hgm,h4⟩
 have hb':Bnd n lim ns:=⟨hbn,hbl,hbs⟩
 have hLX:Lcl (Star (MgrA m n lim ns) (Star (MemA b M) B)):=Lcl.mgr.star (Lcl.map.star hB)
 refine seq_cut (fun ρ w''=>ApE m op p q b ρ∧∃ta tb,ρ 16=.pointer (some ⟨ta,0,none⟩)∧ρ 17=.pointer (some ⟨tb,0,none⟩) ∧
   At w F (Star (ObjA ta (.cells (en (at_ n ns p)).toArray 125 (0,0))) (Star (ObjA tb (.cells (en (at_ n ns q)).toArray 125 (0,0))) (Star (MgrA m n lim ns) (Star (MemA b M) B)))) w'') ?_ ?_
 ·simp [g0,g2,g3]
  refine cl_of (at_spec m n lim p ns w4 (MgrA.rd h4) hb' hrp) ?_
  rintro v w5 ⟨rfl,k5⟩
  have h5:=h4.kp0 hLX k5
  simp [g0,g2,g3]
  refine cl_of (at_spec m n lim q ns w5 (MgrA.rd h5) hb' hrq) ?_
  rintro v w6 ⟨rfl,k6⟩
  have h6:=h5.kp0 hLX k6
  obtain ⟨a1,ha1⟩:∃d,d=at_ n ns p:=⟨_,rfl⟩
  obtain ⟨b1,hb1⟩:∃d,d=at_ n ns q:=⟨_,rfl⟩
  rw [←ha1,←hb1]
  have h7:=h6.alloc (.cells #[.int .i64 0,.int .i64 0,.int .i64 0] 125) hLX
  have h8:=h7.alloc (.cells #[.int .i64 0,.int .i64 0,.int .i64 0] 125) (Lcl.obj.star hLX)
  rw [show (w6.alloc (.cells #[.int .i64 0,.int .i64 0,.int .i64 0] 125)).heap.size=w6.heap.size+1 by simp] at h8
  simp [ndV,bn_len]
  refine h8.rot.st (Lcl.obj.star hLX) (by simp [en,ints]) (by simp [en,ints]) fun w9 h9=>?_
  simp [ndV,bn_len]
  refine h9.rot.st (Lcl.obj.star hLX) (by simp [en,ints]) (by simp [en,ints]) fun w10 h10=>?_
  simp [ApE,g0,g1,g2,g3,g4]
  have e3:∀d:Nd,wrAt #[.int .i64 0,.int .i64 0,.int .i64 0] 0 (en d)=(en d).toArray:=fun d=>by simp [en,ints]
  rw [e3,e3] at h10
  exact h10.rot
 clear g0 g1 g2 g3 g4
 rintro ρ w5 ⟨⟨g0,g1,g2,g3,g4⟩,ta,tb,g16,g17,h5⟩
 have hpre:ApPre n op S ns M p q (min (tv n ns p) (tv n ns q)):=ApPre.mk' hw hrp hrq hSpq hpq hshf (getM_no hgm)
 obtain ⟨v,hv⟩:∃v,v=min (tv n ns p) (tv n ns q):=⟨_,rfl⟩
 rw [←hv] at hpre
 have hlp:∀x,Ref ns x→x≤1048577:=fun x hx=>by unfold Ref at hx; omega
 have hoa:=h5.obj
 have hob:=h5.drop.obj
 refine seq_cut (fun ρ w''=>ApE m op p q b ρ∧ρ 16=.pointer (some ⟨ta,0,none⟩)∧ρ 17=.pointer (some ⟨tb,0,none⟩)∧ρ 18=.int .i64 (v:Nat)∧w''=w5) ?_ ?_
 ·simp [g16,g17,cell_blk hoa,cell_blk hob,en,ints,ApE,g0,g1,g2,g3,g4]
  have:tv n ns p=(at_ n ns p).v:=rfl
  have:tv n ns q=(at_ n ns q).v:=rfl
  omega
 clear g0 g1 g2 g3 g4 g16 g17
 rintro ρ w6 ⟨⟨g0,g1,g2,g3,g4⟩,g16,g17,g18,rfl⟩
 have hLB:Lcl (Star (ObjA tb (.cells (en (at_ n ns q)).toArray 125 (0,0))) (Star (MgrA m n lim ns) (Star (MemA b M) B))):=Lcl.obj.star hLX
 refine seq_cut (fun ρ w''=>ApE m op p q b ρ∧ρ 16=.pointer (some ⟨ta,0,none⟩)∧ρ 17=.pointer (some ⟨tb,0,none⟩)∧ρ 18=.int .i64 (v:Nat) ∧
   At w F (Star (ObjA ta (.cells (en ⟨v,lo n ns v p,hi n ns v p⟩).toArray 125 (0,0))) (Star (ObjA tb (.cells (en (at_ n ns q)).toArray 125 (0,0))) (Star (MgrA m n lim ns) (Star (MemA b M) B)))) w'') ?_ ?_
 ·have e:tv n ns p=(at_ n ns p).v:=rfl
  by_cases hgt:v < (at_ n ns p).v
  ·have hgt':(v:Int) < (at_ n ns p).v:=by omega
   simp [g16,g18,g2,cell_blk hoa,en,ints,hgt,hgt']
   refine h5.st hLB (by simp [en,ints]) (by simp) fun w7 h7=>?_
   simp [ApE,g0,g1,g2,g3,g4,g16,g17,g18]
   have hlo:lo n ns v p=p:=by unfold lo; rw [if_pos (by rw [e]; exact hgt)]
   have hhi:hi n ns v p=p:=by unfold hi; rw [if_pos (by rw [e]; exact hgt)]
   rw [hlo,hhi]
   simpa [en,ints] using h7
  ·have hgt':¬(v:Int) < (at_ n ns p).v:=by omega
   have hev:(at_ n ns p).v=v:=by rw [e] at hv; omega
   have hlo:lo n ns v p=(at_ n ns p).low:=by unfold lo; rw [if_neg (by rw [e]; exact hgt)]
   have hhi:hi n ns v p=(at_ n ns p).high:=by unfold hi; rw [if_neg (by rw [e]; exact hgt)]
   simp [g16,g18,g2,cell_blk hoa,en,ints,hgt,hgt',ApE,g0,g1,g3,g4,g17]
   rw [hlo,hhi]
   have h5':=h5
   simpa [en,ints,hev] using h5'
 clear g0 g1 g2 g3 g4 g16 g17 g18
 rintro ρ w7 ⟨⟨g0,g1,g2,g3,g4⟩,g16,g17,g18,h7⟩
 have hob:=h7.drop.obj
 have hLA:Lcl (Star (ObjA ta (.cells (en ⟨v,lo n ns v p,hi n ns v p⟩).toArray 125 (0,0))) (Star (MgrA m n lim ns) (Star (MemA b M) B))):=Lcl.obj.star hLX
 refine seq_cut (fun ρ w''=>ApE m op p q b ρ∧ρ 16=.pointer (some ⟨ta,0,none⟩)∧ρ 17=.pointer (some ⟨tb,0,none⟩)∧ρ 18=.int .i64 (v:Nat) ∧
   At w F (Star (ObjA ta (.cells (en ⟨v,lo n ns v p,hi n ns v p⟩).toArray 125 (0,0))) (Star (ObjA tb (.cells (en ⟨v,lo n ns v q,hi n ns v q⟩).toArray 125 (0,0))) (Star (MgrA m n lim ns) (Star (MemA b M) B)))) w'') ?_ ?_
 ·have e:tv n ns q=(at_ n ns q).v:=rfl
  by_cases hgt:v < (at_ n ns q).v
  ·have hgt':(v:Int) < (at_ n ns q).v:=by omega
   simp [g17,g18,g3,cell_blk hob,en,ints,hgt,hgt']
   refine h7.rot.st hLA (by simp [en,ints]) (by simp) fun w8 h8=>?_
   simp [ApE,g0,g1,g2,g3,g4,g16,g17,g18]
   have hlo:lo n ns v q=q:=by unfold lo; rw [if_pos (by rw [e]; exact hgt)]
   have hhi:hi n ns v q=q:=by unfold hi; rw [if_pos (by rw [e]; exact hgt)]
   rw [hlo,hhi]
   simpa [en,ints] using h8.rot
  ·have hgt':¬(v:Int) < (at_ n ns q).v:=by omega
   have hev:(at_ n ns q).v=v:=by rw [e] at hv; omega
   have hlo:lo n ns v q=(at_ n ns q).low:=by unfold lo; rw [if_neg (by rw [e]; exact hgt)]
   have hhi:hi n ns v q=(at_ n ns q).high:=by unfold hi; rw [if_neg (by rw [e]; exact hgt)]
   simp [g17,g18,g3,cell_blk hob,en,ints,hgt,hgt',ApE,g0,g1,g2,g4,g16]
   rw [hlo,hhi]
   simpa [en,ints,hev] using h7
 clear g0 g1 g2 g3 g4 g16 g17 g18
 rintro ρ w8 ⟨⟨g0,g1,g2,g3,g4⟩,g16,g17,g18,h8⟩
 have hclo:=hC p q hSpq
 rw [←hv] at hclo
 obtain ⟨_,_,hSl,hSh⟩:=hclo
 have hcp:=hpre.cp
 have hcq:=hpre.cq
 have hLo:Lcl (Star (ObjA ta (.cells (en ⟨v,lo n ns v p,hi n ns v p⟩).toArray 125 (0,0))) (Star (ObjA tb (.cells (en ⟨v,lo n ns v q,hi n ns v q⟩).toArray 125 (0,0))) B)):=Lcl.obj.star (Lcl.obj.star hB)
 have hoa:=h8.obj
 have hob:=h8.drop.obj
 simp [g0,g1,g4,g16,g17,cell_blk hoa,cell_blk hob,en,ints]
 have tl1:=hcp.tl
 have tl2:=hcq.tl
 have th1:=hcp.th
 have th2:=hcq.th
 have hvn0:=hpre.vn
 refine cl_of (ih (d - 1) (by omega) (lo n ns v p) (lo n ns v q) ns M _ w8 hLo hw hb' hcp.rl hcq.rl (by omega) hM hC hSl h8.rot4.rot4) ?_
 rintro _ w9 ⟨r1,ns1,M1,rfl,hl,h9⟩
 have drp:∀{nsx:Ns} {Mx:Mem2} {wx:World},At w F (Star (MgrA m n lim nsx) (Star (MemA b Mx) (Star (ObjA ta (.cells (en ⟨v,lo n ns v p,hi n ns v p⟩).toArray 125 (0,0))) (Star (ObjA tb (.cells (en ⟨v,lo n ns v q,hi n ns v q⟩).toArray 125 (0,0))) B)))) wx→At w F (Star (MgrA m n lim nsx) (Star (MemA b Mx) B)) wx:=fun h=>h.by (Imp.un (Imp.un (Imp.dr.trans Imp.dr)))
 cases r1 with
 | none =>
  simp [optV,bnoV,berrV]
  exact hfin _ _ ⟨none,ns1,M1,rfl,ap_low hpre hl,drp h9⟩
 | some l =>
 have hw1:=hl.ext.wf
 have hb1:Bnd n lim ns1:=⟨hbn,hbl,hl.lim⟩
 have hoa:=h9.drop.drop.obj
 have hob:=h9.drop.drop.drop.obj
 simp [optV,okV,g0,g1,g4,g16,g17,cell_blk hoa,cell_blk hob,en,ints]
 refine cl_of (ih (d - 1) (by omega) (hi n ns v p) (hi n ns v q) ns1 M1 _ w9 hLo hw1 hb1 (hl.ext.ref hcp.rh) (hl.ext.ref hcq.rh) (by rw [hl.ext.tv hcp.rh,hl.ext.tv hcq.rh]; omega) hl.mem (hC.ext hl.ext) hSh h9) ?_
 rintro _ w10 ⟨r2,ns2,M2,rfl,hh,h10⟩
 rw [←hi_ext hl.ext hpre.rp,←hi_ext hl.ext hpre.rq] at hh
 cases r2 with
 | none =>
  simp [optV,bnoV,berrV]
  exact hfin _ _ ⟨none,ns2,M2,rfl,ap_high hpre hl hh,drp h10⟩
 | some hgh =>
 have hm:=ap_mid hpre hl hh
 have hmk:=ap_make hpre hl hh
 have hb2:Bnd n lim ns2:=⟨hbn,hbl,hm.lim⟩
 have hl2:=hm.lim
 have hvn:=hpre.vn
 have hlr:l≤2000000:=by have:=hmk.1; unfold Ref at this; omega
 have hhr:hgh≤2000000:=by have:=hmk.2.1; unfold Ref at this; omega
 simp [optV,okV,g0,g18]
 refine cl_of (make_spec m n lim ns2 v l hgh (Lcl.map.star hLo) h10 hb2 (by omega) hlr hhr) ?_
 rintro _ w11 ⟨rfl,h11⟩
 cases hk:(mkF lim ns2 v l hgh).1 with
 | none =>
  simp [optV,bnoV,berrV]
  exact hfin _ _ ⟨none,_,M2,rfl,ap_full hpre hl hh hk,drp h11⟩
 | some x =>
 simp [optV,okV,g2,g3,g4]
 have hml:=mem_small (N:=1048578) (by omega) (fun q hq=>⟨(hm.mem q hq).1,(hm.mem q hq).2.1⟩) (MapM.nodup h10.drop.map)
 refine At.put (x:=(p,q)) (v:=x) (Lcl.mgr.star hLo) h11.rot key2 Tryz.underlying144 hok (by unfold maxLen; omega) fun w12 h12=>?_
 rw [putM_no (mid_nokey hpre hm)] at h12
 simp
 exact hfin _ _ ⟨some x,_,_,rfl,ap_done hpre hl hh hk,drp h12.rot⟩
theorem bddApply_spec {w w1:World} {F:List Nat} {B:Asr} (m n lim op b f g:Nat) (hop:op≤2) (S:Nat→Nat→Prop) (ns:Ns) (M:Mem2) (hB:Lcl B) (hw:Wf n ns) (hb:Bnd n lim ns) (hf:Ref ns f) (hg:Ref ns g) (hM:MemOk op ns M) (hC:Clo n op ns S) (hS:Sn op S f g)
  (hA:At w F (Star (MgrA m n lim ns) (Star (MemA b M) B)) w1) :
  Calls Tryz.prog 95 [.pointer (some ⟨m,0,none⟩),.int .i64 (op:Nat),.int .i64 (f:Nat),.int .i64 (g:Nat),.map (some b)].toArray w1 fun e w'=>∃v,e=.returned v∧ApPost m n lim op S ns M f g b B w F v w' :=
 apply_aux m n lim op b hop S w F n f g ns M B w1 hB hw hb hf hg (by omega) hM hC hS hA
def iv (n:Int):List Value:=[.int .i64 n]
theorem iv_len (n:Int):(iv n).length=1:=rfl
theorem iv_one (n:Int):(iv n).all oneC=true:=rfl
theorem iv_cell {w:World} {v:Value} {xs:List Int} (h:Vw w v iv xs) {k:Nat} {x:Int} (hx:xs[k]? = some x):w.cell? (v.adr.add k)=some (.int .i64 x):=Vw.cell (f:=fun n:Int=>.int .i64 n) h hx
def refB (ns:Ns) (x:Int):Bool:=decide (0≤x) && decide (x < ns.length+2)
def bchkV (b:Bool):Value:=if b then .nilIface else berrV 1
theorem check_spec (m n lim:Nat) (ns:Ns) (v:Value) (xs:List Int) (w:World) (h:MgrF w m n lim ns) (hb:Bnd n lim ns) (hv:Vw w v iv xs) (hx:xs.length≤1000000) :
  Calls Tryz.prog 75 [.pointer (some ⟨m,0,none⟩),v].toArray w fun e w'=>∃x,e=.returned x∧x=bchkV (xs.all (refB ns))∧Kp [] w w':=by
 obtain ⟨hbn,hbl,hbs⟩:=hb
 refine enter Tryz.func75 mixed low75 (Nat.le_of_ble_eq_true rfl) ?_
 simp only [L75]
 simp [hv.len]
 refine range_loop (n:=xs.length) (by omega) (fun k ρ w1=>ρ 0=.pointer (some ⟨m,0,none⟩)∧ρ 10=v∧(∀j x,j < k→xs[j]? = some x→refB ns x=true)∧Kp [] w w1) (by simp) (by simp)
  ⟨by simp,by simp,by simp,Kp.refl _ _⟩ (by decide) (fun _ _ _ _ h=>by simpa using h) (fun _ _ _ _ h=>by simpa using h) ?_ ?_
 ·rintro k ρ w1 hk hc hlim ⟨g0,g10,hall,hkp⟩
  have hv1:=hv.kp0 hkp
  obtain ⟨nv,b,ho,hown,_⟩:=h.kp0 hkp
  have ek:xs[k]? = some xs[k]:=List.getElem?_eq_getElem hk
  obtain ⟨x,hxe⟩:∃x,x=xs[k]:=⟨_,rfl⟩
  rw [←hxe] at ek
  have bad:refB ns x=false→xs.all (refB ns)=false:=fun h=>by
   rw [List.all_eq_false]
   exact ⟨x,List.mem_of_getElem? ek,by simp [h]⟩
  unfold mgrO at ho
  simp (disch:=omega) [g0,g10,hc,hv1.idx,iv_cell hv1 ek,cell_blk ho,hown.len,wrap_i64]
  by_cases h1:x < 0
  ·simp [h1]
   refine ⟨?_,hkp⟩
   rw [bad (by simp [refB]; omega)]; rfl
  by_cases h2:(ns.length:Int)+2≤x
  ·simp (disch:=omega) [h1,h2,wrap_i64,cell_blk ho,hown.len,g0]
   refine ⟨?_,hkp⟩
   rw [bad (by simp [refB]; omega)]; rfl
  ·simp (disch:=omega) [h1,h2,wrap_i64,cell_blk ho,hown.len,hc,hlim,g0,g10]
   refine ⟨fun j y hj hy=>?_,hkp⟩
   rcases Nat.lt_or_ge j k with h3 | h3
   ·exact hall j y h3 hy
   ·have:j=k:=by omega
    subst this
    rw [ek] at hy
    rw [←Option.some.inj hy]
    simp [refB]; omega
 ·rintro ρ w1 ⟨g0,g10,hall,hkp⟩
  simp
  refine ⟨?_,hkp⟩
  have:xs.all (refB ns)=true:=by
   rw [List.all_eq_true]
   intro x hx
   obtain ⟨j,hj⟩:=List.getElem?_of_mem hx
   exact hall j x (List.getElem?_eq_some_iff.1 hj).1 hj
  rw [this]; rfl
end Go.Proofs.YtcoeknnghfajnaaGreat
end
section
namespace Go.Proofs.YtcoeknnghfajnaaGreat
open Go Go.W Go.Bd Go.Maps
theorem new_spec {w w1:World} {F:List Nat} {B:Asr} (n lim:Nat) (hB:Lcl B) (hA:At w F B w1) (hn:n≤256) (h1:1≤lim) (h2:lim≤1048576) :
  Calls Tryz.prog 30 [.int .i64 (n:Nat),.int .i64 (lim:Nat)].toArray w1 fun e w'=>∃x,e=.returned x∧∃m,x=.tuple #[.pointer (some ⟨m,0,none⟩),.nilIface]∧At w F (Star (MgrA m n lim []) B) w':=by
 refine enter Tryz.func30 mixed low30 (Nat.le_of_ble_eq_true rfl) ?_
 simp only [L30]
 have a1:¬(n:Int) < 0:=by omega
 have a2:¬(256:Int) < n:=by omega
 have a3:¬(lim:Int) < 1:=by omega
 have a4:¬(1048576:Int) < lim:=by omega
 simp [a1,a2,a3,a4]
 have h3:=hA.newmap (ek:=ndV) (ev:=natV) (ok:=nd_ok) hB
 have h4:=h3.alloc (.cells #[.int .i64 n,.int .i64 lim,.slice none 0 0,.map (some w1.heap.size)] 120 (0,0)) (Lcl.map.star hB)
 rw [show (w1.alloc (.map #[] 0)).heap.size=w1.heap.size+1 by simp] at h4
 have h5:=At.nil (E:=125) (sz:=3) (enc:=en) (Lcl.obj.star (Lcl.map.star hB)) h4
 exact MgrA.cls (ns:=[]) (nv:=.slice none 0 0) h5.rot
theorem var_spec {w w1:World} {F:List Nat} {B:Asr} (m n lim:Nat) (ns:Ns) (i:Nat) (hB:Lcl B) (hA:At w F (Star (MgrA m n lim ns) B) w1) (hb:Bnd n lim ns) (hi:i < n) :
  Calls Tryz.prog 74 [.pointer (some ⟨m,0,none⟩),.int .i64 (i:Nat)].toArray w1 fun e w'=>∃x,e=.returned x∧x=optV (mkF lim ns i 0 1).1∧At w F (Star (MgrA m n lim (mkF lim ns i 0 1).2) B) w':=by
 have hbn:=hb.hn
 refine enter Tryz.func74 mixed low74 (Nat.le_of_ble_eq_true rfl) ?_
 simp only [L74]
 obtain ⟨nv,b,ho,hown,_⟩:=MgrA.rd hA
 unfold mgrO at ho
 have h1:¬(i:Int) < 0:=by omega
 have h2:¬(n:Int)≤i:=by omega
 have h2':¬n≤i:=by omega
 simp [h1,h2,h2',cell_blk ho]
 refine cl_of (make_spec m n lim ns i 0 1 hB hA hb (by omega) (by omega) (by omega)) ?_
 rintro v w2 ⟨rfl,h3⟩
 cases hk:(mkF lim ns i 0 1).1 <;> simp [optV,okV,bnoV,berrV] <;> exact h3
theorem lit_ints {w w1:World} {F:List Nat} {B:Asr} {xs:List Int} {cs:Array Value} (hB:Lcl B) (h:At w F B w1) (hcs:cs.toList=xs.flatMap iv) (hn:xs.length≤1000000) {m:Nat} (hm:m=xs.length) :
  At w F (Star (OwnA (.slice (some ⟨w1.heap.size,0,none⟩) m m) 3 1 iv xs) B) (w1.alloc (.cells cs 3)) :=
 h.lit hB hcs iv_len (by unfold maxLen; omega) hm
def BinPost (m n lim op:Nat) (S:Nat→Nat→Prop) (ns:Ns) (f g:Nat) (B:Asr) (w:World) (F:List Nat) (v:Value) (w':World):Prop :=
 ∃r ns',v=optV r∧BinOk n lim op S ns f g r ns'∧At w F (Star (MgrA m n lim ns') B) w'
theorem binary_spec {w w1:World} {F:List Nat} {B:Asr} (m n lim:Nat) (ns:Ns) (op f g:Nat) (S:Nat→Nat→Prop) (hop:op≤2) (hB:Lcl B) (hA:At w F (Star (MgrA m n lim ns) B) w1) (hw:Wf n ns) (hb:Bnd n lim ns) (hf:Ref ns f) (hg:Ref ns g) (hC:Clo n op ns S) (hS:Sn op S f g) :
  Calls Tryz.prog 84 [.pointer (some ⟨m,0,none⟩),.int .i64 (op:Nat),.int .i64 (f:Nat),.int .i64 (g:Nat)].toArray w1 fun e w'=>∃x,e=.returned x∧BinPost m n lim op S ns f g B w F x w':=by
 refine enter Tryz.func84 mixed low84 (Nat.le_of_ble_eq_true rfl) ?_
 simp only [L84]
 have hl:Lcl (Star (MgrA m n lim ns) B):=Lcl.mgr.star hB
 have h1:=lit_ints (xs:=[(f:Int),(g:Int)]) (cs:=#[.int .i64 f,.int .i64 g]) hl hA rfl (by simp) rfl
 simp [rowOf]
 refine cl_of (check_spec m n lim ns _ [(f:Int),(g:Int)] _ (MgrA.rd h1.drop) hb h1.own.vw (by simp)) ?_
 rintro v w2 ⟨rfl,k2⟩
 have h2:=(h1.drop).kp0 hl k2
 have:[(f:Int),(g:Int)].all (refB ns)=true:=by
  unfold Ref at hf hg
  simp [refB]; omega
 rw [this]
 simp [bchkV]
 have h3:=(h2.newmap (ek:=p2V) (ev:=natV) (ok:=p2_ok) hl).rot
 refine cl_of (bddApply_spec m n lim op _ f g hop S ns [] hB hw hb hf hg (fun q hq=>by cases hq) hC hS h3) ?_
 rintro _ w4 ⟨r,ns',M',rfl,hap,h4⟩
 have hbin:=bin_of_ap hap (MapM.nodup h4.drop.map)
 cases r with
 | none=>simp [optV,bnoV,berrV]; exact ⟨none,ns',rfl,hbin,h4.by (Imp.un Imp.dr)⟩
 | some x=>simp [optV,okV]; exact ⟨some x,ns',rfl,hbin,h4.by (Imp.un Imp.dr)⟩
end Go.Proofs.YtcoeknnghfajnaaGreat
end
