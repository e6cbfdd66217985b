/-
  A part of the proof of this claim's statement (BjD, BjE, RxYL, BjF, BjG): plain theorems; no conditions beyond those each names.
-/
import Derived.Test.YtkhfdmelcpfgoaaGreatPk30
import Derived.Test.YtkhfdmelcpfgoaaGreatPk22
section
set_option maxRecDepth 100000
set_option linter.unusedSimpArgs false
set_option linter.unusedVariables false
namespace Go.Proofs.YtkhfdmelcpfgoaaGreat
open Go Go.W Go.Tk Go.Rx Go.Bd Go.Sy Go.Maps
section
variable {T:Nt} {d:Sd} {out:List Nat}
theorem Ch4.wv (h:Ch4 T) (hb:d.bw=true) (hd:SdG T (fun z=>stP T true z=true) d) (ho:∀ p ∈ d.opn,6 < p.1):∀ n,n < 4→∃ y ∈ d.wl,y.all [n]=true∧y.cost=hC [n]:=by
 have hd2:Go.Bi.SdOk (StN T.vars) (EB T true) (kB T) (fun z=>stP T true z=true) (d.wl.map wmW) d.cl (d.opn.map fun p=>(p.1,p.2.2)):=by
  have h1:Go.Bi.SdOk (StN T.vars) (EB T d.bw) (kB T) (fun z=>stP T true z=true) (d.wl.map wmW) d.cl (d.opn.map fun p=>(p.1,p.2.2)):=hd
  rw [hb] at h1
  exact h1
 have s:∀ n,n < 4→StN T.vars [n]:=fun n hn=>by rw [h.v]; exact st4' hn
 have hge:∀ w,w ∈ d.wl.map wmW→∀ z,StN T.vars z→w.all z=true→hC z≤w.cost:=fun w hw z hz ha =>
  Go.Bi.pot_le (h:=hC) hd2 (fun op x z he=>he.1) (fun z hz hs=>by
   have h1:GoalT T z:=by simpa [stP] using hs
   rw [h.v] at hz
   obtain ⟨n,hn,rfl⟩:=st4 hz
   have:=h.goal.1 h1
   subst this
   rfl) (fun op x z he=>h.pot (EB.flip (bw:=false) he)) _ w hw rfl z hz ha
 have hop:∀ p ∈ (d.opn.map fun p=>(p.1,p.2.2)),6 < p.1:=fun p hp=>by
  obtain ⟨a,ha,rfl⟩:=List.mem_map.1 hp
  exact ho a ha
 have w3:∃ w,w ∈ d.wl.map wmW∧w.all [3]=true∧w.cost=0:=by
  rcases hd2.st [3] (s 3 (by omega)) (by simpa [stP] using h.goal.2 rfl) with h1 | ⟨p,hp,_,e⟩
  ·exact h1
  ·have:=hop p hp; omega
 have nxt:∀ n,n < 3→(∃ w,w ∈ d.wl.map wmW∧w.all [n+1]=true∧w.cost=hC [n+1])→∃ w,w ∈ d.wl.map wmW∧w.all [n]=true∧w.cost=hC [n]:=fun n hn ⟨w,hw,ha,hc⟩=>by
  obtain ⟨he,hk⟩:=h.up hn
  have he2:EB T true (2 * n) [n+1] [n]:=EB.flip (bw:=true) he
  have e1:hC [n+1]+2=hC [n]:=by simp [hC]; omega
  have e2:hC [n]≤6:=by simp [hC]; omega
  rcases hd2.out w hw [n+1] (2 * n) [n] ha (s n (by omega)) he2 with ⟨w',hw',ha',hl⟩ | ⟨p,hp,_,hl⟩
  ·have:=hge w' hw' [n] (s n (by omega)) ha'
   exact ⟨w',hw',ha',by omega⟩
  ·have:=hop p hp
   omega
 have w2:=nxt 2 (by omega) w3
 have w1:=nxt 1 (by omega) w2
 have w0:=nxt 0 (by omega) w1
 intro n hn
 have:∃ w,w ∈ d.wl.map wmW∧w.all [n]=true∧w.cost=hC [n]:=by
  have:n=0∨n=1∨n=2∨n=3:=by omega
  rcases this with rfl | rfl | rfl | rfl
  ·exact w0
  ·exact w1
  ·exact w2
  ·exact w3
 obtain ⟨w,hw,ha,hc⟩:=this
 obtain ⟨y,hy,rfl⟩:=List.mem_map.1 hw
 exact ⟨y,hy,ha,hc⟩
theorem dis_eq {T:Nt} {S0:List Nat→Prop} {d:Sd} (hd:SdG T S0 d) {y y':Wm} (hy:y ∈ d.wl) (hy':y' ∈ d.wl) {z:List Nat} (hz:StN T.vars z) (h1:y.all z=true) (h2:y'.all z=true):y.cost=y'.cost:=by
 have e1:=Go.Bi.gOf_at (d:=0) hd.dis hz (List.mem_map.2 ⟨y,hy,rfl⟩) h1
 have e2:=Go.Bi.gOf_at (d:=0) hd.dis hz (List.mem_map.2 ⟨y',hy',rfl⟩) h2
 rw [e1] at e2
 exact e2
theorem Ch4.lay (h:Ch4 T) (hb:d.bw=true) (hd:SdG T (fun z=>stP T true z=true) d) (ho:∀ p ∈ d.opn,6 < p.1) (hl:LayOk T 6 d out):out=[1,0,1,0,1,0,1]:=by
 have hw:=h.wv hb hd ho
 have s:∀ n,n < 4→StN T.vars [n]:=fun n hn=>by rw [h.v]; exact st4' hn
 have ct:∀ y ∈ d.wl,ctN T.vars y.all=(([0,1,2,3]:List Nat).filter fun n=>decide (hC [n]=y.cost)).length:=fun y hy=>by
  have e:∀ n,n < 4→y.all [n]=decide (hC [n]=y.cost):=fun n hn=>by
   obtain ⟨y',hy',ha,hc⟩:=hw n hn
   by_cases e:hC [n]=y.cost
   ·rw [decide_eq_true e]
    have:=SdG.inj hd y' hy' y hy (by omega)
    rw [← this]; exact ha
   ·rw [decide_eq_false e]
    cases e2:y.all [n] with
    | false=>rfl
    | true =>
     have:=dis_eq hd hy hy' (s n hn) e2 ha
     exact absurd (by omega) e
  unfold ctN
  rw [h.v]
  have e0:stsK [4] [4].length=[[0],[1],[2],[3]]:=by decide
  rw [e0]
  simp only [List.filter,e 0 (by omega),e 1 (by omega),e 2 (by omega),e 3 (by omega)]
  cases decide (hC [0]=y.cost) <;> cases decide (hC [1]=y.cost) <;> cases decide (hC [2]=y.cost) <;> cases decide (hC [3]=y.cost) <;> rfl
 have at_:∀ k,k≤6→out[k]?=some (([0,1,2,3]:List Nat).filter fun n=>decide (hC [n]=k)).length:=fun k hk=>by
  rcases Classical.em (∃ y ∈ d.wl,y.cost=k) with ⟨y,hy,rfl⟩ | hno
  ·rw [(hl.wv y hy).2,ct y hy]
  ·rw [hl.no k hk fun y hy e=>hno ⟨y,hy,e⟩]
   have:(([0,1,2,3]:List Nat).filter fun n=>decide (hC [n]=k))=[]:=by
    rw [List.filter_eq_nil_iff]
    intro n hn e
    obtain ⟨y,hy,_,hc⟩:=hw n (by simp at hn; omega)
    exact hno ⟨y,hy,by have:=of_decide_eq_true e; omega⟩
   rw [this]; rfl
 refine List.ext_getElem? fun k=>?_
 by_cases hk:k≤6
 ·rw [at_ k hk]
  have:k=0∨k=1∨k=2∨k=3∨k=4∨k=5∨k=6:=by omega
  rcases this with rfl | rfl | rfl | rfl | rfl | rfl | rfl <;> rfl
 ·rw [List.getElem?_eq_none (by rw [hl.len]; omega),List.getElem?_eq_none (by simp; omega)]
end
end Go.Proofs.YtkhfdmelcpfgoaaGreat
end
section
set_option maxRecDepth 100000
set_option linter.unusedSimpArgs false
set_option linter.unusedVariables false
namespace Go.Proofs.YtkhfdmelcpfgoaaGreat
open Go Go.W Go.Tk Go.Rx Go.Bd Go.Sy Go.Maps
section
variable {w w1:World} {F:List Nat} {B:Asr}
set_option maxHeartbeats 2000000 in
theorem bawake_spec (hB:Lcl B) (h:At w F B w1):Calls Tryz.prog 9 [].toArray w1 fun en w'=>∃ v,en=.returned v∧v=.bool true∧At w F B w':=by
 refine enter Tryz.func9 mixed low9 (Nat.le_of_ble_eq_true rfl) ?_
 simp only [L9]
 simp
 refine cl_of (bchain_spec 4 2 (by omega) (by omega) hB h) ?_
 rintro _ w2 ⟨T,rfl,hv,hi,hgl,hops,h2⟩
 have hch:Ch4 T:=⟨hv,hi,hgl,hops⟩
 have hL2:Lcl (Star (TskA T) B):=TskA.lcl.star hB
 obtain ⟨kb,hkb⟩:∃ kb,kb=w2.heap.size:=⟨_,rfl⟩
 have h3:=h2.alloc (.cells #[.slice none 0 0,.slice none 0 0,.slice none 0 0,.slice none 0 0] 26 (0,0)) hL2
 rw [← hkb] at h3
 simp [ntV,← hkb]
 refine h3.st hL2 (by simp) (by simp [T.vv.2,T.nv.2,T.gv.2,T.ov.2]) fun w3 h4=>?_
 replace h4:At w F (Star (ObjA kb (ntO T)) (Star (TskA T) B)) w3:=by simpa [ntO] using h4
 have ok4:=h4.obj
 unfold ntO at ok4
 have hL4:Lcl (Star (ObjA kb (ntO T)) (Star (TskA T) B)):=Lcl.obj.star hL2
 have rT:Rds (Star (ObjA kb (ntO T)) (Star (TskA T) B)) fun w'=>NtR w' T:=Rds.star TskA.rd
 have rK:Rds (Star (ObjA kb (ntO T)) (Star (TskA T) B)) fun w'=>w'.heap[kb]?=some (ntO T):=Rds.obj
 have ok4':=ok4
 rw [hkb] at ok4'
 simp [rd_c4 ok4,rd_c4 ok4']
 refine cl_of (bsearch_spec hch.sic hL4 h4 rT) ?_
 rintro _ w4 ⟨vd,p,out,c,e,rfl,hok,he,hol,h5⟩
 obtain ⟨rfl,rfl,z,hz,hrun⟩:=hch.res hok
 have hL5:Lcl (Star (OwnA p 3 1 nE out) (Star (ObjA kb (ntO T)) (Star (TskA T) B))):=Lcl.own.star hL4
 have hpo:oneC p=true:=at_rds h5 Rds.own1
 obtain ⟨rb,hrb⟩:∃ rb,rb=w4.heap.size:=⟨_,rfl⟩
 have h6:=h5.alloc (resO 0 (.slice none 0 0) 0 0) hL5
 rw [← hrb] at h6
 simp [resZ,← hrb]
 refine At.st hL5 h6 (by simp) (by simp [hpo]) fun w5 h7=>?_
 simp [resO] at h7
 have ok7:=at_rds h7 (Rds.star (Rds.star rK))
 unfold ntO at ok7
 have hL7:Lcl (Star (ObjA rb (.cells #[.int .i64 1,p,.int .i64 6,.int .i64 e] 38 (0,0))) (Star (OwnA p 3 1 nE out) (Star (ObjA kb (ntO T)) (Star (TskA T) B)))):=Lcl.obj.star hL5
 have ok7':=ok7
 rw [hkb] at ok7'
 simp [rd_c4 ok7,rd_c4 ok7']
 refine cl_of (blayers_spec 6 6 (by decide) hch.sic hL7 h7 (Rds.star (Rds.star rT))) ?_
 rintro _ w6 (⟨rfl,hf,_⟩ | ⟨l,lay,d,rfl,hdb,hdg,hdo,hdl,h8⟩)
 ·exact absurd hf hch.full
 have elay:=hch.lay hdb hdg hdo hdl
 subst elay
 have ok8:=at_rds h8 (Rds.star (Rds.star (Rds.star rK)))
 unfold ntO at ok8
 have or8:=at_rds h8 (Rds.star Rds.obj)
 have hp8:Vw w6 p nE out:=at_rds h8 (Rds.star (Rds.star Rds.own))
 have hr8:NtR w6 T:=at_rds h8 (Rds.star (Rds.star (Rds.star rT)))
 have ok8':=ok8
 rw [hkb] at ok8'
 have or8':=or8
 rw [hrb] at or8'
 simp [rd_c4 ok8,rd_c4 or8,rd_c4 ok8',rd_c4 or8']
 refine cl_of (bresult_solved T p out z 6 e hr8 hch.ng hp8 hol hrun hz (by omega)) ?_
 rintro _ w7 ⟨rfl,k7⟩
 have hL8:Lcl (Star (OwnA l 3 1 nE [1,0,1,0,1,0,1]) (Star (ObjA rb (.cells #[.int .i64 1,p,.int .i64 6,.int .i64 e] 38 (0,0))) (Star (OwnA p 3 1 nE out) (Star (ObjA kb (ntO T)) (Star (TskA T) B))))):=Lcl.own.star hL7
 have h9:=h8.kp0 hL8 k7
 have h10:=h9.lit (xs:=[1,0,1,0,1,0,1]) (enc:=nE) (E:=3) (sz:=1) (cs:=#[.int .i64 1,.int .i64 0,.int .i64 1,.int .i64 0,.int .i64 1,.int .i64 0,.int .i64 1]) (m:=7) hL8 (by simp [nE]) nE_len (by simp [maxLen]) rfl
 have hv1:=vw_n.2 (at_rds h10 Rds.own)
 have hv2:=vw_n.2 (at_rds h10 (Rds.star Rds.own))
 simp [rowOf]
 refine cl_of (ints_spec _ _ _ _ hv2 hv1 (by simp) (by simp)) ?_
 rintro _ w8 ⟨rfl,k8⟩
 simp
 exact (h10.kp0 (Lcl.own.star hL8) k8).drop.drop.drop.drop.drop.drop
end
end Go.Proofs.YtkhfdmelcpfgoaaGreat
end
section
set_option maxRecDepth 100000
set_option linter.unusedSimpArgs false
set_option linter.unusedVariables false
namespace Go.Rx
open Go Go.W Go.Tk
structure Low (es:List (Nat × Nat × Nat)) (c:Nat→Nat) (G:Nat→Bool) (H:Nat→Nat):Prop where
 le:∀ i,H i≤Inf
 z:∀ i,G i=true→H i=0
 st:∀ e ∈ es,H e.1≤H e.2.2+c e.2.1
structure Dok (es:List (Nat × Nat × Nat)) (c:Nat→Nat) (G:Nat→Bool) (d:List Nat):Prop where
 z0:∀ i,i < d.length→G i=true→d.getD i 0=0
 le:∀ i,i < d.length→d.getD i 0≤Inf
 low:∀ H,Low es c G H→∀ i,i < d.length→H i≤d.getD i 0
def DClo (es:List (Nat × Nat × Nat)) (c:Nat→Nat) (d:List Nat):Prop:=∀ e ∈ es,d.getD e.2.2 0 < Inf→d.getD e.1 0≤d.getD e.2.2 0+c e.2.1
theorem getD_set_same {d:List Nat} {i x:Nat} (h:i < d.length):(d.set i x).getD i 0=x:=by simp [List.getD,List.getElem?_set_self h]
theorem getD_set_ne {d:List Nat} {i j x:Nat} (h:i≠j):(d.set i x).getD j 0=d.getD j 0:=by simp only [List.getD,List.getElem?_set_ne h]
theorem sum_set_lt:∀ {d:List Nat} {i x:Nat},i < d.length→x < d.getD i 0→(d.set i x).sum < d.sum
 | [],i,x,h,_=>by simp at h
 | a :: d,0,x,_,h=>by
  simp at h
  simp [List.sum_cons]; exact h
 | a :: d,i+1,x,h,h2=>by
  have:=sum_set_lt (d:=d) (i:=i) (x:=x) (by simpa using h) (by simpa using h2)
  simp [List.sum_cons]; exact this
theorem Dok.step {es:List (Nat × Nat × Nat)} {c:Nat→Nat} {G:Nat→Bool} {d:List Nat} {e:Nat × Nat × Nat} (h:Dok es c G d) (he:e ∈ es) (hf:e.1 < d.length) (ht:e.2.2 < d.length) (hlt:d.getD e.2.2 0+c e.2.1 < d.getD e.1 0):Dok es c G (d.set e.1 (d.getD e.2.2 0+c e.2.1)):={
 z0:=fun i hi hG=>by
  rw [List.length_set] at hi
  by_cases hie:e.1=i
  ·subst hie
   have:=h.z0 _ hf hG
   omega
  ·rw [getD_set_ne hie]; exact h.z0 i hi hG
 le:=fun i hi=>by
  rw [List.length_set] at hi
  by_cases hie:e.1=i
  ·subst hie
   rw [getD_set_same hf]
   have:=h.le _ hf
   omega
  ·rw [getD_set_ne hie]; exact h.le i hi
 low:=fun H hH i hi=>by
  rw [List.length_set] at hi
  by_cases hie:e.1=i
  ·subst hie
   rw [getD_set_same hf]
   have h1:=hH.st e he
   have h2:=h.low H hH e.2.2 ht
   omega
  ·rw [getD_set_ne hie]; exact h.low H hH i hi }
end Go.Rx
namespace Go.Proofs.YtkhfdmelcpfgoaaGreat
open Go Go.W Go.Tk Go.Rx Go.Maps
def edO (e:Ed):Obj:=.cells #[.int .i64 (e.1:Nat),.int .i64 (e.2.1:Nat),.int .i64 (e.2.2:Nat)] 61 (0,0)
theorem st_ed {wa w:World} {F:List Nat} {X:Asr} {KW:Kont World} {e:Ed} {b:Nat} (hX:Lcl X) (h:At w F X wa) (hb:b=wa.heap.size) (H:∀ w2,At w F (Star (ObjA b (edO e)) X) w2→KW.run w2) :
  @stJ (wa.alloc (.cells #[.int .i64 0,.int .i64 0,.int .i64 0] 61 (0,0))) ⟨b,0,none⟩ [.int .i64 (e.1:Nat),.int .i64 (e.2.1:Nat),.int .i64 (e.2.2:Nat)] KW:=by
 have h1:At w F (Star (ObjA b (.cells #[.int .i64 0,.int .i64 0,.int .i64 0] 61 (0,0))) X) (wa.alloc (.cells #[.int .i64 0,.int .i64 0,.int .i64 0] 61 (0,0))):=by rw [hb]; exact h.alloc _ hX
 exact h1.st hX (by simp) (by simp) fun w2 h2=>H w2 (by simpa [edO] using h2)
def goalB (T:Nt) (i:Nat):Bool:=match (stsK T.vars T.vars.length)[i]? with | some s=>hdB s T.goal | none=>false
def d0 (T:Nt) (i:Nat):Nat:=if goalB T i=true then 0 else Inf
theorem d0_ok (T:Nt) (es:List Ed) (c:Nat→Nat) (n:Nat):Dok es c (goalB T) (tabN n (d0 T)):={
 z0:=fun i hi h=>by
  rw [tabN_len] at hi
  simp only [List.getD,tabN_at hi,Option.getD_some]
  unfold d0; rw [if_pos h]
 le:=fun i hi=>by
  rw [tabN_len] at hi
  simp only [List.getD,tabN_at hi,Option.getD_some]
  unfold d0; split
  ·omega
  ·exact Nat.le_refl _
 low:=fun H hH i hi=>by
  rw [tabN_len] at hi
  simp only [List.getD,tabN_at hi,Option.getD_some]
  unfold d0; split
  ·rename_i h; rw [hH.z i h]; exact Nat.le_refl _
  ·exact hH.le i }
def CvOk (T:Nt) (cv:Value) (c:Nat→Nat) (w:World):Prop:=(cv=.slice none 0 0∧∀ i o,T.ops[i]?=some o→c i=o.cost)∨∃ cl a cap,cv=.slice (some a) cl.length cap∧Vw w cv nE cl∧cl.length=T.ops.length∧∀ i,c i=cl.getD i 0
theorem CvOk.kp {T:Nt} {cv:Value} {c:Nat→Nat} {w w':World} (h:CvOk T cv c w) (k:Kp [] w w'):CvOk T cv c w':=by
 rcases h with h | ⟨cl,a,cap,h1,h2,h3⟩
 ·exact .inl h
 ·exact .inr ⟨cl,a,cap,h1,h2.kp0 k,h3⟩
def DsI (T:Nt) (cv dv ev:Value) (b:Nat) (c:Nat→Nat) (N:Nat) (w:World) (n:Nat) (ρ:Env) (w':World):Prop :=
 ρ 1=cv∧ρ 2=.pointer (some ⟨b,0,none⟩)∧ρ 6=dv∧ρ 9=ev∧∃ d ch,ρ 10=.bool ch∧d.length=N∧Dok (edA T) c (goalB T) d∧(ch=false→DClo (edA T) c d)∧n=(if ch then d.sum+1 else 0)∧At w [] (Star (OwnA dv 3 1 nE d) (Star (OwnA ev 61 3 edE (edA T)) Emp)) w'
structure Dsf (T:Nt) (c:Nat→Nat) (N s0 k:Nat) (ch:Bool) (d:List Nat):Prop where
 len:d.length=N
 ok:Dok (edA T) c (goalB T) d
 clo:ch=false→DClo ((edA T).take k) c d
 lt:ch=true→d.sum < s0
 le:d.sum≤s0
def DsE (T:Nt) (cv dv ev:Value) (b:Nat) (c:Nat→Nat) (N s0:Nat) (w:World) (k:Nat) (ρ:Env) (w':World):Prop :=
 ρ 1=cv∧ρ 2=.pointer (some ⟨b,0,none⟩)∧ρ 6=dv∧ρ 9=ev∧ρ 41=ev∧∃ d ch,ρ 10=.bool ch∧Dsf T c N s0 k ch d∧At w [] (Star (OwnA dv 3 1 nE d) (Star (OwnA ev 61 3 edE (edA T)) Emp)) w'
theorem upd_upto {g:Nat→Nat} {i x:Nat} (hx:g i=x) (y:Nat):updN (updN (upto i g 0) i y) i x=upto (i+1) g 0:=by
 rw [← upto_succ,hx]
 funext j
 by_cases h:j=i
 ·subst h; simp
 ·rw [updN_ne h,updN_ne h,updN_ne h]
theorem ed_rng {T:Nt} (hT:SmT T) {e:Ed} (he:e ∈ edA T):e.1 < (stsK T.vars T.vars.length).length∧e.2.1 < T.ops.length∧e.2.2 < (stsK T.vars T.vars.length).length:=by
 obtain ⟨s,o,h1,h2,h3,h4⟩:=edK_mem he
 refine ⟨(List.getElem?_eq_some_iff.1 h1).1,(List.getElem?_eq_some_iff.1 h2).1,?_⟩
 have hst:=apS_st (sts_st (List.mem_of_getElem? h1)) (hT.g.ops o (List.mem_of_getElem? h2))
 rw [h4]
 exact (List.getElem?_eq_some_iff.1 (rk_all hst)).1
set_option maxHeartbeats 1000000 in
theorem distances_spec {w:World} (T:Nt) (cv:Value) (c:Nat→Nat) (hr:NtR w T) (hT:SmT T) (hc:CvOk T cv c w) (hcb:∀ i,i < T.ops.length→c i≤1048576) :
  Calls Tryz.prog 11 [ntV T,cv].toArray w fun e w'=>∃ u,e=.returned u∧∃ d,d.length=(stsK T.vars T.vars.length).length∧Dok (edA T) c (goalB T) d∧DClo (edA T) c d∧Vw w' u nE d∧Kp [] w w':=by
 refine enter Tryz.func11 mixed low11 (Nat.le_of_ble_eq_true rfl) ?_
 simp only [L11]
 have hg:=hT.g
 have hol:=hT.ol
 have hvl:=hT.vl
 obtain ⟨b,hb⟩:∃ b,b=w.heap.size:=⟨_,rfl⟩
 obtain ⟨w1,hw1⟩:∃ w1,w1=w.alloc (ntO T):=⟨_,rfl⟩
 have k1:Kp [] w w1:=by rw [hw1]; exact (Kp.refl [] w).alloc _
 have hw1':w.alloc (.cells #[T.vv.1,T.nv.1,T.gv.1,T.ov.1] 26 (0,0))=w1:=by rw [hw1]; rfl
 have hob:w1.heap[b]?=some (.cells #[T.vv.1,T.nv.1,T.gv.1,T.ov.1] 26 (0,0)):=by rw [hb,hw1]; exact alloc_new
 have hr1:=hr.kp k1
 simp [ntV,← hb,hw1',cell_blk hob]
 refine cl_of (states_spec T.vv.1 T.vars hr1.vars (by omega) (fun n hn=>by have:=hg.vars n hn; omega) (SmT.sts hT) (fun k hk s hs=>by have:=(sts_ok k hk s hs).1; omega)) ?_
 rintro all w2 h2
 have hls:=LLA.vw h2
 have k2:=k1.trans0 h2.kp
 have ob2:=h2.kp.blk hob (by simp)
 have hr2:=hr.kp k2
 have hc2:=hc.kp k2
 obtain ⟨ps,hpl,hpv,hpr⟩:=hls.spread
 have h512:=sts512 hT
 obtain ⟨N,hN⟩:∃ N,N=ps.length:=⟨_,rfl⟩
 have hN512:N≤512:=by omega
 simp [hpv.len,← hN]
 refine gd_mk (by omega) ?_
 have h3:=(At.start rfl:At w2 [] Emp w2).made (E:=3) (enc:=nE) (x:=0) (z:=[.int .i64 0]) (n:=N) .emp rfl nE_len (by unfold maxLen; omega)
 rw [upto_zero N 0 (d0 T)] at h3
 obtain ⟨dv,hdv⟩:∃ dv,dv=Value.slice (some ⟨w2.heap.size,0,none⟩) N N:=⟨_,rfl⟩
 rw [← hdv] at h3
 simp [← hdv,hpv.len,← hN]
 refine range_loop (n:=N) (by omega) (fun i ρ w'=>ρ 1=cv∧ρ 2=.pointer (some ⟨b,0,none⟩)∧ρ 6=dv∧ρ 20=all∧At w2 [] (Star (OwnA dv 3 1 nE (tabN N (upto i (d0 T) 0))) Emp) w') (by simp) (by simp)
  ⟨by simp,by simp,by simp,by simp,by simpa using h3⟩ (by decide) (fun _ _ _ _ h=>by simpa using h) (fun _ _ _ _ h=>by simpa using h) ?_ ?_
 ·rintro i ρ w4 hi hci hli ⟨g1,g2,g6,g20,h4⟩
  obtain ⟨p,hp⟩:∃ p,ps[i]?=some p:=⟨_,List.getElem?_eq_getElem (by omega)⟩
  obtain ⟨s,hsk,hsv⟩:=hpr i p hp
  have hst:=sts_st (List.mem_of_getElem? hsk)
  have hpv4:=hpv.kp0 h4.kp
  have ep:w4.cell? (all.adr.add i)=some p.1.1:=by simpa using hpv4.at_ sv1_len hp (o:=0) (u:=p.1.1) rfl
  have hki:(i:Int) < ps.length:=by omega
  have hiN:(i:Int) < N:=by omega
  have htl:(tabN N (upto i (d0 T) 0)).length=N:=tabN_len _ _
  simp (disch:=omega) [g2,g6,g20,hci,hli,hpv4.idx,ep,h4.own.idx,htl]
  refine h4.store1 .emp nE_len nE_one (k:=i) (by omega) (x:=Inf) rfl fun w5 h5=>?_
  rw [tabN_set hi] at h5
  have ob5:=h5.kp.blk ob2 (by simp)
  have hgl:=hg.goal.len
  simp [g2,cell_blk ob5]
  refine cl_of (holds_spec T.gv.1 p.1.1 T.goal s (hr2.kp h5.kp).goal (hsv.kp0 h5.kp) (by omega) (fun f hf=>by rw [hst.len]; exact (hg.goal.rng f hf).1)) ?_
  rintro _ w6 ⟨rfl,k6⟩
  have h6:=h5.kp0 (Lcl.own.star .emp) k6
  have hgi:goalB T i=hdB s T.goal:=by unfold goalB; rw [hsk]
  cases hh:hdB s T.goal with
  | false =>
   have e:d0 T i=Inf:=by unfold d0; rw [hgi,hh]; rfl
   rw [← e,upto_succ] at h6
   simp [g1,g2,g6,g20,hci,hli]
   exact h6
  | true =>
   have e:d0 T i=0:=by unfold d0; rw [hgi,hh]; rfl
   have htl6:(tabN N (updN (upto i (d0 T) 0) i Inf)).length=N:=tabN_len _ _
   simp (disch:=omega) [g6,hci,h6.own.idx,htl6]
   refine h6.store1 .emp nE_len nE_one (k:=i) (by omega) (x:=0) rfl fun w7 h7=>?_
   rw [tabN_set hi,upd_upto e Inf] at h7
   simp [g1,g2,g6,g20,hci,hli]
   exact h7
 rintro ρ w4 ⟨g1,g2,g6,g20,h4⟩
 rw [upto_all] at h4
 have ob4:=h4.kp.blk ob2 (by simp)
 have rt:cellsAt w4 ⟨b,0,none⟩ 0 4=some [T.vv.1,T.nv.1,T.gv.1,T.ov.1]:=by simp [cellsAt,Addr.add,cell_blk ob4]
 simp [g2,rt]
 refine cl_of (edges_spec T (hr2.kp h4.kp) hT) ?_
 rintro ev w5 h5
 have h6:=(At.join (Lcl.own.star .emp) h4 h5).by Imp.sw
 simp
 refine loop_inv (DsI T cv dv ev b c N w2) ((tabN N (d0 T)).sum+1) ⟨by simp [g1],by simp [g2],by simp [g6],by simp,_,true,by simp,tabN_len _ _,d0_ok T (edA T) c N,by simp,rfl,h6⟩ ?_
 clear g1 g2 g6 g20 h4 h5 h6 rt ob4
 rintro n ρ w6 ⟨g1,g2,g6,g9,d,ch,g10,hdl,hok,hcl,rfl,h6⟩
 cases ch with
 | false =>
  simp [g10,g6]
  exact ⟨d,by omega,hok,hcl rfl,h6.own.vw,k2.trans0 h6.kp⟩
 | true =>
  have hel:=edK_len T (stsK T.vars T.vars.length).length
  have hel2:(stsK T.vars T.vars.length).length * T.ops.length≤512 * 20:=Nat.mul_le_mul (by omega) hol
  have helA:(edA T).length≤10240:=by show (edK T (stsK T.vars T.vars.length).length).length≤_; omega
  obtain ⟨s0,hs0⟩:∃ s0,s0=d.sum:=⟨_,rfl⟩
  obtain ⟨M,hM⟩:∃ M,M=(edA T).length:=⟨_,rfl⟩
  simp [g10,g9,h6.drop.own.vw.len,← hM]
  refine range_loop (n:=M) (by omega) (DsE T cv dv ev b c N s0 w2) (by simp) (by simp)
   ⟨by simp [g1],by simp [g2],by simp [g6],by simp [g9],by simp,d,false,by simp,⟨hdl,hok,fun _ e he=>by simp at he,by simp,by omega⟩,by simpa using h6⟩ (by decide) (fun _ _ _ _ h=>by unfold DsE at h ⊢; simpa using h) (fun _ _ _ _ h=>by unfold DsE at h ⊢; simpa using h) ?_ ?_
  rotate_left
  ·clear g1 g2 g6 g9 g10 h6
   rintro ρ w7 ⟨g1,g2,g6,g9,g41,d2,ch2,g10,hF,h7⟩
   simp
   have hcl2:=hF.clo
   rw [hM,List.take_length] at hcl2
   refine ⟨_,?_,g1,g2,g6,g9,d2,ch2,g10,hF.len,hF.ok,hcl2,rfl,h7⟩
   cases ch2 with
   | false=>simp
   | true=>have:=hF.lt rfl; simp; omega
  clear g1 g2 g6 g9 g10 h6 hcl hok
  rintro k ρ w7 hk hck hlk ⟨g1,g2,g6,g9,g41,d2,ch2,g10,hF,h7⟩
  obtain ⟨e,he⟩:∃ e,(edA T)[k]?=some e:=⟨_,List.getElem?_eq_getElem (by omega)⟩
  have hem:=List.mem_of_getElem? he
  obtain ⟨r1,r2,r3⟩:=ed_rng hT hem
  obtain ⟨ef,eq,et⟩:=e
  simp only at r1 r2 r3
  obtain ⟨o,ho⟩:∃ o,T.ops[eq]?=some o:=⟨_,List.getElem?_eq_getElem r2⟩
  have hcq:=hcb eq r2
  obtain ⟨fb,hfb⟩:∃ fb,fb=w7.heap.size:=⟨_,rfl⟩
  have hLX:∀ l:List Nat,Lcl (Star (OwnA dv 3 1 nE l) (Star (OwnA ev 61 3 edE (edA T)) Emp)):=fun _=>Lcl.own.star (Lcl.own.star .emp)
  refine seq_cut (fun ρ w'=>ρ 1=cv∧ρ 2=.pointer (some ⟨b,0,none⟩)∧ρ 6=dv∧ρ 9=ev∧ρ 41=ev∧ρ 42=.int .i64 (M:Nat)∧ρ 43=.int .i64 (k:Nat)∧ρ 10=.bool ch2∧ρ 12=.pointer (some ⟨fb,0,none⟩)∧At w2 [] (Star (ObjA fb (edO (ef,eq,et))) (Star (OwnA dv 3 1 nE d2) (Star (OwnA ev 61 3 edE (edA T)) Emp))) w') ?_ ?_
  ·have hev:=h7.drop.own.vw
   have ec:=hev.cells edE_len he
   simp only [edE] at ec
   have hki:(k:Int) < (edA T).length:=by omega
   simp (disch:=omega) [g9,g41,hck,hlk,hev.idx,ec,← hfb]
   refine st_ed (e:=(ef,eq,et)) (hLX _) h7 hfb fun w8 h8=>?_
   simp [g1,g2,g6,g9,g41,g10,hck,hlk,← hfb]
   exact h8
  clear g1 g2 g6 g9 g41 g10 hck hlk h7 hfb
  rintro ρ w7 ⟨g1,g2,g6,g9,g41,g42,g43,g10,g12,h7⟩
  have oe7:=h7.obj
  unfold edO at oe7
  have ob7:=h7.kp.blk ob2 (by simp)
  have hr7:=(hr2.kp h7.kp).ops
  have hqi:(eq:Int) < T.ops.length:=by omega
  refine seq_cut (fun ρ w'=>ρ 1=cv∧ρ 2=.pointer (some ⟨b,0,none⟩)∧ρ 6=dv∧ρ 9=ev∧ρ 41=ev∧ρ 42=.int .i64 (M:Nat)∧ρ 43=.int .i64 (k:Nat)∧ρ 10=.bool ch2∧ρ 12=.pointer (some ⟨fb,0,none⟩)∧ρ 13=.int .i64 (o.cost:Nat)∧w'=w7) ?_ ?_
  ·have c1:=hr7.fld noE_len ho (o:=1) (u:=.int .i64 (o.cost:Nat)) rfl
   simp (disch:=omega) [g1,g2,g6,g9,g41,g42,g43,g10,g12,cell_blk ob7,cell_blk oe7,hr7.idx,c1]
  clear g1 g2 g6 g9 g41 g42 g43 g10 g12
  rintro ρ w7 ⟨g1,g2,g6,g9,g41,g42,g43,g10,g12,g13,rfl⟩
  refine seq_cut (fun ρ w'=>ρ 1=cv∧ρ 2=.pointer (some ⟨b,0,none⟩)∧ρ 6=dv∧ρ 9=ev∧ρ 41=ev∧ρ 42=.int .i64 (M:Nat)∧ρ 43=.int .i64 (k:Nat)∧ρ 10=.bool ch2∧ρ 12=.pointer (some ⟨fb,0,none⟩)∧ρ 13=.int .i64 (c eq:Nat)∧w'=w7) ?_ ?_
  ·rcases hc2.kp h7.kp with ⟨rfl,hcc⟩ | ⟨cl,a,cap,e1,hcv,hcll,hcc⟩
   ·have:=hcc eq o ho
    rw [← this] at g13
    simp [g1,g2,g6,g9,g41,g42,g43,g10,g12,g13]
   ·obtain ⟨x,hx⟩:∃ x,cl[eq]?=some x:=⟨_,List.getElem?_eq_getElem (by omega)⟩
    have hxe:c eq=x:=by rw [hcc eq]; simp [List.getD,hx]
    have hqc:(eq:Int) < cl.length:=by omega
    have c2:=nE_cell hcv hx
    subst e1
    have c2:w7.cell? (a.add eq)=some (.int .i64 (x:Nat)):=c2
    simp (disch:=omega) [g1,g2,g6,g9,g41,g42,g43,g10,g12,cell_blk oe7,hcv.idx,c2,hxe]
  clear g1 g2 g6 g9 g41 g42 g43 g10 g12 g13
  rintro ρ w7 ⟨g1,g2,g6,g9,g41,g42,g43,g10,g12,g13,rfl⟩
  have h8:=h7.by Imp.sw
  have hO:=h8.own
  have hdl2:=hF.len
  have tki:(edA T).take (k+1)=(edA T).take k ++ [(ef,eq,et)]:=take_snoc he
  obtain ⟨xt,hxt⟩:∃ x,d2[et]?=some x:=⟨_,List.getElem?_eq_getElem (by omega)⟩
  obtain ⟨xf,hxf⟩:∃ x,d2[ef]?=some x:=⟨_,List.getElem?_eq_getElem (by omega)⟩
  have hxtd:d2.getD et 0=xt:=by simp [List.getD,hxt]
  have hxfd:d2.getD ef 0=xf:=by simp [List.getD,hxf]
  have hti:(et:Int) < d2.length:=by omega
  have hfi:(ef:Int) < d2.length:=by omega
  have hxtI:xt≤Inf:=by rw [← hxtd]; exact hF.ok.le et (by omega)
  obtain ⟨cq,hcqe⟩:∃ cq,cq=c eq:=⟨_,rfl⟩
  rw [← hcqe] at g13 hcq
  obtain ⟨sm,hsm⟩:∃ sm,sm=xt+cq:=⟨_,rfl⟩
  have esm:(xt:Int)+(cq:Int)=(sm:Int):=by omega
  have hInf:Inf=1125899906842624:=rfl
  have cO:=hO.vw
  have ct:=nE_cell cO hxt
  have cf:=nE_cell cO hxf
  have ixt:=fun {K:Kont Value}=>cO.idx (P:=Tryz.prog) (T:=22) (k:=.i64) (i:=(et:Int)) (K:=K) (by omega) hti
  by_cases s1:xt < Inf
  ·have s1':(xt:Int) < 1125899906842624:=by omega
   by_cases s2:sm < xf
   ·have s2':(sm:Int) < (xf:Int):=by omega
    simp (disch:=omega) [g1,g2,g6,g9,g41,g42,g43,g10,g12,g13,cell_blk oe7,cO.idx,ct,cf,s1',s2',esm,wrap_i64]
    have ea:dv.adr.add ef=⟨dv.blk,ef,none⟩:=by
     rcases hO with ⟨rfl,h⟩ | ⟨g,cap,cur,junk,rfl,hh,_⟩
     ·rw [h] at hfi; simp at hfi; omega
     ·simp [Value.adr,Value.blk,Addr.add]; try omega
    rw [ea]
    have hLE:Lcl (Star (ObjA fb (edO (ef,eq,et))) (Star (OwnA ev 61 3 edE (edA T)) Emp)):=Lcl.obj.star (Lcl.own.star .emp)
    have h9:=(h8.drew (Lcl.own.star hLE)).drew (Lcl.own.star hLE)
    refine h9.store1 hLE nE_len nE_one (k:=ef) (by omega) (x:=sm) rfl fun w9 h10=>?_
    simp [g42,g43]
    unfold DsE
    have hst1:=hF.ok.step hem (by simp; omega) (by simp; omega) (by show d2.getD et 0+c eq < d2.getD ef 0; omega)
    have hst2:Dok (edA T) c (goalB T) (d2.set ef sm):=by
     have e:d2.getD et 0+c eq=sm:=by omega
     simpa only [e] using hst1
    have hslt:(d2.set ef sm).sum < d2.sum:=sum_set_lt (by omega) (by omega)
    have hle:=hF.le
    refine ⟨by simp [g1],by simp [g2],by simp [g6],by simp [g9],by simp [g41],d2.set ef sm,true,by simp,⟨by rw [List.length_set]; exact hdl2,hst2,(fun h=>by cases h),(fun _=>by omega),by omega⟩,?_⟩
    exact (h10.by (Imp.un Imp.dr))
   ·have s2':¬ (sm:Int) < (xf:Int):=by omega
    simp (disch:=omega) [g1,g2,g6,g9,g41,g42,g43,g10,g12,g13,cell_blk oe7,cO.idx,ct,cf,s1',s2',esm,wrap_i64]
    unfold DsE
    refine ⟨by simp [g1],by simp [g2],by simp [g6],by simp [g9],by simp [g41],d2,ch2,by simp [g10],⟨hdl2,hF.ok,fun hc=>?_,hF.lt,hF.le⟩,?_⟩
    ·rw [tki]
     intro x hx
     rcases List.mem_append.1 hx with h | h
     ·exact hF.clo hc x h
     ·simp at h; subst h
      intro hh
      have hh:d2.getD et 0 < Inf:=hh
      show d2.getD ef 0≤d2.getD et 0+c eq
      omega
    ·exact ((h7.drop).drew (hLX _))
  ·have s1':¬ (xt:Int) < 1125899906842624:=by omega
   simp (disch:=omega) [g1,g2,g6,g9,g41,g42,g43,g10,g12,g13,cell_blk oe7,cO.idx,ct,cf,s1',esm,wrap_i64]
   unfold DsE
   refine ⟨by simp [g1],by simp [g2],by simp [g6],by simp [g9],by simp [g41],d2,ch2,by simp [g10],⟨hdl2,hF.ok,fun hc=>?_,hF.lt,hF.le⟩,?_⟩
   ·rw [tki]
    intro x hx
    rcases List.mem_append.1 hx with h | h
    ·exact hF.clo hc x h
    ·simp at h; subst h
     intro hh
     have hh:d2.getD et 0 < Inf:=hh
     show d2.getD ef 0≤d2.getD et 0+c eq
     omega
   ·exact ((h7.drop).drew (hLX _))
end Go.Proofs.YtkhfdmelcpfgoaaGreat
end
section
set_option maxRecDepth 100000
set_option linter.unusedSimpArgs false
set_option linter.unusedVariables false
namespace Go.Proofs.YtkhfdmelcpfgoaaGreat
open Go Go.W Go.Tk Go.Rx Go.Bd Go.Sy Go.Maps
theorem cst_le {T:Nt} (hg:NtG T):∀ i,i < T.ops.length→cst T [] i≤1048576:=fun i hi=>by
 unfold cst
 simp only [List.length_nil,if_true]
 rw [List.getElem?_eq_getElem hi]
 exact (hg.ops _ (List.getElem_mem hi)).cost
set_option maxHeartbeats 1000000 in
theorem best_spec {w:World} (T:Nt) (hr:NtR w T) (hT:SmT T) :
  Calls Tryz.prog 16 [ntV T].toArray w fun e w'=>∃ x,e=.returned x∧∃ d,d.length=(stsK T.vars T.vars.length).length∧Dok (edA T) (cst T []) (goalB T) d∧DClo (edA T) (cst T []) d∧x=.int .i64 (d.getD (rkK T.vars T.init T.vars.length) 0:Nat)∧Kp [] w w':=by
 refine enter Tryz.func16 mixed low16 (Nat.le_of_ble_eq_true rfl) ?_
 simp only [L16]
 have hg:=hT.g
 have hvl:=hT.vl
 obtain ⟨b,hb⟩:∃ b,b=w.heap.size:=⟨_,rfl⟩
 obtain ⟨w1,hw1⟩:∃ w1,w1=w.alloc (ntO T):=⟨_,rfl⟩
 have k1:Kp [] w w1:=by rw [hw1]; exact (Kp.refl [] w).alloc _
 have hw1':w.alloc (.cells #[T.vv.1,T.nv.1,T.gv.1,T.ov.1] 26 (0,0))=w1:=by rw [hw1]; rfl
 have hob:w1.heap[b]?=some (.cells #[T.vv.1,T.nv.1,T.gv.1,T.ov.1] 26 (0,0)):=by rw [hb,hw1]; exact alloc_new
 have hcv:∀ w',CvOk T (.slice none 0 0) (cst T []) w':=fun w'=>.inl ⟨rfl,fun i o ho=>by unfold cst; simp [ho]⟩
 have hst:StN T.vars T.init:=⟨hg.ilen,fun v hv=>hg.init v (by rw [hg.ilen]; exact hv)⟩
 have kd:=(Kp.refl [] w1).drew
 have obd:=kd.blk hob (by simp)
 have hrd:=hr.kp (k1.trans kd)
 have rt:cellsAt w1.drew ⟨b,0,none⟩ 0 4=some [T.vv.1,T.nv.1,T.gv.1,T.ov.1]:=by simp [cellsAt,Addr.add,cell_blk obd]
 simp [ntV,← hb,hw1',rt,cell_blk obd]
 refine ⟨?_,?_,?_,?_⟩ <;>
 ·refine cl_of (distances_spec T (.slice none 0 0) (cst T []) hrd hT (hcv _) (cst_le hg)) ?_
  rintro bv w2 ⟨d,hdl,hdok,hdcl,hdv,k2⟩
  have ob2:=k2.blk obd (by simp)
  simp [cell_blk ob2]
  refine cl_of (rank_spec T.vv.1 T.nv.1 T.vars T.init (hrd.kp k2).vars (hrd.kp k2).init hst.len (by rw [hst.len]; omega) (fun k hk=>by have:=rk_sm hT hst k (by rw [← hst.len]; exact hk); omega)) ?_
  rintro _ w3 ⟨rfl,k3⟩
  rw [hst.len]
  have hrl:rkK T.vars T.init T.vars.length < d.length:=by rw [hdl]; exact (List.getElem?_eq_some_iff.1 (rk_all hst)).1
  obtain ⟨x,hx⟩:∃ x,d[rkK T.vars T.init T.vars.length]?=some x:=⟨_,List.getElem?_eq_getElem hrl⟩
  have hxd:d.getD (rkK T.vars T.init T.vars.length) 0=x:=by simp [List.getD,hx]
  have hdv3:=hdv.kp0 k3
  have hkd:((rkK T.vars T.init T.vars.length:Nat):Int) < d.length:=by omega
  simp (disch:=omega) [hdv3.idx,nE_cell hdv3 hx]
  exact ⟨d,hdl,hdok,hdcl,by rw [hx]; rfl,k1.trans (kd.trans (k2.trans k3))⟩
theorem cst_kB (T:Nt) (i:Nat):cst T [] i=kB T i:=by
 unfold cst kB
 simp only [List.length_nil,if_true]
 cases T.ops[i]? <;> rfl
theorem edS_in {T:Nt} {i:Nat} {s:List Nat} {op:Nat} {o:No} (ho:T.ops[op]?=some o) (hp:hdB s o.pre=true):∀ q,op < q→(i,op,rkK T.vars (apS o s) T.vars.length) ∈ edS T i s q
 | 0,h=>by omega
 | q+1,h=>by
  unfold edS
  by_cases e:op=q
  ·subst e
   refine List.mem_append.2 (.inr ?_)
   rw [ho]
   simp [hp]
  ·exact List.mem_append.2 (.inl (edS_in ho hp q (by omega)))
theorem edK_in {T:Nt} {i:Nat} {s:List Nat} {op:Nat} {o:No} (hs:(stsK T.vars T.vars.length)[i]?=some s) (ho:T.ops[op]?=some o) (hp:hdB s o.pre=true):∀ n,i < n→(i,op,rkK T.vars (apS o s) T.vars.length) ∈ edK T n
 | 0,h=>by omega
 | n+1,h=>by
  unfold edK
  by_cases e:i=n
  ·subst e
   refine List.mem_append.2 (.inr ?_)
   rw [hs]
   exact edS_in ho hp _ (List.getElem?_eq_some_iff.1 ho).1
  ·exact List.mem_append.2 (.inl (edK_in hs ho hp n (by omega)))
end Go.Proofs.YtkhfdmelcpfgoaaGreat
end
section
set_option maxRecDepth 100000
set_option linter.unusedSimpArgs false
set_option linter.unusedVariables false
namespace Go.Proofs.YtkhfdmelcpfgoaaGreat
open Go Go.W Go.Tk Go.Rx Go.Bd Go.Sy Go.Maps
def hR (T:Nt) (H:List Nat→Nat) (i:Nat):Nat:=match (stsK T.vars T.vars.length)[i]? with | some s=>min Inf (H s) | none=>0
theorem hR_at {T:Nt} {H:List Nat→Nat} {i:Nat} {s:List Nat} (h:(stsK T.vars T.vars.length)[i]?=some s):hR T H i=min Inf (H s):=by unfold hR; rw [h]
section
variable {T:Nt} {d:List Nat}
theorem lo_low {H:List Nat→Nat} (hg:NtG T) (hl:LoT T H):Low (edA T) (cst T []) (goalB T) (hR T H):=by
 refine ⟨fun i=>?_,fun i h=>?_,fun e he=>?_⟩
 ·unfold hR
  split
  ·omega
  ·omega
 ·unfold goalB at h
  cases hsi:(stsK T.vars T.vars.length)[i]? with
  | none=>unfold hR; rw [hsi]
  | some s =>
   rw [hsi] at h
   rw [hR_at hsi,hl.1 s (sts_st (List.mem_of_getElem? hsi)) h]
   omega
 ·obtain ⟨s,o,h1,h2,h3,h4⟩:=edK_mem he
  have hs:=sts_st (List.mem_of_getElem? h1)
  have hst:=apS_st hs (hg.ops o (List.mem_of_getElem? h2))
  have h5:=hl.2 e.2.1 s (apS o s) hs hst ⟨hs,hst,o,h2,by simp only [Bool.false_eq_true,if_false]; exact ⟨h3,trivial⟩⟩
  rw [hR_at h1,h4,hR_at (rk_all hst),cst_kB]
  omega
theorem dist_le (hg:NtG T) (hd:Dok (edA T) (cst T []) (goalB T) d) (hcl:DClo (edA T) (cst T []) d) (hdl:d.length=(stsK T.vars T.vars.length).length):∀ {l s z c},StN T.vars s→RunT T s l z c→GoalT T z→c < Inf→d.getD (rkK T.vars s T.vars.length) 0≤c
 | [],s,z,c,hs,h,hz,hc=>by
  obtain ⟨rfl,rfl⟩:=h
  have h1:=rk_all hs
  rw [hd.z0 _ (by rw [hdl]; exact (List.getElem?_eq_some_iff.1 h1).1) (by unfold goalB; rw [h1]; exact hz)]
  exact Nat.le_refl _
 | op :: l,s,z,c,hs,h,hz,hc=>by
  obtain ⟨o,ho,h1,h2,h3⟩:=h
  have hst:=apS_st hs (hg.ops o (List.mem_of_getElem? ho))
  have ih:=dist_le hg hd hcl hdl hst h3 hz (by omega)
  have h4:=rk_all hs
  have he:(rkK T.vars s T.vars.length,op,rkK T.vars (apS o s) T.vars.length) ∈ edA T:=edK_in h4 ho h1 _ (List.getElem?_eq_some_iff.1 h4).1
  have h5:=hcl _ he (by show d.getD (rkK T.vars (apS o s) T.vars.length) 0 < Inf; omega)
  have h5:d.getD (rkK T.vars s T.vars.length) 0≤d.getD (rkK T.vars (apS o s) T.vars.length) 0+cst T [] op:=h5
  rw [cst_kB,kB_at ho] at h5
  omega
theorem low_at (hg:NtG T) (hd:Dok (edA T) (cst T []) (goalB T) d) (hdl:d.length=(stsK T.vars T.vars.length).length) {H:List Nat→Nat} (hl:LoT T H):min Inf (H T.init)≤d.getD (rkK T.vars T.init T.vars.length) 0:=by
 have h1:=rk_all (init_st hg)
 have h2:=hd.low _ (lo_low hg hl) _ (by rw [hdl]; exact (List.getElem?_eq_some_iff.1 h1).1)
 rwa [hR_at h1] at h2
theorem res_best (hg:NtG T) (hd:Dok (edA T) (cst T []) (goalB T) d) (hcl:DClo (edA T) (cst T []) d) (hdl:d.length=(stsK T.vars T.vars.length).length) {lim vd c:Nat} {out:List Nat} (h:ResOk T lim vd out c) :
  (vd=3∧out=[]∧c=0∧Full T lim)∨(vd=2∧out=[]∧c=0∧d.getD (rkK T.vars T.init T.vars.length) 0=Inf)∨(vd=1∧d.getD (rkK T.vars T.init T.vars.length) 0=c∧c≤2000000000∧∃ z,GoalT T z∧RunT T T.init out z c):=by
 have hle:=hd.le _ (by rw [hdl]; exact (List.getElem?_eq_some_iff.1 (rk_all (init_st hg))).1)
 rcases h with h | ⟨h1,h2,h3,hI⟩ | ⟨h1,hcb,⟨z,hz,hrun⟩,H,hl,_,hi⟩
 ·exact .inl h
 ·obtain ⟨H,hl,_,hi⟩:=hI Inf
  have:=low_at hg hd hdl hl
  exact .inr (.inl ⟨h1,h2,h3,by omega⟩)
 ·have hc:c < Inf:=by unfold Inf; omega
  have h2:=low_at hg hd hdl hl
  have h3:=dist_le hg hd hcl hdl (init_st hg) hrun hz hc
  exact .inr (.inr ⟨h1,by omega,hcb,z,hz,hrun⟩)
end
end Go.Proofs.YtkhfdmelcpfgoaaGreat
end
