/-
  A part of the proof of this claim's statement (BiK, BiL, BiM): plain theorems; no conditions beyond those each names.
-/
import Derived.Test.YtkhfdmelcpfgoaaGreatPk25
section
set_option maxRecDepth 100000
set_option linter.unusedSimpArgs false
set_option linter.unusedVariables false
namespace Go.Proofs.YtkhfdmelcpfgoaaGreat
open Go Go.W Go.Tk Go.Rx Go.Bd Go.Sy Go.Maps
structure PtsOk (T:Nt) (d:Sd) (A:List Nat→Bool) (pl:List Kq) (Pp Al:List Nat→Bool):Prop where
 al:∀ z,StN T.vars z→(Al z=true↔(∃ p ∈ pl,p.2 z=true)∨Pp z=true)
 hd:(pl.map (·.2) ++ [Pp])[0]?=some A
 ch:∀ i (p p':List Nat→Bool),(pl.map (·.2) ++ [Pp])[i]?=some p→(pl.map (·.2) ++ [Pp])[i+1]?=some p'→∀ z,StN T.vars z→p' z=true→∃ op,kB T op=0∧∃ x,p x=true∧EB T d.bw op x z
 cz:∀ p ∈ pl,∀ x op z,p.2 x=true→StN T.vars z→kB T op=0→EB T d.bw op x z→Al z=true∨d.cl z=true
 dc:∀ z,StN T.vars z→Al z=true→d.cl z=false
 dj:∀ z,StN T.vars z→Pp z=true→∀ p ∈ pl,p.2 z=false
theorem PtsOk.begin {T:Nt} {d:Sd} {A:List Nat→Bool} (h:∀ z,A z=true→d.cl z=false):PtsOk T d A [] A A :=
 ⟨fun z _=>by simp,rfl,fun i p p' h1 h2=>by simp at h2,fun p hp=>(by cases hp),fun z _ e=>h z e,fun z _ _ p hp=>by cases hp⟩
theorem PtsOk.step {T:Nt} {d:Sd} {A:List Nat→Bool} {pl:List Kq} {Pp Al:List Nat→Bool} {pi:Nat} (hg:NtG T) (h:PtsOk T d A pl Pp Al):PtsOk T d A (pl ++ [(pi,Pp)]) (zrP T d Pp Al T.ops.length) (fun z=>Al z || zrP T d Pp Al T.ops.length z):={
 al:=fun z hz=>by
  rw [Bool.or_eq_true,h.al z hz]
  constructor
  ·rintro ((⟨p,hp,e⟩ | e) | e)
   ·exact .inl ⟨p,List.mem_append.2 (.inl hp),e⟩
   ·exact .inl ⟨(pi,Pp),List.mem_append.2 (.inr (List.mem_singleton.2 rfl)),e⟩
   ·exact .inr e
  ·rintro (⟨p,hp,e⟩ | e)
   ·rcases List.mem_append.1 hp with hp | hp
    ·exact .inl (.inl ⟨p,hp,e⟩)
    ·rcases List.mem_singleton.1 hp with rfl
     exact .inl (.inr e)
   ·exact .inr e
 hd:=by
  have h1:=h.hd
  rw [List.map_append,List.map_cons,List.map_nil]
  rw [List.getElem?_append_left (by simp)]
  exact h1
 ch:=fun i p p' h1 h2 z hz e=>by
  rw [List.map_append,List.map_cons,List.map_nil] at h1 h2
  have hlen:(pl.map (·.2) ++ [Pp]).length=pl.length+1:=by simp
  rcases Nat.lt_trichotomy (i+1) (pl.length+1) with hi | hi | hi
  ·rw [List.getElem?_append_left (by rw [hlen]; omega)] at h1
   rw [List.getElem?_append_left (by rw [hlen]; exact hi)] at h2
   exact h.ch i p p' h1 h2 z hz e
  ·have hil:i=pl.length:=by omega
   rw [List.getElem?_append_left (by rw [hlen]; omega),hil,List.getElem?_append_right (by simp)] at h1
   rw [List.getElem?_append_right (by rw [hlen]; omega),hlen,hi] at h2
   simp at h1 h2
   subst h1 h2
   obtain ⟨⟨op,x,h3,h4,h5⟩,_⟩:=(zrP_iff hg hz).1 e
   exact ⟨op,h3,x,h4,h5⟩
  ·have:=(List.getElem?_eq_some_iff.1 h2).1
   simp at this
   omega
 cz:=fun p hp x op z hx hz hk he=>by
  rw [Bool.or_eq_true]
  rcases List.mem_append.1 hp with hp | hp
  ·rcases h.cz p hp x op z hx hz hk he with e | e
   ·exact .inl (.inl e)
   ·exact .inr e
  ·rcases List.mem_singleton.1 hp with rfl
   cases ea:Al z with
   | true=>exact .inl (.inl rfl)
   | false =>
    cases ec:d.cl z with
    | true=>exact .inr rfl
    | false=>exact .inl (.inr ((zrP_iff hg hz).2 ⟨⟨op,x,hk,hx,he⟩,ea,ec⟩))
 dc:=fun z hz e=>by
  rw [Bool.or_eq_true] at e
  rcases e with e | e
  ·exact h.dc z hz e
  ·exact ((zrP_iff hg hz).1 e).2.2
 dj:=fun z hz e p hp=>by
  have ha:=((zrP_iff hg hz).1 e).2.1
  cases e2:p.2 z with
  | false=>rfl
  | true =>
   have:Al z=true:=by
    rw [h.al z hz]
    rcases List.mem_append.1 hp with hp | hp
    ·exact .inl ⟨p,hp,e2⟩
    ·rcases List.mem_singleton.1 hp with rfl
     exact .inr e2
   rw [ha] at this
   cases this }
theorem countP_lt {α:Type} {p q:α→Bool}:∀ {l:List α},(∀ z ∈ l,q z=true→p z=true)→(∃ z ∈ l,p z=true∧q z=false)→l.countP q < l.countP p
 | [],_,h=>by obtain ⟨z,hz,_⟩:=h; cases hz
 | a :: l,h,⟨z,hz,h1,h2⟩=>by
  have hle:l.countP q≤l.countP p:=List.countP_mono_left fun y hy e=>h y (List.mem_cons_of_mem _ hy) e
  rw [List.countP_cons,List.countP_cons]
  rcases List.mem_cons.1 hz with rfl | hz
  ·rw [h1,h2]
   simp
   omega
  ·have ih:=countP_lt (fun y hy e=>h y (List.mem_cons_of_mem _ hy) e) ⟨z,hz,h1,h2⟩
   have:=h a (List.mem_cons_self ..)
   cases eq:q a with
   | false=>simp; omega
   | true=>rw [this eq]; simp; omega
def cntC (T:Nt) (cl:List Nat→Bool):Nat:=(stsK T.vars T.vars.length).countP fun z=>!cl z
def cntR (T:Nt) (cl:List Nat→Bool) (pl:List Kq):Nat:=(stsK T.vars T.vars.length).countP fun z=>!cl z && !(pl.any fun p=>p.2 z)
theorem cntR_nil {T:Nt} {cl:List Nat→Bool}:cntR T cl []=cntC T cl:=by
 unfold cntR cntC
 simp
theorem cntR_step {T:Nt} {d:Sd} {A:List Nat→Bool} {pl:List Kq} {Pp Al:List Nat→Bool} {pi:Nat} (h:PtsOk T d A pl Pp Al) (hn:∃ z,StN T.vars z∧Pp z=true):cntR T d.cl (pl ++ [(pi,Pp)]) < cntR T d.cl pl:=by
 obtain ⟨z,hz,hp⟩:=hn
 refine countP_lt (fun y _ e=>?_) ⟨z,sts_mem.2 hz,?_,?_⟩
 ·simp only [List.any_append,Bool.and_eq_true,Bool.not_eq_true',Bool.or_eq_false_iff] at e ⊢
  exact ⟨e.1,e.2.1⟩
 ·have h1:=h.dc z hz ((h.al z hz).2 (.inr hp))
  have h2:(pl.any fun p=>p.2 z)=false:=by
   rw [List.any_eq_false]
   intro p hp'
   rw [h.dj z hz hp p hp']
   exact Bool.false_ne_true
  simp [h1,h2]
 ·simp [hp]
theorem cntR_last {T:Nt} {d:Sd} {A:List Nat→Bool} {pl:List Kq} {Pp Al:List Nat→Bool} {cl':List Nat→Bool} (h:PtsOk T d A pl Pp Al) (hn:∀ z,StN T.vars z→Pp z=false) (hc:∀ z,cl' z=(d.cl z || Al z)):cntC T cl'=cntR T d.cl pl:=by
 unfold cntC cntR
 refine List.countP_congr fun z hz=>?_
 have hs:=sts_st hz
 have ha:=h.al z hs
 rw [hn z hs] at ha
 rw [hc z,Bool.not_or]
 have:Al z=pl.any fun p=>p.2 z:=by
  rw [Bool.eq_iff_iff,ha,List.any_eq_true]
  simp
 rw [this]
def nSt (T:Nt):Nat:=(stsK T.vars T.vars.length).length
structure SdBd (T:Nt) (d:Sd):Prop where
 ol:T.ops.length≤20
 nN:nSt T≤512
 sum:(d.wl.map fun y=>y.pl.length).sum+cntC T d.cl≤nSt T
 wl:d.wl.length+cntC T d.cl≤nSt T
 oc:∀ p ∈ d.opn,p.1≤d.wl.length * 1048576
 wc:∀ y ∈ d.wl,y.cost≤d.wl.length * 1048576
 on:d.opn.length≤1+d.wl.length * 20
theorem SdBd.l {T:Nt} {d:Sd} (h:SdBd T d):SdL d:=⟨by have:=h.wl; have:=h.nN; omega,fun y hy=>by have:=sum_le hy; have:=h.sum; have:=h.nN; omega,by have:=h.sum; have:=h.nN; omega⟩
theorem SdBd.next {T:Nt} {d:Sd} {op':List (Nat × Kq)} (h:SdBd T d) (hs:∀ p ∈ op',∃ S,(p.1,S) ∈ d.opn) (hn:(op'.map (·.1)).Nodup):SdBd T { d with opn:=op' } :=
 ⟨h.ol,h.nN,h.sum,h.wl,fun p hp=>by obtain ⟨S,hS⟩:=hs p hp; exact h.oc (p.1,S) hS,h.wc,by
  have:=nodup_len (op'.map (·.1)) (d.opn.map (·.1)) hn fun x hx=>by
   obtain ⟨p,hp,rfl⟩:=List.mem_map.1 hx
   obtain ⟨S,hS⟩:=hs p hp
   exact List.mem_map.2 ⟨_,hS,rfl⟩
  simp at this
  exact Nat.le_trans this h.on⟩
structure OpnI (T:Nt) (bw:Bool) (c:Nat) (Al cl':List Nat→Bool) (op0:List (Nat × Kq)) (k:Nat) (opk:List (Nat × Kq)):Prop where
 old:∀ p ∈ op0,∃ S:Kq,(p.1,S) ∈ opk∧∀ z,StN T.vars z→p.2.2 z=true→S.2 z=true
 new:∀ p ∈ opk,c < p.1∧∀ z,StN T.vars z→p.2.2 z=true→(∃ S:Kq,(p.1,S) ∈ op0∧S.2 z=true)∨∃ op,0 < kB T op∧c+kB T op=p.1∧∃ x,Al x=true∧EB T bw op x z
 out:∀ op x z,op < k→Al x=true→StN T.vars z→0 < kB T op→EB T bw op x z→cl' z=true∨∃ p ∈ opk,p.2.2 z=true∧p.1=c+kB T op
 len:opk.length≤op0.length+k
 key:∀ p ∈ opk,(∃ S,(p.1,S) ∈ op0)∨p.1≤c+1048576
theorem OpnI.begin {T:Nt} {bw:Bool} {c:Nat} {Al cl':List Nat→Bool} {op0:List (Nat × Kq)} (h:∀ p ∈ op0,c < p.1):OpnI T bw c Al cl' op0 0 op0 :=
 ⟨fun p hp=>⟨p.2,hp,fun _ _ e=>e⟩,fun p hp=>⟨h p hp,fun z _ e=>.inl ⟨p.2,hp,e⟩⟩,fun op x z hop=>by omega,by omega,fun p hp=>.inl ⟨p.2,hp⟩⟩
theorem OpnI.put {T:Nt} {bw:Bool} {c k r:Nat} {Al cl' R:List Nat→Bool} {op0 opk:List (Nat × Kq)} {o:No} (hg:NtG T) (h:OpnI T bw c Al cl' op0 k opk) (hn:(opk.map (·.1)).Nodup) (ho:T.ops[k]?=some o) (hc:o.cost≠0)
  (hR:∀ z,StN T.vars z→(R z=true↔((∃ x,Al x=true∧EB T bw k x z)∧cl' z=false)∨∃ S:Kq,(c+o.cost,S) ∈ opk∧S.2 z=true)):OpnI T bw c Al cl' op0 (k+1) (putM opk (c+o.cost) ((r,R):Kq)):=by
 have hkb:=kB_at ho
 have hsame:∀ S S':Kq,(c+o.cost,S) ∈ opk→(c+o.cost,S') ∈ opk→S=S':=fun S S' h1 h2=>by
  have e1:=(getM_kv hn).2 h1
  have e2:=(getM_kv hn).2 h2
  rw [e1] at e2
  exact Option.some.inj e2
 exact {
  old:=fun p hp=>by
   obtain ⟨S,hS,hi⟩:=h.old p hp
   by_cases e:p.1=c+o.cost
   ·refine ⟨(r,R),mem_putM.2 (.inl (by rw [e])),fun z hz hz2=>(hR z hz).2 (.inr ⟨S,by rw [← e]; exact hS,hi z hz hz2⟩)⟩
   ·exact ⟨S,mem_putM.2 (.inr ⟨hS,e⟩),hi⟩
  new:=fun p hp=>by
   rcases mem_putM.1 hp with rfl | ⟨hp,_⟩
   ·refine ⟨by show c < c+o.cost; omega,fun z hz e=>?_⟩
    rcases (hR z hz).1 e with ⟨⟨x,hx,he⟩,_⟩ | ⟨S,hS,e2⟩
    ·exact .inr ⟨k,by omega,by show c+kB T k=c+o.cost; omega,x,hx,he⟩
    ·exact (h.new _ hS).2 z hz e2
   ·exact h.new p hp
  out:=fun op x z hop hx hz hk he=>by
   rcases Nat.lt_succ_iff_lt_or_eq.1 hop with hop | rfl
   ·rcases h.out op x z hop hx hz hk he with e | ⟨p,hp,e1,e2⟩
    ·exact .inl e
    ·by_cases ek:p.1=c+o.cost
     ·refine .inr ⟨_,mem_putM.2 (.inl rfl),(hR z hz).2 (.inr ⟨p.2,by rw [← ek]; exact hp,e1⟩),by rw [← e2,ek]⟩
     ·exact .inr ⟨p,mem_putM.2 (.inr ⟨hp,ek⟩),e1,e2⟩
   ·cases ecl:cl' z with
    | true=>exact .inl rfl
    | false=>exact .inr ⟨_,mem_putM.2 (.inl rfl),(hR z hz).2 (.inl ⟨⟨x,hx,he⟩,ecl⟩),by rw [hkb]⟩
  len:=by have:=h.len; have h2:(putM opk (c+o.cost) ((r,R):Kq)).length≤opk.length+1:=putM_len_le; omega
  key:=fun p hp=>by
   rcases mem_putM.1 hp with rfl | ⟨hp,_⟩
   ·have:=(hg.ops o (List.mem_of_getElem? ho)).cost
    exact .inr (by show c+o.cost≤_; omega)
   ·exact h.key p hp }
theorem OpnI.skip {T:Nt} {bw:Bool} {c k:Nat} {Al cl':List Nat→Bool} {op0 opk:List (Nat × Kq)} {o:No} (h:OpnI T bw c Al cl' op0 k opk) (ho:T.ops[k]?=some o) (hc:o.cost≠0→∀ z,StN T.vars z→(∃ x,Al x=true∧EB T bw k x z)→cl' z=true):OpnI T bw c Al cl' op0 (k+1) opk:={
 old:=h.old
 new:=h.new
 out:=fun op x z hop hx hz hk he=>by
  rcases Nat.lt_succ_iff_lt_or_eq.1 hop with hop | rfl
  ·exact h.out op x z hop hx hz hk he
  ·rw [kB_at ho] at hk
   exact .inl (hc (by omega) z hz ⟨x,hx,he⟩)
 len:=by have:=h.len; omega
 key:=h.key }
theorem comp_ok {T:Nt} {S0:List Nat→Prop} {d:Sd} {c a0 r:Nat} {P0 Pp Al cl':List Nat→Bool} {pl:List Kq} {opk:List (Nat × Kq)} {y:Wm} {wv':Value} (hg:NtG T) (hd:SdG T S0 d) (hb:SdBd T d) (hin:(c,((a0,P0):Kq)) ∈ d.opn) (hmin:∀ p ∈ d.opn,p.1≠c→c < p.1)
  (hP:PtsOk T { d with opn:=delM d.opn c } P0 pl Pp Al) (hPno:∀ z,StN T.vars z→Pp z=false) (hplne:pl≠[]) (hO:OpnI T d.bw c Al cl' (delM d.opn c) T.ops.length opk) (hcl':cl'=fun z=>d.cl z || Al z) (hnd:(opk.map (·.1)).Nodup)
  (hyc:y.cost=c) (hyp:y.pl=pl) (hya:y.all=Al) (hn:pl.length+cntR T d.cl pl≤cntC T d.cl) :
  SdG T S0 ⟨d.bw,wv',d.wl ++ [y],r,cl',d.om,opk⟩∧SdBd T ⟨d.bw,wv',d.wl ++ [y],r,cl',d.om,opk⟩∧cntC T cl' < cntC T d.cl:=by
 have hl0:0 < pl.length:=by
  cases pl with
  | nil=>exact absurd rfl hplne
  | cons _ _=>simp
 have hcnt:cntC T cl'=cntR T d.cl pl:=cntR_last (d:={ d with opn:=delM d.opn c }) hP hPno fun z=>by rw [hcl']
 have hal:∀ z,StN T.vars z→(Al z=true↔∃ p ∈ pl,p.2 z=true):=fun z hz=>by
  rw [hP.al z hz,hPno z hz]
  simp
 have hlm:(pl.map (·.2)).length=pl.length:=List.length_map _
 refine ⟨?_,⟨hb.ol,hb.nN,?_,?_,fun p hp=>?_,fun u hu=>?_,?_⟩,by omega⟩
 ·have e:(d.wl ++ [y]).map wmW=d.wl.map wmW ++ [wmW y]:=by simp
  show Go.Bi.SdOk (StN T.vars) (EB T d.bw) (kB T) S0 ((d.wl ++ [y]).map wmW) cl' (opk.map fun p=>(p.1,p.2.2))
  rw [e]
  have hdm:∀ p:Nat × Kq,p ∈ d.opn→p.1≠c→p ∈ delM d.opn c:=fun p hp h=>mem_delM.2 ⟨hp,h⟩
  refine Go.Bi.SdOk.wave (c:=c) (A:=P0) hd (List.mem_map.2 ⟨_,hin,rfl⟩) hyc (fun z hz e1 e2=>?_) (fun p hp h=>?_) ?_ (fun z hz=>?_) (fun i p p' h1 h2 z hz e=>?_) (fun x op z hx hz hk he=>?_) (fun z hz=>?_) (fun p hp h=>?_) (fun p hp=>?_) (fun x op z hx hz hk he=>?_) ?_
  ·have e1:Al z=true:=by rw [← hya]; exact e1
   have:=hP.dc z hz e1
   have this:d.cl z=false:=this
   rw [this] at e2
   cases e2
  ·obtain ⟨a,ha,rfl⟩:=List.mem_map.1 hp
   exact hmin a ha h
  ·show (y.pl.map (·.2))[0]?=_
   rw [hyp]
   have h1:=hP.hd
   rwa [List.getElem?_append_left (by omega)] at h1
  ·show y.all z=true↔∃ p,p ∈ y.pl.map (·.2)∧p z=true
   rw [hya,hyp,hal z hz]
   constructor
   ·rintro ⟨p,hp,e⟩
    exact ⟨p.2,List.mem_map.2 ⟨p,hp,rfl⟩,e⟩
   ·rintro ⟨_,hp,e⟩
    obtain ⟨p1,hp1,rfl⟩:=List.mem_map.1 hp
    exact ⟨p1,hp1,e⟩
  ·have h1:(y.pl.map (·.2))[i]?=some p:=h1
   have h2:(y.pl.map (·.2))[i+1]?=some p':=h2
   rw [hyp] at h1 h2
   have l1:=(List.getElem?_eq_some_iff.1 h1).1
   have l2:=(List.getElem?_eq_some_iff.1 h2).1
   exact hP.ch i p p' (by rw [List.getElem?_append_left l1]; exact h1) (by rw [List.getElem?_append_left l2]; exact h2) z hz e
  ·have hx:Al x=true:=by rw [← hya]; exact hx
   obtain ⟨p,hp,e⟩:=(hal x he.1).1 hx
   rcases hP.cz p hp x op z e hz hk he with e1 | e1
   ·exact .inl (by show y.all z=true; rw [hya]; exact e1)
   ·exact .inr e1
  ·rw [hcl']
   show (d.cl z || Al z)=true↔_∨y.all z=true
   rw [Bool.or_eq_true,hya]
  ·obtain ⟨a,ha,rfl⟩:=List.mem_map.1 hp
   obtain ⟨S,hS,hi⟩:=hO.old a (hdm a ha h)
   exact ⟨S.2,List.mem_map.2 ⟨_,hS,rfl⟩,hi⟩
  ·obtain ⟨a,ha,rfl⟩:=List.mem_map.1 hp
   obtain ⟨h1,h2⟩:=hO.new a ha
   refine ⟨h1,fun z hz e=>?_⟩
   rcases h2 z hz e with ⟨S,hS,e1⟩ | ⟨op,h3,h4,x,h5,h6⟩
   ·exact .inl ⟨S.2,List.mem_map.2 ⟨_,(mem_delM.1 hS).1,rfl⟩,e1⟩
   ·exact .inr ⟨op,h3,h4,x,by show y.all x=true; rw [hya]; exact h5,h6⟩
  ·have hx:Al x=true:=by rw [← hya]; exact hx
   obtain ⟨o,ho,_⟩:=kB_eb he
   rcases hO.out op x z (List.getElem?_eq_some_iff.1 ho).1 hx hz hk he with e1 | ⟨p,hp,e1,e2⟩
   ·exact .inl e1
   ·exact .inr ⟨_,List.mem_map.2 ⟨p,hp,rfl⟩,e1,e2⟩
  ·rw [List.map_map]
   exact hnd
 ·show ((d.wl ++ [y]).map fun y=>y.pl.length).sum+cntC T cl'≤_
  rw [List.map_append,List.sum_append]
  have:=hb.sum
  simp [hyp]
  omega
 ·show (d.wl ++ [y]).length+cntC T cl'≤_
  have:=hb.wl
  simp
  omega
 ·show p.1≤(d.wl ++ [y]).length * 1048576
  have hc:c≤d.wl.length * 1048576:=hb.oc _ hin
  have hp:p ∈ opk:=hp
  rw [List.length_append,List.length_singleton,Nat.add_mul,Nat.one_mul]
  revert hc
  generalize hN:d.wl.length * 1048576=N
  intro hc
  rcases hO.key p hp with ⟨S,hS⟩ | h1
  ·have:p.1≤d.wl.length * 1048576:=hb.oc (p.1,S) (mem_delM.1 hS).1
   rw [hN] at this
   omega
  ·omega
 ·show u.cost≤(d.wl ++ [y]).length * 1048576
  have hc:c≤d.wl.length * 1048576:=hb.oc _ hin
  rw [List.length_append,List.length_singleton,Nat.add_mul,Nat.one_mul]
  revert hc
  generalize hN:d.wl.length * 1048576=N
  intro hc
  rcases List.mem_append.1 hu with hu | hu
  ·have:=hb.wc u hu
   rw [hN] at this
   omega
  ·rcases List.mem_singleton.1 hu with rfl
   omega
 ·show opk.length≤1+(d.wl ++ [y]).length * 20
  have h1:=hO.len
  have h2:(delM d.opn c).length≤d.opn.length:=List.length_filter_le _ _
  have h3:=hb.on
  have h4:=hb.ol
  rw [List.length_append,List.length_singleton]
  omega
end Go.Proofs.YtkhfdmelcpfgoaaGreat
end
section
set_option maxRecDepth 100000
set_option linter.unusedSimpArgs false
set_option linter.unusedVariables false
namespace Go.Proofs.YtkhfdmelcpfgoaaGreat
open Go Go.W Go.Tk Go.Rx Go.Bd Go.Sy Go.Maps
theorem cells_o1 {v:Value} (h:oneC v=true):v.cells=#[v]:=by
 cases v <;> first | rfl | simp_all [oneC]
theorem Rds.own1 {α:Type} {v:Value} {E sz:Nat} {enc:α→List Value} {l:List α} {B:Asr}:Rds (Star (OwnA v E sz enc l) B) fun _=>oneC v=true:=fun w' F' hs=>by
 obtain ⟨Fa,Fb,ha,_⟩:=hs
 exact ha.1.o1
def wvO (c:Nat) (pv:Value) (ai:Nat):Obj:=.cells #[.int .i64 (c:Nat),pv,.int .i64 (ai:Nat)] 74 (0,0)
section
variable {w w1:World} {F:List Nat} {A B B':Asr} {s m lim:Nat} {T T':Nt} {q:SpC} {ps:List Kq}
def CompR (s m lim:Nat) (T T':Nt) (q:SpC) (ps:List Kq) (B:Asr) (w:World) (F:List Nat) (S0:List Nat→Prop) (x c:Nat) (d:Sd) (v:Value) (w':World):Prop :=
 (v=.nilIface∧∃ d' y ps',d'.bw=d.bw∧d'.wl=d.wl ++ [y]∧y.cost=c∧(∃ z,StN T.vars z∧y.all z=true)∧SdG T S0 d'∧SdBd T d'∧cntC T d'.cl < cntC T d.cl∧(∀ p ∈ ps,p ∈ ps')∧SdK ps' d'∧FsA s m lim T' q ps' (SdA x T s d' B) w F w') ∨
 (v=berrV 10∧Full T' lim∧∃ d',d'.wl=d.wl∧At w F (SdA x T s d' B) w')
def CoA (T:Nt) (s x wb c ai:Nat) (pv:Value) (pl:List Kq) (d:Sd) (B:Asr):Asr:=Star (ObjA wb (wvO c pv ai)) (Star (OwnA pv 3 1 nE (pl.map (·.1))) (SdA x T s d B))
def CmI (s m lim:Nat) (T T':Nt) (q:SpC) (ps:List Kq) (B:Asr) (w:World) (F:List Nat) (x c wb:Nat) (d:Sd) (P0:List Nat→Bool) (n:Nat) (ρ:Env) (w':World):Prop :=
 ∃ (pi ai:Nat) (pv:Value) (pl:List Kq) (Pp Al:List Nat→Bool) (ps':List Kq),ρ 0=.pointer (some ⟨x,0,none⟩)∧ρ 1=.int .i64 (c:Nat)∧ρ 5=.pointer (some ⟨wb,0,none⟩)∧ρ 6=.int .i64 (pi:Nat) ∧
  PtsOk T d P0 pl Pp Al∧n=cntR T d.cl pl∧pl.length+n≤cntC T d.cl∧(∀ p ∈ ps,p ∈ ps')∧(pi,Pp) ∈ ps'∧(ai,Al) ∈ ps'∧(∀ p ∈ pl,p ∈ ps')∧(pl=[]→pi≠0)∧FsA s m lim T' q ps' (CoA T s x wb c ai pv pl d B) w F w'
def CnI (s m lim:Nat) (T T':Nt) (q:SpC) (ps:List Kq) (Bq:Asr) (w:World) (F:List Nat) (x c wb:Nat) (d2:Sd) (Al cl':List Nat→Bool) (op0:List (Nat × Kq)) (k:Nat) (ρ:Env) (w':World):Prop :=
 ρ 0=.pointer (some ⟨x,0,none⟩)∧ρ 1=.int .i64 (c:Nat)∧ρ 5=.pointer (some ⟨wb,0,none⟩)∧ρ 89=T.ov.1∧∃ opk ps',OpnI T d2.bw c Al cl' op0 k opk∧(∀ p ∈ ps,p ∈ ps')∧(∀ p ∈ opk,p.2 ∈ ps')∧FsA s m lim T' q ps' (SdA x T s { d2 with opn:=opk } Bq) w F w'
set_option maxHeartbeats 4000000 in
theorem bcomplete_spec (x c:Nat) (S0:List Nat→Prop) (d:Sd) (a0:Nat) (P0:List Nat→Bool) (hC:BC T T' lim) (hB:Lcl B) (h:FsA s m lim T' q ps (SdA x T s d B) w F w1) (hT:Rds B fun w'=>NtR w' T) (hk:SdK ps d) (h0:(0,fun _=>false) ∈ ps)
  (hd:SdG T S0 d) (hb:SdBd T d) (hin:(c,((a0,P0):Kq)) ∈ d.opn) (ha0:a0≠0) (hdj:∀ z,P0 z=true→d.cl z=false) (hmin:∀ p ∈ d.opn,p.1≠c→c < p.1) :
  Calls Tryz.prog 31 [.pointer (some ⟨x,0,none⟩),.int .i64 (c:Nat)].toArray w1 fun en w'=>∃ v,en=.returned v∧CompR s m lim T T' q ps B w F S0 x c d v w':=by
 refine enter Tryz.func31 mixed low31 (Nat.le_of_ble_eq_true rfl) ?_
 simp only [L31]
 have hm:=h.frame SdA.map
 have ox:=h.frame SdA.obj
 unfold sdO at ox
 have hnd:=MapM.nodup hm
 have hca:i64ok c:=by
  obtain ⟨es,clock,_,_,_,hok,_⟩:=hm
  exact hok _ hin
 have hcN:c≤600000000:=by have:=hb.oc _ hin; have:=hb.wl; have:=hb.nN; have:c≤d.wl.length * 1048576:=hb.oc _ hin; omega
 have hget:getM d.opn c=some (a0,P0):=(getM_kv hnd).2 hin
 have hLS:Lcl (SdA x T s d B):=SdA.lcl hB
 simp [cell_blk ox]
 refine MapM.look1 (x:=c) hm bkeyI Tryz.underlying76 zint hca ?_
 simp [hget,kpV]
 obtain ⟨wb,hwb⟩:∃ wb,wb=w1.heap.size:=⟨_,rfl⟩
 have h2:=h.alloc (.cells #[.int .i64 0,.slice none 0 0,.int .i64 0] 74) hLS
 rw [← hwb] at h2 ⊢
 refine h2.st hLS (by simp) (by simp) fun w2 h3=>?_
 replace h3:FsA s m lim T' q ps (Star (ObjA wb (wvO c (.slice none 0 0) a0)) (SdA x T s d B)) w F w2:=by simpa [wvO] using h3
 have ox3:=h3.frame (Rds.star SdA.obj)
 unfold sdO at ox3
 simp [cell_blk ox3]
 refine del_mk ?_
 simp
 have hBw:Lcl (Star (ObjA wb (wvO c (.slice none 0 0) a0)) B):=Lcl.obj.star hB
 refine FsA.delM (d:=d) (c:=c) hBw (h3.by SdA.into) hca fun w3 h4=>?_
 obtain ⟨d1,hd1⟩:∃ d1:Sd,d1={ d with opn:=delM d.opn c }:=⟨_,rfl⟩
 rw [← hd1] at h4
 have hL1:Lcl (SdA x T s d1 B):=SdA.lcl hB
 have h5:=h4.by SdA.out
 have h6:=(h5.by Imp.sw).by Imp.sw
 have h7:FsA s m lim T' q ps (CoA T s x wb c a0 (.slice none 0 0) [] d1 B) w F w3:=by
  unfold CoA
  have h8:=FsA.nil (enc:=nE) (E:=3) (sz:=1) (Lcl.obj.star hL1) h5
  exact h8.by Imp.sw
 have ow7:=h7.obj
 unfold wvO at ow7
 simp [cell_blk ow7]
 have hd1c:d1.cl=d.cl:=by rw [hd1]
 have hk1:SdK ps d1:=by
  rw [hd1]
  exact ⟨hk.cl,hk.all,fun p hp=>hk.opn p (mem_delM.1 hp).1⟩
 have hdj1:∀ z,P0 z=true→d1.cl z=false:=fun z e=>by rw [hd1c]; exact hdj z e
 have hCL:∀ ai pv pl,Lcl (CoA T s x wb c ai pv pl d1 B):=fun ai pv pl=>Lcl.obj.star (Lcl.own.star hL1)
 have hcR:∀ ai pv pl,Rds (CoA T s x wb c ai pv pl d1 B) fun w'=>SdR w' x T s d1:=fun ai pv pl=>Rds.star (Rds.star SdA.rd)
 have hcT:∀ ai pv pl,Rds (CoA T s x wb c ai pv pl d1 B) fun w'=>NtR w' T:=fun ai pv pl=>Rds.star (Rds.star (SdA.rds hT))
 refine loop_inv (CmI s m lim T T' q ps B w F x c wb d1 P0) _ ⟨a0,a0,.slice none 0 0,[],P0,P0,ps,by simp,by simp,by simp,by simp,PtsOk.begin hdj1,rfl,by rw [cntR_nil]; simp,fun _ h=>h,hk.opn _ hin,hk.opn _ hin,fun p hp=>(by cases hp),fun _=>ha0,h7⟩ ?_
 rintro n ρ w4 ⟨pi,ai,pv,pl,Pp,Al,ps4,g0,g1,g5,g6,hP,hn,hpn,hps4,hpi4,hai4,hpl4,hne,h8⟩
 have ow8:=h8.obj
 unfold wvO at ow8
 have hcl512:cntC T d1.cl≤512:=by rw [hd1c]; have:=hb.wl; have:=hb.nN; omega
 by_cases hpi:pi=0
 ·have hb0:(((pi:Nat):Int) != 0)=false:=by rw [hpi]; rfl
  have hPno:∀ z,StN T.vars z→Pp z=false:=fun z hz=>(h8.zero hpi4).1 hpi z (by rw [hC.alk.vars]; exact hz)
  have hplne:pl≠[]:=fun e=>hne e hpi
  have ox8:=(h8.frame (hcR _ _ _)).obj
  unfold sdO at ox8
  have h8d:=h8.drew (hCL _ _ _)
  simp [g0,g1,g5,g6,hb0,cell_blk ow8,cell_blk ox8]
  refine cl_of (f_union d1.ci ai d1.cl Al hC.cap (hCL _ _ _) h8d (hps4 _ hk1.cl) hai4) ?_
  rintro _ w5 (⟨r,rfl,h9⟩ | ⟨rfl,hf,h9⟩)
  rotate_left
  ·simp [berrV]
   exact .inr ⟨rfl,hf,d1,by rw [hd1],h9.drop.drop⟩
  simp [g0,g1,g5,g6]
  obtain ⟨Bq,hBq⟩:∃ Bq,Bq=Star (ObjA wb (wvO c pv ai)) (Star (OwnA pv 3 1 nE (pl.map (·.1))) B):=⟨_,rfl⟩
  have hLq:Lcl Bq:=by rw [hBq]; exact Lcl.obj.star (Lcl.own.star hB)
  have rqT:Rds Bq fun w'=>NtR w' T:=by rw [hBq]; exact Rds.star (Rds.star hT)
  have rqW:Rds Bq fun w'=>w'.heap[wb]?=some (wvO c pv ai):=by rw [hBq]; exact Rds.obj
  have h10:FsA s m lim T' q ((r,fun z=>d1.cl z || Al z) :: ps4) (SdA x T s d1 Bq) w F w5:=by
   unfold CoA at h9
   rw [hBq]
   exact (h9.by (Imp.un SdA.into)).by SdA.into
  have h10':=h10
  unfold SdA sdO at h10'
  refine FsA.st (Lcl.own.star (Lcl.vws.star (Lcl.map.star hLq))) h10' (by simp) (by simp) fun w6 h11=>?_
  obtain ⟨cl',hcl'⟩:∃ cl',cl'=fun z=>d1.cl z || Al z:=⟨_,rfl⟩
  obtain ⟨d2,hd2⟩:∃ d2:Sd,d2={ d1 with ci:=r,cl:=cl' }:=⟨_,rfl⟩
  replace h11:FsA s m lim T' q ((r,cl') :: ps4) (SdA x T s d2 Bq) w F w6:=by
   rw [hd2,hcl']
   unfold SdA sdO
   simpa using h11
  have ox11:=h11.frame SdA.obj
  unfold sdO at ox11
  have hol:=hC.g.olen
  have hbw:d2.bw=d.bw:=by rw [hd2,hd1]
  have hmin1:∀ p ∈ d1.opn,c < p.1:=fun p hp=>by
   rw [hd1] at hp
   have hp:p ∈ delM d.opn c:=hp
   obtain ⟨h1,h2⟩:=mem_delM.1 hp
   exact hmin p h1 h2
  have hBqB:Imp Bq B:=by rw [hBq]; exact Imp.dr.trans Imp.dr
  have hcl2:(d2.ci,d2.cl) ∈ (r,cl') :: ps4:=by rw [hd2]; exact .head _
  have ecl2:d2.cl=cl':=by rw [hd2]
  have ed2:({ d2 with opn:=d1.opn }:Sd)=d2:=by rw [hd2]
  simp [g0,g1,g5,g6,cell_blk ox11,(h11.frame (SdA.rds rqT)).ops.len]
  refine range_loop (n:=T.ops.length) (by omega) (CnI s m lim T T' q ((r,cl') :: ps4) Bq w F x c wb d2 Al cl' d1.opn) (by simp) (by simp)
   ⟨by simp [g0],by simp [g1],by simp [g5],by simp,d1.opn,_,OpnI.begin hmin1,fun _ h=>h,fun p hp=>.tail _ (hps4 _ (hk1.opn p hp)),by rw [ed2]; exact h11⟩ (by decide) (fun _ _ _ _ h=>by simpa [CnI] using h) (fun _ _ _ _ h=>by simpa [CnI] using h) ?_ ?_
  ·rintro k ρ w7 hk7 hc hlm ⟨g0,g1,g5,g89,opk,ps7,hO,hps7,hopk7,h12⟩
   obtain ⟨o,ho⟩:∃ o,T.ops[k]?=some o:=⟨_,List.getElem?_eq_getElem hk7⟩
   have hoc:=(hC.g.ops o (List.mem_of_getElem? ho)).cost
   have hT3:=h12.frame (SdA.rds rqT)
   have ec:=hT3.ops.cells noE_len ho
   simp only [noE] at ec
   have hki:(k:Int) < T.ops.length:=by omega
   obtain ⟨ob,hob⟩:∃ ob,ob=w7.heap.size:=⟨_,rfl⟩
   have hLk:Lcl (SdA x T s { d2 with opn:=opk } Bq):=SdA.lcl hLq
   have h13:=h12.alloc opZ hLk
   rw [← hob] at h13
   simp (disch:=omega) [g0,g1,g5,g89,hc,hlm,hT3.ops.idx,ec]
   rw [← hob]
   refine h13.st hLk (by simp) (by simp [o.pv.2,o.ev.2]) fun w8 h14=>?_
   replace h14:FsA s m lim T' q ps7 (Star (ObjA ob (opO o)) (SdA x T s { d2 with opn:=opk } Bq)) w F w8:=by simpa [opZ,opO] using h14
   have h15:=h14.by SdA.into
   have hLo:Lcl (Star (ObjA ob (opO o)) Bq):=Lcl.obj.star hLq
   have hLs:Lcl (SdA x T s { d2 with opn:=opk } (Star (ObjA ob (opO o)) Bq)):=SdA.lcl hLo
   have rO:Rds (SdA x T s { d2 with opn:=opk } (Star (ObjA ob (opO o)) Bq)) fun w'=>w'.heap[ob]?=some (opO o):=SdA.rds Rds.obj
   have rW:Rds (SdA x T s { d2 with opn:=opk } (Star (ObjA ob (opO o)) Bq)) fun w'=>w'.heap[wb]?=some (wvO c pv ai):=SdA.rds (Rds.star rqW)
   have oo:=h15.frame rO
   unfold opO at oo
   by_cases hoc0:o.cost=0
   ·have hb0:(((o.cost:Nat):Int) == 0)=true:=by rw [hoc0]; rfl
    simp [g0,g1,g5,g89,hc,hlm,cell_blk oo,hb0]
    exact ⟨by simp [g0],by simp [g1],by simp [g5],by simp [g89],opk,ps7,hO.skip ho fun h=>absurd hoc0 h,hps7,hopk7,h15.by (SdA.fr Imp.dr)⟩
   ·have hb0:(((o.cost:Nat):Int) == 0)=false:=beq_eq_false_iff_ne.2 (by omega)
    have owk:=h15.frame rW
    unfold wvO at owk
    obtain ⟨ck,hck⟩:∃ ck,ck=c+o.cost:=⟨_,rfl⟩
    have ea:∀ K:Kont Value,@intH .add .i64 (c:Int) .i64 (o.cost:Int) K=K.run (.int .i64 (ck:Nat)):=fun K=>by
     have e:(c:Int)+(o.cost:Int)=((ck:Nat):Int):=by omega
     rw [intS_add,e,wrap_i64 (by omega) (by omega)]
    have hok:i64ok ck:=by unfold i64ok; omega
    have e3:∀ dd:Sd,dd={ d2 with opn:=opk }→Imp (SdA x T s dd (Star (ObjA ob (opO o)) Bq)) (SdA x T s { d2 with opn:=opk } B):=fun dd e=>by rw [e]; exact SdA.fr (Imp.dr.trans hBqB)
    simp [g0,g1,g5,g89,hc,hlm,cell_blk oo,hb0,cell_blk owk]
    refine cl_of (bstep_spec x ai k { d2 with opn:=opk } o Al hC hLs h15 SdA.rd (hps7 _ (.tail _ hai4)) ho) ?_
    rintro _ w9 (⟨r1,rfl,h16⟩ | ⟨rfl,hf,h16⟩)
    rotate_left
    ·simp [berrV]
     exact .inr ⟨rfl,hf,{ d2 with opn:=opk },(show d2.wl=d.wl by rw [hd2,hd1]),h16.by (e3 _ rfl)⟩
    have ox16:=h16.frame SdA.obj
    unfold sdO at ox16
    have h16d:=h16.drew hLs
    simp [g0,g1,g5,g89,hc,hlm,cell_blk ox16]
    refine cl_of (f_minus r1 d2.ci _ d2.cl hC.cap hLs h16d (.head _) (.tail _ (hps7 _ hcl2))) ?_
    rintro _ w10 (⟨r2,rfl,h17⟩ | ⟨rfl,hf,h17⟩)
    rotate_left
    ·simp [berrV]
     exact .inr ⟨rfl,hf,{ d2 with opn:=opk },(show d2.wl=d.wl by rw [hd2,hd1]),h17.by (e3 _ rfl)⟩
    have ox17:=h17.frame SdA.obj
    unfold sdO at ox17
    have oo17:=h17.frame rO
    unfold opO at oo17
    have hm17:=h17.frame SdA.map
    have hnd17:=MapM.nodup hm17
    simp [-intS_add,ea,g0,g1,g5,g89,hc,hlm,cell_blk ox17,cell_blk oo17]
    refine MapM.look1 (x:=ck) hm17 bkeyI Tryz.underlying76 zint hok ?_
    obtain ⟨y,S,hyS,hval,hS⟩:∃ (y:Nat) (S:List Nat→Bool),(y,S) ∈ ps7∧((getM opk ck).map kpV).getD (.int .i64 0)=.int .i64 (y:Nat)∧∀ z,S z=true↔∃ S':Kq,(ck,S') ∈ opk∧S'.2 z=true:=by
     cases hg:getM opk ck with
     | none =>
      refine ⟨0,fun _=>false,hps7 _ (.tail _ (hps4 _ h0)),rfl,fun z=>⟨fun e=>(by cases e),fun ⟨S',h1,_⟩=>?_⟩⟩
      have:=(getM_kv hnd17).2 h1
      rw [hg] at this
      cases this
     | some p =>
      have hp:=(getM_kv hnd17).1 hg
      refine ⟨p.1,p.2,hopk7 _ hp,rfl,fun z=>⟨fun e=>⟨p,hp,e⟩,fun ⟨S',h1,h2⟩=>?_⟩⟩
      have:=(getM_kv hnd17).2 h1
      rw [hg] at this
      rw [Option.some.inj this]
      exact h2
    have h17d:=h17.drew hLs
    simp only [hval]
    simp [g0,g1,g5,g89,hc,hlm]
    refine cl_of (f_union r2 y _ S hC.cap hLs h17d (.head _) (.tail _ (.tail _ hyS))) ?_
    rintro _ w11 (⟨r3,rfl,h18⟩ | ⟨rfl,hf,h18⟩)
    rotate_left
    ·simp [berrV]
     exact .inr ⟨rfl,hf,{ d2 with opn:=opk },(show d2.wl=d.wl by rw [hd2,hd1]),h18.by (e3 _ rfl)⟩
    have ox18:=h18.frame SdA.obj
    unfold sdO at ox18
    have oo18:=h18.frame rO
    unfold opO at oo18
    have hR:∀ z,StN T.vars z→(((stpP T o d2.bw Al z && !d2.cl z) || S z)=true↔((∃ x,Al x=true∧EB T d2.bw k x z)∧d2.cl z=false)∨∃ S':Kq,(c+o.cost,S') ∈ opk∧S'.2 z=true):=fun z hz=>by
     rw [Bool.or_eq_true,Bool.and_eq_true,stpP_iff hC.g ho hz,Bool.not_eq_true',hS z,hck]
    by_cases hr3:r3=0
    ·have hb3:(((r3:Nat):Int) != 0)=false:=by rw [hr3]; rfl
     have hz:=(h18.zero (.head _)).1 hr3
     simp [g0,g1,g5,g89,hc,hlm,hb3]
     refine ⟨by simp [g0],by simp [g1],by simp [g5],by simp [g89],opk,_,hO.skip ho fun _ z hz1 he=>?_,fun p hp=>.tail _ (.tail _ (.tail _ (hps7 p hp))),fun p hp=>.tail _ (.tail _ (.tail _ (hopk7 p hp))),h18.by (SdA.fr Imp.dr)⟩
     have h1:=hz z (by rw [hC.alk.vars]; exact hz1)
     cases ecl:cl' z with
     | true=>rfl
     | false =>
      have h2:=(hR z hz1).2 (.inl ⟨he,by rw [ecl2]; exact ecl⟩)
      have h1':((stpP T o d2.bw Al z && !d2.cl z) || S z)=false:=h1
      rw [h2] at h1'
      cases h1'
    ·have hb3:(((r3:Nat):Int) != 0)=true:=by
      rw [bne,Bool.not_eq_true']
      exact beq_eq_false_iff_ne.2 (by omega)
     have h18d:=h18.drew hLs
     have hopl:opk.length≤2000000:=by
      have h1:=hO.len
      have h2:d1.opn.length≤d.opn.length:=by rw [hd1]; exact List.length_filter_le _ _
      have h3:=hb.on
      have h4:=hb.wl
      have h5:=hb.nN
      omega
     simp [-intS_add,ea,g0,g1,g5,g89,hc,hlm,hb3,cell_blk ox18,cell_blk oo18]
     refine FsA.putM (d:={ d2 with opn:=opk }) (c:=ck) (p:=(r3,fun z=>(stpP T o d2.bw Al z && !d2.cl z) || S z)) hLo h18d hok hopl fun w12 h19=>?_
     simp [g0,g1,g5,g89,hc,hlm]
     have hput:=hO.put (r:=r3) hC.g hnd17 ho hoc0 (by rw [← ecl2]; exact hR)
     rw [← hck] at hput
     refine ⟨by simp [g0],by simp [g1],by simp [g5],by simp [g89],_,_,hput,fun p hp=>.tail _ (.tail _ (.tail _ (hps7 p hp))),fun p hp=>?_,h19.by (SdA.fr Imp.dr)⟩
     rcases mem_putM.1 hp with rfl | ⟨hp,_⟩
     ·exact .head _
     ·exact .tail _ (.tail _ (.tail _ (hopk7 p hp)))
  ·rintro ρ w7 ⟨g0,g1,g5,g89,opk,ps7,hO,hps7,hopk7,h12⟩
   obtain ⟨d3,hd3⟩:∃ d3:Sd,d3={ d2 with opn:=opk }:=⟨_,rfl⟩
   rw [← hd3] at h12
   have hL3:Lcl (SdA x T s d3 Bq):=SdA.lcl hLq
   have hwv3:d3.wv=d.wv:=by rw [hd3,hd2,hd1]
   have hwl3:d3.wl=d.wl:=by rw [hd3,hd2,hd1]
   have hom3:d3.om=d.om:=by rw [hd3,hd2,hd1]
   have ow12:=h12.frame (SdA.rds rqW)
   unfold wvO at ow12
   have ox12:=h12.frame SdA.obj
   unfold sdO at ox12
   have hpo:oneC pv=true:=h12.frame (SdA.rds (by rw [hBq]; exact Rds.star Rds.own1):Rds (SdA x T s d3 Bq) fun _=>oneC pv=true)
   have h12d:=h12.drew hL3
   obtain ⟨y,hy⟩:∃ y:Wm,y=⟨c,⟨pv,hpo⟩,pl,ai,Al⟩:=⟨_,rfl⟩
   have hwl1:=hb.wl
   have hnN:=hb.nN
   simp [g0,g1,g5,cell_blk ox12,rd_c3 ow12]
   have h13:FsA s m lim T' q ps7 (Star (OwnA d3.wv 74 3 wmE d3.wl) (Star (ObjA x (sdO T s d3)) (Star (VwsA nE (d3.wl.map wmP)) (Star (MapA d3.om natV kpV i64ok d3.opn) Bq)))) w F w7.drew:=by
    unfold SdA at h12d
    exact h12d.by Imp.sw
   refine h13.app (cs:=#[.int .i64 (c:Nat),pv,.int .i64 (ai:Nat)]) (xs:=[y]) (Lcl.obj.star (Lcl.vws.star (Lcl.map.star hLq))) wmE_len wmE_one sl_75 (by rw [hy]; simp [wmE]) rfl (by rw [hwl3]; omega) (by rw [hwl3]; unfold maxLen; omega) fun wv' w8 h14=>?_
   have hwo:oneC wv'=true:=h14.frame (Rds.own1:Rds (Star (OwnA wv' 74 3 wmE (d3.wl ++ [y])) (Star (ObjA x (sdO T s d3)) (Star (VwsA nE (d3.wl.map wmP)) (Star (MapA d3.om natV kpV i64ok d3.opn) Bq)))) fun _=>oneC wv'=true)
   simp [g0,g1,g5,cells_o1 hwo]
   have h15:=h14.by Imp.sw
   unfold sdO at h15
   refine FsA.st (Lcl.own.star (Lcl.vws.star (Lcl.map.star hLq))) h15 (by simp) (by simp [hwo]) fun w9 h16=>?_
   obtain ⟨d4,hd4⟩:∃ d4:Sd,d4=⟨d.bw,wv',d.wl ++ [y],r,cl',d.om,opk⟩:=⟨_,rfl⟩
   have h17:FsA s m lim T' q ps7 (SdA x T s d4 B) w F w9:=by
    have e1:wmP y=((⟨pv,hpo⟩:Cell1),pl.map (·.1)):=by rw [hy]; rfl
    have h18:FsA s m lim T' q ps7 (Star (ObjA x (sdO T s d4)) (Star (OwnA d4.wv 74 3 wmE d4.wl) (Star (VwsA nE (d3.wl.map wmP)) (Star (MapA d4.om natV kpV i64ok d4.opn) (Star (ObjA wb (wvO c pv ai)) (Star (OwnA pv 3 1 nE (pl.map (·.1))) B)))))) w F w9:=by
     rw [← hBq]
     have:(wrAt #[T.vv.1,T.nv.1,T.gv.1,T.ov.1,.pointer (some ⟨s,0,none⟩),.bool d3.bw,d3.wv,.int .i64 (d3.ci:Nat),.map (some d3.om)] 6 [wv'])=#[T.vv.1,T.nv.1,T.gv.1,T.ov.1,.pointer (some ⟨s,0,none⟩),.bool d4.bw,d4.wv,.int .i64 (d4.ci:Nat),.map (some d4.om)]:=by
      rw [hd4,hd3,hd2,hd1]
      simp
     rw [this] at h16
     have e2:d4.wl=d3.wl ++ [y]:=by rw [hwl3,hd4]
     have e3:d4.wv=wv':=by rw [hd4]
     have e4:d4.om=d3.om:=by rw [hom3,hd4]
     have e5:d4.opn=d3.opn:=by rw [hd4,hd3]
     unfold sdO
     rw [e2,e5]
     rw [← e3,← e4] at h16
     exact h16
    have h19:=h18.by (Imp.un (Imp.un ((Imp.un (Imp.un Imp.dr)).trans ((Imp.un Imp.sw).trans (Imp.sw.trans (Imp.ow.trans (VwsA.add hpo)))))))
    unfold SdA
    have e6:d4.wl.map wmP=d3.wl.map wmP ++ [((⟨pv,hpo⟩:Cell1),pl.map (·.1))]:=by
     rw [hwl3,hd4,← e1]
     simp
    rw [e6]
    exact h19
   have hnd4:(opk.map (·.1)).Nodup:=by
    have:=MapM.nodup (h17.frame SdA.map)
    rw [hd4] at this
    exact this
   have hfin:=comp_ok (r:=r) (wv':=wv') (y:=y) (a0:=a0) hC.g hd hb hin hmin (by rw [← hd1]; exact hP) hPno hplne (by rw [hbw,hd1] at hO; exact hO) (by rw [hcl',hd1c]) hnd4 (by rw [hy]) (by rw [hy]) (by rw [hy]) (by rw [hn,hd1c] at hpn; exact hpn)
   simp
   refine .inl ⟨rfl,d4,y,ps7,by rw [hd4],by rw [hd4],by rw [hy],?_,?_,?_,?_,fun p hp=>hps7 _ (.tail _ (hps4 p hp)),?_,h17⟩
   ·rcases Classical.em (∃ z,StN T.vars z∧P0 z=true) with ⟨z,hz,hz2⟩ | hno
    ·refine ⟨z,hz,?_⟩
     rw [hy]
     show Al z=true
     obtain ⟨p,hp0⟩:∃ p,pl[0]?=some p:=⟨_,List.getElem?_eq_getElem (by cases pl with | nil=>exact absurd rfl hplne | cons _ _=>simp)⟩
     have h1:=hP.hd
     rw [List.getElem?_append_left (by simp; exact (List.getElem?_eq_some_iff.1 hp0).1),List.getElem?_map,hp0] at h1
     simp at h1
     exact (hP.al z hz).2 (.inl ⟨p,List.mem_of_getElem? hp0,by rw [h1]; exact hz2⟩)
    ·exfalso
     apply ha0
     rw [h.zero (hk.opn _ hin)]
     intro z hz
     cases e:P0 z with
     | false=>exact e
     | true=>exact absurd ⟨z,by rw [← hC.alk.vars]; exact hz,e⟩ hno
   ·rw [hd4]; exact hfin.1
   ·rw [hd4]; exact hfin.2.1
   ·rw [hd4]; exact hfin.2.2
   ·rw [hd4]
    refine ⟨hps7 _ (.head _),fun u hu=>?_,hopk7⟩
    rcases List.mem_append.1 hu with hu | hu
    ·exact ⟨hps7 _ (.tail _ (hps4 _ (hk.all u hu).1)),fun p hp=>hps7 _ (.tail _ (hps4 _ ((hk.all u hu).2 p hp)))⟩
    ·rcases List.mem_singleton.1 hu with rfl
     rw [hy]
     exact ⟨hps7 _ (.tail _ hai4),fun p hp=>hps7 _ (.tail _ (hpl4 p hp))⟩
 ·have hb0:(((pi:Nat):Int) != 0)=true:=by
   rw [bne,Bool.not_eq_true']
   exact beq_eq_false_iff_ne.2 (by omega)
  simp [g0,g1,g5,g6,hb0,cell_blk ow8]
  have hPne:∃ z,StN T.vars z∧Pp z=true:=by
   rcases Classical.em (∃ z,StN T.vars z∧Pp z=true) with h9 | h9
   ·exact h9
   ·exfalso
    apply hpi
    rw [h8.zero hpi4]
    intro z hz
    cases e:Pp z with
    | false=>rfl
    | true=>exact absurd ⟨z,by rw [← hC.alk.vars]; exact hz,e⟩ h9
  unfold CoA at h8
  refine (h8.by Imp.sw).app (cs:=#[.int .i64 (pi:Nat)]) (xs:=[pi]) (Lcl.obj.star hL1) nE_len nE_one sl_22 (by simp [nE]) rfl (by simp; omega) (by simp; unfold maxLen; omega) fun pv' w5 h9=>?_
  have ho9:oneC pv'=true:=h9.frame (Rds.own1:Rds (Star (OwnA pv' 3 1 nE (pl.map (·.1) ++ [pi])) (Star (ObjA wb (wvO c pv ai)) (SdA x T s d1 B))) fun _=>oneC pv'=true)
  simp [g0,g1,g5,g6,hb0,cells_o1 ho9]
  have h10:=h9.by Imp.sw
  refine FsA.st (Lcl.own.star hL1) h10 (by simp [wvO]) (by simp [ho9]) fun w6 h11=>?_
  replace h11:FsA s m lim T' q ps4 (CoA T s x wb c ai pv' (pl ++ [(pi,Pp)]) d1 B) w F w6:=by
   unfold CoA
   simpa [wvO] using h11
  have ow11:=h11.obj
  unfold wvO at ow11
  simp [g0,g1,g5,g6,hb0,cell_blk ow11]
  refine cl_of (bzero_spec x pi ai d1 Pp Al hC (hCL _ _ _) h11 (hcR _ _ _) (hcT _ _ _) (hk1.mono hps4) (hps4 _ h0) hpi4 hai4) ?_
  rintro _ w7 (⟨r,rfl,ps7,hps7,hr7,h12⟩ | ⟨rfl,hf,h12⟩)
  rotate_left
  ·simp [berrV]
   exact .inr ⟨rfl,hf,d1,by rw [hd1],h12.drop.drop⟩
  have ow12:=h12.obj
  unfold wvO at ow12
  have ox12:=(h12.frame (hcR _ _ _)).obj
  unfold sdO at ox12
  have h12d:=h12.drew (hCL _ _ _)
  simp [g0,g1,g5,g6,hb0,cell_blk ow12,cell_blk ox12]
  refine cl_of (f_union ai r Al _ hC.cap (hCL _ _ _) h12d (hps7 _ hai4) hr7) ?_
  rintro _ w8 (⟨r2,rfl,h13⟩ | ⟨rfl,hf,h13⟩)
  ·simp [g0,g1,g5,g6,hb0]
   unfold CoA at h13
   refine FsA.st (Lcl.own.star hL1) h13 (by simp [wvO]) (by simp) fun w9 h14=>?_
   replace h14:FsA s m lim T' q ((r2,fun z=>Al z || zrP T d1 Pp Al T.ops.length z) :: ps7) (CoA T s x wb c r2 pv' (pl ++ [(pi,Pp)]) d1 B) w F w9:=by
    unfold CoA
    simpa [wvO] using h14
   have hlt:=cntR_step (pi:=pi) hP hPne
   simp [g0,g1,g5,g6,hb0]
   refine ⟨cntR T d1.cl (pl ++ [(pi,Pp)]),by omega,r,r2,pv',pl ++ [(pi,Pp)],_,_,_,by simp [g0],by simp [g1],by simp [g5],by simp,hP.step hC.g,rfl,by simp; omega,fun p hp=>.tail _ (hps7 _ (hps4 p hp)),.tail _ hr7,.head _,fun p hp=>?_,fun e=>by simp at e,h14⟩
   rcases List.mem_append.1 hp with hp | hp
   ·exact .tail _ (hps7 _ (hpl4 p hp))
   ·rcases List.mem_singleton.1 hp with rfl
    exact .tail _ (hps7 _ hpi4)
  ·simp [berrV,g0,g1,g5,g6,hb0]
   unfold CoA at h13
   refine At.st (Lcl.own.star hL1) h13 (by simp [wvO]) (by simp) fun w9 h14=>?_
   simp [g0,g1,g5,g6,hb0]
   exact .inr ⟨rfl,hf,d1,by rw [hd1],h14.drop.drop⟩
end
end Go.Proofs.YtkhfdmelcpfgoaaGreat
end
section
set_option maxRecDepth 100000
set_option linter.unusedSimpArgs false
set_option linter.unusedVariables false
namespace Go.Proofs.YtkhfdmelcpfgoaaGreat
open Go Go.W Go.Tk Go.Rx Go.Bd Go.Sy Go.Maps
def stP (T:Nt) (bw:Bool) (z:List Nat):Bool:=if bw=true then hdB z T.goal else decide (z=T.init)
theorem good_goal {T:Nt} (h:goodB T.raw=true):propF (T.vars.map iN) (T.goal.map faN)=true:=by
 unfold goodB at h
 simp only [Bool.and_eq_true] at h
 exact h.1.2
theorem init_st {T:Nt} (h:NtG T):StN T.vars T.init:=⟨h.ilen,fun v hv=>h.init v (by rw [h.ilen]; exact hv)⟩
section
variable {w w1:World} {F:List Nat} {A B B':Asr} {s m lim:Nat} {T T':Nt} {q:SpC} {ps:List Kq}
theorem FsA.newmap (hB:Lcl B) (h:FsA s m lim T' q ps B w F w1):FsA s m lim T' q ps (Star (MapA w1.heap.size natV kpV i64ok ([]:List (Nat × Kq))) B) w F (w1.alloc (.map #[] 0)):=by
 obtain ⟨ns,ks,ss,hG,hk1,hA⟩:=h
 exact ⟨ns,ks,ss,hG,hk1,SpcA.into (hA.newmap (SpcA.lcl hB))⟩
theorem FsA.putA {KW:Kont World} {c b:Nat} {p:Kq} {l:List (Nat × Kq)} (hB:Lcl B) (h:FsA s m lim T' q ps (Star (MapA b natV kpV i64ok l) B) w F w1) (hc:i64ok c) (hl:l.length≤2000000)
  (H:∀ w2,FsA s m lim T' q ps (Star (MapA b natV kpV i64ok (Go.W.putM l c p)) B) w F w2→KW.run w2):@efuH Tryz.prog (Instr.mapUpdate 76 (.map (some b)) (natV c) (kpV p)) w1 KW:=by
 obtain ⟨ns,ks,ss,hG,hk1,hA⟩:=h
 exact At.put (x:=c) (v:=p) (SpcA.lcl hB) (SpcA.out hA) bkeyI Tryz.underlying76 hc (by unfold maxLen; omega) fun w2 h2=>H w2 ⟨ns,ks,ss,hG,hk1,SpcA.into h2⟩
def NewSR (s m lim:Nat) (T T':Nt) (q:SpC) (ps:List Kq) (B:Asr) (w:World) (F:List Nat) (bw:Bool) (v:Value) (w':World):Prop :=
 (∃ x d a ps',v=.tuple #[.pointer (some ⟨x,0,none⟩),.nilIface]∧d.bw=bw∧d.wl=[]∧d.cl=(fun _=>false)∧d.opn=[(0,(a,stP T bw))]∧(∀ p ∈ ps,p ∈ ps')∧SdK ps' d∧FsA s m lim T' q ps' (SdA x T s d B) w F w') ∨
 (v=.tuple #[.pointer none,berrV 10]∧Full T' lim∧At w F B w')
theorem FsA.vnil {α:Type} {enc:α→List Value} (hB:Lcl B) (h:FsA s m lim T' q ps B w F w1):FsA s m lim T' q ps (Star (VwsA enc ([]:List (Cell1 × List α))) B) w F w1:=by
 obtain ⟨ns,ks,ss,hG,hk1,hA⟩:=h
 exact ⟨ns,ks,ss,hG,hk1,SpcA.into (VwsA.nil (SpcA.lcl hB) hA)⟩
theorem new_fin {bw:Bool} {a om tb:Nat} (hB:Lcl B) (h0:(0,fun _=>false) ∈ ps) (h:FsA s m lim T' q ((a,stP T bw) :: ps) (Star (MapA om natV kpV i64ok [(0,((a,stP T bw):Kq))]) (Star (ObjA tb (ntO T)) B)) w F w1) :
  NewSR s m lim T T' q ps B w F bw (.tuple #[.pointer (some ⟨w1.heap.size,0,none⟩),.nilIface]) (w1.alloc (.cells #[T.vv.1,T.nv.1,T.gv.1,T.ov.1,.pointer (some ⟨s,0,none⟩),.bool bw,.slice none 0 0,.int .i64 0,.map (some om)] 78)):=by
 obtain ⟨d,hd⟩:∃ d:Sd,d=⟨bw,.slice none 0 0,[],0,fun _=>false,om,[(0,((a,stP T bw):Kq))]⟩:=⟨_,rfl⟩
 refine .inl ⟨w1.heap.size,d,a,(a,stP T bw) :: ps,rfl,by rw [hd],by rw [hd],by rw [hd],by rw [hd],fun p hp=>.tail _ hp,?_,?_⟩
 ·rw [hd]
  exact ⟨.tail _ h0,fun y hy=>(by cases hy),fun p hp=>by rcases List.mem_singleton.1 hp with rfl; exact .head _⟩
 ·have h1:=h.by (Imp.un Imp.dr)
  have hL1:Lcl (Star (MapA om natV kpV i64ok [(0,((a,stP T bw):Kq))]) B):=Lcl.map.star hB
  have h2:=FsA.vnil (enc:=nE) hL1 h1
  have h3:=FsA.nil (enc:=wmE) (E:=74) (sz:=3) (Lcl.vws.star hL1) h2
  have h4:=h3.alloc (sdO T s d) (Lcl.own.star (Lcl.vws.star hL1))
  rw [hd] at h4 ⊢
  unfold SdA
  exact h4
set_option maxHeartbeats 1000000 in
theorem bnewSide_spec (bw:Bool) (hC:BC T T' lim) (hB:Lcl B) (h:FsA s m lim T' q ps B w F w1) (hT:Rds B fun w'=>NtR w' T) (hgd:goodB T.raw=true) (h0:(0,fun _=>false) ∈ ps) :
  Calls Tryz.prog 29 [ntV T,.pointer (some ⟨s,0,none⟩),.bool bw].toArray w1 fun en w'=>∃ v,en=.returned v∧NewSR s m lim T T' q ps B w F bw v w':=by
 refine enter Tryz.func29 mixed low29 (Nat.le_of_ble_eq_true rfl) ?_
 simp only [L29]
 obtain ⟨tb,htb⟩:∃ tb,tb=w1.heap.size:=⟨_,rfl⟩
 obtain ⟨w2,hw2⟩:∃ w2,w2=w1.alloc (ntO T):=⟨_,rfl⟩
 have hw2':w1.alloc (.cells #[T.vv.1,T.nv.1,T.gv.1,T.ov.1] 26 (0,0))=w2:=by rw [hw2]; rfl
 have h2:FsA s m lim T' q ps (Star (ObjA tb (ntO T)) B) w F w2:=by rw [htb,hw2]; exact h.alloc _ hB
 have hLt:Lcl (Star (ObjA tb (ntO T)) B):=Lcl.obj.star hB
 have ot:=h2.obj
 unfold ntO at ot
 have hst:StN T'.vars T.init:=by rw [hC.alk.vars]; exact init_st hC.g
 have hgl:FcOk T'.vars T.goal:=by rw [hC.alk.vars]; exact hC.g.goal
 have hgp:propF (T'.vars.map iN) (T.goal.map faN)=true:=by rw [hC.alk.vars]; exact good_goal hgd
 have hrg:Rds (Star (ObjA tb (ntO T)) B) fun w'=>Vw w' T.gv.1 fcE T.goal:=fun w' F' hs=>((Rds.star hT) w' F' hs).goal
 have hri:Rds (Star (ObjA tb (ntO T)) B) fun w'=>Vw w' T.nv.1 nE T.init:=fun w' F' hs=>((Rds.star hT) w' F' hs).init
 simp [ntV,← htb,hw2']
 cases bw with
 | true =>
  simp [cell_blk ot]
  refine cl_of (f_partial T.gv.1 T.goal hC.cap hLt h2 hrg hgp hgl) ?_
  rintro _ w3 (⟨a,rfl,h3⟩ | ⟨rfl,hf,h3⟩)
  rotate_left
  ·simp [berrV]
   exact .inr ⟨rfl,hf,h3.drop⟩
  have ot3:=h3.obj
  unfold ntO at ot3
  have rt3:=rd_c4 ot3
  simp [rt3]
  refine ins_mk ?_
  simp
  have est:(fun z=>hdB z T.goal)=stP T true:=funext fun z=>by simp [stP]
  rw [est] at h3
  have hm3:=h3.newmap hLt
  refine FsA.putA (c:=0) (p:=((a,stP T true):Kq)) hLt hm3 (by unfold i64ok; omega) (by simp) fun w5 h5=>?_
  simp
  exact new_fin (bw:=true) hB h0 (by simpa [Go.W.putM] using h5)
 | false =>
  simp [cell_blk ot]
  refine cl_of (f_single T.nv.1 T.init hC.cap hLt h2 hri hst) ?_
  rintro _ w3 (⟨a,rfl,h3⟩ | ⟨rfl,hf,h3⟩)
  rotate_left
  ·simp [berrV]
   exact .inr ⟨rfl,hf,h3.drop⟩
  have ot3:=h3.obj
  unfold ntO at ot3
  have rt3:=rd_c4 ot3
  simp [rt3]
  refine ins_mk ?_
  simp
  have est:(fun z=>decide (z=T.init))=stP T false:=funext fun z=>by simp [stP]
  rw [est] at h3
  have hm3:=h3.newmap hLt
  refine FsA.putA (c:=0) (p:=((a,stP T false):Kq)) hLt hm3 (by unfold i64ok; omega) (by simp) fun w5 h5=>?_
  simp
  exact new_fin (bw:=false) hB h0 (by simpa [Go.W.putM] using h5)
end
end Go.Proofs.YtkhfdmelcpfgoaaGreat
end
