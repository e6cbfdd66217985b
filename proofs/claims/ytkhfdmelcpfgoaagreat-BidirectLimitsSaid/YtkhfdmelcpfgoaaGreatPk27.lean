/-
  A part of the proof of this claim's statement (BiO, BiN, BiP, BiQ): plain theorems; no conditions beyond those each names.
-/
import Derived.Test.YtkhfdmelcpfgoaaGreatPk26
section
set_option maxRecDepth 100000
set_option linter.unusedSimpArgs false
set_option linter.unusedVariables false
namespace Go.Proofs.YtkhfdmelcpfgoaaGreat
open Go Go.W Go.Tk Go.Rx Go.Bd Go.Sy Go.Maps
def knE (p:Nat × Kq):List Value:=[.int .i64 (p.2.1:Nat),.int .i64 (p.1:Nat)]
theorem knE_len (p:Nat × Kq):(knE p).length=2:=rfl
theorem knE_one (p:Nat × Kq):(knE p).all oneC=true:=rfl
def WtL (o L:List (Nat × Kq)):Prop:=∀ p,p ∈ L↔p ∈ o
def WtI (w:World) (x:Nat) (d:Sd) (lv:Value) (L:List Nat) (k:Nat) (ρ:Env) (w':World):Prop :=
 ρ 0=.pointer (some ⟨x,0,none⟩)∧ρ 11=lv∧∃ acc:List (Nat × Kq),acc.map (·.1)=L.take k∧(∀ p ∈ acc,p ∈ d.opn)∧At w [] (Star (OwnA (ρ 3) 149 2 knE acc) (Star (OwnA lv 3 1 nE L) Emp)) w'
set_option maxHeartbeats 1000000 in
theorem bwaiting_spec {w:World} (x s:Nat) (T:Nt) (d:Sd) (hx:SdR w x T s d) (hv:∀ p ∈ d.opn,p.2.1≤2000000) (hl:d.opn.length≤1000000) :
  Calls Tryz.prog 91 [.pointer (some ⟨x,0,none⟩)].toArray w fun e w'=>∃ v,e=.returned v∧∃ L:List (Nat × Kq),WtL d.opn L∧L.length≤1000000∧At w [] (Star (OwnA v 149 2 knE L) Emp) w':=by
 refine enter Tryz.func91 mixed low91 (Nat.le_of_ble_eq_true rfl) ?_
 simp only [L91]
 have ox:=hx.obj
 unfold sdO at ox
 have hnd:=MapM.nodup hx.map
 have h0:At w [] Emp w:=At.start rfl
 simp [cell_blk ox]
 refine cl_of (bkeys_call d.om w) ?_
 rintro _ _ ⟨rfl,rfl⟩
 simp
 refine cl_of (bsorted_call hx.map hv (by omega)) ?_
 rintro lv w2 ⟨L,hL,ho,hlow,k2⟩
 have h2:At w [] (Star (OwnA lv 3 1 nE L) Emp) w2:=h0.more Lcl.emp k2 ⟨lv.own,⟨ho,rfl⟩,hlow⟩
 have hLl:L.length≤1000000:=by
  have:=nodup_len L (d.opn.map (·.1)) (List.nodup_iff_pairwise_ne.2 (hL.1.imp fun h=>Nat.ne_of_lt h)) fun x hx=>(hL.2 x).1 hx
  simp at this
  omega
 have h3:=At.nil (enc:=knE) (E:=149) (sz:=2) (Lcl.own.star Lcl.emp) h2
 simp [ho.len]
 refine range_loop (n:=L.length) (by omega) (WtI w x d lv L) (by simp) (by simp)
  ⟨by simp,by simp,[],by simp,fun p hp=>(by cases hp),by simpa using h3⟩ (by decide) (fun _ _ _ _ h=>by simpa [WtI] using h) (fun _ _ _ _ h=>by simpa [WtI] using h) ?_ ?_
 ·rintro k ρ w3 hk3 hc hlm ⟨g0,g11,acc,hacc,hin,h4⟩
  obtain ⟨uv,huv⟩:∃ uv,uv=ρ 3:=⟨_,rfl⟩
  have g3:=huv.symm
  rw [g3] at h4
  obtain ⟨c,hLc⟩:∃ c,L[k]?=some c:=⟨_,List.getElem?_eq_getElem hk3⟩
  have hlv:=h4.drop.own.vw
  have ec:=nE_cell hlv hLc
  have hki:(k:Int) < L.length:=by omega
  have hx4:=hx.kp h4.2
  have ox4:=hx4.obj
  unfold sdO at ox4
  obtain ⟨pc,hpc,hpc1⟩:=List.mem_map.1 ((hL.2 c).1 (List.mem_of_getElem? hLc))
  obtain ⟨c',a,P⟩:=pc
  have hpc1:c'=c:=hpc1
  subst hpc1
  have hget:getM d.opn c'=some (a,P):=(getM_kv hnd).2 hpc
  have hca:i64ok c':=by
   obtain ⟨es,clock,_,_,_,hok,_⟩:=hx.map
   exact hok _ hpc
  have hal:acc.length≤1000000:=by
   have:=congrArg List.length hacc
   simp at this
   omega
  simp (disch:=omega) [g0,g11,g3,hc,hlm,hlv.idx,ec,cell_blk ox4]
  refine MapM.look1 (x:=c') hx4.map bkeyI Tryz.underlying76 zint hca ?_
  simp [hget,kpV,g0,g11,g3,hc,hlm]
  have h5:=h4.kp0 (Lcl.own.star (Lcl.own.star Lcl.emp)) ((Kp.refl [] w3).alloc (.cells #[.int .i64 (a:Nat),.int .i64 (c':Nat)] 149))
  refine At.append (xs:=[(c',((a,P):Kq))]) (Lcl.own.star Lcl.emp) h5 knE_len knE_one sl_146 rfl (fun j u hj=>?_) (by omega) (by unfold maxLen; omega) fun v' w6 h6=>?_
  ·rw [add_none,cell_blk alloc_new]
   simpa [knE] using hj
  simp [g0,g11,hc,hlm]
  refine ⟨by simp [g0],by simp [g11],acc ++ [(c',((a,P):Kq))],?_,fun p hp=>?_,by simpa using h6⟩
  ·rw [take_snoc hLc,List.map_append,hacc]
   rfl
  ·rcases List.mem_append.1 hp with hp | hp
   ·exact hin p hp
   ·rcases List.mem_singleton.1 hp with rfl
    exact hpc
 ·rintro ρ w3 ⟨g0,g11,acc,hacc,hin,h4⟩
  rw [List.take_length] at hacc
  simp
  refine ⟨acc,fun p=>⟨hin p,fun hp=>?_⟩,?_,h4.by (Imp.un Imp.dr)⟩
  ·have:p.1 ∈ acc.map (·.1):=by rw [hacc]; exact (hL.2 _).2 (List.mem_map.2 ⟨p,hp,rfl⟩)
   obtain ⟨p',hp',e⟩:=List.mem_map.1 this
   have e1:=(getM_kv hnd).2 (show (p'.1,p'.2) ∈ d.opn from hin p' hp')
   have e2:=(getM_kv hnd).2 (show (p.1,p.2) ∈ d.opn from hp)
   rw [e,e2] at e1
   have e3:=Option.some.inj e1
   have:p'=p:=by
    obtain ⟨p1,p2⟩:=p
    obtain ⟨q1,q2⟩:=p'
    simp at e e3
    rw [e,e3]
   rw [← this]
   exact hp'
  ·have:=congrArg List.length hacc
   simp at this
   omega
end Go.Proofs.YtkhfdmelcpfgoaaGreat
end
section
set_option maxRecDepth 100000
set_option linter.unusedSimpArgs false
set_option linter.unusedVariables false
namespace Go.Proofs.YtkhfdmelcpfgoaaGreat
open Go Go.W Go.Tk Go.Rx Go.Bd Go.Sy Go.Maps
def resO (v:Nat) (p:Value) (c e:Nat):Obj:=.cells #[.int .i64 (v:Nat),p,.int .i64 (c:Nat),.int .i64 (e:Nat)] 38 (0,0)
def resV (v:Nat) (p:Value) (c e:Nat):Value:=.agg #[.int .i64 (v:Nat),p,.int .i64 (c:Nat),.int .i64 (e:Nat)]
abbrev StepT (T:Nt) (op:Nat) (x y:List Nat):Prop:=EB T false op x y
abbrev GoalT (T:Nt) (z:List Nat):Prop:=hdB z T.goal=true
abbrev LoT (T:Nt) (H:List Nat→Nat):Prop:=Go.Bi.Lo (StN T.vars) (StepT T) (kB T) (GoalT T) H
def ResOk (T:Nt) (lim:Nat) (vd:Nat) (out:List Nat) (c:Nat):Prop :=
 (vd=3∧out=[]∧c=0∧Full T lim)∨(vd=2∧out=[]∧c=0∧∀ I,∃ H,LoT T H∧(∀ z,StN T.vars z→H z≤I)∧H T.init=I) ∨
 (vd=1∧c≤2000000000∧(∃ z,GoalT T z∧RunT T T.init out z c)∧∃ H,LoT T H∧(∀ z,StN T.vars z→H z≤c)∧H T.init=c)
theorem opR_val {s m lim:Nat} {T':Nt} {q:SpC} {ps:List Kq} {B:Asr} {w:World} {F:List Nat} {P:List Nat→Bool} {v:Value} {w':World} (h:OpR s m lim T' q ps B w F P v w') :
  ∃ (x:Nat) (e:Value),v=.tuple #[.int .i64 (x:Nat),e]∧((e=.nilIface∧FsA s m lim T' q ((x,P) :: ps) B w F w')∨(e=berrV 10∧Full T' lim∧At w F B w')):=by
 rcases h with ⟨x,rfl,h⟩ | ⟨rfl,hf,h⟩
 ·exact ⟨x,_,rfl,.inl ⟨rfl,h⟩⟩
 ·exact ⟨0,_,rfl,.inr ⟨rfl,hf,h⟩⟩
def ResR (T:Nt) (lim:Nat) (B:Asr) (w:World) (F:List Nat) (v:Value) (w':World):Prop :=
 ∃ (vd:Nat) (p:Value) (out:List Nat) (c e:Nat),v=.tuple #[resV vd p c e,.nilIface]∧ResOk T lim vd out c∧out.length≤2000000000000∧At w F (Star (OwnA p 3 1 nE out) B) w'
theorem full_alk {T T':Nt} {lim:Nat} (h:Alk T T') (hf:Full T' lim):Full T lim:=by
 unfold Full at hf ⊢
 rw [h.vars] at hf
 exact hf
structure SiC (T:Nt) (lim:Nat):Prop where
 g:NtG T
 good:goodB T.raw=true
 l:TkL T.raw
 l1:1≤lim
 l2:lim≤1048576
 cap:Cap T lim
 ol:T.ops.length≤20
 nN:nSt T≤512
 nb:nBits T.vars≤100
theorem gOf_le {σ:Type} {wl:List (Go.Bi.Wp σ)} {c:Nat} (h:∀ w,w ∈ wl→w.cost≤c) (z:σ):Go.Bi.gOf wl c z≤c:=by
 unfold Go.Bi.gOf
 cases hf:wl.find? (fun w=>w.all z) with
 | none=>exact Nat.le_refl _
 | some w=>exact h w (List.mem_of_find?_eq_some hf)
theorem solved_ok {T:Nt} {bw:Bool} {d4:Sd} {wl:List Wm} {y:Wm} {c:Nat} {st s0 out:List Nat} (hg:NtG T) (hb:d4.bw=bw) (hd:SdG T (fun z=>stP T bw z=true) d4) (hwl:d4.wl=wl ++ [y]) (hyc:y.cost=c) (hst:StN T.vars st) (he:stP T (!bw) st=true) (hy:y.all st=true)
  (hs0:stP T bw s0=true) (hs0v:StN T.vars s0) (hrun:if bw=true then RunT T st out s0 c else RunT T s0 out st c) (hno:∀ y ∈ wl,∀ z,StN T.vars z→stP T (!bw) z=true→y.all z=false) :
  (∃ z,GoalT T z∧RunT T T.init out z c)∧∃ H,LoT T H∧(∀ z,StN T.vars z→H z≤c)∧H T.init=c:=by
 have hyw:wmW y ∈ d4.wl.map wmW:=by rw [hwl]; simp
 have hop:∀ p ∈ (d4.opn.map fun p=>(p.1,p.2.2)),c < p.1:=fun p hp=>by
  have:=hd.lt _ hyw p hp
  have e:(wmW y).cost=c:=hyc
  omega
 have hst0:∀ z,StN T.vars z→stP T bw z=true→∃ w,w ∈ d4.wl.map wmW∧w.all z=true∧w.cost=0:=fun z hz h=>by
  rcases hd.st z hz h with h1 | ⟨p,hp,_,h2⟩
  ·exact h1
  ·have:=hop p hp; omega
 have hle:∀ w,w ∈ d4.wl.map wmW→w.cost≤c:=fun w hw=>by
  have h1:=hd.asc
  rw [hwl,List.map_append,List.map_cons,List.map_nil] at h1 hw
  rcases List.mem_append.1 hw with hw | hw
  ·have:=(List.pairwise_append.1 h1).2.2 w hw _ (List.mem_singleton.2 rfl)
   have e:(wmW y).cost=c:=hyc
   omega
  ·rcases List.mem_singleton.1 hw with rfl
   exact Nat.le_of_eq hyc
 cases bw with
 | true =>
  simp only [if_true] at hrun
  have hsi:st=T.init:=by simpa [stP] using he
  subst hsi
  refine ⟨⟨s0,by simpa [stP] using hs0,hrun⟩,Go.Bi.gOf (d4.wl.map wmW) c,?_,fun z _=>gOf_le hle z,?_⟩
  ·have hd2:Go.Bi.SdOk (StN T.vars) (fun op x z=>StepT T op z x) (kB T) (GoalT T) (d4.wl.map wmW) d4.cl (d4.opn.map fun p=>(p.1,p.2.2)):=by
    have e1:(fun op x z=>StepT T op z x)=EB T true:=by
     funext op x z
     apply propext
     exact ⟨fun h=>EB.flip (bw:=true) h,fun h=>EB.flip (bw:=false) h⟩
    have e2:GoalT T=fun z=>stP T true z=true:=by
     funext z
     simp [stP]
    rw [e1,e2]
    have h1:Go.Bi.SdOk (StN T.vars) (EB T d4.bw) (kB T) (fun z=>stP T true z=true) (d4.wl.map wmW) d4.cl (d4.opn.map fun p=>(p.1,p.2.2)):=hd
    rw [hb] at h1
    exact h1
   refine Go.Bi.bwd_low hd2 c hle (fun p hp=>Nat.le_of_lt (hop p hp)) fun z hz hgz=>.inl (hst0 z hz (by simpa [stP] using hgz))
  ·rw [Go.Bi.gOf_at hd.dis hst hyw hy]
   exact hyc
 | false =>
  simp only [Bool.false_eq_true,if_false] at hrun
  have hsi:s0=T.init:=by simpa [stP] using hs0
  subst hsi
  refine ⟨⟨st,by simpa [stP] using he,hrun⟩,?_⟩
  have hd2:Go.Bi.SdOk (StN T.vars) (StepT T) (kB T) (fun z=>stP T false z=true) (wl.map wmW ++ [wmW y]) d4.cl (d4.opn.map fun p=>(p.1,p.2.2)):=by
   have h1:Go.Bi.SdOk (StN T.vars) (EB T d4.bw) (kB T) (fun z=>stP T false z=true) (d4.wl.map wmW) d4.cl (d4.opn.map fun p=>(p.1,p.2.2)):=hd
   rw [hwl,List.map_append,List.map_cons,List.map_nil,hb] at h1
   exact h1
  obtain ⟨H,h1,h2,h3⟩:=Go.Bi.fwd_low (G:=GoalT T) hd2 (fun w hw z hz hgz=>by
   obtain ⟨u,hu,rfl⟩:=List.mem_map.1 hw
   exact hno u hu z hz (by simpa [stP] using hgz)) (fun z hz h=>by
   obtain ⟨w,hw,h1,h2⟩:=hst0 z hz h
   rw [hwl,List.map_append,List.map_cons,List.map_nil] at hw
   exact ⟨w,hw,h1,h2⟩)
  exact ⟨H,h1,fun z _=>by rw [← hyc]; exact h2 z,by rw [h3 T.init (init_st hg) (by simp [stP])]; exact hyc⟩
theorem ic_errno:intC Tryz.prog 46=true:=by kernel_rfl
theorem bd_new {T:Nt} {d:Sd} {a:Nat} {P:List Nat→Bool} (h1:T.ops.length≤20) (h2:nSt T≤512) (hw:d.wl=[]) (ho:d.opn=[(0,((a,P):Kq))]):SdBd T d:=by
 have hc:cntC T d.cl≤nSt T:=List.countP_le_length
 refine ⟨h1,h2,by rw [hw]; simpa using hc,by rw [hw]; simpa using hc,fun p hp=>?_,fun y hy=>(by rw [hw] at hy; cases hy),by rw [ho,hw]; simp⟩
 rw [ho] at hp
 rcases List.mem_singleton.1 hp with rfl
 exact Nat.zero_le _
structure SiD (T:Nt) (bw:Bool) (ps:List Kq) (d:Sd) (en n:Nat):Prop where
 dbw:d.bw=bw
 z0:(0,fun _=>false) ∈ ps
 en:(en,stP T (!bw)) ∈ ps
 k:SdK ps d
 g:SdG T (fun z=>stP T bw z=true) d
 b:SdBd T d
 no:∀ y ∈ d.wl,∀ z,StN T.vars z→stP T (!bw) z=true→y.all z=false
 n:n=cntC T d.cl+1
theorem none_inf {T:Nt} {bw:Bool} {ps:List Kq} {d:Sd} {en n:Nat} (hg:NtG T) (hD:SiD T bw ps d en n) (hno:NoneOk T.vars d) (I:Nat):∃ H,LoT T H∧(∀ z,StN T.vars z→H z≤I)∧H T.init=I:=by
 have hd:=hno.ok hD.g
 have hb:=hD.dbw
 cases bw with
 | true =>
  refine ⟨fun z=>if d.cl z=true then 0 else I,⟨fun z hz h=>?_,fun op x y hx hy he=>?_⟩,fun z _=>by show (if _ then _ else _)≤_; split <;> omega,?_⟩
  ·show (if _ then _ else _)=_
   rcases hd.st z hz (by simpa [stP] using h) with ⟨w,hw,e,_⟩ | ⟨p,hp,_⟩
   ·rw [if_pos ((hd.cl z hz).2 ⟨w,hw,e⟩)]
   ·cases hp
  ·show (if _ then _ else _)≤(if _ then _ else _)+_
   by_cases e:d.cl y=true
   ·obtain ⟨w,hw,e2⟩:=(hd.cl y hy).1 e
    have he2:EB T d.bw op y x:=by rw [hb]; exact EB.flip (bw:=true) he
    rcases hd.out w hw y op x e2 hx he2 with ⟨w',hw',e',_⟩ | ⟨p,hp,_⟩
    ·rw [if_pos ((hd.cl x hx).2 ⟨w',hw',e'⟩)]; omega
    ·cases hp
   ·rw [if_neg e]
    split <;> omega
  ·show (if _ then _ else _)=_
   rw [if_neg]
   intro e
   obtain ⟨w,hw,e2⟩:=(hd.cl _ (init_st hg)).1 e
   obtain ⟨u,hu,rfl⟩:=List.mem_map.1 hw
   have h1:=hD.no u hu T.init (init_st hg) (by simp [stP])
   have h2:u.all T.init=true:=e2
   rw [h1] at h2
   cases h2
 | false =>
  have hd2:Go.Bi.SdOk (StN T.vars) (StepT T) (kB T) (fun z=>stP T false z=true) (d.wl.map wmW) d.cl []:=by
   have h1:=hd
   simp only [hb] at h1
   exact h1
  obtain ⟨H,h1,h2,h3⟩:=Go.Bi.fwd_inf (G:=GoalT T) hd2 (fun w hw z hz hgz=>by
   obtain ⟨u,hu,rfl⟩:=List.mem_map.1 hw
   exact hD.no u hu z hz (by simpa [stP] using hgz)) I
  exact ⟨H,h1,fun z _=>h2 z,h3 T.init (init_st hg) (by simp [stP])⟩
def SiI (s m lim:Nat) (T T':Nt) (q:SpC) (w:World) (F:List Nat) (rb x:Nat) (Bs:Asr) (bw:Bool) (n:Nat) (ρ:Env) (w':World):Prop :=
 ρ 6=.pointer (some ⟨rb,0,none⟩)∧ρ 8=.pointer (some ⟨s,0,none⟩)∧ρ 10=.pointer (some ⟨x,0,none⟩) ∧
 ((ρ 9=berrV 10∧Full T lim∧∃ d',At w F (SdA x T s d' Bs) w') ∨
  (ρ 9=.nilIface∧∃ d ps' en,ρ 11=.int .i64 (en:Nat)∧SiD T bw ps' d en n∧FsA s m lim T' q ps' (SdA x T s d Bs) w F w'))
section
variable {w w1:World} {F:List Nat} {A B B':Asr} {lim:Nat} {T:Nt}
set_option maxHeartbeats 4000000 in
theorem bsingle_spec (bw:Bool) (hS:SiC T lim) (hB:Lcl B) (h:At w F B w1) (hT:Rds B fun w'=>NtR w' T) :
  Calls Tryz.prog 33 [ntV T,.int .i64 (lim:Nat),.bool bw].toArray w1 fun en w'=>∃ v,en=.returned v∧ResR T lim B w F v w':=by
 refine enter Tryz.func33 mixed low33 (Nat.le_of_ble_eq_true rfl) ?_
 simp only [L33]
 obtain ⟨tb,htb⟩:∃ tb,tb=w1.heap.size:=⟨_,rfl⟩
 obtain ⟨w2,hw2⟩:∃ w2,w2=w1.alloc (ntO T):=⟨_,rfl⟩
 have hw2':w1.alloc (.cells #[T.vv.1,T.nv.1,T.gv.1,T.ov.1] 26 (0,0))=w2:=by rw [hw2]; rfl
 have h2:At w F (Star (ObjA tb (ntO T)) B) w2:=by rw [htb,hw2]; exact h.alloc _ hB
 obtain ⟨rb,hrb⟩:∃ rb,rb=w2.heap.size:=⟨_,rfl⟩
 obtain ⟨w3,hw3⟩:∃ w3,w3=w2.alloc (resO 0 (.slice none 0 0) 0 0):=⟨_,rfl⟩
 have hLt:Lcl (Star (ObjA tb (ntO T)) B):=Lcl.obj.star hB
 have h3:At w F (Star (ObjA rb (resO 0 (.slice none 0 0) 0 0)) (Star (ObjA tb (ntO T)) B)) w3:=by rw [hrb,hw3]; exact h2.alloc _ hLt
 have hw3':w2.alloc (.cells #[.int .i64 0,.slice none 0 0,.int .i64 0,.int .i64 0] 38 (0,0))=w3:=by rw [hw3]; rfl
 obtain ⟨Bs,hBs⟩:∃ Bs,Bs=Star (ObjA rb (resO 0 (.slice none 0 0) 0 0)) (Star (ObjA tb (ntO T)) B):=⟨_,rfl⟩
 have hLs:Lcl Bs:=by rw [hBs]; exact Lcl.obj.star hLt
 rw [← hBs] at h3
 have rT:Rds Bs fun w'=>NtR w' T:=by rw [hBs]; exact Rds.star (Rds.star hT)
 have rO:Rds Bs fun w'=>w'.heap[tb]?=some (ntO T):=by rw [hBs]; exact Rds.star Rds.obj
 have rR:Rds Bs fun w'=>w'.heap[rb]?=some (resO 0 (.slice none 0 0) 0 0):=by rw [hBs]; exact Rds.obj
 have atP:∀ {w':World} {P:World→Prop},At w F Bs w'→Rds Bs P→P w':=fun h hp=>by
  obtain ⟨⟨F',h2,_⟩,_⟩:=h
  exact hp _ _ h2
 have ot:=atP h3 rO
 unfold ntO at ot
 simp [ntV,← htb,hw2',← hrb,hw3',rd_c4 ot]
 refine cl_of (snew_spec T lim hLs h3 rT hS.g hS.good hS.l hS.l1 hS.l2 (newW (W:=tru) fun G h=>trivial)) ?_
 rintro v4 w4 hnew
 rcases hnew with ⟨hbig,_⟩ | ⟨_,e,ns,hs,hnew⟩
 ·have:=hS.nb; omega
 rcases hnew with ⟨rfl,rfl,h4⟩ | ⟨rfl,s,m,T',q,hA,rfl,hG,h4⟩
 ·simp [eB,berrV,ic_errno]
  rw [hBs] at h4
  refine (h4).st hLt (by simp [resO]) (by simp) fun wE hE2=>?_
  replace hE2:At w F (Star (ObjA rb (resO 3 (.slice none 0 0) 0 0)) (Star (ObjA tb (ntO T)) B)) wE:=by simpa [resO] using hE2
  have oE:=hE2.obj
  unfold resO at oE
  simp
  refine postL_c2 ag_38 (by simp) oE (by simp) rfl ?_
  exact ⟨_,rfl,3,.slice none 0 0,[],0,0,rfl,.inl ⟨rfl,rfl,rfl,⟨ns,⟨hS.nb,hS.g.vars,hS.g.vlen,hs.ext.wf,hS.l1,hS.l2,hs.lm⟩,hs.full rfl rfl⟩⟩,by simp,(hE2.drop.drop).nil hB⟩
 have hC:BC T T' lim:=⟨hA,hS.g,by intro ns h; rw [show SpOk T'.vars=SpOk T.vars by rw [hA.vars]] at h; exact hS.cap ns h⟩
 have h00:((0,fun _=>false):Kq) ∈ [((0,fun _=>false):Kq)]:=.head _
 have h5:FsA s m lim T' q [((0,fun _=>false):Kq)] Bs w F w4:=by
  refine ⟨ns,_,[],hG,fun p hp=>?_,h4⟩
  rcases List.mem_singleton.1 hp with rfl
  refine ⟨?_,⟨by unfold Ref; omega,fun a=>by rw [eval_zero]; simp⟩⟩
  by_cases e0:q.all=0
  ·rw [e0]; exact getM_put _ _ _
  ·rw [getM_put_ne e0]; rfl
 have atS:∀ {w':World} {x:Nat} {d:Sd} {P:World→Prop},At w F (SdA x T s d Bs) w'→Rds (SdA x T s d Bs) P→P w':=fun h hp=>by
  obtain ⟨⟨F',h2,_⟩,_⟩:=h
  exact hp _ _ h2
 have ot4:=h5.frame rO
 unfold ntO at ot4
 have hstI:StN T'.vars T.init:=by rw [hA.vars]; exact init_st hS.g
 have hglI:FcOk T'.vars T.goal:=by rw [hA.vars]; exact hS.g.goal
 have hgpI:propF (T'.vars.map iN) (T.goal.map faN)=true:=by rw [hA.vars]; exact good_goal hS.good
 simp [rd_c4 ot4]
 refine cl_of (bnewSide_spec bw hC hLs h5 rT hS.good h00) ?_
 rintro _ w5 (⟨x,d,a,ps6,rfl,hdb,hdw,hdc,hdo,hps6,hdk,h6⟩ | ⟨rfl,hf,h6⟩)
 rotate_left
 ·simp [berrV]
  rw [hBs] at h6
  refine (h6).st hLt (by simp [resO]) (by simp) fun wE hE2=>?_
  replace hE2:At w F (Star (ObjA rb (resO 3 (.slice none 0 0) 0 0)) (Star (ObjA tb (ntO T)) B)) wE:=by simpa [resO] using hE2
  have oE:=hE2.obj
  unfold resO at oE
  simp
  refine postL_c2 ag_38 (by simp) oE (by simp) rfl ?_
  exact ⟨_,rfl,3,.slice none 0 0,[],0,0,rfl,.inl ⟨rfl,rfl,rfl,full_alk hA hf⟩,by simp,(hE2.drop.drop).nil hB⟩
 have ot6:=h6.frame (SdA.rds rO)
 unfold ntO at ot6
 have hg0:SdG T (fun z=>stP T bw z=true) d:=by
  have h1:Go.Bi.SdOk (StN T.vars) (EB T bw) (kB T) (fun z=>stP T bw z=true) [] (fun _=>false) [(0,stP T bw)]:=Go.Bi.SdOk.begin fun z _=>Iff.rfl
  have h2:Go.Bi.SdOk (StN T.vars) (EB T d.bw) (kB T) (fun z=>stP T bw z=true) (d.wl.map wmW) d.cl (d.opn.map fun p=>(p.1,p.2.2)):=by
   rw [hdb,hdw,hdc,hdo]
   exact h1
  exact h2
 have hb0:SdBd T d:=bd_new hS.ol hS.nN hdw hdo
 have hLx:Lcl (SdA x T s d Bs):=SdA.lcl hLs
 have hri:Rds (SdA x T s d Bs) fun w'=>Vw w' T.nv.1 nE T.init:=SdA.rds fun w' F' hs=>(rT w' F' hs).init
 have hrg:Rds (SdA x T s d Bs) fun w'=>Vw w' T.gv.1 fcE T.goal:=SdA.rds fun w' F' hs=>(rT w' F' hs).goal
 cases bw with
 | true =>
  have est:(fun z=>decide (z=T.init))=stP T (!true):=funext fun z=>by simp [stP]
  simp [cell_blk ot6]
  refine cl_of (f_single T.nv.1 T.init hC.cap hLx h6 hri hstI) ?_
  rw [est]
  rintro v7 w7 hop
  obtain ⟨en,er,rfl,hcase⟩:=opR_val hop
  simp
  refine loop_inv (SiI s m lim T T' q w F rb x Bs true) (cntC T d.cl+1) ⟨by simp,by simp,by simp,?_⟩ ?_
  ·rcases hcase with ⟨rfl,h8⟩ | ⟨rfl,hf,h8⟩
   ·exact .inr ⟨by simp,d,(en,stP T (!true)) :: ps6,en,by simp,⟨hdb,.tail _ (hps6 _ h00),.head _,hdk.cons,hg0,hb0,fun y hy=>(by rw [hdw] at hy; cases hy),rfl⟩,h8⟩
   ·exact .inl ⟨by simp,full_alk hA hf,d,h8⟩
  rintro n ρ w9 ⟨g6,g8,g10,⟨g9,hf,d',h9⟩ | ⟨g9,d2,ps9,en2,g11,hD,h9⟩⟩
  ·have oxE:=atS h9 SdA.obj
   unfold sdO at oxE
   have owE:=atS h9 SdA.wvs
   simp [g6,g8,g10,g9,cell_blk oxE,owE.len,berrV]
   have hE1:=h9.drop.drop.drop.drop
   rw [hBs] at hE1
   refine hE1.st hLt (by simp [resO]) (by simp) fun wE hE2=>?_
   replace hE2:At w F (Star (ObjA rb (resO 3 (.slice none 0 0) 0 (d').wl.length)) (Star (ObjA tb (ntO T)) B)) wE:=by simpa [resO] using hE2
   have oE:=hE2.obj
   unfold resO at oE
   simp [g6,g8,g10,g9]
   refine postL_c2 ag_38 (by simp [g6,g8,g10,g9]) oE (by simp) rfl ?_
   exact ⟨_,rfl,3,.slice none 0 0,[],0,(d').wl.length,rfl,.inl ⟨rfl,rfl,rfl,hf⟩,by simp,(hE2.drop.drop).nil hB⟩
  have hopl:d2.opn.length≤1000000:=by have:=hD.b.on; have:=hD.b.wl; have:=hD.b.nN; omega
  simp [g6,g8,g10,g9,g11]
  refine cl_of (bnext_spec x d2 hC hLs h9 hD.k hD.z0 hopl) ?_
  rintro _ w10 (⟨c,op',ps10,rfl,hNx,hps10,hk10,h10⟩ | ⟨rfl,hNo,ps10,hps10,h10⟩ | ⟨rfl,hf,op',h10⟩)
  rotate_left 2
  ·have oxE:=atS h10 SdA.obj
   unfold sdO at oxE
   have owE:=atS h10 SdA.wvs
   simp [g6,g8,g10,g9,g11,cell_blk oxE,owE.len,berrV]
   have hE1:=h10.drop.drop.drop.drop
   rw [hBs] at hE1
   refine hE1.st hLt (by simp [resO]) (by simp) fun wE hE2=>?_
   replace hE2:At w F (Star (ObjA rb (resO 3 (.slice none 0 0) 0 (({ d2 with opn:=op' }:Sd)).wl.length)) (Star (ObjA tb (ntO T)) B)) wE:=by simpa [resO] using hE2
   have oE:=hE2.obj
   unfold resO at oE
   simp [g6,g8,g10,g9,g11]
   refine postL_c2 ag_38 (by simp [g6,g8,g10,g9,g11]) oE (by simp) rfl ?_
   exact ⟨_,rfl,3,.slice none 0 0,[],0,(({ d2 with opn:=op' }:Sd)).wl.length,rfl,.inl ⟨rfl,rfl,rfl,full_alk hA hf⟩,by simp,(hE2.drop.drop).nil hB⟩
  rotate_left
  ·have oxE:=h10.frame SdA.obj
   unfold sdO at oxE
   have owE:=h10.frame SdA.wvs
   simp [g6,g8,g10,g9,g11,cell_blk oxE,owE.len]
   obtain ⟨_,_,_,_,_,hE0⟩:=h10
   have hE1:=(SpcA.gone hE0).drop.drop.drop.drop
   rw [hBs] at hE1
   refine hE1.st hLt (by simp [resO]) (by simp) fun wE hE2=>?_
   replace hE2:At w F (Star (ObjA rb (resO 2 (.slice none 0 0) 0 d2.wl.length)) (Star (ObjA tb (ntO T)) B)) wE:=by simpa [resO] using hE2
   have oE:=hE2.obj
   unfold resO at oE
   simp [g6]
   refine postL_c2 ag_38 (by simp [g6]) oE (by simp) rfl ?_
   exact ⟨_,rfl,2,.slice none 0 0,[],0,d2.wl.length,rfl,.inr (.inl ⟨rfl,rfl,rfl,none_inf hS.g hD hNo⟩),by simp,(hE2.drop.drop).nil hB⟩
  obtain ⟨r,R,hrR,hr0,hRc⟩:=hNx.mem
  have hb3:SdBd T { d2 with opn:=op' }:=hD.b.next (fun p hp=>by obtain ⟨S,hS,_⟩:=hNx.h1 p hp; exact ⟨S,hS⟩) hNx.nd
  have hg3:SdG T (fun z=>stP T true z=true) { d2 with opn:=op' }:=hNx.ok hD.g
  simp [g6,g8,g10,g9,g11]
  refine cl_of (bcomplete_spec x c (fun z=>stP T true z=true) { d2 with opn:=op' } r R hC hLs h10 rT hk10 (hps10 _ hD.z0) hg3 hb3 hrR hr0 hRc hNx.min) ?_
  rintro _ w11 (⟨rfl,d4,y,ps11,hbw4,hwl4,hyc,hyne,hg4,hb4,hcnt4,hps11,hk11,h11⟩ | ⟨rfl,hf,d4,_,h11⟩)
  rotate_left
  ·have oxE:=atS h11 SdA.obj
   unfold sdO at oxE
   have owE:=atS h11 SdA.wvs
   simp [g6,g8,g10,g9,g11,cell_blk oxE,owE.len,berrV]
   have hE1:=h11.drop.drop.drop.drop
   rw [hBs] at hE1
   refine hE1.st hLt (by simp [resO]) (by simp) fun wE hE2=>?_
   replace hE2:At w F (Star (ObjA rb (resO 3 (.slice none 0 0) 0 (d4).wl.length)) (Star (ObjA tb (ntO T)) B)) wE:=by simpa [resO] using hE2
   have oE:=hE2.obj
   unfold resO at oE
   simp [g6,g8,g10,g9,g11]
   refine postL_c2 ag_38 (by simp [g6,g8,g10,g9,g11]) oE (by simp) rfl ?_
   exact ⟨_,rfl,3,.slice none 0 0,[],0,(d4).wl.length,rfl,.inl ⟨rfl,rfl,rfl,full_alk hA hf⟩,by simp,(hE2.drop.drop).nil hB⟩
  have ox11:=h11.frame SdA.obj
  unfold sdO at ox11
  have ow11:=h11.frame SdA.wvs
  have hwl4':d4.wl=d2.wl ++ [y]:=hwl4
  have hyw:d4.wl[d2.wl.length]?=some y:=by rw [hwl4']; simp
  have hlen4:d4.wl.length=d2.wl.length+1:=by rw [hwl4']; simp
  have cy:=ow11.fld wmE_len hyw (o:=2) (u:=.int .i64 (y.ai:Nat)) rfl
  have hL11:Lcl (SdA x T s d4 Bs):=SdA.lcl hLs
  have h11d:=h11.drew hL11
  have es:∀ K:Kont Value,@intH .sub .i64 ((d4.wl.length:Nat):Int) .i64 1 K=K.run (.int .i64 ((d2.wl.length:Nat):Int)):=fun K=>by
   rw [intS_sub,hlen4]
   have:(((d2.wl.length+1:Nat):Int) - 1)=((d2.wl.length:Nat):Int):=by omega
   rw [this,wrap_i64 (by omega) (by have:=hb4.wl; have:=hb4.nN; omega)]
  have hki:((d2.wl.length:Nat):Int) < d4.wl.length:=by omega
  simp (disch:=omega) [-intS_sub,es,g6,g8,g10,g9,g11,cell_blk ox11,ow11.len,ow11.idx,cy]
  refine cl_of (f_intersect en2 y.ai _ y.all hC.cap hL11 h11d (hps11 _ (hps10 _ hD.en)) (hk11.all y (List.mem_of_getElem? hyw)).1) ?_
  rintro _ w12 (⟨mt,rfl,h12⟩ | ⟨rfl,hf,h12⟩)
  rotate_left
  ·simp [g6,g8,g10,g9,g11,berrV]
   exact ⟨0,by have:=hD.n; omega,by simp [g6],by simp [g8],by simp [g10],.inl ⟨by simp [berrV],full_alk hA hf,d4,h12⟩⟩
  by_cases hmt:mt=0
  ·have hbm:(((mt:Nat):Int) == 0)=true:=by rw [hmt]; rfl
   have hz:=(h12.zero (.head _)).1 hmt
   simp [g6,g8,g10,g9,g11,hbm]
   refine ⟨cntC T d4.cl+1,?_,by simp [g6],by simp [g8],by simp [g10],.inr ⟨by simp,d4,_,en2,by simp [g11],⟨by rw [hbw4]; exact hD.dbw,.tail _ (hps11 _ (hps10 _ hD.z0)),.tail _ (hps11 _ (hps10 _ hD.en)),hk11.cons,hg4,hb4,fun u hu z hz1 hz2=>?_,rfl⟩,h12⟩⟩
   ·have:=hD.n
    have:cntC T d4.cl < cntC T d2.cl:=hcnt4
    omega
   ·rw [hwl4'] at hu
    rcases List.mem_append.1 hu with hu | hu
    ·exact hD.no u hu z hz1 hz2
    ·rcases List.mem_singleton.1 hu with rfl
     have h1:=hz z (by rw [hA.vars]; exact hz1)
     have h1':(stP T (!true) z && u.all z)=false:=h1
     rw [hz2,Bool.true_and] at h1'
     exact h1'
  ·have hbm:(((mt:Nat):Int) == 0)=false:=beq_eq_false_iff_ne.2 (by omega)
   simp [g6,g8,g10,g9,g11,hbm]
   refine cl_of (f_pick mt _ hL11 h12 (.head _) hmt) ?_
   rintro _ w13 ⟨u,st,rfl,hst,hPst,h13⟩
   rw [hA.vars] at hst
   have hPst':(stP T (!true) st && y.all st)=true:=hPst
   rw [Bool.and_eq_true] at hPst'
   have hLp:Lcl (Star (OwnA u 3 1 nE st) (SdA x T s d4 Bs)):=Lcl.own.star hL11
   have hcc:c≤600000000:=by
    have h1:y.cost≤d4.wl.length * 1048576:=hb4.wc y (List.mem_of_getElem? hyw)
    have:=hb4.wl
    have:=hb4.nN
    omega
   simp [g6,g8,g10,g9,g11]
   refine cl_of (bpath_spec x c (fun z=>stP T true z=true) d4 u st hC hLp h13 (Rds.star SdA.rd) (Rds.star (SdA.rds rT)) hk11.cons hb4.l Rds.own hst hg4 (.inr ⟨wmW y,List.mem_map.2 ⟨y,List.mem_of_getElem? hyw,rfl⟩,hyc,hPst'.2⟩) hcc) ?_
   rintro _ w14 (⟨up,out,s0,rfl,hs0,hs0v,hrun,hol,ps14,hps14,h14⟩ | ⟨rfl,hf,h14⟩)
   rotate_left
   ·have oxE:=atS h14.drop SdA.obj
    unfold sdO at oxE
    have owE:=atS h14.drop SdA.wvs
    simp [g6,g8,g10,g9,g11,cell_blk oxE,owE.len,berrV]
    have hE1:=h14.drop.drop.drop.drop.drop
    rw [hBs] at hE1
    refine hE1.st hLt (by simp [resO]) (by simp) fun wE hE2=>?_
    replace hE2:At w F (Star (ObjA rb (resO 3 (.slice none 0 0) 0 (d4).wl.length)) (Star (ObjA tb (ntO T)) B)) wE:=by simpa [resO] using hE2
    have oE:=hE2.obj
    unfold resO at oE
    simp [g6,g8,g10,g9,g11]
    refine postL_c2 ag_38 (by simp [g6,g8,g10,g9,g11]) oE (by simp) rfl ?_
    exact ⟨_,rfl,3,.slice none 0 0,[],0,(d4).wl.length,rfl,.inl ⟨rfl,rfl,rfl,full_alk hA hf⟩,by simp,(hE2.drop.drop).nil hB⟩
   have oxE:=h14.frame (Rds.star (Rds.star SdA.obj))
   unfold sdO at oxE
   have owE:=h14.frame (Rds.star (Rds.star SdA.wvs))
   have hpo:oneC up=true:=h14.frame (Rds.own1:Rds (Star (OwnA up 3 1 nE out) (Star (OwnA u 3 1 nE st) (SdA x T s d4 Bs))) fun _=>oneC up=true)
   simp [g6,g8,g10,g9,g11,cell_blk oxE,owE.len,cells_o1 hpo]
   obtain ⟨_,_,_,_,_,hE0⟩:=h14
   have hE1:=((SpcA.gone hE0).by (Imp.un Imp.dr)).by (Imp.un (Imp.dr.trans (Imp.dr.trans (Imp.dr.trans Imp.dr))))
   rw [hBs] at hE1
   have hE1:=hE1.by Imp.sw
   refine hE1.st (Lcl.own.star hLt) (by simp [resO]) (by simp [hpo]) fun wE hE2=>?_
   replace hE2:At w F (Star (ObjA rb (resO 1 up c d4.wl.length)) (Star (OwnA up 3 1 nE out) (Star (ObjA tb (ntO T)) B))) wE:=by simpa [resO] using hE2
   have oE:=hE2.obj
   unfold resO at oE
   simp [g6]
   refine postL_c2 ag_38 (by simp [g6]) oE (by simp) rfl ?_
   exact ⟨_,rfl,1,up,out,c,d4.wl.length,rfl,.inr (.inr ⟨rfl,by omega,solved_ok hS.g (by rw [hbw4]; exact hD.dbw) hg4 hwl4' hyc hst hPst'.1 hPst'.2 hs0 hs0v (by rw [hbw4,hD.dbw] at hrun; exact hrun) hD.no⟩),by omega,(hE2.drop.by (Imp.un Imp.dr))⟩
 | false =>
  have est:(fun z=>hdB z T.goal)=stP T (!false):=funext fun z=>by simp [stP]
  simp [cell_blk ot6]
  refine cl_of (f_partial T.gv.1 T.goal hC.cap hLx h6 hrg hgpI hglI) ?_
  rw [est]
  rintro v7 w7 hop
  obtain ⟨en,er,rfl,hcase⟩:=opR_val hop
  simp
  refine loop_inv (SiI s m lim T T' q w F rb x Bs false) (cntC T d.cl+1) ⟨by simp,by simp,by simp,?_⟩ ?_
  ·rcases hcase with ⟨rfl,h8⟩ | ⟨rfl,hf,h8⟩
   ·exact .inr ⟨by simp,d,(en,stP T (!false)) :: ps6,en,by simp,⟨hdb,.tail _ (hps6 _ h00),.head _,hdk.cons,hg0,hb0,fun y hy=>(by rw [hdw] at hy; cases hy),rfl⟩,h8⟩
   ·exact .inl ⟨by simp,full_alk hA hf,d,h8⟩
  rintro n ρ w9 ⟨g6,g8,g10,⟨g9,hf,d',h9⟩ | ⟨g9,d2,ps9,en2,g11,hD,h9⟩⟩
  ·have oxE:=atS h9 SdA.obj
   unfold sdO at oxE
   have owE:=atS h9 SdA.wvs
   simp [g6,g8,g10,g9,cell_blk oxE,owE.len,berrV]
   have hE1:=h9.drop.drop.drop.drop
   rw [hBs] at hE1
   refine hE1.st hLt (by simp [resO]) (by simp) fun wE hE2=>?_
   replace hE2:At w F (Star (ObjA rb (resO 3 (.slice none 0 0) 0 (d').wl.length)) (Star (ObjA tb (ntO T)) B)) wE:=by simpa [resO] using hE2
   have oE:=hE2.obj
   unfold resO at oE
   simp [g6,g8,g10,g9]
   refine postL_c2 ag_38 (by simp [g6,g8,g10,g9]) oE (by simp) rfl ?_
   exact ⟨_,rfl,3,.slice none 0 0,[],0,(d').wl.length,rfl,.inl ⟨rfl,rfl,rfl,hf⟩,by simp,(hE2.drop.drop).nil hB⟩
  have hopl:d2.opn.length≤1000000:=by have:=hD.b.on; have:=hD.b.wl; have:=hD.b.nN; omega
  simp [g6,g8,g10,g9,g11]
  refine cl_of (bnext_spec x d2 hC hLs h9 hD.k hD.z0 hopl) ?_
  rintro _ w10 (⟨c,op',ps10,rfl,hNx,hps10,hk10,h10⟩ | ⟨rfl,hNo,ps10,hps10,h10⟩ | ⟨rfl,hf,op',h10⟩)
  rotate_left 2
  ·have oxE:=atS h10 SdA.obj
   unfold sdO at oxE
   have owE:=atS h10 SdA.wvs
   simp [g6,g8,g10,g9,g11,cell_blk oxE,owE.len,berrV]
   have hE1:=h10.drop.drop.drop.drop
   rw [hBs] at hE1
   refine hE1.st hLt (by simp [resO]) (by simp) fun wE hE2=>?_
   replace hE2:At w F (Star (ObjA rb (resO 3 (.slice none 0 0) 0 (({ d2 with opn:=op' }:Sd)).wl.length)) (Star (ObjA tb (ntO T)) B)) wE:=by simpa [resO] using hE2
   have oE:=hE2.obj
   unfold resO at oE
   simp [g6,g8,g10,g9,g11]
   refine postL_c2 ag_38 (by simp [g6,g8,g10,g9,g11]) oE (by simp) rfl ?_
   exact ⟨_,rfl,3,.slice none 0 0,[],0,(({ d2 with opn:=op' }:Sd)).wl.length,rfl,.inl ⟨rfl,rfl,rfl,full_alk hA hf⟩,by simp,(hE2.drop.drop).nil hB⟩
  rotate_left
  ·have oxE:=h10.frame SdA.obj
   unfold sdO at oxE
   have owE:=h10.frame SdA.wvs
   simp [g6,g8,g10,g9,g11,cell_blk oxE,owE.len]
   obtain ⟨_,_,_,_,_,hE0⟩:=h10
   have hE1:=(SpcA.gone hE0).drop.drop.drop.drop
   rw [hBs] at hE1
   refine hE1.st hLt (by simp [resO]) (by simp) fun wE hE2=>?_
   replace hE2:At w F (Star (ObjA rb (resO 2 (.slice none 0 0) 0 d2.wl.length)) (Star (ObjA tb (ntO T)) B)) wE:=by simpa [resO] using hE2
   have oE:=hE2.obj
   unfold resO at oE
   simp [g6]
   refine postL_c2 ag_38 (by simp [g6]) oE (by simp) rfl ?_
   exact ⟨_,rfl,2,.slice none 0 0,[],0,d2.wl.length,rfl,.inr (.inl ⟨rfl,rfl,rfl,none_inf hS.g hD hNo⟩),by simp,(hE2.drop.drop).nil hB⟩
  obtain ⟨r,R,hrR,hr0,hRc⟩:=hNx.mem
  have hb3:SdBd T { d2 with opn:=op' }:=hD.b.next (fun p hp=>by obtain ⟨S,hS,_⟩:=hNx.h1 p hp; exact ⟨S,hS⟩) hNx.nd
  have hg3:SdG T (fun z=>stP T false z=true) { d2 with opn:=op' }:=hNx.ok hD.g
  simp [g6,g8,g10,g9,g11]
  refine cl_of (bcomplete_spec x c (fun z=>stP T false z=true) { d2 with opn:=op' } r R hC hLs h10 rT hk10 (hps10 _ hD.z0) hg3 hb3 hrR hr0 hRc hNx.min) ?_
  rintro _ w11 (⟨rfl,d4,y,ps11,hbw4,hwl4,hyc,hyne,hg4,hb4,hcnt4,hps11,hk11,h11⟩ | ⟨rfl,hf,d4,_,h11⟩)
  rotate_left
  ·have oxE:=atS h11 SdA.obj
   unfold sdO at oxE
   have owE:=atS h11 SdA.wvs
   simp [g6,g8,g10,g9,g11,cell_blk oxE,owE.len,berrV]
   have hE1:=h11.drop.drop.drop.drop
   rw [hBs] at hE1
   refine hE1.st hLt (by simp [resO]) (by simp) fun wE hE2=>?_
   replace hE2:At w F (Star (ObjA rb (resO 3 (.slice none 0 0) 0 (d4).wl.length)) (Star (ObjA tb (ntO T)) B)) wE:=by simpa [resO] using hE2
   have oE:=hE2.obj
   unfold resO at oE
   simp [g6,g8,g10,g9,g11]
   refine postL_c2 ag_38 (by simp [g6,g8,g10,g9,g11]) oE (by simp) rfl ?_
   exact ⟨_,rfl,3,.slice none 0 0,[],0,(d4).wl.length,rfl,.inl ⟨rfl,rfl,rfl,full_alk hA hf⟩,by simp,(hE2.drop.drop).nil hB⟩
  have ox11:=h11.frame SdA.obj
  unfold sdO at ox11
  have ow11:=h11.frame SdA.wvs
  have hwl4':d4.wl=d2.wl ++ [y]:=hwl4
  have hyw:d4.wl[d2.wl.length]?=some y:=by rw [hwl4']; simp
  have hlen4:d4.wl.length=d2.wl.length+1:=by rw [hwl4']; simp
  have cy:=ow11.fld wmE_len hyw (o:=2) (u:=.int .i64 (y.ai:Nat)) rfl
  have hL11:Lcl (SdA x T s d4 Bs):=SdA.lcl hLs
  have h11d:=h11.drew hL11
  have es:∀ K:Kont Value,@intH .sub .i64 ((d4.wl.length:Nat):Int) .i64 1 K=K.run (.int .i64 ((d2.wl.length:Nat):Int)):=fun K=>by
   rw [intS_sub,hlen4]
   have:(((d2.wl.length+1:Nat):Int) - 1)=((d2.wl.length:Nat):Int):=by omega
   rw [this,wrap_i64 (by omega) (by have:=hb4.wl; have:=hb4.nN; omega)]
  have hki:((d2.wl.length:Nat):Int) < d4.wl.length:=by omega
  simp (disch:=omega) [-intS_sub,es,g6,g8,g10,g9,g11,cell_blk ox11,ow11.len,ow11.idx,cy]
  refine cl_of (f_intersect en2 y.ai _ y.all hC.cap hL11 h11d (hps11 _ (hps10 _ hD.en)) (hk11.all y (List.mem_of_getElem? hyw)).1) ?_
  rintro _ w12 (⟨mt,rfl,h12⟩ | ⟨rfl,hf,h12⟩)
  rotate_left
  ·simp [g6,g8,g10,g9,g11,berrV]
   exact ⟨0,by have:=hD.n; omega,by simp [g6],by simp [g8],by simp [g10],.inl ⟨by simp [berrV],full_alk hA hf,d4,h12⟩⟩
  by_cases hmt:mt=0
  ·have hbm:(((mt:Nat):Int) == 0)=true:=by rw [hmt]; rfl
   have hz:=(h12.zero (.head _)).1 hmt
   simp [g6,g8,g10,g9,g11,hbm]
   refine ⟨cntC T d4.cl+1,?_,by simp [g6],by simp [g8],by simp [g10],.inr ⟨by simp,d4,_,en2,by simp [g11],⟨by rw [hbw4]; exact hD.dbw,.tail _ (hps11 _ (hps10 _ hD.z0)),.tail _ (hps11 _ (hps10 _ hD.en)),hk11.cons,hg4,hb4,fun u hu z hz1 hz2=>?_,rfl⟩,h12⟩⟩
   ·have:=hD.n
    have:cntC T d4.cl < cntC T d2.cl:=hcnt4
    omega
   ·rw [hwl4'] at hu
    rcases List.mem_append.1 hu with hu | hu
    ·exact hD.no u hu z hz1 hz2
    ·rcases List.mem_singleton.1 hu with rfl
     have h1:=hz z (by rw [hA.vars]; exact hz1)
     have h1':(stP T (!false) z && u.all z)=false:=h1
     rw [hz2,Bool.true_and] at h1'
     exact h1'
  ·have hbm:(((mt:Nat):Int) == 0)=false:=beq_eq_false_iff_ne.2 (by omega)
   simp [g6,g8,g10,g9,g11,hbm]
   refine cl_of (f_pick mt _ hL11 h12 (.head _) hmt) ?_
   rintro _ w13 ⟨u,st,rfl,hst,hPst,h13⟩
   rw [hA.vars] at hst
   have hPst':(stP T (!false) st && y.all st)=true:=hPst
   rw [Bool.and_eq_true] at hPst'
   have hLp:Lcl (Star (OwnA u 3 1 nE st) (SdA x T s d4 Bs)):=Lcl.own.star hL11
   have hcc:c≤600000000:=by
    have h1:y.cost≤d4.wl.length * 1048576:=hb4.wc y (List.mem_of_getElem? hyw)
    have:=hb4.wl
    have:=hb4.nN
    omega
   simp [g6,g8,g10,g9,g11]
   refine cl_of (bpath_spec x c (fun z=>stP T false z=true) d4 u st hC hLp h13 (Rds.star SdA.rd) (Rds.star (SdA.rds rT)) hk11.cons hb4.l Rds.own hst hg4 (.inr ⟨wmW y,List.mem_map.2 ⟨y,List.mem_of_getElem? hyw,rfl⟩,hyc,hPst'.2⟩) hcc) ?_
   rintro _ w14 (⟨up,out,s0,rfl,hs0,hs0v,hrun,hol,ps14,hps14,h14⟩ | ⟨rfl,hf,h14⟩)
   rotate_left
   ·have oxE:=atS h14.drop SdA.obj
    unfold sdO at oxE
    have owE:=atS h14.drop SdA.wvs
    simp [g6,g8,g10,g9,g11,cell_blk oxE,owE.len,berrV]
    have hE1:=h14.drop.drop.drop.drop.drop
    rw [hBs] at hE1
    refine hE1.st hLt (by simp [resO]) (by simp) fun wE hE2=>?_
    replace hE2:At w F (Star (ObjA rb (resO 3 (.slice none 0 0) 0 (d4).wl.length)) (Star (ObjA tb (ntO T)) B)) wE:=by simpa [resO] using hE2
    have oE:=hE2.obj
    unfold resO at oE
    simp [g6,g8,g10,g9,g11]
    refine postL_c2 ag_38 (by simp [g6,g8,g10,g9,g11]) oE (by simp) rfl ?_
    exact ⟨_,rfl,3,.slice none 0 0,[],0,(d4).wl.length,rfl,.inl ⟨rfl,rfl,rfl,full_alk hA hf⟩,by simp,(hE2.drop.drop).nil hB⟩
   have oxE:=h14.frame (Rds.star (Rds.star SdA.obj))
   unfold sdO at oxE
   have owE:=h14.frame (Rds.star (Rds.star SdA.wvs))
   have hpo:oneC up=true:=h14.frame (Rds.own1:Rds (Star (OwnA up 3 1 nE out) (Star (OwnA u 3 1 nE st) (SdA x T s d4 Bs))) fun _=>oneC up=true)
   simp [g6,g8,g10,g9,g11,cell_blk oxE,owE.len,cells_o1 hpo]
   obtain ⟨_,_,_,_,_,hE0⟩:=h14
   have hE1:=((SpcA.gone hE0).by (Imp.un Imp.dr)).by (Imp.un (Imp.dr.trans (Imp.dr.trans (Imp.dr.trans Imp.dr))))
   rw [hBs] at hE1
   have hE1:=hE1.by Imp.sw
   refine hE1.st (Lcl.own.star hLt) (by simp [resO]) (by simp [hpo]) fun wE hE2=>?_
   replace hE2:At w F (Star (ObjA rb (resO 1 up c d4.wl.length)) (Star (OwnA up 3 1 nE out) (Star (ObjA tb (ntO T)) B))) wE:=by simpa [resO] using hE2
   have oE:=hE2.obj
   unfold resO at oE
   simp [g6]
   refine postL_c2 ag_38 (by simp [g6]) oE (by simp) rfl ?_
   exact ⟨_,rfl,1,up,out,c,d4.wl.length,rfl,.inr (.inr ⟨rfl,by omega,solved_ok hS.g (by rw [hbw4]; exact hD.dbw) hg4 hwl4' hyc hst hPst'.1 hPst'.2 hs0 hs0v (by rw [hbw4,hD.dbw] at hrun; exact hrun) hD.no⟩),by omega,(hE2.drop.by (Imp.un Imp.dr))⟩
end
end Go.Proofs.YtkhfdmelcpfgoaaGreat
end
section
set_option maxRecDepth 100000
set_option linter.unusedSimpArgs false
set_option linter.unusedVariables false
namespace Go.Proofs.YtkhfdmelcpfgoaaGreat
open Go Go.W Go.Tk Go.Rx Go.Bd Go.Sy Go.Maps
structure Mt where
 sv:Value
 st:List Nat
 f:Nat
 a:Nat
 fd:Bool
def mtO (M:Mt):Obj:=.cells #[M.sv,.int .i64 (M.f:Nat),.int .i64 (M.a:Nat),.bool M.fd] 118 (0,0)
def MtA (mb:Nat) (M:Mt) (B:Asr):Asr:=Star (ObjA mb (mtO M)) (Star (OwnA M.sv 3 1 nE M.st) B)
theorem MtA.lcl {mb:Nat} {M:Mt} {B:Asr} (hB:Lcl B):Lcl (MtA mb M B):=Lcl.obj.star (Lcl.own.star hB)
def MtStep (vars:List Nat) (M M':Mt) (P:List Nat→Bool) (ca:Nat) (Q:List Nat→Bool) (cb:Nat):Prop :=
 (M'=M∧((M.fd=true∧M.f+M.a≤ca+cb)∨∀ z,StN vars z→P z=true→Q z=true→False)) ∨
 (M'.fd=true∧M'.f=ca∧M'.a=cb∧StN vars M'.st∧P M'.st=true∧Q M'.st=true∧¬ (M.fd=true∧M.f+M.a≤ca+cb))
section
variable {w w1:World} {F:List Nat} {A B B':Asr} {s m lim:Nat} {T T':Nt} {q:SpC} {ps:List Kq}
def MeetR (s m lim:Nat) (T T':Nt) (q:SpC) (ps:List Kq) (B:Asr) (w:World) (F:List Nat) (mb:Nat) (M:Mt) (P:List Nat→Bool) (ca:Nat) (Q:List Nat→Bool) (cb:Nat) (v:Value) (w':World):Prop :=
 (v=.nilIface∧∃ M' ps',(∀ p ∈ ps,p ∈ ps')∧MtStep T.vars M M' P ca Q cb∧FsA s m lim T' q ps' (MtA mb M' B) w F w')∨(v=berrV 10∧Full T' lim∧∃ M',At w F (MtA mb M' B) w')
set_option maxHeartbeats 1000000 in
theorem bmeet_spec (mb a ca b cb:Nat) (M:Mt) (P Q:List Nat→Bool) (hC:BC T T' lim) (hB:Lcl B) (h:FsA s m lim T' q ps (MtA mb M B) w F w1) (ha:(a,P) ∈ ps) (hb:(b,Q) ∈ ps) (h1:ca≤600000000) (h2:cb≤600000000) (h3:M.f≤600000000) (h4:M.a≤600000000) :
  Calls Tryz.prog 92 [.pointer (some ⟨mb,0,none⟩),.pointer (some ⟨s,0,none⟩),.int .i64 (a:Nat),.int .i64 (ca:Nat),.int .i64 (b:Nat),.int .i64 (cb:Nat)].toArray w1 fun en w'=>∃ v,en=.returned v∧MeetR s m lim T T' q ps B w F mb M P ca Q cb v w':=by
 refine enter Tryz.func92 mixed low92 (Nat.le_of_ble_eq_true rfl) ?_
 simp only [L92]
 have hLm:Lcl (MtA mb M B):=MtA.lcl hB
 have hd:=h.drew hLm
 have om:=h.obj
 unfold mtO at om
 have rest:¬ (M.fd=true∧M.f+M.a≤ca+cb)→∀ w2,FsA s m lim T' q ps (MtA mb M B) w F w2→∀ v w3,OpR s m lim T' q ps (MtA mb M B) w F (fun z=>P z && Q z) v w3→True:=fun _ _ _ _ _ _=>trivial
 by_cases hf:M.fd=true∧M.f+M.a≤ca+cb
 ·obtain ⟨hf1,hf2⟩:=hf
  have hle:((M.f:Int)+(M.a:Int)≤(ca:Int)+(cb:Int)):=by omega
  rw [hf1] at om
  simp (disch:=omega) [cell_blk om,wrap_i64,hle]
  exact .inl ⟨rfl,M,ps,fun _ h=>h,.inl ⟨rfl,.inl ⟨hf1,hf2⟩⟩,hd⟩
 ·cases hfd:M.fd with
  | true =>
   rw [hfd] at om
   have hle:¬ ((M.f:Int)+(M.a:Int)≤(ca:Int)+(cb:Int)):=fun h=>hf ⟨hfd,by omega⟩
   simp (disch:=omega) [cell_blk om,wrap_i64,hle]
   refine cl_of (f_intersect a b P Q hC.cap hLm hd ha hb) ?_
   rintro _ w2 (⟨r,rfl,h5⟩ | ⟨rfl,hfl,h5⟩)
   rotate_left
   ·simp [berrV]
    exact .inr ⟨rfl,hfl,M,h5⟩
   by_cases hr:r=0
   ·have hb0:(((r:Nat):Int) == 0)=true:=by rw [hr]; rfl
    have hz:=(h5.zero (.head _)).1 hr
    simp [hb0]
    refine .inl ⟨rfl,M,_,fun p hp=>.tail _ hp,.inl ⟨rfl,.inr fun z hz1 e1 e2=>?_⟩,h5⟩
    have h6:(P z && Q z)=false:=hz z (by rw [hC.alk.vars]; exact hz1)
    rw [e1,e2] at h6
    cases h6
   ·have hb0:(((r:Nat):Int) == 0)=false:=beq_eq_false_iff_ne.2 (by omega)
    simp [hb0]
    refine cl_of (f_pick r _ hLm h5 (.head _) hr) ?_
    rintro _ w3 ⟨u,st,rfl,hst,hPQ,h6⟩
    rw [hC.alk.vars] at hst
    have hPQ':(P st && Q st)=true:=hPQ
    rw [Bool.and_eq_true] at hPQ'
    have huo:oneC u=true:=h6.frame (Rds.own1:Rds (Star (OwnA u 3 1 nE st) (MtA mb M B)) fun _=>oneC u=true)
    simp [cells_o1 huo]
    unfold MtA at h6
    have h7:=h6.by Imp.sw
    unfold mtO at h7
    refine FsA.st (Lcl.own.star (Lcl.own.star hB)) h7 (by simp) (by simp [huo]) fun w4 h8=>?_
    simp
    refine .inl ⟨rfl,⟨u,st,ca,cb,true⟩,(r,fun z=>P z && Q z) :: ps,fun p hp=>.tail _ hp,.inr ⟨rfl,rfl,rfl,hst,hPQ'.1,hPQ'.2,hf⟩,?_⟩
    unfold MtA mtO
    have h9:=h8.by (Imp.un (Imp.un Imp.dr))
    simpa using h9
  | false =>
   rw [hfd] at om
   simp (disch:=omega) [cell_blk om,wrap_i64]
   refine cl_of (f_intersect a b P Q hC.cap hLm hd ha hb) ?_
   rintro _ w2 (⟨r,rfl,h5⟩ | ⟨rfl,hfl,h5⟩)
   rotate_left
   ·simp [berrV]
    exact .inr ⟨rfl,hfl,M,h5⟩
   by_cases hr:r=0
   ·have hb0:(((r:Nat):Int) == 0)=true:=by rw [hr]; rfl
    have hz:=(h5.zero (.head _)).1 hr
    simp [hb0]
    refine .inl ⟨rfl,M,_,fun p hp=>.tail _ hp,.inl ⟨rfl,.inr fun z hz1 e1 e2=>?_⟩,h5⟩
    have h6:(P z && Q z)=false:=hz z (by rw [hC.alk.vars]; exact hz1)
    rw [e1,e2] at h6
    cases h6
   ·have hb0:(((r:Nat):Int) == 0)=false:=beq_eq_false_iff_ne.2 (by omega)
    simp [hb0]
    refine cl_of (f_pick r _ hLm h5 (.head _) hr) ?_
    rintro _ w3 ⟨u,st,rfl,hst,hPQ,h6⟩
    rw [hC.alk.vars] at hst
    have hPQ':(P st && Q st)=true:=hPQ
    rw [Bool.and_eq_true] at hPQ'
    have huo:oneC u=true:=h6.frame (Rds.own1:Rds (Star (OwnA u 3 1 nE st) (MtA mb M B)) fun _=>oneC u=true)
    simp [cells_o1 huo]
    unfold MtA at h6
    have h7:=h6.by Imp.sw
    unfold mtO at h7
    refine FsA.st (Lcl.own.star (Lcl.own.star hB)) h7 (by simp) (by simp [huo]) fun w4 h8=>?_
    simp
    refine .inl ⟨rfl,⟨u,st,ca,cb,true⟩,(r,fun z=>P z && Q z) :: ps,fun p hp=>.tail _ hp,.inr ⟨rfl,rfl,rfl,hst,hPQ'.1,hPQ'.2,hf⟩,?_⟩
    unfold MtA mtO
    have h9:=h8.by (Imp.un (Imp.un Imp.dr))
    simpa using h9
end
end Go.Proofs.YtkhfdmelcpfgoaaGreat
end
section
set_option maxRecDepth 100000
set_option linter.unusedSimpArgs false
set_option linter.unusedVariables false
namespace Go.Proofs.YtkhfdmelcpfgoaaGreat
open Go Go.W Go.Tk Go.Rx Go.Bd Go.Sy Go.Maps
def cF (bw:Bool) (ca cb:Nat):Nat:=if bw=true then cb else ca
def cA (bw:Bool) (ca cb:Nat):Nat:=if bw=true then ca else cb
def Cov (vars:List Nat) (M:Mt) (pa pb:Nat × Kq):Prop:=(∃ z,StN vars z∧pa.2.2 z=true∧pb.2.2 z=true)→M.fd=true∧M.f+M.a≤pa.1+pb.1
def MtLe (M M':Mt):Prop:=M.fd=true→M'.fd=true∧M'.f+M'.a≤M.f+M.a
def MtSrc (vars:List Nat) (bw:Bool) (KA KB:Nat × Kq→Prop) (M M':Mt):Prop :=
 M'=M∨(M'.fd=true∧StN vars M'.st∧∃ pa pb,KA pa∧KB pb∧pa.2.2 M'.st=true∧pb.2.2 M'.st=true∧M'.f=cF bw pa.1 pb.1∧M'.a=cA bw pa.1 pb.1)
theorem MtLe.refl (M:Mt):MtLe M M:=fun h=>⟨h,Nat.le_refl _⟩
theorem MtLe.trans {M M1 M2:Mt} (h1:MtLe M M1) (h2:MtLe M1 M2):MtLe M M2:=fun h=>by
 obtain ⟨a,b⟩:=h1 h
 obtain ⟨c,d⟩:=h2 a
 exact ⟨c,by omega⟩
theorem Cov.mono {vars:List Nat} {M M':Mt} {pa pb:Nat × Kq} (h:Cov vars M pa pb) (hl:MtLe M M'):Cov vars M' pa pb:=fun hz=>by
 obtain ⟨a,b⟩:=h hz
 obtain ⟨c,d⟩:=hl a
 exact ⟨c,by omega⟩
theorem MtSrc.trans {vars:List Nat} {bw:Bool} {KA KB:Nat × Kq→Prop} {M M1 M2:Mt} (h1:MtSrc vars bw KA KB M M1) (h2:MtSrc vars bw KA KB M1 M2):MtSrc vars bw KA KB M M2:=by
 rcases h2 with rfl | h2
 ·exact h1
 ·exact .inr h2
theorem mt_step {vars:List Nat} {bw:Bool} {KA KB:Nat × Kq→Prop} {M M':Mt} {pa pb:Nat × Kq} (ha:KA pa) (hb:KB pb)
  (h:MtStep vars M M' (if bw=true then pb.2.2 else pa.2.2) (cF bw pa.1 pb.1) (if bw=true then pa.2.2 else pb.2.2) (cA bw pa.1 pb.1)):MtLe M M'∧Cov vars M' pa pb∧MtSrc vars bw KA KB M M':=by
 have hsum:cF bw pa.1 pb.1+cA bw pa.1 pb.1=pa.1+pb.1:=by
  unfold cF cA
  cases bw <;> simp <;> omega
 rcases h with ⟨rfl,h⟩ | ⟨h1,h2,h3,h4,h5,h6,h7⟩
 ·refine ⟨MtLe.refl _,fun ⟨z,hz,e1,e2⟩=>?_,.inl rfl⟩
  rcases h with ⟨h1,h2⟩ | h1
  ·exact ⟨h1,by omega⟩
  ·exfalso
   cases bw with
   | true=>exact h1 z hz (by simpa using e2) (by simpa using e1)
   | false=>exact h1 z hz (by simpa using e1) (by simpa using e2)
 ·refine ⟨fun hf=>⟨h1,?_⟩,fun _=>⟨h1,by omega⟩,.inr ⟨h1,h4,pa,pb,ha,hb,?_,?_,h2,h3⟩⟩
  ·rcases Nat.lt_or_ge (cF bw pa.1 pb.1+cA bw pa.1 pb.1) (M.f+M.a) with hlt | hge
   ·omega
   ·exact absurd ⟨hf,hge⟩ h7
  ·cases bw with
   | true=>simpa using h6
   | false=>simpa using h5
  ·cases bw with
   | true=>simpa using h5
   | false=>simpa using h6
structure UpOk (vars:List Nat) (bw:Bool) (KA KB:Nat × Kq→Prop) (M M':Mt):Prop where
 le:MtLe M M'
 cov:∀ pa pb,KA pa→KB pb→Cov vars M' pa pb
 src:MtSrc vars bw KA KB M M'
end Go.Proofs.YtkhfdmelcpfgoaaGreat
end
