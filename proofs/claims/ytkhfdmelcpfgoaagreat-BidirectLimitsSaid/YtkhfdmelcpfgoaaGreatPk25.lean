/-
  A part of the proof of this claim's statement (BiG, LibP, BiH, BiI, BiJ): plain theorems; no conditions beyond those each names.
-/
import Derived.Test.YtkhfdmelcpfgoaaGreatPk24
import Derived.Test.YtkhfdmelcpfgoaaGreatPk08
import Derived.Test.YtkhfdmelcpfgoaaGreatPk16
section
set_option maxRecDepth 100000
set_option linter.unusedSimpArgs false
set_option linter.unusedVariables false
namespace Go.Proofs.YtkhfdmelcpfgoaaGreat
open Go Go.W Go.Tk Go.Rx Go.Bd Go.Sy Go.Maps
section
variable {w w1:World} {F:List Nat} {A B B':Asr} {s m lim:Nat} {T T':Nt} {q:SpC} {ps:List Kq}
theorem freverse_spec (v:Value) (l:List Nat) (hB:Lcl B) (h:FsA s m lim T' q ps (Star (OwnA v 3 1 nE l) B) w F w1) (hl:l.length≤1000000000000) :
  Calls Tryz.prog 90 [v].toArray w1 fun en w'=>∃ r,en=.returned r∧FsA s m lim T' q ps (Star (OwnA v 3 1 nE l.reverse) B) w F w':=by
 obtain ⟨ns,ks,ss,hG,hk,hA⟩:=h
 refine (reverse_spec v l (SpcA.lcl hB) (SpcA.out hA) hl).mono ?_
 rintro en w' ⟨r,rfl,h2⟩
 exact ⟨r,rfl,ns,ks,ss,hG,hk,SpcA.into h2⟩
def PathR (s m lim:Nat) (T T':Nt) (q:SpC) (ps:List Kq) (B:Asr) (w:World) (F:List Nat) (S0:List Nat→Prop) (d:Sd) (c:Nat) (z:List Nat) (v:Value) (w':World):Prop :=
 (∃ u out s0,v=.tuple #[u,.nilIface]∧S0 s0∧StN T.vars s0∧(if d.bw=true then RunT T z out s0 c else RunT T s0 out z c)∧out.length≤1000000000000∧FsX s m lim T' q ps (Star (OwnA u 3 1 nE out) B) w F w') ∨
 (v=.tuple #[.slice none 0 0,berrV 10]∧Full T' lim∧At w F B w')
def PtI (s m lim:Nat) (T T':Nt) (q:SpC) (ps:List Kq) (B:Asr) (w:World) (F:List Nat) (S0:List Nat→Prop) (x:Nat) (d:Sd) (C M n0:Nat) (z:List Nat) (n:Nat) (ρ:Env) (w':World):Prop :=
 ∃ c cur out i Bc,ρ 0=.pointer (some ⟨x,0,none⟩)∧ρ 2=.int .i64 (c:Nat)∧c≤C∧StN T.vars cur∧TrcD T S0 d c cur∧PthI T d.bw out z cur (C - c)∧PrtR d c cur i∧n=c * M+(i+1).toNat∧out.length+n≤n0 ∧
  Lcl Bc∧Imp Bc B∧(Rds Bc fun w'=>Vw w' (ρ 1) nE cur)∧FsX s m lim T' q ps (Star (OwnA (ρ 8) 3 1 nE out) Bc) w F w'
set_option maxHeartbeats 2000000 in
theorem bpath_spec (x C:Nat) (S0:List Nat→Prop) (d:Sd) (sv:Value) (z:List Nat) (hC:BC T T' lim) (hB:Lcl B) (h:FsA s m lim T' q ps B w F w1) (hx:Rds B fun w'=>SdR w' x T s d) (hT:Rds B fun w'=>NtR w' T) (hk:SdK ps d) (hl:SdL d) (hr:Rds B fun w'=>Vw w' sv nE z) (hz:StN T.vars z)
  (hd:SdG T S0 d) (ht:TrcD T S0 d C z) (hcb:C≤600000000) :
  Calls Tryz.prog 64 [.pointer (some ⟨x,0,none⟩),sv,.int .i64 (C:Nat)].toArray w1 fun en w'=>∃ v,en=.returned v∧PathR s m lim T T' q ps B w F S0 d C z v w':=by
 refine enter Tryz.func64 mixed low64 (Nat.le_of_ble_eq_true rfl) ?_
 simp only [L64]
 obtain ⟨M,hM⟩:∃ M,M=(d.wl.map fun y=>y.pl.length).sum+2:=⟨_,rfl⟩
 have hMl:M≤1002:=by have:=hl.sm; omega
 obtain ⟨i0,hi0⟩:=prt_ex d C z
 obtain ⟨n0,hn0⟩:∃ n0,n0=C * M+(i0+1).toNat:=⟨_,rfl⟩
 have hi0l:(i0+1).toNat≤1001:=by
  rcases hi0 with ⟨y,hy,ey,k,p,rfl,hpk,_⟩ | ⟨rfl,_⟩
  ·have h1:=(List.getElem?_eq_some_iff.1 hpk).1
   have h2:=sum_le hy
   have h3:=hl.sm
   omega
  ·omega
 have hn0l:n0≤1000000000000:=by
  have:C * M≤600000000 * 1002:=Nat.mul_le_mul hcb hMl
  omega
 have hu:=SdG.inj hd
 simp
 refine loop_inv (PtI s m lim T T' q ps B w F S0 x d C M n0 z) n0 ⟨C,z,[],i0,B,by simp,by simp,Nat.le_refl _,hz,ht,by rw [Nat.sub_self]; exact PthI.nil _ _ _,hi0,hn0,by simp,hB,fun w' F' h=>⟨F',h,fun _ h=>h⟩,by simpa using hr,ps,fun _ h=>h,by simpa using h.nil hB⟩ ?_
 rintro n ρ w2 ⟨c,cur,out,i,Bc,g0,g2,hc,hcv,hct,hpt,hpi,hn,hout,hBc,hBi,hrc,ps2,hps2,h2⟩
 obtain ⟨uv,huv⟩:∃ uv,uv=ρ 8:=⟨_,rfl⟩
 obtain ⟨cv,hcv1⟩:∃ cv,cv=ρ 1:=⟨_,rfl⟩
 have g8:=huv.symm
 have g1:=hcv1.symm
 rw [g8] at h2
 rw [g1] at hrc
 have hB2:Lcl (Star (OwnA uv 3 1 nE out) Bc):=Lcl.own.star hBc
 have hx2:Rds (Star (OwnA uv 3 1 nE out) Bc) fun w'=>SdR w' x T s d:=Rds.star (Rds.imp2 hBi hx)
 have hT2:Rds (Star (OwnA uv 3 1 nE out) Bc) fun w'=>NtR w' T:=Rds.star (Rds.imp2 hBi hT)
 have hk2:SdK ps2 d:=hk.mono hps2
 have hcv':StN T'.vars cur:=by rw [hC.alk.vars]; exact hcv
 simp [g0,g2,g1]
 refine cl_of (bpart_spec x d c cv cur hB2 h2 hx2 hk2 hl (Rds.star hrc) hcv') ?_
 rintro _ w3 ⟨i',rfl,hpi',h3⟩
 have:=PrtR.uniq hu hpi hpi'
 subst this
 have done:c=0→i≤0→∀ w4,FsX s m lim T' q ps (Star (OwnA uv 3 1 nE (if d.bw=true then out else out.reverse)) B) w F w4→PathR s m lim T T' q ps B w F S0 d C z (.tuple #[uv,.nilIface]) w4:=fun e0 ei w4 h4=>by
  subst e0
  refine .inl ⟨uv,_,cur,rfl,path_end hd hct hcv hpi ei,hcv,?_,?_,h4⟩
  ·unfold PthI at hpt
   rw [Nat.sub_zero] at hpt
   cases hb:d.bw with
   | true=>rw [hb] at hpt; simpa using hpt
   | false=>rw [hb] at hpt; simpa using hpt
  ·split
   ·omega
   ·rw [List.length_reverse]; omega
 by_cases hst:c=0∧i≤0
 ·obtain ⟨e0,ei⟩:=hst
  have hc0:(((c:Nat):Int) == 0)=true:=by rw [e0]; rfl
  have ox3:=(h3.frame hx2).obj
  unfold sdO at ox3
  have dn:=done e0 ei
  cases hb:d.bw with
  | true =>
   rw [hb] at ox3 dn
   simp [g0,g2,hc0,ei,cell_blk ox3,g8]
   exact dn w3 ⟨ps2,hps2,(h3.by (Imp.un hBi))⟩
  | false =>
   rw [hb] at ox3 dn
   simp [g0,g2,hc0,ei,cell_blk ox3,g8]
   refine cl_of (freverse_spec uv out hBc h3 (by omega)) ?_
   rintro _ w4 h4
   simp [g8]
   exact dn w4 ⟨ps2,hps2,(h4.by (Imp.un hBi))⟩
 ·have hgd:∀ KB:Kont Bool,(c=0→¬ i≤0)→True:=fun _ _=>trivial
  by_cases e0:c=0
  ·have hc0:(((c:Nat):Int) == 0)=true:=by rw [e0]; rfl
   have ei:¬ i≤0:=fun h=>hst ⟨e0,h⟩
   simp [g0,g2,hc0,ei,g1]
   refine cl_of (bback_spec x c d cv cur hC hB2 h3 hx2 hT2 hk2 hl (Rds.star hrc) hcv hu (by omega)) ?_
   rintro _ w4 (⟨op,o,u,st',i2,ho,hpi2,hoc,rfl,hs',he,hb,ps4,hps4,h4⟩ | ⟨rfl,hf,h4⟩ | ⟨i2,hpi2,hno⟩)
   ·have:=PrtR.uniq hu hpi hpi2
    subst this
    obtain ⟨ht',hm'⟩:=path_step hd ho hs' hpi hb (Nat.le_of_eq hM.symm)
    obtain ⟨j,hj⟩:=prt_ex d (c - o.cost) st'
    have hmj:=hm' j hj
    simp [g0,g2,g8]
    have hBn:Lcl (Star (OwnA u 3 1 nE st') Bc):=Lcl.own.star hBc
    have h5:=h4.by Imp.sw
    refine h5.app (cs:=#[.int .i64 (op:Nat)]) (xs:=[op]) hBn nE_len nE_one sl_22 (by simp [nE]) rfl (by omega) (by unfold maxLen; omega) fun v5 w5 h6=>?_
    simp [g0,g2,g8]
    refine ⟨(c - o.cost) * M+(j+1).toNat,by omega,c - o.cost,st',out ++ [op],j,Star (OwnA u 3 1 nE st') Bc,by simp [g0],by simp,by omega,hs',ht',?_,hj,rfl,by simp; omega,hBn,Imp.dr.trans hBi,by simpa using (Rds.own:Rds (Star (OwnA u 3 1 nE st') Bc) fun w'=>Vw w' u nE st'),ps4,fun p hp=>hps4 p (hps2 p hp),by simpa using h6⟩
    rw [show C - (c - o.cost)=C - c+o.cost by omega]
    exact hpt.step ho he
   ·simp [g0,g2,g8,berrV]
    exact .inr ⟨rfl,hf,h4.drop.by hBi⟩
   ·have:=PrtR.uniq hu hpi hpi2
    subst this
    exact absurd hno (path_ex hd hct hcv hpi hst)
  ·have hc0:(((c:Nat):Int) == 0)=false:=beq_eq_false_iff_ne.2 (by omega)
   simp [g0,g2,hc0,g1]
   refine cl_of (bback_spec x c d cv cur hC hB2 h3 hx2 hT2 hk2 hl (Rds.star hrc) hcv hu (by omega)) ?_
   rintro _ w4 (⟨op,o,u,st',i2,ho,hpi2,hoc,rfl,hs',he,hb,ps4,hps4,h4⟩ | ⟨rfl,hf,h4⟩ | ⟨i2,hpi2,hno⟩)
   ·have:=PrtR.uniq hu hpi hpi2
    subst this
    obtain ⟨ht',hm'⟩:=path_step hd ho hs' hpi hb (Nat.le_of_eq hM.symm)
    obtain ⟨j,hj⟩:=prt_ex d (c - o.cost) st'
    have hmj:=hm' j hj
    simp [g0,g2,g8]
    have hBn:Lcl (Star (OwnA u 3 1 nE st') Bc):=Lcl.own.star hBc
    have h5:=h4.by Imp.sw
    refine h5.app (cs:=#[.int .i64 (op:Nat)]) (xs:=[op]) hBn nE_len nE_one sl_22 (by simp [nE]) rfl (by omega) (by unfold maxLen; omega) fun v5 w5 h6=>?_
    simp [g0,g2,g8]
    refine ⟨(c - o.cost) * M+(j+1).toNat,by omega,c - o.cost,st',out ++ [op],j,Star (OwnA u 3 1 nE st') Bc,by simp [g0],by simp,by omega,hs',ht',?_,hj,rfl,by simp; omega,hBn,Imp.dr.trans hBi,by simpa using (Rds.own:Rds (Star (OwnA u 3 1 nE st') Bc) fun w'=>Vw w' u nE st'),ps4,fun p hp=>hps4 p (hps2 p hp),by simpa using h6⟩
    rw [show C - (c - o.cost)=C - c+o.cost by omega]
    exact hpt.step ho he
   ·simp [g0,g2,g8,berrV]
    exact .inr ⟨rfl,hf,h4.drop.by hBi⟩
   ·have:=PrtR.uniq hu hpi hpi2
    subst this
    exact absurd hno (path_ex hd hct hcv hpi hst)
end
end Go.Proofs.YtkhfdmelcpfgoaaGreat
end
section
set_option linter.unusedVariables false
set_option linter.unusedSimpArgs false
set_option linter.unusedSectionVars false
namespace Go.W
open Go Go.Maps
section
variable {κ α:Type} [DecidableEq κ] {P:Program} {k t e:TypeId} {ek:κ→Value} {ev:α→Value} {ok:κ→Prop}
def delM (l:List (κ × α)) (x:κ):List (κ × α):=l.filter fun p=>!decide (p.1=x)
theorem mem_delM {l:List (κ × α)} {x:κ} {p:κ × α}:p ∈ delM l x↔p ∈ l∧p.1≠x:=by
 unfold delM
 rw [List.mem_filter]
 simp
theorem delM_none {l:List (κ × α)} {x:κ} (h:∀ p ∈ l,p.1≠x):delM l x=l:=by
 unfold delM
 rw [List.filter_eq_self]
 intro p hp
 simp [h p hp]
theorem delM_at:∀ {l:List (κ × α)} {x:κ} {v:α} {j:Nat},(l.map (·.1)).Nodup→l[j]?=some (x,v)→delM l x=l.eraseIdx j
 | [],_,_,_,_,h=>by simp at h
 | a :: l,x,v,0,hn,h=>by
  simp only [List.getElem?_cons_zero,Option.some.injEq] at h
  subst h
  simp only [List.map_cons,List.nodup_cons,List.mem_map,not_exists,not_and] at hn
  rw [List.eraseIdx_cons_zero]
  have:=delM_none (l:=l) (x:=x) fun p hp e=>hn.1 p hp e
  unfold delM at this ⊢
  rw [List.filter_cons_of_neg (by simp)]
  exact this
 | a :: l,x,v,j+1,hn,h=>by
  simp only [List.getElem?_cons_succ] at h
  simp only [List.map_cons,List.nodup_cons,List.mem_map,not_exists,not_and] at hn
  have ha:a.1≠x:=fun e=>hn.1 _ (List.mem_of_getElem? h) (by rw [e])
  rw [List.eraseIdx_cons_succ,← delM_at hn.2 h]
  unfold delM
  rw [List.filter_cons_of_pos (by simp [ha])]
theorem map_eraseIdx2 {β γ:Type} (f:β→γ):∀ (l:List β) (j:Nat),(l.eraseIdx j).map f=(l.map f).eraseIdx j
 | [],_=>rfl
 | a :: l,0=>rfl
 | a :: l,j+1=>by
  rw [List.eraseIdx_cons_succ,List.map_cons,List.map_cons,List.eraseIdx_cons_succ,map_eraseIdx2 f l j]
theorem MapM.del {w:World} {b:Nat} {l:List (κ × α)} (h:MapM w b ek ev ok l) (hk:KeyEnc P k ek ok) (ht:P.underlying t=some (.map k e)) {x:κ} (hx:ok x) {ty:TypeId} :
  ∃ o,(Builtin.delete_ #[t,k] ty #[.map (some b),ek x]).run P w=.ok (.tuple #[]) (w.setB b o)∧MapM (w.setB b o) b ek ev ok (delM l x):=by
 obtain ⟨es,clock,hb,hsz,hes,hok,hnd,hst⟩:=h
 obtain ⟨lx,hlx⟩:=hk.lit x hx
 rcases MapM.find (w:=w) (w':=w) (b:=b) hk hes hok hx with ⟨h1,h2⟩ | ⟨j,u,e0,h1,h2,h3,h4⟩
 ·refine ⟨.map es clock,?_,_,_,setB_new (lt_of_blk hb),hsz,?_,?_,?_,hst⟩
  ·simp [Builtin.delete_,run_underlying ht,MapKept.run_getObj_map hb,hk.keyed.check w _ hlx,h1,MapKept.run_setObj_map _ hb,Result.andThen,World.setB]
  all_goals rw [delM_none h2]
  ·exact hes
  ·exact hok
  ·exact hnd
 ·have hjs:j < es.size:=(Array.getElem?_eq_some_iff.1 h3).1
  have hsub:(es.eraseIdxIfInBounds j).toList=es.toList.eraseIdx j:=by
   unfold Array.eraseIdxIfInBounds
   rw [dif_pos hjs]
   simp
  refine ⟨.map (es.eraseIdxIfInBounds j) clock,?_,_,_,setB_new (lt_of_blk hb),Nat.le_trans (MapFrom.size_erase es j) hsz,?_,?_,?_,MapKept.stamped_erase hst j⟩
  ·simp [Builtin.delete_,run_underlying ht,MapKept.run_getObj_map hb,hk.keyed.check w _ hlx,h1,MapKept.run_setObj_map _ hb,Result.andThen,World.setB]
  ·rw [delM_at hnd h2,hsub,map_eraseIdx2,map_eraseIdx2,hes]
  ·intro p hp
   exact hok p (mem_delM.1 hp).1
  ·rw [delM_at hnd h2,map_eraseIdx2]
   exact hnd.sublist (List.eraseIdx_sublist _ _)
section
variable {w w1:World} {F:List Nat} {B:Asr} {b:Nat} {l:List (κ × α)}
theorem At.del {KV:Kont (Value × World)} {x:κ} {ty:TypeId} (hB:Lcl B) (h:At w F (Star (MapA b ek ev ok l) B) w1) (hk:KeyEnc P k ek ok) (ht:P.underlying t=some (.map k e)) (hx:ok x)
  (H:∀ w2,At w F (Star (MapA b ek ev ok (delM l x)) B) w2→KV.run (.tuple #[],w2)):@efH P (Builtin.delete_ #[t,k] ty #[.map (some b),ek x]) w1 KV:=by
 obtain ⟨o,hr,hm⟩:=h.map.del hk ht hx (ty:=ty)
 refine ef_mk hr (H _ (h.step Lcl.map hB ?_))
 rintro Fa ⟨h1,rfl⟩
 exact ⟨[b],⟨hm,rfl⟩,(Kp.refl _ _).setB (.inl (by simp)) _,fun x hx=>.inl hx⟩
end
end
end Go.W
end
section
set_option maxRecDepth 100000
set_option linter.unusedSimpArgs false
set_option linter.unusedVariables false
namespace Go.Proofs
open Go.RowKit Go.Maps Go.Sort Go.Shelf
theorem Tryz.maps_Keys_54 (mb:Option Nat) (W:World):CallsIn Fence.wide 5 Tryz.prog 54 #[.map mb] W fun e w'=>e=.returned (.func (.func 77) #[] #[.pointer (some ⟨W.heap.size,0,none⟩)])∧w'=W.alloc (.cells #[.map mb] 76) :=
 AnyZI.keys_in Tryz.keys54 Fence.wide 5 trivial rfl mb W
theorem Tryz.sorted_keys_54 {H:Type} (b nn:Nat) (D0:DataW H) (R:Value→Option (DataW H × List MemPlace)) (w:World) (hown:w.ownsMap Tryz.prog 3 R b nn D0) (hmax:Maps.size D0≤maxLen) (hbytes:Maps.size D0 * 8≤140737488355328) :
  CallsIn Fence.wide 5 Tryz.prog 53 #[.func (.func 77) #[] #[.pointer (some ⟨w.heap.size,0,none⟩)]] (w.alloc (.cells #[.map (some b)] 76)) fun e w'=>∃ (v:Value) (ss:List Int),e=.returned v∧ss.Perm (intKeys D0) ∧
   w'.ownsRow (w.alloc (.cells #[.map (some b)] 76)).heap.size 3 1 v ss.length ((ss.mergeSort (fun x y=>decide (x≤y))).map encZ)∧(v=.slice none 0 0↔ss=[])∧Below (w.alloc (.cells #[.map (some b)] 76)).heap.size (w.alloc (.cells #[.map (some b)] 76)) w':=by
 have hbl:=hown.lt
 have hseq:SeqGives Fence.wide 2 Tryz.prog 77 #[.pointer (some ⟨w.heap.size,0,none⟩)] encZ (fun ss=>ss.Perm (intKeys D0)) (Maps.size D0) (w.alloc (.cells #[.map (some b)] 76)) :=
  AnyZI.keys_gives (ρ:=Tryz.keys54_ren) { Tryz.keys54 with } Fence.wide _ trivial rfl (by omega) w.heap.size b nn D0 _ (by simp) (by simp) (by
   obtain ⟨es,clock,hb,Ft,hs,hD⟩:=hown
   exact ⟨es,clock,(Below.heap_alloc _ _ b hbl).trans hb,Ft,hs,hD⟩)
 exact AnyZI.sorted_in Tryz.sorted53 Fence.wide 5 trivial trivial trivial trivial rfl (by omega) (Tryz.sorts53 _) (enters_of Tryz.func76 (by kernel_rfl) rfl) 77 #[.pointer (some ⟨w.heap.size,0,none⟩)] trivial (enters_of Tryz.func77 (by kernel_rfl) rfl) _ _ hmax hbytes _ hseq
end Go.Proofs
namespace Go.Proofs.YtkhfdmelcpfgoaaGreat
open Go Go.W Go.Tk Go.Rx Go.Bd Go.Sy Go.Maps
open Go.WideElems (Fit rd rg)
theorem opn_owns {w:World} {b:Nat} {M:List (Nat × Kq)} (h:MapM w b natV kpV i64ok M) (hv:∀ p ∈ M,p.2.1≤2000000) :
  ∃ D0:DataW Unit,w.ownsMap Tryz.prog 3 (plainElem Tryz.prog 3) b M.length D0∧(intKeys D0).Perm ((M.map (·.1)).map fun n:Nat=>(n:Int))∧Maps.size D0=M.length:=by
 obtain ⟨es',clock,hb,hsz,hes,hok,hnd,hst⟩:=h
 let g:Value × Value→Lit × DataW Unit:=fun q=>(((keyOf Tryz.prog 3 q.1).bind fun key=>(plainElem (H:=Unit) Tryz.prog 3 q.2).map fun y=>(key,y.1)).getD (.bool false,.nil))
 have hgl:es'.toList.map (rg (H:=Unit) Tryz.prog 3 (plainElem Tryz.prog 3))=M.map fun p=>g (natV p.1,kpV p.2):=by
  have:es'.toList.map (rg (H:=Unit) Tryz.prog 3 (plainElem Tryz.prog 3))=(es'.toList.map fun x=>(x.key,x.val)).map g:=by
   rw [List.map_map]; rfl
  rw [this,hes,List.map_map]; rfl
 have hk:∀ x:Nat,i64ok x→keyOf Tryz.prog 3 (natV x)=some (.int .i64 x):=fun x hx=>keyOf_int_mk Tryz.underlying3 (wf_nat hx)
 have hpl:∀ p ∈ M,plainElem (H:=Unit) Tryz.prog 3 (kpV p.2)=some (.lit (.int .i64 (p.2.1:Nat)),[]):=fun p hp=>plainElem_int Tryz.underlying3 (wf_nat (by have:=hv p hp; unfold i64ok; omega))
 have hg:∀ p ∈ M,g (natV p.1,kpV p.2)=(.int .i64 p.1,.lit (.int .i64 (p.2.1:Nat))):=fun p hp=>by
  show (((keyOf Tryz.prog 3 (natV p.1)).bind fun key=>(plainElem (H:=Unit) Tryz.prog 3 (kpV p.2)).map fun y=>(key,y.1)).getD (.bool false,.nil))=_
  rw [hk _ (hok p hp),hpl p hp]
  rfl
 have hperm:=WideShapes.sorted_perm (es'.toList.map (rg (H:=Unit) Tryz.prog 3 (plainElem Tryz.prog 3)))
 have e1:es'.size=M.length:=by
  have:=congrArg List.length hes
  simpa using this
 refine ⟨_,⟨es',clock,hb,⟨hsz,hst,fun x hx=>?_⟩,by omega,rfl⟩,?_,?_⟩
 ·obtain ⟨j,hj⟩:=List.getElem?_of_mem hx
  have:=congrArg (·[j]?) hes
  simp only [List.getElem?_map,hj,Option.map_some] at this
  cases hp':M[j]? with
  | none=>rw [hp'] at this; cases this
  | some p =>
   rw [hp'] at this
   simp only [Option.map_some,Option.some.injEq,Prod.mk.injEq] at this
   have hm:=List.mem_of_getElem? hp'
   refine ⟨(.int .i64 p.1,.lit (.int .i64 (p.2.1:Nat))),?_⟩
   unfold rd
   rw [this.1,this.2,hk _ (hok p hm),hpl p hm]
   rfl
 ·have:((M.map (·.1)).map fun n:Nat=>(n:Int))=(es'.toList.map (rg (H:=Unit) Tryz.prog 3 (plainElem Tryz.prog 3))).map (fun p=>Go.intOf p.1):=by
   rw [hgl,List.map_map,List.map_map]
   refine List.map_congr_left fun p hp=>?_
   simp only [Function.comp]
   rw [hg p hp]; rfl
  rw [this]
  exact hperm.map _
 ·show (List.foldr DataW.insert [] _).length=_
  rw [hperm.length_eq,List.length_map]
  simpa using e1
theorem bkeys_call (b:Nat) (w:World):Calls Tryz.prog 54 [.map (some b)].toArray w fun e w'=>∃ v,e=.returned v∧v=.func (.func 77) #[] #[.pointer (some ⟨w.heap.size,0,none⟩)]∧w'=w.alloc (.cells #[.map (some b)] 76) :=
 Calls.mono (callsIn_wide.1 (Tryz.maps_Keys_54 (some b) w)) (by rintro e w' ⟨rfl,rfl⟩; exact ⟨_,rfl,rfl,rfl⟩)
def SrtK (M:List (Nat × Kq)) (L:List Nat):Prop:=L.Pairwise (· < ·)∧∀ x,x ∈ L↔x ∈ M.map (·.1)
theorem bsorted_call {w:World} {b:Nat} {M:List (Nat × Kq)} (h:MapM w b natV kpV i64ok M) (hv:∀ p ∈ M,p.2.1≤2000000) (hl:M.length≤2000000) :
  Calls Tryz.prog 53 [.func (.func 77) #[] #[.pointer (some ⟨w.heap.size,0,none⟩)]].toArray (w.alloc (.cells #[.map (some b)] 76)) fun e w'=>∃ v,e=.returned v∧∃ L,SrtK M L∧Own w' v 3 1 nE L∧(∀ x ∈ v.own,w.heap.size≤x)∧Kp [] w w':=by
 obtain ⟨D0,hown,hperm,hDs⟩:=opn_owns h hv
 have hnd:=MapM.nodup h
 refine Calls.mono (callsIn_wide.1 (Tryz.sorted_keys_54 b M.length D0 (plainElem Tryz.prog 3) w hown (by rw [hDs]; unfold maxLen; omega) (by rw [hDs]; omega))) ?_
 rintro e w' ⟨v,ss,rfl,hS,hrow,hnil,hb⟩
 have hml:ss.length=(ss.mergeSort (fun x y=>decide (x≤y))).length:=by simp
 rw [hml] at hrow
 obtain ⟨ho,hlow⟩:=own_of_row hrow
 have hS2:=hS.trans hperm
 have tr:∀ a b c:Int,leI a b=true→leI b c=true→leI a c=true:=fun a b c h1 h2=>by simp only [leI,decide_eq_true_eq] at *; exact Int.le_trans h1 h2
 have to:∀ a b:Int,(leI a b || leI b a)=true:=fun a b=>by simp only [leI,Bool.or_eq_true,decide_eq_true_eq]; exact Int.le_total a b
 have hpw:=List.pairwise_mergeSort tr to ss
 have hnd2:(ss.mergeSort leI).Nodup:=by
  rw [(List.mergeSort_perm ss leI).nodup_iff,hS2.nodup_iff,List.nodup_iff_pairwise_ne,List.pairwise_map]
  exact (List.nodup_iff_pairwise_ne.1 hnd).imp fun h e=>h (by omega)
 have hlt:(ss.mergeSort leI).Pairwise (· < ·):=by
  refine (hpw.and (List.nodup_iff_pairwise_ne.1 hnd2)).imp ?_
  intro a b h
  obtain ⟨h1,h2⟩:=h
  simp only [leI,decide_eq_true_eq] at h1
  omega
 have hmem:∀ x:Int,x ∈ ss.mergeSort leI↔∃ y ∈ M.map (·.1),((y:Nat):Int)=x:=fun x=>by
  rw [(List.mergeSort_perm ss leI).mem_iff,hS2.mem_iff,List.mem_map]
 have hcast:ss.mergeSort leI=((ss.mergeSort leI).map Int.toNat).map fun n:Nat=>(n:Int):=by
  rw [List.map_map]
  conv=>lhs; rw [← List.map_id (ss.mergeSort leI)]
  refine List.map_congr_left fun x hx=>?_
  obtain ⟨y,_,rfl⟩:=(hmem x).1 hx
  simp
 refine ⟨v,rfl,(ss.mergeSort leI).map Int.toNat,⟨?_,fun x=>?_⟩,?_,fun x hx=>by have:=hlow x hx; simp at this; omega,((Kp.refl [] w).alloc _).trans0 (kp_below hb)⟩
 ·rw [List.pairwise_map]
  refine (hlt.imp_of_mem ?_)
  intro a b ha hb h
  obtain ⟨y,_,rfl⟩:=(hmem a).1 ha
  obtain ⟨z,_,rfl⟩:=(hmem b).1 hb
  simp
  omega
 ·rw [List.mem_map]
  constructor
  ·rintro ⟨a,ha,rfl⟩
   obtain ⟨y,hy,rfl⟩:=(hmem a).1 ha
   simpa using hy
  ·intro hx
   exact ⟨(x:Int),(hmem _).2 ⟨x,hx,rfl⟩,by simp⟩
 ·have ho2:Own w' v 3 1 iv (ss.mergeSort leI):=ho
  rw [hcast] at ho2
  revert ho2
  generalize (ss.mergeSort leI).map Int.toNat=L
  intro ho2
  have hf:(L.map fun n:Nat=>(n:Int)).flatMap iv=L.flatMap nE:=by
   rw [List.flatMap_map]
   rfl
  unfold Own at ho2 ⊢
  rw [hf] at ho2
  simpa using ho2
end Go.Proofs.YtkhfdmelcpfgoaaGreat
end
section
set_option maxRecDepth 100000
set_option linter.unusedSimpArgs false
set_option linter.unusedVariables false
namespace Go.Proofs.YtkhfdmelcpfgoaaGreat
open Go Go.W Go.Tk Go.Rx Go.Bd Go.Sy Go.Maps
theorem mem_putM {α:Type} {l:List (Nat × α)} {c:Nat} {v:α} {p:Nat × α}:p ∈ putM l c v↔p=(c,v)∨(p ∈ l∧p.1≠c):=by
 unfold putM
 split
 ·rename_i h
  rw [List.mem_map]
  constructor
  ·rintro ⟨a,ha,rfl⟩
   by_cases e:a.1=c
   ·rw [if_pos e]; exact .inl rfl
   ·rw [if_neg e]; exact .inr ⟨ha,e⟩
  ·rintro (rfl | ⟨h1,h2⟩)
   ·rw [List.any_eq_true] at h
    obtain ⟨a,ha,e⟩:=h
    exact ⟨a,ha,by rw [if_pos (of_decide_eq_true e)]⟩
   ·exact ⟨p,h1,by rw [if_neg h2]⟩
 ·rename_i h
  rw [List.mem_append,List.mem_singleton]
  constructor
  ·rintro (h1 | h1)
   ·refine .inr ⟨h1,fun e=>h (List.any_eq_true.2 ⟨p,h1,decide_eq_true e⟩)⟩
   ·exact .inl h1
  ·rintro (h1 | ⟨h1,_⟩)
   ·exact .inr h1
   ·exact .inl h1
theorem getM_kv {α:Type} {l:List (Nat × α)} (hn:(l.map (·.1)).Nodup) {c:Nat} {v:α}:getM l c=some v↔(c,v) ∈ l:=by
 unfold getM
 constructor
 ·intro h
  cases hf:l.find? (fun p=>decide (p.1=c)) with
  | none=>rw [hf] at h; cases h
  | some p =>
   rw [hf] at h
   have h1:=List.find?_some hf
   have h2:=List.mem_of_find?_eq_some hf
   simp at h h1
   rw [← h1,← h]
   exact h2
 ·intro h
  induction l with
  | nil=>cases h
  | cons a l ih =>
   simp only [List.map_cons,List.nodup_cons,List.mem_map,not_exists,not_and] at hn
   rcases List.mem_cons.1 h with rfl | h1
   ·simp
   ·have:a.1≠c:=fun e=>hn.1 _ h1 e.symm
    rw [List.find?_cons_of_neg (by simpa using this)]
    exact ih hn.2 h1
section
variable {w w1 w2:World} {F:List Nat} {A B B':Asr} {s m lim:Nat} {T T':Nt} {q:SpC} {ps:List Kq} {x:Nat} {d:Sd}
theorem FsA.more (hB:Lcl B) (h:FsA s m lim T' q ps B w F w1) (hk:Kp [] w1 w2) (ha:∃ F1,A w2 F1∧∀ x ∈ F1,w1.heap.size≤x):FsA s m lim T' q ps (Star A B) w F w2:=by
 obtain ⟨ns,ks,ss,hG,hk1,hA⟩:=h
 exact ⟨ns,ks,ss,hG,hk1,SpcA.into (hA.more (SpcA.lcl hB) hk ha)⟩
theorem SdA.into:Imp (Star A (SdA x T s d B)) (SdA x T s d (Star A B)):=Imp.bk5
theorem SdA.out:Imp (SdA x T s d (Star A B)) (Star A (SdA x T s d B)):=Imp.fr5
theorem SdA.fr (hi:Imp B B'):Imp (SdA x T s d B) (SdA x T s d B'):=Imp.un (Imp.un (Imp.un (Imp.un hi)))
theorem FsA.le (h:FsA s m lim T' q ps B w F w1) {p:Kq} (hp:p ∈ ps):p.1≤2000000:=by
 obtain ⟨ns,ks,ss,hG,hk1,hA⟩:=h
 exact (hk1 p hp).le hG
theorem FsA.putM {KW:Kont World} {c:Nat} {p:Kq} (hB:Lcl B) (h:FsA s m lim T' q ps (SdA x T s d B) w F w1) (hc:i64ok c) (hl:d.opn.length≤2000000)
  (H:∀ w2,FsA s m lim T' q ps (SdA x T s { d with opn:=putM d.opn c p } B) w F w2→KW.run w2):@efuH Tryz.prog (Instr.mapUpdate 76 (.map (some d.om)) (natV c) (kpV p)) w1 KW:=by
 obtain ⟨ns,ks,ss,hG,hk1,hA⟩:=h
 have h1:At w F (Star (MapA d.om natV kpV i64ok d.opn) (SpcA s m lim T' q ns ks ss (Star (ObjA x (sdO T s d)) (Star (OwnA d.wv 74 3 wmE d.wl) (Star (VwsA nE (d.wl.map wmP)) B))))) w1:=by
  refine SpcA.out ?_
  unfold SpcA SdA at hA
  unfold SpcA
  exact hA.by (Imp.un (Imp.un (Imp.un (Imp.un (Imp.un (Imp.un (Imp.un Imp.fr4)))))))
 refine At.put (x:=c) (v:=p) (SpcA.lcl (Lcl.obj.star (Lcl.own.star (Lcl.vws.star hB)))) h1 bkeyI Tryz.underlying76 hc (by unfold maxLen; omega) fun w2 h2=>H w2 ⟨ns,ks,ss,hG,hk1,?_⟩
 have h3:=SpcA.into h2
 unfold SpcA SdA at *
 exact h3.by (Imp.un (Imp.un (Imp.un (Imp.un (Imp.un (Imp.un (Imp.un Imp.bk4)))))))
theorem del_mk {args:Array Operand} {tys:Array TypeId} {ty:Nat} {ρ:Env} {w:World} {K:Value→World→Prop} (h:@efH Tryz.prog (Builtin.delete_ tys ty (args.toList.map ρ.ev).toArray) w ⟨fun p=>K p.1 p.2⟩):opS Tryz.prog 2 (.call ⟨.builtin .delete,args,tys⟩) ty ρ w K:=⟨rfl,h⟩
theorem FsA.delM {KV:Kont (Value × World)} {c ty:Nat} (hB:Lcl B) (h:FsA s m lim T' q ps (SdA x T s d B) w F w1) (hc:i64ok c)
  (H:∀ w2,FsA s m lim T' q ps (SdA x T s { d with opn:=delM d.opn c } B) w F w2→KV.run (.tuple #[],w2)):@efH Tryz.prog (Builtin.delete_ #[76,3] ty #[.map (some d.om),natV c]) w1 KV:=by
 obtain ⟨ns,ks,ss,hG,hk1,hA⟩:=h
 have h1:At w F (Star (MapA d.om natV kpV i64ok d.opn) (SpcA s m lim T' q ns ks ss (Star (ObjA x (sdO T s d)) (Star (OwnA d.wv 74 3 wmE d.wl) (Star (VwsA nE (d.wl.map wmP)) B))))) w1:=by
  refine SpcA.out ?_
  unfold SpcA SdA at hA
  unfold SpcA
  exact hA.by (Imp.un (Imp.un (Imp.un (Imp.un (Imp.un (Imp.un (Imp.un Imp.fr4)))))))
 refine At.del (x:=c) (SpcA.lcl (Lcl.obj.star (Lcl.own.star (Lcl.vws.star hB)))) h1 bkeyI Tryz.underlying76 hc fun w2 h2=>H w2 ⟨ns,ks,ss,hG,hk1,?_⟩
 have h3:=SpcA.into h2
 unfold SpcA SdA at *
 exact h3.by (Imp.un (Imp.un (Imp.un (Imp.un (Imp.un (Imp.un (Imp.un Imp.bk4)))))))
end
structure NxOk (vars:List Nat) (d:Sd) (c:Nat) (op':List (Nat × Kq)):Prop where
 mem:∃ r R,(c,((r,R):Kq)) ∈ op'∧r≠0∧∀ z,R z=true→d.cl z=false
 min:∀ p ∈ op',p.1≠c→c < p.1
 h1:∀ p ∈ op',∃ S:Kq,(p.1,S) ∈ d.opn∧∀ z,StN vars z→p.2.2 z=true→S.2 z=true
 h2:∀ p ∈ d.opn,∀ z,StN vars z→p.2.2 z=true→d.cl z=true∨∃ S:Kq,(p.1,S) ∈ op'∧S.2 z=true
 nd:(op'.map (·.1)).Nodup
theorem NxOk.ok {T:Nt} {S0:List Nat→Prop} {d:Sd} {c:Nat} {op':List (Nat × Kq)} (h:NxOk T.vars d c op') (hd:SdG T S0 d):SdG T S0 { d with opn:=op' }:=by
 refine hd.less (fun p hp=>?_) (fun p hp z hz e=>?_) ?_
 ·obtain ⟨a,ha,rfl⟩:=List.mem_map.1 hp
  obtain ⟨S,hS,hi⟩:=h.h1 a ha
  exact ⟨S.2,List.mem_map.2 ⟨_,hS,rfl⟩,hi⟩
 ·obtain ⟨a,ha,rfl⟩:=List.mem_map.1 hp
  rcases h.h2 a ha z hz e with e1 | ⟨S,hS,e1⟩
  ·exact .inl e1
  ·exact .inr ⟨S.2,List.mem_map.2 ⟨_,hS,rfl⟩,e1⟩
 ·rw [List.map_map]
  exact h.nd
def NoneOk (vars:List Nat) (d:Sd):Prop:=∀ p ∈ d.opn,∀ z,StN vars z→p.2.2 z=true→d.cl z=true
theorem NoneOk.ok {T:Nt} {S0:List Nat→Prop} {d:Sd} (h:NoneOk T.vars d) (hd:SdG T S0 d):SdG T S0 { d with opn:=[] }:=by
 refine hd.less (fun p hp=>by cases hp) (fun p hp z hz e=>?_) (by simp)
 obtain ⟨a,ha,rfl⟩:=List.mem_map.1 hp
 exact .inl (h a ha z hz e)
section
variable {w w1:World} {F:List Nat} {A B B':Asr} {s m lim:Nat} {T T':Nt} {q:SpC} {ps:List Kq}
def NextR (s m lim:Nat) (T T':Nt) (q:SpC) (ps:List Kq) (B:Asr) (w:World) (F:List Nat) (x:Nat) (d:Sd) (v:Value) (w':World):Prop :=
 (∃ c op' ps',v=.tuple #[.int .i64 (c:Nat),.bool true,.nilIface]∧NxOk T.vars d c op'∧(∀ p ∈ ps,p ∈ ps')∧SdK ps' { d with opn:=op' }∧FsA s m lim T' q ps' (SdA x T s { d with opn:=op' } B) w F w') ∨
 (v=.tuple #[.int .i64 0,.bool false,.nilIface]∧NoneOk T.vars d∧FsX s m lim T' q ps (SdA x T s { d with opn:=[] } B) w F w') ∨
 (v=.tuple #[.int .i64 0,.bool false,berrV 10]∧Full T' lim∧∃ op',At w F (SdA x T s { d with opn:=op' } B) w')
def NxI (s m lim:Nat) (T T':Nt) (q:SpC) (ps:List Kq) (B:Asr) (w:World) (F:List Nat) (x:Nat) (d:Sd) (lv:Value) (L:List Nat) (k:Nat) (ρ:Env) (w':World):Prop :=
 ρ 0=.pointer (some ⟨x,0,none⟩)∧ρ 14=lv∧∃ opk ps',(∀ p,p ∈ opk↔p ∈ d.opn∧p.1 ∉ L.take k)∧(∀ p ∈ d.opn,p.1 ∈ L.take k→∀ z,StN T.vars z→p.2.2 z=true→d.cl z=true)∧(∀ p ∈ ps,p ∈ ps') ∧
  FsA s m lim T' q ps' (SdA x T s { d with opn:=opk } (Star (OwnA lv 3 1 nE L) B)) w F w'
set_option maxHeartbeats 2000000 in
theorem bnext_spec (x:Nat) (d:Sd) (hC:BC T T' lim) (hB:Lcl B) (h:FsA s m lim T' q ps (SdA x T s d B) w F w1) (hk:SdK ps d) (h0:(0,fun _=>false) ∈ ps) (hl:d.opn.length≤1000000) :
  Calls Tryz.prog 30 [.pointer (some ⟨x,0,none⟩)].toArray w1 fun en w'=>∃ v,en=.returned v∧NextR s m lim T T' q ps B w F x d v w':=by
 refine enter Tryz.func30 mixed low30 (Nat.le_of_ble_eq_true rfl) ?_
 simp only [L30]
 have hm:=h.frame SdA.map
 have ox:=h.frame SdA.obj
 unfold sdO at ox
 have hnd0:=MapM.nodup hm
 have hLS:Lcl (SdA x T s d B):=SdA.lcl hB
 simp [cell_blk ox]
 refine cl_of (bkeys_call d.om w1) ?_
 rintro _ _ ⟨rfl,rfl⟩
 simp
 refine cl_of (bsorted_call hm (fun p hp=>h.le (hk.opn p hp)) (by omega)) ?_
 rintro lv w2 ⟨L,hL,ho,hlow,k2⟩
 have h2:FsA s m lim T' q ps (Star (OwnA lv 3 1 nE L) (SdA x T s d B)) w F w2:=h.more hLS k2 ⟨lv.own,⟨ho,rfl⟩,hlow⟩
 have h3:=h2.by SdA.into
 have hLl:L.length≤1000000:=by
  have:=nodup_len L (d.opn.map (·.1)) (List.nodup_iff_pairwise_ne.2 (hL.1.imp fun h=>Nat.ne_of_lt h)) fun x hx=>(hL.2 x).1 hx
  simp at this
  omega
 have rL:∀ opk:List (Nat × Kq),Rds (SdA x T s { d with opn:=opk } (Star (OwnA lv 3 1 nE L) B)) fun w'=>Vw w' lv nE L:=fun opk=>SdA.rds Rds.own
 simp [(h3.frame (rL d.opn)).len]
 refine range_loop (n:=L.length) (by omega) (NxI s m lim T T' q ps B w F x d lv L) (by simp) (by simp)
  ⟨by simp,by simp,d.opn,ps,fun p=>by simp,fun p hp hx=>by simp at hx,fun _ h=>h,h3⟩ (by decide) (fun _ _ _ _ h=>by simpa [NxI] using h) (fun _ _ _ _ h=>by simpa [NxI] using h) ?_ ?_
 ·rintro k ρ w3 hk3 hc hlm ⟨g0,g14,opk,ps3,hopk,hcl,hps3,h4⟩
  obtain ⟨c,hLc⟩:∃ c,L[k]?=some c:=⟨_,List.getElem?_eq_getElem hk3⟩
  have hlv:=h4.frame (rL opk)
  have ec:=nE_cell hlv hLc
  have hki:(k:Int) < L.length:=by omega
  have hm4:=h4.frame SdA.map
  have hnd4:=MapM.nodup hm4
  have ox4:=h4.frame SdA.obj
  unfold sdO at ox4
  obtain ⟨pc,hpc,hpc1⟩:=List.mem_map.1 ((hL.2 c).1 (List.mem_of_getElem? hLc))
  obtain ⟨c',a,P⟩:=pc
  have hpc1:c'=c:=hpc1
  subst hpc1
  have hltL:∀ j y,j < k→L[j]?=some y→y < c':=fun j y hj hy=>by
   have h1:=List.pairwise_iff_getElem.1 hL.1 j k (List.getElem?_eq_some_iff.1 hy).1 hk3 hj
   rw [(List.getElem?_eq_some_iff.1 hy).2,(List.getElem?_eq_some_iff.1 hLc).2] at h1
   exact h1
  have hnt:c' ∉ L.take k:=fun hm=>by
   obtain ⟨j,hj⟩:=List.getElem?_of_mem hm
   have hjk:j < k:=by
    have:=(List.getElem?_eq_some_iff.1 hj).1
    simp at this; omega
   rw [List.getElem?_take_of_lt hjk] at hj
   have:=hltL j c' hjk hj
   omega
  have hin:(c',((a,P):Kq)) ∈ opk:=(hopk _).2 ⟨hpc,hnt⟩
  have hget:getM opk c'=some (a,P):=(getM_kv hnd4).2 hin
  have hca:i64ok c':=by
   obtain ⟨es,clock,_,_,_,hok,_⟩:=hm4
   exact hok _ hin
  have hBl:Lcl (Star (OwnA lv 3 1 nE L) B):=Lcl.own.star hB
  have hLk:Lcl (SdA x T s { d with opn:=opk } (Star (OwnA lv 3 1 nE L) B)):=SdA.lcl hBl
  have hopl:opk.length≤1000000:=by
   have:=nodup_len (opk.map (·.1)) (d.opn.map (·.1)) hnd4 fun y hy=>by
    obtain ⟨p,hp,rfl⟩:=List.mem_map.1 hy
    exact List.mem_map.2 ⟨p,((hopk p).1 hp).1,rfl⟩
   simp at this
   omega
  simp (disch:=omega) [g0,g14,hc,hlm,hlv.idx,ec,cell_blk ox4]
  refine MapM.look1 (x:=c') hm4 bkeyI Tryz.underlying76 zint hca ?_
  simp [hget,kpV,g0,g14,hc,hlm,cell_blk ox4]
  have h4d:=h4.drew hLk
  refine cl_of (f_minus a d.ci P d.cl hC.cap hLk h4d (hps3 _ (hk.opn _ hpc)) (hps3 _ hk.cl)) ?_
  rintro _ w4 (⟨r,rfl,h5⟩ | ⟨rfl,hf,h5⟩)
  rotate_left
  ·simp [berrV]
   exact .inr (.inr ⟨rfl,hf,opk,h5.by (SdA.fr Imp.dr)⟩)
  have ox5:=h5.frame SdA.obj
  unfold sdO at ox5
  simp [g0,g14,hc,hlm,cell_blk ox5]
  refine FsA.putM (d:={ d with opn:=opk }) (c:=c') (p:=(r,fun z=>P z && !d.cl z)) hBl h5 hca (by show opk.length≤_; omega) fun w5 h6=>?_
  have hpm:∀ p,p ∈ putM opk c' ((r,fun z=>P z && !d.cl z):Kq)↔p=(c',(r,fun z=>P z && !d.cl z))∨(p ∈ opk∧p.1≠c'):=fun p=>mem_putM
  have hsnd:∀ p ∈ opk,p.1=c'→p=(c',(a,P)):=fun p hp e=>by
   have h1:=(getM_kv hnd4).2 (show (p.1,p.2) ∈ opk from hp)
   rw [e,hget] at h1
   obtain ⟨p1,p2⟩:=p
   simp at h1 e
   rw [e,h1]
  have htk:∀ y,y ∈ L.take (k+1)↔y ∈ L.take k∨y=c':=fun y=>by
   rw [take_snoc hLc,List.mem_append,List.mem_singleton]
  by_cases hr:r=0
  ·have hr0:(((r:Nat):Int) != 0)=false:=by rw [hr]; rfl
   have hz:=(h6.zero (.head _)).1 hr
   have ox6:=h6.frame SdA.obj
   unfold sdO at ox6
   simp [hr0,g0,g14,hc,hlm,cell_blk ox6]
   refine del_mk ?_
   simp
   refine FsA.delM (d:={ d with opn:=putM opk c' ((r,fun z=>P z && !d.cl z):Kq) }) (c:=c') hBl h6 hca fun w6 h7=>?_
   simp [hr0,g0,g14,hc,hlm]
   refine ⟨by simp [g0],by simp [g14],_,_,fun p=>?_,fun p hp hx z hz1 hz2=>?_,fun p hp=>.tail _ (hps3 p hp),h7⟩
   ·rw [mem_delM,hpm p,htk p.1]
    constructor
    ·rintro ⟨h1 | ⟨h1,_⟩,h2⟩
     ·exact absurd (by rw [h1]) h2
     ·obtain ⟨h3,h4⟩:=(hopk p).1 h1
      exact ⟨h3,fun h=>h.elim h4 h2⟩
    ·rintro ⟨h1,h2⟩
     have h3:p.1≠c':=fun e=>h2 (.inr e)
     exact ⟨.inr ⟨(hopk p).2 ⟨h1,fun h=>h2 (.inl h)⟩,h3⟩,h3⟩
   ·rcases (htk p.1).1 hx with hx | hx
    ·exact hcl p hp hx z hz1 hz2
    ·have hp4:p ∈ opk:=(hopk p).2 ⟨hp,by rw [hx]; exact hnt⟩
     have:=hsnd p hp4 hx
     subst this
     have h8:=hz z (by rw [hC.alk.vars]; exact hz1)
     simp at h8
     exact h8 hz2
  ·have hr0:(((r:Nat):Int) != 0)=true:=by
    rw [bne,Bool.not_eq_true']
    exact beq_eq_false_iff_ne.2 (by omega)
   simp [hr0,g0,g14,hc,hlm]
   refine .inl ⟨c',_,_,rfl,⟨⟨r,_,(hpm _).2 (.inl rfl),hr,fun z e=>?_⟩,fun p hp hne=>?_,fun p hp=>?_,fun p hp z hz1 hz2=>?_,MapM.nodup (h6.frame SdA.map)⟩,fun p hp=>.tail _ (hps3 p hp),⟨.tail _ (hps3 _ hk.cl),fun y hy=>⟨.tail _ (hps3 _ (hk.all y hy).1),fun p hp=>.tail _ (hps3 _ ((hk.all y hy).2 p hp))⟩,fun p hp=>?_⟩,h6.by (SdA.fr Imp.dr)⟩
   ·simp at e
    exact e.2
   ·rcases (hpm p).1 hp with h1 | ⟨h1,_⟩
    ·exact absurd (by rw [h1]) hne
    ·obtain ⟨h2,h3⟩:=(hopk p).1 h1
     obtain ⟨j,hj⟩:=List.getElem?_of_mem ((hL.2 p.1).2 (List.mem_map.2 ⟨p,h2,rfl⟩))
     rcases Nat.lt_trichotomy j k with h4 | h4 | h4
     ·refine absurd ?_ h3
      have:(L.take k)[j]?=some p.1:=by rw [List.getElem?_take_of_lt h4]; exact hj
      exact List.mem_of_getElem? this
     ·rw [h4,hLc] at hj
      simp at hj
      exact absurd hj.symm hne
     ·have h5:=List.pairwise_iff_getElem.1 hL.1 k j hk3 (List.getElem?_eq_some_iff.1 hj).1 h4
      rw [(List.getElem?_eq_some_iff.1 hj).2,(List.getElem?_eq_some_iff.1 hLc).2] at h5
      exact h5
   ·rcases (hpm p).1 hp with rfl | ⟨h1,_⟩
    ·refine ⟨(a,P),hpc,fun z _ e=>?_⟩
     simp at e
     exact e.1
    ·exact ⟨p.2,((hopk p).1 h1).1,fun z _ e=>e⟩
   ·by_cases hx:p.1 ∈ L.take k
    ·exact .inl (hcl p hp hx z hz1 hz2)
    ·have hp4:p ∈ opk:=(hopk p).2 ⟨hp,hx⟩
     by_cases e:p.1=c'
     ·have:=hsnd p hp4 e
      subst this
      cases ecl:d.cl z with
      | true=>exact .inl rfl
      | false=>exact .inr ⟨_,(hpm _).2 (.inl rfl),by simp [ecl]; exact hz2⟩
     ·exact .inr ⟨p.2,(hpm _).2 (.inr ⟨hp4,e⟩),hz2⟩
   ·rcases (hpm p).1 hp with rfl | ⟨h1,_⟩
    ·exact .head _
    ·exact .tail _ (hps3 _ (hk.opn p ((hopk p).1 h1).1))
 ·rintro ρ w3 ⟨g0,g14,opk,ps3,hopk,hcl,hps3,h4⟩
  rw [List.take_length] at hopk hcl
  have e0:opk=[]:=by
   refine List.eq_nil_iff_forall_not_mem.2 fun p hp=>?_
   obtain ⟨h1,h2⟩:=(hopk p).1 hp
   exact h2 ((hL.2 _).2 (List.mem_map.2 ⟨p,h1,rfl⟩))
  subst e0
  simp
  exact .inr (.inl ⟨rfl,fun p hp=>hcl p hp ((hL.2 _).2 (List.mem_map.2 ⟨p,hp,rfl⟩)),ps3,hps3,h4.by (SdA.fr Imp.dr)⟩)
end
end Go.Proofs.YtkhfdmelcpfgoaaGreat
end
section
set_option maxRecDepth 100000
set_option linter.unusedSimpArgs false
set_option linter.unusedVariables false
namespace Go.Proofs.YtkhfdmelcpfgoaaGreat
open Go Go.W Go.Tk Go.Rx Go.Bd Go.Sy Go.Maps
def zrP (T:Nt) (d:Sd) (P A:List Nat→Bool) (k:Nat) (z:List Nat):Bool:=(List.range k).any fun op=>match T.ops[op]? with | some o=>decide (o.cost=0) && ((stpP T o d.bw P z && !A z) && !d.cl z) | none=>false
theorem zrP_succ {T:Nt} {d:Sd} {P A:List Nat→Bool} {k:Nat} {o:No} (ho:T.ops[k]?=some o):zrP T d P A (k+1)=fun z=>zrP T d P A k z || (decide (o.cost=0) && ((stpP T o d.bw P z && !A z) && !d.cl z)):=funext fun z=>by
 unfold zrP
 rw [List.range_succ,List.any_append]
 simp [ho]
theorem zrP_iff {T:Nt} {d:Sd} {P A:List Nat→Bool} {z:List Nat} (hg:NtG T) (hz:StN T.vars z):zrP T d P A T.ops.length z=true↔(∃ op x,kB T op=0∧P x=true∧EB T d.bw op x z)∧A z=false∧d.cl z=false:=by
 unfold zrP
 rw [List.any_eq_true]
 constructor
 ·rintro ⟨op,hop,h⟩
  cases ho:T.ops[op]? with
  | none=>rw [ho] at h; simp at h
  | some o =>
   rw [ho] at h
   simp only [Bool.and_eq_true,decide_eq_true_eq,Bool.not_eq_true'] at h
   obtain ⟨x,h1,h2⟩:=(stpP_iff hg ho hz).1 h.2.1.1
   exact ⟨⟨op,x,by rw [kB_at ho]; exact h.1,h1,h2⟩,h.2.1.2,h.2.2⟩
 ·rintro ⟨⟨op,x,hk,h1,h2⟩,h3,h4⟩
  obtain ⟨o,ho,hok⟩:=kB_eb h2
  refine ⟨op,List.mem_range.2 (List.getElem?_eq_some_iff.1 ho).1,?_⟩
  rw [ho]
  simp only [Bool.and_eq_true,decide_eq_true_eq,Bool.not_eq_true']
  exact ⟨by omega,⟨(stpP_iff hg ho hz).2 ⟨x,h1,h2⟩,h3⟩,h4⟩
section
variable {w w1:World} {F:List Nat} {A B B':Asr} {s m lim:Nat} {T T':Nt} {q:SpC} {ps:List Kq}
def OpX (s m lim:Nat) (T':Nt) (q:SpC) (ps:List Kq) (B:Asr) (w:World) (F:List Nat) (P:List Nat→Bool) (v:Value) (w':World):Prop :=
 (∃ x:Nat,v=.tuple #[.int .i64 (x:Nat),.nilIface]∧∃ ps',(∀ p ∈ ps,p ∈ ps')∧(x,P) ∈ ps'∧FsA s m lim T' q ps' B w F w')∨(v=.tuple #[.int .i64 0,berrV 10]∧Full T' lim∧At w F B w')
def ZrI (s m lim:Nat) (T T':Nt) (q:SpC) (ps:List Kq) (B:Asr) (w:World) (F:List Nat) (x a b:Nat) (d:Sd) (P Q:List Nat→Bool) (k:Nat) (ρ:Env) (w':World):Prop :=
 ρ 0=.pointer (some ⟨x,0,none⟩)∧ρ 1=.int .i64 (a:Nat)∧ρ 2=.int .i64 (b:Nat)∧ρ 17=T.ov.1∧∃ y ps',ρ 8=.int .i64 (y:Nat)∧(∀ p ∈ ps,p ∈ ps')∧(y,zrP T d P Q k) ∈ ps'∧FsA s m lim T' q ps' B w F w'
set_option maxHeartbeats 2000000 in
theorem bzero_spec (x a b:Nat) (d:Sd) (P Q:List Nat→Bool) (hC:BC T T' lim) (hB:Lcl B) (h:FsA s m lim T' q ps B w F w1) (hx:Rds B fun w'=>SdR w' x T s d) (hT:Rds B fun w'=>NtR w' T) (hk:SdK ps d) (h0:(0,fun _=>false) ∈ ps) (ha:(a,P) ∈ ps) (hb:(b,Q) ∈ ps) :
  Calls Tryz.prog 56 [.pointer (some ⟨x,0,none⟩),.int .i64 (a:Nat),.int .i64 (b:Nat)].toArray w1 fun en w'=>∃ v,en=.returned v∧OpX s m lim T' q ps B w F (zrP T d P Q T.ops.length) v w':=by
 refine enter Tryz.func56 mixed low56 (Nat.le_of_ble_eq_true rfl) ?_
 simp only [L56]
 have ox:=(h.frame hx).obj
 unfold sdO at ox
 have hol:=hC.g.olen
 simp [cell_blk ox,(h.frame hT).ops.len]
 have hz0:zrP T d P Q 0=fun _=>false:=funext fun z=>by simp [zrP]
 refine range_loop (n:=T.ops.length) (by omega) (ZrI s m lim T T' q ps B w F x a b d P Q) (by simp) (by simp)
  ⟨by simp,by simp,by simp,by simp,0,ps,by simp,fun _ h=>h,by rw [hz0]; exact h0,h⟩ (by decide) (fun _ _ _ _ h=>by simpa [ZrI] using h) (fun _ _ _ _ h=>by simpa [ZrI] using h) ?_ ?_
 ·rintro k ρ w3 hk3 hc hlm ⟨g0,g1,g2,g17,y,ps3,g8,hps3,hy3,h3⟩
  obtain ⟨o,ho⟩:∃ o,T.ops[k]?=some o:=⟨_,List.getElem?_eq_getElem hk3⟩
  have hT3:=h3.frame hT
  have ec:=hT3.ops.cells noE_len ho
  simp only [noE] at ec
  have hki:(k:Int) < T.ops.length:=by omega
  obtain ⟨ob,hob⟩:∃ ob,ob=w3.heap.size:=⟨_,rfl⟩
  have h4:=h3.alloc opZ hB
  rw [← hob] at h4
  simp (disch:=omega) [g0,g1,g2,g17,g8,hc,hlm,hT3.ops.idx,ec]
  rw [← hob]
  refine h4.st hB (by simp) (by simp [o.pv.2,o.ev.2]) fun w4 h5=>?_
  replace h5:FsA s m lim T' q ps3 (Star (ObjA ob (opO o)) B) w F w4:=by simpa [opZ,opO] using h5
  have hB5:Lcl (Star (ObjA ob (opO o)) B):=Lcl.obj.star hB
  have oo:=h5.obj
  unfold opO at oo
  have hx5:Rds (Star (ObjA ob (opO o)) B) fun w'=>SdR w' x T s d:=Rds.star hx
  by_cases hoc:o.cost=0
  ·have hb0:(((o.cost:Nat):Int) != 0)=false:=by rw [hoc]; rfl
   simp [g0,g1,g2,g17,g8,hc,hlm,cell_blk oo,hb0]
   refine cl_of (bstep_spec x a k d o P hC hB5 h5 hx5 (hps3 _ ha) ho) ?_
   rintro _ w5 (⟨r1,rfl,h6⟩ | ⟨rfl,hf,h6⟩)
   rotate_left
   ·simp [berrV]
    exact .inr ⟨rfl,hf,h6.drop⟩
   have ox6:=(h6.frame hx5).obj
   unfold sdO at ox6
   simp [g0,g1,g2,g17,g8,hc,hlm,cell_blk ox6]
   refine cl_of (f_minus r1 b _ Q hC.cap hB5 h6 (.head _) (.tail _ (hps3 _ hb))) ?_
   rintro _ w6 (⟨r2,rfl,h7⟩ | ⟨rfl,hf,h7⟩)
   rotate_left
   ·simp [berrV]
    exact .inr ⟨rfl,hf,h7.drop⟩
   have ox7:=(h7.frame hx5).obj
   unfold sdO at ox7
   have h7d:=h7.drew hB5
   simp [g0,g1,g2,g17,g8,hc,hlm,cell_blk ox7]
   refine cl_of (f_minus r2 d.ci _ d.cl hC.cap hB5 h7d (.head _) (.tail _ (.tail _ (hps3 _ hk.cl)))) ?_
   rintro _ w7 (⟨r3,rfl,h8⟩ | ⟨rfl,hf,h8⟩)
   rotate_left
   ·simp [berrV]
    exact .inr ⟨rfl,hf,h8.drop⟩
   have ox8:=(h8.frame hx5).obj
   unfold sdO at ox8
   simp [g0,g1,g2,g17,g8,hc,hlm,cell_blk ox8]
   refine cl_of (f_union y r3 _ _ hC.cap hB5 h8 (.tail _ (.tail _ (.tail _ hy3))) (.head _)) ?_
   rintro _ w8 (⟨r4,rfl,h9⟩ | ⟨rfl,hf,h9⟩)
   rotate_left
   ·simp [berrV]
    exact .inr ⟨rfl,hf,h9.drop⟩
   simp [g0,g1,g2,g17,g8,hc,hlm]
   refine ⟨by simp [g0],by simp [g1],by simp [g2],by simp [g17],r4,_,by simp,fun p hp=>.tail _ (.tail _ (.tail _ (.tail _ (hps3 p hp)))),?_,h9.less⟩
   rw [zrP_succ ho]
   simp only [hoc,decide_true,Bool.true_and]
   exact .head _
  ·have hb0:(((o.cost:Nat):Int) != 0)=true:=by
    rw [bne,Bool.not_eq_true']
    exact beq_eq_false_iff_ne.2 (by omega)
   simp [g0,g1,g2,g17,g8,hc,hlm,cell_blk oo,hb0]
   refine ⟨by simp [g0],by simp [g1],by simp [g2],by simp [g17],y,ps3,by simp [g8],hps3,?_,h5.less⟩
   rw [zrP_succ ho]
   simp only [hoc,decide_false,Bool.false_and,Bool.or_false]
   exact hy3
 ·rintro ρ w3 ⟨g0,g1,g2,g17,y,ps3,g8,hps3,hy3,h3⟩
  simp [g8]
  exact .inl ⟨y,rfl,ps3,hps3,hy3,h3⟩
end
end Go.Proofs.YtkhfdmelcpfgoaaGreat
end
