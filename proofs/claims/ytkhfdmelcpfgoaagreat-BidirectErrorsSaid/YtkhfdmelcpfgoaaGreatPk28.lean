/-
  A part of the proof of this claim's statement (BiW, BiX, BiY, BiZ, BjA, BjB, BjC, BjD): plain theorems; no conditions beyond those each names.
-/
import Derived.Test.YtkhfdmelcpfgoaaGreatPk27
import Derived.Test.YtkhfdmelcpfgoaaGreatPk14
section
set_option maxRecDepth 100000
set_option linter.unusedSimpArgs false
set_option linter.unusedVariables false
namespace Go.Proofs.YtkhfdmelcpfgoaaGreat
open Go Go.W Go.Tk Go.Rx Go.Bd Go.Sy Go.Maps
section
variable {w w1:World} {F:List Nat} {A B B':Asr} {s m lim:Nat} {T T':Nt} {q:SpC} {ps:List Kq}
theorem f_count (a:Nat) (P:List Nat→Bool) (hC:BC T T' lim) (hB:Lcl B) (h:FsA s m lim T' q ps B w F w1) (ha:(a,P) ∈ ps) (hsm:ctN T.vars P < many) :
  Calls Tryz.prog 32 [.pointer (some ⟨s,0,none⟩),.int .i64 (a:Nat)].toArray w1 fun en w'=>∃ v,en=.returned v∧((v=.tuple #[.int .i64 (ctN T.vars P:Nat),.nilIface]∧FsA s m lim T' q ps B w F w')∨(v=.tuple #[.int .i64 0,berrV 10]∧Full T' lim∧At w F B w')):=by
 obtain ⟨ns,ks,ss,hG,hk,hA⟩:=h
 refine (count_spec a P hG hB hA (hk _ ha) (W:=tru) (fun _ _=>⟨trivial,trivial⟩) (fun _ _=>trivial) trivial).mono ?_
 rintro en w' ⟨v,rfl,e',ns',rfl,h2,h3,h4⟩
 cases e' with
 | true=>exact ⟨_,rfl,.inr ⟨by rw [if_pos rfl]; rfl,⟨ns',h3.ok,h2.full rfl rfl⟩,SpcA.gone h4⟩⟩
 | false =>
  have h64:∀ n ∈ T'.vars,n≤64:=fun n hn=>(hC.g.vars n (by rw [← hC.alk.vars]; exact hn)).2
  refine ⟨_,rfl,.inl ⟨?_,ns',ks,ss,h3,fun p hp=>⟨(hk p hp).kn,(hk p hp).ok.stp hG.ok h2⟩,h4⟩⟩
  rw [if_neg (by simp),ct_num h64,hC.alk.vars]
  unfold cntV
  rw [if_pos hsm]
  rfl
theorem Rds.ownO {α:Type} {v:Value} {E sz:Nat} {enc:α→List Value} {l:List α} {B:Asr}:Rds (Star (OwnA v E sz enc l) B) fun w'=>Own w' v E sz enc l:=fun w' F' hs=>by
 obtain ⟨Fa,Fb,h1,_⟩:=hs
 exact h1.1
theorem FsA.store1 {α:Type} {enc:α→List Value} {E:Nat} {v:Value} {l:List α} {KW:Kont World} (hB:Lcl B) (h:FsA s m lim T' q ps (Star (OwnA v E 1 enc l) B) w F w1) (he:∀ x,(enc x).length=1) (h1:∀ x,(enc x).all oneC=true) {k:Nat} (hk:k < l.length) {x:α} {cs:List Value} (hcs:cs=enc x)
  (H:∀ w2,FsA s m lim T' q ps (Star (OwnA v E 1 enc (l.set k x)) B) w F w2→KW.run w2):@stJ w1 ⟨v.blk,k,none⟩ cs KW:=by
 obtain ⟨ns,ks,ss,hG,hk1,hA⟩:=h
 exact At.store1 (SpcA.lcl hB) (SpcA.out hA) he h1 hk hcs fun w2 h3=>H w2 ⟨ns,ks,ss,hG,hk1,SpcA.into h3⟩
structure LayOk (T:Nt) (mk:Nat) (d:Sd) (out:List Nat):Prop where
 len:out.length=mk+1
 wv:∀ y ∈ d.wl,y.cost≤mk∧out[y.cost]?=some (ctN T.vars y.all)
 no:∀ k,k≤mk→(∀ y ∈ d.wl,y.cost≠k)→out[k]?=some 0
theorem LayOk.add {T:Nt} {S0:List Nat→Prop} {mk:Nat} {d d4:Sd} {out:List Nat} {y:Wm} (h:LayOk T mk d out) (hwl:d4.wl=d.wl ++ [y]) (hy:y.cost≤mk) (hg:SdG T S0 d4):LayOk T mk d4 (out.set y.cost (ctN T.vars y.all)):=by
 have hlt:∀ u ∈ d.wl,u.cost < y.cost:=fun u hu=>by
  have h1:=hg.asc
  rw [hwl,List.map_append,List.pairwise_append] at h1
  exact h1.2.2 (wmW u) (List.mem_map.2 ⟨u,hu,rfl⟩) (wmW y) (by simp)
 refine ⟨by rw [List.length_set]; exact h.len,fun u hu=>?_,fun k hk hn=>?_⟩
 ·rw [hwl] at hu
  rcases List.mem_append.1 hu with hu | hu
  ·obtain ⟨h1,h2⟩:=h.wv u hu
   refine ⟨h1,?_⟩
   rw [List.getElem?_set_ne (by have:=hlt u hu; omega)]
   exact h2
  ·rcases List.mem_singleton.1 hu with rfl
   exact ⟨hy,List.getElem?_set_self (by rw [h.len]; omega)⟩
 ·rw [List.getElem?_set_ne (by have:=hn y (by rw [hwl]; simp); omega)]
  exact h.no k hk fun u hu=>hn u (by rw [hwl]; exact List.mem_append.2 (.inl hu))
theorem LayOk.wl {T:Nt} {mk:Nat} {d d':Sd} {out:List Nat} (h:LayOk T mk d out) (e:d'.wl=d.wl):LayOk T mk d' out:=⟨h.len,by rw [e]; exact h.wv,by rw [e]; exact h.no⟩
theorem ct_le (T:Nt) (P:List Nat→Bool):ctN T.vars P≤nSt T:=List.length_filter_le _ _
def LayR (T:Nt) (lim:Nat) (B:Asr) (w:World) (F:List Nat) (mk:Nat) (v:Value) (w':World):Prop :=
 (v=.tuple #[.slice none 0 0,berrV 10]∧Full T lim∧At w F B w') ∨
 (∃ p out d,v=.tuple #[p,.nilIface]∧d.bw=true∧SdG T (fun z=>stP T true z=true) d∧(∀ p ∈ d.opn,mk < p.1)∧LayOk T mk d out∧At w F (Star (OwnA p 3 1 nE out) B) w')
def LaI (s m lim:Nat) (T T':Nt) (q:SpC) (w:World) (F:List Nat) (x mk:Nat) (ov:Value) (Bs:Asr) (n:Nat) (ρ:Env) (w':World):Prop :=
 ρ 1=.int .i64 (mk:Nat)∧ρ 8=.pointer (some ⟨s,0,none⟩)∧ρ 10=.pointer (some ⟨x,0,none⟩)∧ρ 11=ov∧∃ d ps' out,d.bw=true∧(0,fun _=>false) ∈ ps'∧SdK ps' d∧SdG T (fun z=>stP T true z=true) d∧SdBd T d∧n=cntC T d.cl+1∧LayOk T mk d out ∧
  FsA s m lim T' q ps' (SdA x T s d (Star (OwnA ov 3 1 nE out) Bs)) w F w'
set_option maxHeartbeats 4000000 in
theorem blayers_spec (most:Int) (mk:Nat) (hmk:max 0 (min most 64)=(mk:Int)) (hS:SiC T lim) (hB:Lcl B) (h:At w F B w1) (hT:Rds B fun w'=>NtR w' T) :
  Calls Tryz.prog 12 [ntV T,.int .i64 most,.int .i64 (lim:Nat)].toArray w1 fun en w'=>∃ v,en=.returned v∧LayR T lim B w F mk v w':=by
 refine enter Tryz.func12 mixed low12 (Nat.le_of_ble_eq_true rfl) ?_
 simp only [L12]
 have hmk64:mk≤64:=by omega
 obtain ⟨tb,htb⟩:∃ tb,tb=w1.heap.size:=⟨_,rfl⟩
 obtain ⟨w2,hw2⟩:∃ w2,w2=w1.alloc (ntO T):=⟨_,rfl⟩
 have hw2':w1.alloc (.cells #[T.vv.1,T.nv.1,T.gv.1,T.ov.1] 26 (0,0))=w2:=by rw [hw2]; rfl
 obtain ⟨Bs,hBs⟩:∃ Bs,Bs=Star (ObjA tb (ntO T)) B:=⟨_,rfl⟩
 have hLs:Lcl Bs:=by rw [hBs]; exact Lcl.obj.star hB
 have h3:At w F Bs w2:=by rw [hBs,htb,hw2]; exact h.alloc _ hB
 have rT:Rds Bs fun w'=>NtR w' T:=by rw [hBs]; exact Rds.star hT
 have rO:Rds Bs fun w'=>w'.heap[tb]?=some (ntO T):=by rw [hBs]; exact Rds.obj
 have iB:Imp Bs B:=by rw [hBs]; exact Imp.dr
 have ot:=at_rds h3 rO
 unfold ntO at ot
 simp [ntV,← htb,hw2',rd_c4 ot]
 refine cl_of (snew_spec T lim hLs h3 rT hS.g hS.good hS.l hS.l1 hS.l2 (newW (W:=tru) fun G h=>trivial)) ?_
 rintro v4 w4 hnew
 rcases hnew with ⟨hbig,_⟩ | ⟨_,e,ns,hs,hnew⟩
 ·have:=hS.nb; omega
 rcases hnew with ⟨rfl,rfl,h4⟩ | ⟨rfl,s,m,T',q,hA,rfl,hG,h4⟩
 ·simp [eB,berrV,ic_errno]
  exact .inl ⟨rfl,⟨ns,⟨hS.nb,hS.g.vars,hS.g.vlen,hs.ext.wf,hS.l1,hS.l2,hs.lm⟩,hs.full rfl rfl⟩,h4.by iB⟩
 have hC:BC T T' lim:=⟨hA,hS.g,by intro ns h; rw [show SpOk T'.vars=SpOk T.vars by rw [hA.vars]] at h; exact hS.cap ns h⟩
 have h00:((0,fun _=>false):Kq) ∈ [((0,fun _=>false):Kq)]:=.head _
 have h5:FsA s m lim T' q [((0,fun _=>false):Kq)] Bs w F w4:=by
  refine ⟨ns,_,[],hG,fun p hp=>?_,h4⟩
  rcases List.mem_singleton.1 hp with rfl
  refine ⟨?_,⟨by unfold Ref; omega,fun a=>by rw [eval_zero]; simp⟩⟩
  by_cases e0:q.all=0
  ·rw [e0]; exact getM_put _ _ _
  ·rw [getM_put_ne e0]; rfl
 have ot4:=h5.frame rO
 unfold ntO at ot4
 have beg:∀ bw (d:Sd) (a:Nat),d.bw=bw→d.wl=[]→d.cl=(fun _=>false)→d.opn=[(0,(a,stP T bw))]→SdG T (fun z=>stP T bw z=true) d:=fun bw d a hdb hdw hdc hdo=>by
  have h1:Go.Bi.SdOk (StN T.vars) (EB T bw) (kB T) (fun z=>stP T bw z=true) [] (fun _=>false) [(0,stP T bw)]:=Go.Bi.SdOk.begin fun z _=>Iff.rfl
  have h2:Go.Bi.SdOk (StN T.vars) (EB T d.bw) (kB T) (fun z=>stP T bw z=true) (d.wl.map wmW) d.cl (d.opn.map fun p=>(p.1,p.2.2)):=by
   rw [hdb,hdw,hdc,hdo]
   exact h1
  exact h2
 simp [rd_c4 ot4]
 refine cl_of (bnewSide_spec true hC hLs h5 rT hS.good h00) ?_
 rintro _ w5 (⟨x,d0,a0,ps6,rfl,hbb,hbw,hbc,hbo,hps6,hbk,h6⟩ | ⟨rfl,hf,h6⟩)
 rotate_left
 ·simp [berrV]
  exact .inl ⟨rfl,full_alk hA hf,h6.by iB⟩
 have hwr:IntKind.i64.wrap ((mk:Int)+1)=((mk+1:Nat):Int):=by rw [wrap_i64 (by omega) (by omega)]; rfl
 have hmk1:(((mk+1:Nat):Int)).toNat=mk+1:=by omega
 simp (disch:=omega) only [hmk,hwr]
 simp [hmk,hwr]
 refine ⟨⟨by omega,by omega,by omega⟩,?_⟩
 simp
 obtain ⟨ov,hov⟩:∃ ov,ov=Value.slice (some ⟨w5.heap.size,0,none⟩) (mk+1) (mk+1):=⟨_,rfl⟩
 have h7:FsA s m lim T' q ps6 (Star (OwnA ov 3 1 nE (List.replicate (mk+1) 0)) (SdA x T s d0 Bs)) w F (w5.alloc (.cells (rowOf [.int .i64 0] (mk+1)).toArray 3)):=by
  rw [hov]
  exact h6.more (SdA.lcl hLs) ((Kp.refl _ _).alloc _) ⟨_,⟨Own.made (x:=(0:Nat)) rfl nE_len (by unfold maxLen; omega),rfl⟩,by simp⟩
 have h8:=h7.by SdA.into
 rw [← hov]
 have hb0:SdBd T d0:=bd_new hS.ol hS.nN hbw hbo
 have hl0:LayOk T mk d0 (List.replicate (mk+1) 0):=⟨by simp,fun y hy=>(by rw [hbw] at hy; cases hy),fun k hk _=>(by rw [List.getElem?_replicate]; rw [if_pos (by omega)])⟩
 refine loop_inv (LaI s m lim T T' q w F x mk ov Bs) (cntC T d0.cl+1) ⟨by simp,by simp,by simp,by simp,d0,ps6,_,hbb,hps6 _ h00,hbk,beg true d0 a0 hbb hbw hbc hbo,hb0,rfl,hl0,h8⟩ ?_
 rintro n ρ w6 ⟨g1,g8,g10,g11,d,ps1,out,hdb,hz0,hk,hg,hb,hn,hLay,h9⟩
 have hopl:d.opn.length≤1000000:=by have:=hb.on; have:=hb.wl; have:=hb.nN; omega
 have hLo:Lcl (Star (OwnA ov 3 1 nE out) Bs):=Lcl.own.star hLs
 simp [g1,g8,g10,g11]
 refine cl_of (bnext_spec x d hC hLo h9 hk hz0 hopl) ?_
 rintro _ w7 (⟨c,op',ps2,rfl,hNx,hps2,hk2,h10⟩ | ⟨rfl,hNo,ps2,hps2,h10⟩ | ⟨rfl,hf,op',h10⟩)
 rotate_left 2
 ·simp [g1,g8,g10,g11,berrV]
  exact .inl ⟨rfl,full_alk hA hf,h10.drop.drop.drop.drop.by (Imp.dr.trans iB)⟩
 rotate_left
 ·simp [g1,g8,g10,g11]
  obtain ⟨_,_,_,_,_,hE0⟩:=h10
  have hE1:=(SpcA.gone hE0).drop.drop.drop.drop.by (Imp.un iB)
  exact .inr ⟨ov,out,{ d with opn:=[] },rfl,hdb,hNo.ok hg,fun p hp=>(by cases hp),hLay.wl rfl,hE1⟩
 obtain ⟨r,R,hrR,hr0,hRc⟩:=hNx.mem
 have hb3:SdBd T { d with opn:=op' }:=hb.next (fun p hp=>by obtain ⟨S,hS,_⟩:=hNx.h1 p hp; exact ⟨S,hS⟩) hNx.nd
 have hg3:SdG T (fun z=>stP T true z=true) { d with opn:=op' }:=hNx.ok hg
 by_cases hcm:mk < c
 ·have hcm2:((mk:Int) < (c:Int)):=by omega
  simp [g1,g8,g10,g11,hcm2,hcm]
  obtain ⟨_,_,_,_,_,hE0⟩:=h10
  have hE1:=(SpcA.gone hE0).drop.drop.drop.drop.by (Imp.un iB)
  exact .inr ⟨ov,out,{ d with opn:=op' },rfl,hdb,hg3,fun p hp=>(by
   by_cases e:p.1=c
   ·omega
   ·have:=hNx.min p hp e; omega),hLay.wl rfl,hE1⟩
 have hcm2:¬ ((mk:Int) < (c:Int)):=by omega
 simp [g1,g8,g10,g11,hcm2,hcm]
 refine cl_of (bcomplete_spec x c (fun z=>stP T true z=true) { d with opn:=op' } r R hC hLo h10 (Rds.star rT) hk2 (hps2 _ hz0) hg3 hb3 hrR hr0 hRc hNx.min) ?_
 rintro _ w8 (⟨rfl,d4,y,ps4,hbw4,hwl4,hyc,hyne,hg4,hb4,hcnt4,hps4,hk4,h11⟩ | ⟨rfl,hf,d4,_,h11⟩)
 rotate_left
 ·simp [g1,g8,g10,g11,berrV]
  exact .inl ⟨rfl,full_alk hA hf,h11.drop.drop.drop.drop.by (Imp.dr.trans iB)⟩
 have ox11:=h11.frame SdA.obj
 unfold sdO at ox11
 have ow11:=h11.frame SdA.wvs
 have hwl4':d4.wl=d.wl ++ [y]:=hwl4
 have hyw:d4.wl[d.wl.length]?=some y:=by rw [hwl4']; simp
 have hlen4:d4.wl.length=d.wl.length+1:=by rw [hwl4']; simp
 have cy:=ow11.fld wmE_len hyw (o:=2) (u:=.int .i64 (y.ai:Nat)) rfl
 have hL11:Lcl (SdA x T s d4 (Star (OwnA ov 3 1 nE out) Bs)):=SdA.lcl hLo
 have h11d:=h11.drew hL11
 have es:∀ K:Kont Value,@intH .sub .i64 ((d4.wl.length:Nat):Int) .i64 1 K=K.run (.int .i64 ((d.wl.length:Nat):Int)):=fun K=>by
  rw [intS_sub,hlen4]
  have:(((d.wl.length+1:Nat):Int) - 1)=((d.wl.length:Nat):Int):=by omega
  rw [this,wrap_i64 (by omega) (by have:=hb4.wl; have:=hb4.nN; omega)]
 have hki:((d.wl.length:Nat):Int) < d4.wl.length:=by omega
 simp (disch:=omega) [-intS_sub,es,g1,g8,g10,g11,cell_blk ox11,ow11.len,ow11.idx,cy]
 refine cl_of (f_count y.ai y.all hC hL11 h11d (hk4.all y (List.mem_of_getElem? hyw)).1 (by have:=ct_le T y.all; have:=hS.nN; unfold many; omega)) ?_
 have hL12:Lcl (SdA x T s d4 Bs):=SdA.lcl hLs
 have hcl:c < out.length:=by rw [hLay.len]; omega
 rintro _ w9 (⟨rfl,h12⟩ | ⟨rfl,hf,h12⟩)
 rotate_left
 ·have h13:=h12.by SdA.out
  have ho:=h13.own
  simp (disch:=omega) [g1,g8,g10,g11,berrV,ho.idx]
  refine h13.store1 (x:=0) hL12 nE_len nE_one hcl (by simp [nE]) fun w10 h14=>?_
  simp
  exact .inl ⟨rfl,full_alk hA hf,h14.drop.drop.drop.drop.drop.by iB⟩
 ·have h13:=h12.by SdA.out
  have ho:=h13.frame Rds.ownO
  simp (disch:=omega) [g1,g8,g10,g11,ho.idx]
  refine h13.store1 (x:=ctN T.vars y.all) hL12 nE_len nE_one hcl (by simp [nE]) fun w10 h14=>?_
  simp [g1,g8,g10,g11]
  have h15:=h14.by SdA.into
  have hlay2:=LayOk.add hLay hwl4' (by omega) hg4
  rw [hyc] at hlay2
  refine ⟨cntC T d4.cl+1,by rw [hn]; have:cntC T d4.cl < cntC T d.cl:=hcnt4; omega,by simp [g1],by simp [g8],by simp [g10],by simp [g11],d4,ps4,_,by rw [hbw4]; exact hdb,hps4 _ (hps2 _ hz0),hk4,hg4,hb4,rfl,hlay2,h15⟩
end
end Go.Proofs.YtkhfdmelcpfgoaaGreat
end
section
set_option maxRecDepth 100000
set_option linter.unusedSimpArgs false
set_option linter.unusedVariables false
namespace Go.Proofs.YtkhfdmelcpfgoaaGreat
open Go Go.W Go.Tk Go.Rx Go.Bd Go.Sy Go.Maps
def nlC:Cell1:=⟨.slice none 0 0,rfl⟩
def upO (cost i:Nat) (pv ev:Cell1):No:=⟨ByteArray.empty,cost,pv,[(0,i)],ev,[⟨nlC,[],0,i+1⟩]⟩
def dnO (i:Nat) (pv ev:Cell1):No:=⟨ByteArray.empty,0,pv,[(0,i+1)],ev,[⟨nlC,[],0,i⟩]⟩
def ChL (cost:Nat):Nat→List No→Prop
 | 0,l=>l=[]
 | k+1,l=>∃ l0 a b c d,ChL cost k l0∧l=l0 ++ [upO cost k a b,dnO k c d]
theorem ChL.len {cost:Nat}:∀ {k:Nat} {l:List No},ChL cost k l→l.length=2 * k
 | 0,l,h=>by rw [show l=[] from h]; rfl
 | k+1,l,⟨l0,a,b,c,d,h,e⟩=>by rw [e,List.length_append,h.len]; simp; omega
def OpsS (os:List No) (X:Asr):Asr:=Star (VwsA fcE (os.map pvW)) (Star (VwsA nfE (os.map evW)) (Star (VwsA fcE (os.flatMap cdW)) X))
theorem OpsS.lcl {os:List No} {X:Asr} (h:Lcl X):Lcl (OpsS os X):=Lcl.vws.star (Lcl.vws.star (Lcl.vws.star h))
theorem ops_add {ps:List (Cell1 × List Go.Tk.Fc)} {es:List (Cell1 × List Nf)} {R:Asr} {E1 E2 s1 s2:Nat} {p1 p2 e1 e2:Value} {a1 a2:List Go.Tk.Fc} {b1 b2:List Nf} (q1:oneC p1=true) (q2:oneC e1=true) (q3:oneC p2=true) (q4:oneC e2=true) :
  Imp (Star (OwnA e2 E2 s2 nfE b2) (Star (OwnA p2 E1 s1 fcE a2) (Star (OwnA e1 E2 s2 nfE b1) (Star (OwnA p1 E1 s1 fcE a1) (Star (VwsA fcE ps) (Star (VwsA nfE es) R)))))) (Star (VwsA fcE ((ps ++ [(⟨p1,q1⟩,a1)]) ++ [(⟨p2,q3⟩,a2)])) (Star (VwsA nfE ((es ++ [(⟨e1,q2⟩,b1)]) ++ [(⟨e2,q4⟩,b2)])) R)) :=
 (Imp.un (Imp.un (Imp.un (Imp.ow.trans (VwsA.add q1))))).trans ((Imp.un (Imp.un (Imp.sw.trans (Imp.un (Imp.ow.trans (VwsA.add q2)))))).trans ((Imp.un (Imp.ow.trans (VwsA.add q3))).trans (Imp.sw.trans (Imp.un (Imp.ow.trans (VwsA.add q4))))))
def ChX (rb n:Nat) (vv nv gv:Value) (B:Asr):Asr:=Star (ObjA rb (.cells #[.slice none 0 0,.slice none 0 0,.slice none 0 0,.slice none 0 0] 26 (0,0))) (Star (OwnA vv 3 1 nE [n]) (Star (OwnA nv 3 1 nE [0]) (Star (OwnA gv 92 2 fcE [((0,n - 1):Go.Tk.Fc)]) B)))
theorem ChX.lcl {rb n:Nat} {vv nv gv:Value} {B:Asr} (h:Lcl B):Lcl (ChX rb n vv nv gv B):=Lcl.obj.star (Lcl.own.star (Lcl.own.star (Lcl.own.star h)))
def ChnI (w:World) (F:List Nat) (rb tb n cost:Nat) (vv nv gv:Value) (B:Asr) (k:Nat) (ρ:Env) (w':World):Prop :=
 ρ 0=.int .i64 (n:Nat)∧ρ 1=.int .i64 (cost:Nat)∧ρ 4=.pointer (some ⟨rb,0,none⟩)∧ρ 5=.pointer (some ⟨tb,0,none⟩)∧∃ ov os,ChL cost k os∧oneC ov=true ∧
  At w F (Star (ObjA tb (.cells #[vv,nv,gv,ov] 26 (0,0))) (Star (OwnA ov 50 4 noE os) (OpsS os (ChX rb n vv nv gv B)))) w'
section
variable {w w1:World} {F:List Nat} {B:Asr}
set_option maxHeartbeats 4000000 in
theorem bchain_spec (n cost:Nat) (hn1:1≤n) (hn:n≤1000) (hB:Lcl B) (h:At w F B w1):Calls Tryz.prog 24 [.int .i64 (n:Nat),.int .i64 (cost:Nat)].toArray w1 fun en w'=>∃ v,en=.returned v∧∃ T,v=ntV T∧T.vars=[n]∧T.init=[0]∧T.goal=[(0,n - 1)]∧ChL cost (n - 1) T.ops∧At w F (Star (TskA T) B) w':=by
 refine enter Tryz.func24 mixed low24 (Nat.le_of_ble_eq_true rfl) ?_
 simp only [L24]
 have e0:∀ (w:World) (o:Obj),(w.alloc o).heap.size=w.heap.size+1:=fun w o=>by simp
 have en1:((n:Int) - 1)=((n - 1:Nat):Int):=by omega
 obtain ⟨rb,hrb⟩:∃ rb,rb=w1.heap.size:=⟨_,rfl⟩
 have a1:At w F (Star (ObjA rb (.cells #[.slice none 0 0,.slice none 0 0,.slice none 0 0,.slice none 0 0] 26 (0,0))) B) (w1.alloc (.cells #[.slice none 0 0,.slice none 0 0,.slice none 0 0,.slice none 0 0] 26 (0,0))):=by rw [hrb]; exact h.alloc _ hB
 have a2:=a1.lit (xs:=[n]) (enc:=nE) (E:=3) (sz:=1) (cs:=#[.int .i64 (n:Nat)]) (m:=1) (Lcl.obj.star hB) (by simp [nE]) nE_len (by simp [maxLen]) rfl
 have a3:=a2.lit (xs:=[0]) (enc:=nE) (E:=3) (sz:=1) (cs:=#[.int .i64 0]) (m:=1) (Lcl.own.star (Lcl.obj.star hB)) (by simp [nE]) nE_len (by simp [maxLen]) rfl
 have a4:=a3.lit (xs:=[((0,n - 1):Go.Tk.Fc)]) (enc:=fcE) (E:=92) (sz:=2) (cs:=#[.int .i64 0,.int .i64 ((n - 1:Nat):Int)]) (m:=1) (Lcl.own.star (Lcl.own.star (Lcl.obj.star hB))) (by simp [fcE]) fcE_len (by simp [maxLen]) rfl
 have a5:=a4.alloc (.cells #[.slice none 0 0,.slice none 0 0,.slice none 0 0,.slice none 0 0] 26 (0,0)) (Lcl.own.star (Lcl.own.star (Lcl.own.star (Lcl.obj.star hB))))
 simp only [e0,← hrb] at a2 a3 a4 a5
 obtain ⟨vv,hvv⟩:∃ vv,vv=Value.slice (some ⟨rb+1,0,none⟩) 1 1:=⟨_,rfl⟩
 obtain ⟨nv,hnv⟩:∃ nv,nv=Value.slice (some ⟨rb+1+1,0,none⟩) 1 1:=⟨_,rfl⟩
 obtain ⟨gv,hgv⟩:∃ gv,gv=Value.slice (some ⟨rb+1+1+1,0,none⟩) 1 1:=⟨_,rfl⟩
 obtain ⟨tb,htb⟩:∃ tb,tb=rb+1+1+1+1:=⟨_,rfl⟩
 have o1:oneC vv=true:=by rw [hvv]; rfl
 have o2:oneC nv=true:=by rw [hnv]; rfl
 have o3:oneC gv=true:=by rw [hgv]; rfl
 rw [← hvv,← hnv,← hgv,← htb] at a5
 simp (disch:=omega) [rowOf,← hrb,wrap_i64,en1]
 rw [← hvv,← hnv,← hgv,← htb]
 refine a5.st (Lcl.own.star (Lcl.own.star (Lcl.own.star (Lcl.obj.star hB)))) (by simp) (by simp [o1,o2,o3]) fun w2 h2=>?_
 have hX:Lcl (ChX rb n vv nv gv B):=ChX.lcl hB
 have h3:At w F (Star (ObjA tb (.cells #[vv,nv,gv,.slice none 0 0] 26 (0,0))) (ChX rb n vv nv gv B)) w2:=by
  refine At.by ?_ (Imp.un (Imp.r4.trans (Imp.un (Imp.r3.trans (Imp.un Imp.sw)))))
  simpa using h2
 have hLo:Lcl (Star (ObjA tb (.cells #[vv,nv,gv,.slice none 0 0] 26 (0,0))) (ChX rb n vv nv gv B)):=Lcl.obj.star hX
 have h4:=(VwsA.nil (enc:=fcE) hLo h3).by Imp.sw
 have h5:=(VwsA.nil (enc:=nfE) (Lcl.obj.star (Lcl.vws.star hX)) h4).by Imp.sw
 have h6:=(VwsA.nil (enc:=fcE) (Lcl.obj.star (Lcl.vws.star (Lcl.vws.star hX))) h5).by Imp.sw
 have h7:=(At.nil (enc:=noE) (E:=50) (sz:=4) (Lcl.obj.star (Lcl.vws.star (Lcl.vws.star (Lcl.vws.star hX)))) h6).by Imp.sw
 simp (disch:=omega) [wrap_i64,en1]
 refine range_loop (n:=n - 1) (by omega) (ChnI w F rb tb n cost vv nv gv B) (by simp) (by simp)
  ⟨by simp,by simp,by simp,by simp,.slice none 0 0,[],rfl,rfl,h7⟩ (by decide) (fun _ _ _ _ h=>by simpa [ChnI] using h) (fun _ _ _ _ h=>by simpa [ChnI] using h) ?_ ?_
 ·rintro k ρ w3 hk hc hlm ⟨g0,g1,g4,g5,ov,os,hos,oov,h8⟩
  have ot:=h8.obj
  have hosl:=hos.len
  have hLY:Lcl (OpsS os (ChX rb n vv nv gv B)):=OpsS.lcl (ChX.lcl hB)
  have hL8:Lcl (Star (ObjA tb (.cells #[vv,nv,gv,ov] 26 (0,0))) (Star (OwnA ov 50 4 noE os) (OpsS os (ChX rb n vv nv gv B)))):=Lcl.obj.star (Lcl.own.star hLY)
  have b1:=h8.lit (xs:=[((0,k):Go.Tk.Fc)]) (enc:=fcE) (E:=92) (sz:=2) (cs:=#[.int .i64 0,.int .i64 (k:Nat)]) (m:=1) hL8 (by simp [fcE]) fcE_len (by simp [maxLen]) rfl
  have b2:=b1.lit (xs:=[(⟨nlC,[],0,k+1⟩:Nf)]) (enc:=nfE) (E:=90) (sz:=3) (cs:=#[.slice none 0 0,.int .i64 0,.int .i64 ((k:Int)+1)]) (m:=1) (Lcl.own.star hL8) (by simp [nfE,nlC]) nfE_len (by simp [maxLen]) rfl
  have b3:=b2.lit (xs:=[((0,k+1):Go.Tk.Fc)]) (enc:=fcE) (E:=92) (sz:=2) (cs:=#[.int .i64 0,.int .i64 ((k:Int)+1)]) (m:=1) (Lcl.own.star (Lcl.own.star hL8)) (by simp [fcE]) fcE_len (by simp [maxLen]) rfl
  have b4:=b3.lit (xs:=[(⟨nlC,[],0,k⟩:Nf)]) (enc:=nfE) (E:=90) (sz:=3) (cs:=#[.slice none 0 0,.int .i64 0,.int .i64 (k:Nat)]) (m:=1) (Lcl.own.star (Lcl.own.star (Lcl.own.star hL8))) (by simp [nfE,nlC]) nfE_len (by simp [maxLen]) rfl
  obtain ⟨sb,hsb⟩:∃ sb,sb=w3.heap.size:=⟨_,rfl⟩
  simp only [e0,← hsb] at b1 b2 b3 b4
  obtain ⟨p1,hp1⟩:∃ v,v=Value.slice (some ⟨sb,0,none⟩) 1 1:=⟨_,rfl⟩
  obtain ⟨e1,he1⟩:∃ v,v=Value.slice (some ⟨sb+1,0,none⟩) 1 1:=⟨_,rfl⟩
  obtain ⟨p2,hp2⟩:∃ v,v=Value.slice (some ⟨sb+1+1,0,none⟩) 1 1:=⟨_,rfl⟩
  obtain ⟨e2,he2⟩:∃ v,v=Value.slice (some ⟨sb+1+1+1,0,none⟩) 1 1:=⟨_,rfl⟩
  have q1:oneC p1=true:=by rw [hp1]; rfl
  have q2:oneC e1=true:=by rw [he1]; rfl
  have q3:oneC p2=true:=by rw [hp2]; rfl
  have q4:oneC e2=true:=by rw [he2]; rfl
  rw [← hp1,← he1,← hp2,← he2] at b4
  simp (disch:=omega) [g0,g1,g4,g5,hc,hlm,cell_blk ot,wrap_i64,rowOf,← hsb]
  rw [← hp1,← he1,← hp2,← he2]
  have hLr:Lcl (Star (OwnA e2 90 3 nfE [(⟨nlC,[],0,k⟩:Nf)]) (Star (OwnA p2 92 2 fcE [((0,k+1):Go.Tk.Fc)]) (Star (OwnA e1 90 3 nfE [(⟨nlC,[],0,k+1⟩:Nf)]) (Star (OwnA p1 92 2 fcE [((0,k):Go.Tk.Fc)]) (Star (ObjA tb (.cells #[vv,nv,gv,ov] 26 (0,0))) (OpsS os (ChX rb n vv nv gv B))))))):=Lcl.own.star (Lcl.own.star (Lcl.own.star (Lcl.own.star (Lcl.obj.star hLY))))
  have b5:=b4.by Imp.fr6
  have b6:=b5.kp0 (Lcl.own.star hLr) ((Kp.refl [] _).alloc (.cells #[.string ByteArray.empty,.int .i64 (cost:Nat),p1,e1,.string ByteArray.empty,.int .i64 0,p2,e2] 50))
  refine At.append (xs:=[upO cost k ⟨p1,q1⟩ ⟨e1,q2⟩,dnO k ⟨p2,q3⟩ ⟨e2,q4⟩]) hLr b6 noE_len noE_one sl_24 rfl (fun j u hj=>?_) (by omega) (by unfold maxLen; omega) fun ov' w5 h9=>?_
  ·have e5:(sb+1+1+1+1)=((((w3.alloc (.cells #[.int .i64 0,.int .i64 (k:Nat)] 92)).alloc (.cells #[.slice none 0 0,.int .i64 0,.int .i64 ((k:Int)+1)] 90)).alloc (.cells #[.int .i64 0,.int .i64 ((k:Int)+1)] 92)).alloc (.cells #[.slice none 0 0,.int .i64 0,.int .i64 (k:Nat)] 90)).heap.size:=by simp only [e0,hsb]
   rw [add_none,e5,cell_blk alloc_new]
   simpa [noE,upO,dnO] using hj
  have oov':oneC ov'=true:=at_rds h9 Rds.own1
  simp (disch:=omega) [g0,g1,g4,g5,hc,hlm,cells_o1 oov']
  have h10:=h9.by Imp.fr6
  refine h10.st (by repeat' (first | exact hLY | exact Lcl.own | apply Lcl.star)) (by simp) (by simp [oov']) fun w6 h11=>?_
  simp (disch:=omega) [g0,g1,g4,g5,hc,hlm]
  refine ⟨by simp [g0],by simp [g1],by simp [g4],by simp [g5],ov',_,⟨os,⟨p1,q1⟩,⟨e1,q2⟩,⟨p2,q3⟩,⟨e2,q4⟩,hos,rfl⟩,oov',?_⟩
  unfold OpsS at h11
  have h12:=h11.by (Imp.un2 (ops_add q1 q2 q3 q4))
  have h13:=(At.nil (E:=92) (sz:=2) (enc:=fcE) (by repeat' (first | exact ChX.lcl hB | exact Lcl.obj | exact Lcl.own | exact Lcl.vws | apply Lcl.star)) h12).by (Imp.bk5.trans (Imp.un4 (Imp.ow.trans (VwsA.add rfl))))
  have h14:=(At.nil (E:=92) (sz:=2) (enc:=fcE) (by repeat' (first | exact ChX.lcl hB | exact Lcl.obj | exact Lcl.own | exact Lcl.vws | apply Lcl.star)) h13).by (Imp.bk5.trans (Imp.un4 (Imp.ow.trans (VwsA.add rfl))))
  unfold OpsS
  simpa [pvW,evW,cdW,upO,dnO,nlC] using h14
 ·rintro ρ w3 ⟨g0,g1,g4,g5,ov,os,hos,oov,h8⟩
  have ot:=h8.obj
  simp [g0,g1,g4,g5,rd_c4 ot]
  unfold OpsS ChX at h8
  have h9:=h8.by Imp.fr6
  refine h9.st (by repeat' (first | exact hB | exact Lcl.obj | exact Lcl.own | exact Lcl.vws | apply Lcl.star)) (by simp) (by simp [o1,o2,o3,oov]) fun w4 h10=>?_
  simp
  refine postL_c1 ag_26 (by simp [g4]) h10.obj (by simp) rfl ?_
  have g6:=((h10.drop.drop.by Imp.fr5).by (Imp.un Imp.fr5)).by (Imp.un2 Imp.fr5)
  have g7:=(((g6.by Imp.ow).by (Imp.un Imp.ow)).by (Imp.un2 Imp.ow)).by (Imp.un3 Imp.ow)
  have g14:=((((((g7.by (Imp.un (Imp.un4 Imp.as))).by (Imp.un4 Imp.as)).by (Imp.un (Imp.un (Imp.un Imp.as)))).by (Imp.un (Imp.un Imp.as))).by (Imp.un Imp.as))).by Imp.as
  exact ⟨_,rfl,(⟨⟨vv,o1⟩,⟨nv,o2⟩,⟨gv,o3⟩,⟨ov,oov⟩,[n],[0],[(0,n - 1)],os⟩:Nt),by simp [ntV],rfl,rfl,rfl,hos,g14⟩
end
end Go.Proofs.YtkhfdmelcpfgoaaGreat
end
section
set_option maxRecDepth 100000
set_option linter.unusedSimpArgs false
set_option linter.unusedVariables false
namespace Go.Proofs.YtkhfdmelcpfgoaaGreat
open Go Go.W Go.Tk Go.Rx Go.Bd Go.Sy Go.Maps
def CstI (w2:World) (T:Nt) (tb:Nat) (pv:Value) (plan:List Nat) (s z:List Nat) (c:Nat) (k:Nat) (ρ:Env) (w':World):Prop :=
 ρ 3=.pointer (some ⟨tb,0,none⟩)∧ρ 13=pv∧Kp [] w2 w'∧∃ cur j,ρ 8=.int .i64 (j:Nat)∧j≤c∧RunT T cur (plan.drop k) z (c - j)∧StN T.vars cur∧Vw w' (ρ 1) nE cur
set_option maxHeartbeats 1000000 in
theorem bcost_spec {w:World} (T:Nt) (sv pv:Value) (s plan z:List Nat) (c:Nat) (hr:NtR w T) (hg:NtG T) (hs:Vw w sv nE s) (hst:StN T.vars s) (hp:Vw w pv nE plan) (hl:plan.length≤2000000000000) (hrun:RunT T s plan z c) (hc:c≤2000000000000) :
  Calls Tryz.prog 34 [ntV T,sv,pv].toArray w fun en w'=>∃ v,en=.returned v∧v=.tuple #[.int .i64 (c:Nat),.bool (hdB z T.goal)]∧Kp [] w w':=by
 refine enter Tryz.func34 mixed low34 (Nat.le_of_ble_eq_true rfl) ?_
 simp only [L34]
 obtain ⟨tb,htb⟩:∃ tb,tb=w.heap.size:=⟨_,rfl⟩
 obtain ⟨w2,hw2⟩:∃ w2,w2=w.alloc (ntO T):=⟨_,rfl⟩
 have hw2':w.alloc (.cells #[T.vv.1,T.nv.1,T.gv.1,T.ov.1] 26 (0,0))=w2:=by rw [hw2]; rfl
 have k2:Kp [] w w2:=by rw [hw2]; exact (Kp.refl [] w).alloc _
 have ob2:w2.heap[tb]?=some (ntO T):=by rw [hw2,htb]; exact alloc_new
 have hp2:=hp.kp0 k2
 simp [ntV,← htb,hw2',hp2.len]
 refine range_loop (n:=plan.length) (by omega) (CstI w2 T tb pv plan s z c) (by simp) (by simp)
  ⟨by simp,by simp,Kp.refl [] w2,s,0,by simp,by omega,by simpa using hrun,hst,by simpa using hs.kp0 k2⟩ (by decide) (fun _ _ _ _ h=>by simpa [CstI] using h) (fun _ _ _ _ h=>by simpa [CstI] using h) ?_ ?_
 ·rintro k ρ w3 hk hck hlk ⟨g3,g13,k3,cur,j,g8,hj,hrn,hcur,hv⟩
  obtain ⟨sv',hsv'⟩:∃ v,v=ρ 1:=⟨_,rfl⟩
  have g1:=hsv'.symm
  rw [g1] at hv
  obtain ⟨op,hop⟩:∃ op,plan[k]?=some op:=⟨_,List.getElem?_eq_getElem hk⟩
  have hdr:plan.drop k=op :: plan.drop (k+1):=by
   rw [List.drop_eq_getElem_cons hk]
   rw [List.getElem?_eq_getElem hk] at hop
   rw [Option.some.inj hop]
  rw [hdr] at hrn
  obtain ⟨o,ho,hpre,hoc,hrn⟩:=hrn
  have hp3:=hp2.kp0 k3
  have ec:=nE_cell hp3 hop
  have hki:(k:Int) < plan.length:=by omega
  have hr3:NtR w3 T:=(hr.kp k2).kp k3
  have ob3:=k3.blk ob2 (by simp)
  unfold ntO at ob3
  simp (disch:=omega) [g1,g3,g8,g13,hck,hlk,hp3.idx,ec,rd_c4 ob3]
  refine cl_of (apply_spec T sv' cur op o hr3 hg ho hv hcur) ?_
  rintro x w4 hx
  unfold apV at hx
  rw [if_pos hpre] at hx
  obtain ⟨u,rfl,n4⟩:=hx
  have k4:=k3.trans n4.kp
  have ob4:=k4.blk ob2 (by simp)
  unfold ntO at ob4
  have hr4:NtR w4 T:=(hr.kp k2).kp k4
  have coc:=hr4.ops.fld noE_len ho (o:=1) (u:=.int .i64 (o.cost:Nat)) rfl
  have hol:=hg.olen
  have hopl:(op:Int) < T.ops.length:=by have:=(List.getElem?_eq_some_iff.1 ho).1; omega
  simp (disch:=omega) [g1,g3,g8,g13,hck,hlk,cell_blk ob4,hr4.ops.idx,coc,wrap_i64]
  refine ⟨by simp [g3],by simp [g13],k4,apS o cur,j+o.cost,by simp,by omega,?_,apS_st hcur (hg.ops o (List.mem_of_getElem? ho)),by simpa using n4.own.vw⟩
  rwa [show c - (j+o.cost)=c - j - o.cost by omega]
 ·rintro ρ w3 ⟨g3,g13,k3,cur,j,g8,hj,hrn,hcur,hv⟩
  obtain ⟨sv',hsv'⟩:∃ v,v=ρ 1:=⟨_,rfl⟩
  have g1:=hsv'.symm
  rw [g1] at hv
  rw [List.drop_length] at hrn
  obtain ⟨rfl,hj0⟩:=hrn
  have hr3:NtR w3 T:=(hr.kp k2).kp k3
  have ob3:=k3.blk ob2 (by simp)
  unfold ntO at ob3
  simp [g1,g3,g8,g13,cell_blk ob3]
  have hgl:=hg.goal
  refine cl_of (holds_spec T.gv.1 sv' T.goal cur hr3.goal hv (by have:=hgl.len; have:=hg.vlen; omega) fun f hf=>by rw [hcur.len]; exact (hgl.rng f hf).1) ?_
  rintro _ w4 ⟨rfl,k4⟩
  simp [g1,g3,g8,g13]
  exact ⟨by omega,k2.trans (k3.trans k4)⟩
end Go.Proofs.YtkhfdmelcpfgoaaGreat
end
section
set_option maxRecDepth 100000
set_option linter.unusedSimpArgs false
set_option linter.unusedVariables false
namespace Go.Proofs.YtkhfdmelcpfgoaaGreat
open Go Go.W Go.Tk Go.Rx Go.Bd Go.Sy Go.Maps
set_option maxHeartbeats 1000000 in
theorem bresult_solved {w:World} (T:Nt) (p:Value) (out z:List Nat) (c:Nat) (e:Int) (hr:NtR w T) (hg:NtG T) (hp:Vw w p nE out) (hl:out.length≤2000000000000) (hrun:RunT T T.init out z c) (hz:GoalT T z) (hc:c≤2000000000000) :
  Calls Tryz.prog 15 [ntV T,resZ 1 p c e,.int .i64 (c:Nat)].toArray w fun en w'=>∃ v,en=.returned v∧v=.bool true∧Kp [] w w':=by
 refine enter Tryz.func15 mixed low15 (Nat.le_of_ble_eq_true rfl) ?_
 simp only [L15]
 obtain ⟨tb,htb⟩:∃ tb,tb=w.heap.size:=⟨_,rfl⟩
 obtain ⟨w2,hw2⟩:∃ w2,w2=w.alloc (ntO T):=⟨_,rfl⟩
 have hw2':w.alloc (.cells #[T.vv.1,T.nv.1,T.gv.1,T.ov.1] 26 (0,0))=w2:=by rw [hw2]; rfl
 obtain ⟨rb,hrb⟩:∃ rb,rb=w2.heap.size:=⟨_,rfl⟩
 obtain ⟨w3,hw3⟩:∃ w3,w3=w2.alloc (.cells #[.int .i64 1,p,.int .i64 (c:Nat),.int .i64 e] 38 (0,0)):=⟨_,rfl⟩
 have k2:Kp [] w w2:=by rw [hw2]; exact (Kp.refl [] w).alloc _
 have k3:Kp [] w2 w3:=by rw [hw3]; exact (Kp.refl [] w2).alloc _
 have ob3:w3.heap[tb]?=some (ntO T):=k3.blk (by rw [hw2,htb]; exact alloc_new) (by simp)
 have or3:w3.heap[rb]?=some (.cells #[.int .i64 1,p,.int .i64 (c:Nat),.int .i64 e] 38 (0,0)):=by rw [hw3,hrb]; exact alloc_new
 unfold ntO at ob3
 have hcI:¬ ((1125899906842624:Int)≤(c:Int)):=by omega
 simp [ntV,resZ,← htb,hw2',← hrb,← hw3,hcI,rd_c4 ob3,cell_blk ob3,cell_blk or3]
 have hr3:NtR w3 T:=(hr.kp k2).kp k3
 refine cl_of (bcost_spec T T.nv.1 p T.init out z c hr3 hg hr3.init (init_st hg) ((hp.kp0 k2).kp0 k3) hl hrun hc) ?_
 rintro _ w4 ⟨rfl,k4⟩
 have or4:=k4.blk or3 (by simp)
 have hz':hdB z T.goal=true:=hz
 simp [hz',cell_blk or4]
 exact k2.trans (k3.trans k4)
end Go.Proofs.YtkhfdmelcpfgoaaGreat
end
section
set_option maxRecDepth 100000
set_option linter.unusedSimpArgs false
set_option linter.unusedVariables false
namespace Go.Proofs.YtkhfdmelcpfgoaaGreat
open Go Go.W Go.Tk Go.Rx Go.Bd Go.Sy Go.Maps
def vc4 (i:Nat) (j:Nat):Bool:=i.testBit (3 - j)
def ix4 (b:Nat→Bool):Nat:=(if b 0 then 8 else 0)+(if b 1 then 4 else 0)+(if b 2 then 2 else 0)+(if b 3 then 1 else 0)
theorem ix4_lt (b:Nat→Bool):ix4 b < 16:=by unfold ix4; split <;> split <;> split <;> split <;> omega
theorem vc4_ix (b:Nat→Bool):∀ j,j < 4→vc4 (ix4 b) j=b j:=fun j hj=>by
 unfold ix4 vc4
 have:j=0∨j=1∨j=2∨j=3:=by omega
 rcases this with rfl | rfl | rfl | rfl <;> cases b 0 <;> cases b 1 <;> cases b 2 <;> cases b 3 <;> rfl
theorem cov4:CovW 4 (fun G=>Go.Bd.Loc 4 G) 65536:=by
 refine ⟨(List.range 65536).map fun m b=>m.testBit (15 - ix4 b),by simp,fun G hG t a ht _=>?_⟩
 obtain ⟨m,hm,hb⟩:=bits_of (fun i=>G (pfx a t (vc4 i))) 16
 refine List.mem_map.2 ⟨m,List.mem_range.2 hm,funext fun b=>?_⟩
 have:=hb (ix4 b) (ix4_lt b)
 show m.testBit (15 - ix4 b)=G (pfx a t b)
 rw [show 15 - ix4 b=16 - 1 - ix4 b by omega,← this]
 refine hG _ _ fun i hi=>?_
 unfold pfx
 split
 ·rfl
 ·exact vc4_ix b i hi
theorem wf4_len {ns:Ns} (w:Wf 4 ns):ns.length≤65536:=by
 have:=cov_len (ns0:=[]) w cov4 fun z h1 h2=>⟨fun b=>eval ns b z,eval_loc w h2,IsC.refl _⟩
 simpa using this
end Go.Proofs.YtkhfdmelcpfgoaaGreat
end
section
set_option maxRecDepth 100000
set_option linter.unusedSimpArgs false
set_option linter.unusedVariables false
namespace Go.Bi
variable {σ:Type} {V:σ→Prop} {E:Nat→σ→σ→Prop} {k:Nat→Nat} {S0:σ→Prop} {wl:List (Wp σ)} {cl:σ→Bool} {opn:List (Nat × (σ→Bool))}
theorem pot_le {h:σ→Nat} (hd:SdOk V E k S0 wl cl opn) (hv:∀ op x z,E op x z→V x) (h0:∀ z,V z→S0 z→h z=0) (hs:∀ op x z,E op x z→h z≤h x+k op):∀ c w,w ∈ wl→w.cost=c→∀ z,V z→w.all z=true→h z≤c:=by
 intro c
 induction c using Nat.strongRecOn with
 | _ c ih =>
  intro w hw hc z hz ha
  have hW:=hd.wv w hw
  have key:∀ (i:Nat) (p:σ→Bool),w.parts[i]?=some p→∀ z,V z→p z=true→h z≤c:=by
   intro i
   induction i with
   | zero =>
    intro p hp z hz hpz
    rcases hW.p0 p hp z hz hpz with ⟨_,h1⟩ | ⟨op,hk,w',hw',he,x,hx,hex⟩
    ·rw [h0 z hz h1]; exact Nat.zero_le _
    ·have h1:=ih w'.cost (by omega) w' hw' rfl x (hv _ _ _ hex) hx
     have h2:=hs _ _ _ hex
     omega
   | succ i ih2 =>
    intro p hp z hz hpz
    obtain ⟨q,hq⟩:∃ q,w.parts[i]?=some q:=⟨_,List.getElem?_eq_getElem (by have:=(List.getElem?_eq_some_iff.1 hp).1; omega)⟩
    obtain ⟨op,hk,x,hx,hex⟩:=hW.ps i q p hq hp z hz hpz
    have h1:=ih2 q hq x (hv _ _ _ hex) hx
    have h2:=hs _ _ _ hex
    omega
  obtain ⟨p,hp,hpz⟩:=(hW.un z hz).1 ha
  obtain ⟨i,hi⟩:=List.getElem?_of_mem hp
  exact key i p hi z hz hpz
end Go.Bi
namespace Go.Proofs.YtkhfdmelcpfgoaaGreat
open Go Go.W Go.Tk Go.Rx Go.Bd Go.Sy Go.Maps
structure Ch4 (T:Nt):Prop where
 v:T.vars=[4]
 i:T.init=[0]
 g:T.goal=[(0,3)]
 o:ChL 2 3 T.ops
theorem ch_ops {l:List No} (h:ChL 2 3 l):∃ a b c d a1 b1 c1 d1 a2 b2 c2 d2,l=[upO 2 0 a b,dnO 0 c d,upO 2 1 a1 b1,dnO 1 c1 d1,upO 2 2 a2 b2,dnO 2 c2 d2]:=by
 obtain ⟨l2,a2,b2,c2,d2,⟨l1,a1,b1,c1,d1,⟨l0,a,b,c,d,h0,e0⟩,e1⟩,e2⟩:=h
 have h0:l0=[]:=h0
 exact ⟨a,b,c,d,a1,b1,c1,d1,a2,b2,c2,d2,by rw [e2,e1,e0,h0]; rfl⟩
theorem up_g {i:Nat} {a b:Cell1} (h:i < 3):NoG [4] (upO 2 i a b):=by
 refine ⟨by simp [upO],by simp [upO],⟨by simp [upO]; omega,by simp [upO]⟩,fun e he=>?_,fun e he=>?_⟩
 ·simp [upO] at he; subst he; exact ⟨by simp,by simp⟩
 ·simp [upO] at he; subst he; simp; omega
theorem dn_g {i:Nat} {a b:Cell1} (h:i < 3):NoG [4] (dnO i a b):=by
 refine ⟨by simp [dnO],by simp [dnO],⟨by simp [dnO]; omega,by simp [dnO]⟩,fun e he=>?_,fun e he=>?_⟩
 ·simp [dnO] at he; subst he; exact ⟨by simp,by simp⟩
 ·simp [dnO] at he; subst he; simp; omega
section
variable {T:Nt}
theorem Ch4.ng (h:Ch4 T):NtG T:=by
 obtain ⟨a,b,c,d,a1,b1,c1,d1,a2,b2,c2,d2,ho⟩:=ch_ops h.o
 refine ⟨by rw [h.v]; simp,by rw [ho]; simp,by rw [h.v]; simp,by rw [h.v,h.i]; rfl,fun i hi=>?_,?_,fun o hoo=>?_⟩
 ·rw [h.i] at hi ⊢
  rw [h.v]
  have:i=0:=by simp at hi; omega
  subst this
  simp
 ·rw [h.v,h.g]
  exact ⟨by simp,by simp⟩
 ·rw [h.v]
  rw [ho] at hoo
  simp at hoo
  rcases hoo with rfl | rfl | rfl | rfl | rfl | rfl
  ·exact up_g (by omega)
  ·exact dn_g (by omega)
  ·exact up_g (by omega)
  ·exact dn_g (by omega)
  ·exact up_g (by omega)
  ·exact dn_g (by omega)
theorem Ch4.good (h:Ch4 T):goodB T.raw=true:=by
 obtain ⟨a,b,c,d,a1,b1,c1,d1,a2,b2,c2,d2,ho⟩:=ch_ops h.o
 have e:T=⟨T.vv,T.nv,T.gv,T.ov,[4],[0],[(0,3)],[upO 2 0 a b,dnO 0 c d,upO 2 1 a1 b1,dnO 1 c1 d1,upO 2 2 a2 b2,dnO 2 c2 d2]⟩:=by
  rw [← ho,← h.v,← h.i,← h.g]
 rw [e]
 rfl
theorem Ch4.cap (h:Ch4 T) {lim:Nat} {ns:Ns} (hs:SpOk T.vars lim ns):ns.length≤65536:=by
 have hw:=hs.wf
 rw [h.v] at hw
 exact wf4_len hw
theorem Ch4.sic (h:Ch4 T):SiC T 1048576:=by
 obtain ⟨a,b,c,d,a1,b1,c1,d1,a2,b2,c2,d2,ho⟩:=ch_ops h.o
 refine ⟨h.ng,h.good,h.ng.lens (by rw [ho]; simp [upO,dnO]),by omega,by omega,fun ns hs=>by have:=h.cap hs; omega,by rw [ho]; simp,?_,by rw [h.v]; decide⟩
 unfold nSt
 rw [h.v]
 decide
theorem Ch4.full (h:Ch4 T):¬ Full T 1048576:=fun ⟨ns,hs,hl⟩=>by
 have:=h.cap hs
 omega
end
end Go.Proofs.YtkhfdmelcpfgoaaGreat
end
section
set_option maxRecDepth 100000
set_option linter.unusedSimpArgs false
set_option linter.unusedVariables false
namespace Go.Proofs.YtkhfdmelcpfgoaaGreat
open Go Go.W Go.Tk Go.Rx Go.Bd Go.Sy Go.Maps
theorem st4 {z:List Nat} (h:StN [4] z):∃ n,n < 4∧z=[n]:=by
 have hl:=h.len
 match z,hl with
 | [n],_ =>
  refine ⟨n,?_,rfl⟩
  have:=h.2 0 (by simp)
  simpa using this
theorem st4' {n:Nat} (h:n < 4):StN [4] [n]:=⟨rfl,fun i hi=>by
 have:i=0:=by simp at hi; omega
 subst this
 simpa using h⟩
theorem ap_up {i n:Nat} {a b:Cell1}:apS (upO 2 i a b) [n]=[i+1]:=rfl
theorem ap_dn {i n:Nat} {a b:Cell1}:apS (dnO i a b) [n]=[i]:=rfl
theorem hd_1 {n i:Nat}:hdB [n] [(0,i)]=decide (n=i):=by simp [hdB]
def hC (z:List Nat):Nat:=2 * (3 - z.getD 0 0)
section
variable {T:Nt}
theorem Ch4.pot (h:Ch4 T) {op:Nat} {x y:List Nat} (he:StepT T op x y):hC x≤hC y+kB T op:=by
 obtain ⟨a,b,c,d,a1,b1,c1,d1,a2,b2,c2,d2,ho⟩:=ch_ops h.o
 obtain ⟨hx,hy,o,hoo,he⟩:=he
 rw [h.v] at hx hy
 obtain ⟨n,hn,rfl⟩:=st4 hx
 simp only [Bool.false_eq_true,if_false] at he
 obtain ⟨h1,h2⟩:=he
 rw [kB_at hoo]
 have hm:=List.mem_of_getElem? hoo
 rw [ho] at hm
 simp at hm
 rcases hm with rfl | rfl | rfl | rfl | rfl | rfl
 all_goals
  first
  | (rw [ap_up] at h2; subst h2; simp [upO,hd_1] at h1; subst h1; simp [hC,upO]; done)
  | (rw [ap_dn] at h2; subst h2; simp [dnO,hd_1] at h1; subst h1; simp [hC,dnO]; done)
theorem Ch4.up (h:Ch4 T) {i:Nat} (hi:i < 3):StepT T (2 * i) [i] [i+1]∧kB T (2 * i)=2:=by
 obtain ⟨a,b,c,d,a1,b1,c1,d1,a2,b2,c2,d2,ho⟩:=ch_ops h.o
 have:i=0∨i=1∨i=2:=by omega
 have hx:StN T.vars [i]:=by rw [h.v]; exact st4' (by omega)
 have hy:StN T.vars [i+1]:=by rw [h.v]; exact st4' (by omega)
 rcases this with rfl | rfl | rfl
 ·have e:T.ops[2 * 0]?=some (upO 2 0 a b):=by rw [ho]; rfl
  exact ⟨⟨hx,hy,_,e,by simp only [Bool.false_eq_true,if_false]; exact ⟨by simp [upO,hd_1],ap_up⟩⟩,by rw [kB_at e]; rfl⟩
 ·have e:T.ops[2 * 1]?=some (upO 2 1 a1 b1):=by rw [ho]; rfl
  exact ⟨⟨hx,hy,_,e,by simp only [Bool.false_eq_true,if_false]; exact ⟨by simp [upO,hd_1],ap_up⟩⟩,by rw [kB_at e]; rfl⟩
 ·have e:T.ops[2 * 2]?=some (upO 2 2 a2 b2):=by rw [ho]; rfl
  exact ⟨⟨hx,hy,_,e,by simp only [Bool.false_eq_true,if_false]; exact ⟨by simp [upO,hd_1],ap_up⟩⟩,by rw [kB_at e]; rfl⟩
theorem Ch4.goal (h:Ch4 T) {n:Nat}:GoalT T [n]↔n=3:=by
 unfold GoalT
 rw [h.g,hd_1]
 simp
theorem run_st {l:List Nat} {s z:List Nat} {c:Nat} (hg:NtG T) (hs:StN T.vars s) (h:RunT T s l z c) (hp:∀ op x y,StepT T op x y→hC x≤hC y+kB T op):StN T.vars z∧hC s≤hC z+c:=by
 induction l generalizing s c with
 | nil =>
  obtain ⟨rfl,rfl⟩:=h
  exact ⟨hs,by omega⟩
 | cons op l ih =>
  obtain ⟨o,ho,h1,h2,h3⟩:=h
  have hst:=apS_st hs (hg.ops o (List.mem_of_getElem? ho))
  obtain ⟨h4,h5⟩:=ih hst h3
  have h6:=hp op s (apS o s) ⟨hs,hst,o,ho,by simp only [Bool.false_eq_true,if_false]; exact ⟨h1,trivial⟩⟩
  rw [kB_at ho] at h6
  exact ⟨h4,by omega⟩
theorem Ch4.lo (h:Ch4 T) {H:List Nat→Nat} (hl:LoT T H):H T.init≤6:=by
 have s:∀ n,n < 4→StN T.vars [n]:=fun n hn=>by rw [h.v]; exact st4' hn
 have h3:=hl.1 [3] (s 3 (by omega)) (h.goal.2 rfl)
 have e0:=h.up (i:=0) (by omega)
 have e1:=h.up (i:=1) (by omega)
 have e2:=h.up (i:=2) (by omega)
 have f0:=hl.2 _ _ _ (s 0 (by omega)) (s 1 (by omega)) e0.1
 have f1:=hl.2 _ _ _ (s 1 (by omega)) (s 2 (by omega)) e1.1
 have f2:=hl.2 _ _ _ (s 2 (by omega)) (s 3 (by omega)) e2.1
 rw [e0.2] at f0
 rw [e1.2] at f1
 rw [e2.2] at f2
 rw [h.i]
 omega
theorem Ch4.res (h:Ch4 T) {vd c:Nat} {out:List Nat} (hr:ResOk T 1048576 vd out c):vd=1∧c=6∧∃ z,GoalT T z∧RunT T T.init out z c:=by
 rcases hr with ⟨_,_,_,hf⟩ | ⟨_,_,_,hI⟩ | ⟨e,_,⟨z,hz,hrun⟩,H,hl,_,hi⟩
 ·exact absurd hf h.full
 ·obtain ⟨H,hl,_,hi⟩:=hI 7
  have:=h.lo hl
  omega
 ·have h1:=h.lo hl
  have hs:StN T.vars T.init:=init_st h.ng
  obtain ⟨h2,h3⟩:=run_st h.ng hs hrun fun op x y he=>h.pot he
  rw [h.v] at h2
  obtain ⟨n,hn,rfl⟩:=st4 h2
  have:=h.goal.1 hz
  subst this
  rw [h.i] at h3
  simp [hC] at h3
  exact ⟨e,by omega,_,hz,hrun⟩
end
end Go.Proofs.YtkhfdmelcpfgoaaGreat
end
section
set_option maxRecDepth 100000
set_option linter.unusedSimpArgs false
set_option linter.unusedVariables false
namespace Go.Proofs.YtkhfdmelcpfgoaaGreat
open Go Go.W Go.Tk Go.Rx Go.Bd Go.Sy Go.Maps
section
variable {T:Nt} {d:Sd} {out:List Nat}
theorem Ch4.wv (h:Ch4 T) (hb:d.bw=true) (hd:SdG T (fun z=>stP T true z=true) d) (ho:∀ p ∈ d.opn,6 < p.1):∀ n,n < 4→∃ y ∈ d.wl,y.all [n]=true∧y.cost=hC [n]:=by
 have hd2:Go.Bi.SdOk (StN T.vars) (EB T true) (kB T) (fun z=>stP T true z=true) (d.wl.map wmW) d.cl (d.opn.map fun p=>(p.1,p.2.2)):=by
  have h1:Go.Bi.SdOk (StN T.vars) (EB T d.bw) (kB T) (fun z=>stP T true z=true) (d.wl.map wmW) d.cl (d.opn.map fun p=>(p.1,p.2.2)):=hd
  rw [hb] at h1
  exact h1
 have s:∀ n,n < 4→StN T.vars [n]:=fun n hn=>by rw [h.v]; exact st4' hn
 have hge:∀ w,w ∈ d.wl.map wmW→∀ z,StN T.vars z→w.all z=true→hC z≤w.cost:=fun w hw z hz ha =>
  Go.Bi.pot_le (h:=hC) hd2 (fun op x z he=>he.1) (fun z hz hs=>by
   have h1:GoalT T z:=by simpa [stP] using hs
   rw [h.v] at hz
   obtain ⟨n,hn,rfl⟩:=st4 hz
   have:=h.goal.1 h1
   subst this
   rfl) (fun op x z he=>h.pot (EB.flip (bw:=false) he)) _ w hw rfl z hz ha
 have hop:∀ p ∈ (d.opn.map fun p=>(p.1,p.2.2)),6 < p.1:=fun p hp=>by
  obtain ⟨a,ha,rfl⟩:=List.mem_map.1 hp
  exact ho a ha
 have w3:∃ w,w ∈ d.wl.map wmW∧w.all [3]=true∧w.cost=0:=by
  rcases hd2.st [3] (s 3 (by omega)) (by simpa [stP] using h.goal.2 rfl) with h1 | ⟨p,hp,_,e⟩
  ·exact h1
  ·have:=hop p hp; omega
 have nxt:∀ n,n < 3→(∃ w,w ∈ d.wl.map wmW∧w.all [n+1]=true∧w.cost=hC [n+1])→∃ w,w ∈ d.wl.map wmW∧w.all [n]=true∧w.cost=hC [n]:=fun n hn ⟨w,hw,ha,hc⟩=>by
  obtain ⟨he,hk⟩:=h.up hn
  have he2:EB T true (2 * n) [n+1] [n]:=EB.flip (bw:=true) he
  have e1:hC [n+1]+2=hC [n]:=by simp [hC]; omega
  have e2:hC [n]≤6:=by simp [hC]; omega
  rcases hd2.out w hw [n+1] (2 * n) [n] ha (s n (by omega)) he2 with ⟨w',hw',ha',hl⟩ | ⟨p,hp,_,hl⟩
  ·have:=hge w' hw' [n] (s n (by omega)) ha'
   exact ⟨w',hw',ha',by omega⟩
  ·have:=hop p hp
   omega
 have w2:=nxt 2 (by omega) w3
 have w1:=nxt 1 (by omega) w2
 have w0:=nxt 0 (by omega) w1
 intro n hn
 have:∃ w,w ∈ d.wl.map wmW∧w.all [n]=true∧w.cost=hC [n]:=by
  have:n=0∨n=1∨n=2∨n=3:=by omega
  rcases this with rfl | rfl | rfl | rfl
  ·exact w0
  ·exact w1
  ·exact w2
  ·exact w3
 obtain ⟨w,hw,ha,hc⟩:=this
 obtain ⟨y,hy,rfl⟩:=List.mem_map.1 hw
 exact ⟨y,hy,ha,hc⟩
theorem dis_eq {T:Nt} {S0:List Nat→Prop} {d:Sd} (hd:SdG T S0 d) {y y':Wm} (hy:y ∈ d.wl) (hy':y' ∈ d.wl) {z:List Nat} (hz:StN T.vars z) (h1:y.all z=true) (h2:y'.all z=true):y.cost=y'.cost:=by
 have e1:=Go.Bi.gOf_at (d:=0) hd.dis hz (List.mem_map.2 ⟨y,hy,rfl⟩) h1
 have e2:=Go.Bi.gOf_at (d:=0) hd.dis hz (List.mem_map.2 ⟨y',hy',rfl⟩) h2
 rw [e1] at e2
 exact e2
theorem Ch4.lay (h:Ch4 T) (hb:d.bw=true) (hd:SdG T (fun z=>stP T true z=true) d) (ho:∀ p ∈ d.opn,6 < p.1) (hl:LayOk T 6 d out):out=[1,0,1,0,1,0,1]:=by
 have hw:=h.wv hb hd ho
 have s:∀ n,n < 4→StN T.vars [n]:=fun n hn=>by rw [h.v]; exact st4' hn
 have ct:∀ y ∈ d.wl,ctN T.vars y.all=(([0,1,2,3]:List Nat).filter fun n=>decide (hC [n]=y.cost)).length:=fun y hy=>by
  have e:∀ n,n < 4→y.all [n]=decide (hC [n]=y.cost):=fun n hn=>by
   obtain ⟨y',hy',ha,hc⟩:=hw n hn
   by_cases e:hC [n]=y.cost
   ·rw [decide_eq_true e]
    have:=SdG.inj hd y' hy' y hy (by omega)
    rw [← this]; exact ha
   ·rw [decide_eq_false e]
    cases e2:y.all [n] with
    | false=>rfl
    | true =>
     have:=dis_eq hd hy hy' (s n hn) e2 ha
     exact absurd (by omega) e
  unfold ctN
  rw [h.v]
  have e0:stsK [4] [4].length=[[0],[1],[2],[3]]:=by decide
  rw [e0]
  simp only [List.filter,e 0 (by omega),e 1 (by omega),e 2 (by omega),e 3 (by omega)]
  cases decide (hC [0]=y.cost) <;> cases decide (hC [1]=y.cost) <;> cases decide (hC [2]=y.cost) <;> cases decide (hC [3]=y.cost) <;> rfl
 have at_:∀ k,k≤6→out[k]?=some (([0,1,2,3]:List Nat).filter fun n=>decide (hC [n]=k)).length:=fun k hk=>by
  rcases Classical.em (∃ y ∈ d.wl,y.cost=k) with ⟨y,hy,rfl⟩ | hno
  ·rw [(hl.wv y hy).2,ct y hy]
  ·rw [hl.no k hk fun y hy e=>hno ⟨y,hy,e⟩]
   have:(([0,1,2,3]:List Nat).filter fun n=>decide (hC [n]=k))=[]:=by
    rw [List.filter_eq_nil_iff]
    intro n hn e
    obtain ⟨y,hy,_,hc⟩:=hw n (by simp at hn; omega)
    exact hno ⟨y,hy,by have:=of_decide_eq_true e; omega⟩
   rw [this]; rfl
 refine List.ext_getElem? fun k=>?_
 by_cases hk:k≤6
 ·rw [at_ k hk]
  have:k=0∨k=1∨k=2∨k=3∨k=4∨k=5∨k=6:=by omega
  rcases this with rfl | rfl | rfl | rfl | rfl | rfl | rfl <;> rfl
 ·rw [List.getElem?_eq_none (by rw [hl.len]; omega),List.getElem?_eq_none (by simp; omega)]
end
end Go.Proofs.YtkhfdmelcpfgoaaGreat
end
