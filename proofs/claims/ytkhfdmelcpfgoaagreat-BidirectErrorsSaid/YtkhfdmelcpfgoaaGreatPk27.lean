/-
  A part of the proof of this claim's statement (BiT, BiU): plain theorems; no conditions beyond those each names.
-/
import Derived.Test.YtkhfdmelcpfgoaaGreatPk26
section
set_option maxRecDepth 100000
set_option linter.unusedSimpArgs false
set_option linter.unusedVariables false
namespace Go.Proofs.YtkhfdmelcpfgoaaGreat
open Go Go.W Go.Tk Go.Rx Go.Bd Go.Sy Go.Maps
section
variable {w w1:World} {F:List Nat} {A B B':Asr} {s m lim:Nat} {T T':Nt} {q:SpC} {ps:List Kq} {df db d:Sd} {M:Mt} {x y mb rb fp bp:Nat}
theorem SdA.mt:Imp (SdA x T s d (MtA mb M B)) (MtA mb M (SdA x T s d B)):=SdA.out.trans (Imp.un SdA.out)
theorem MtA.sd:Imp (MtA mb M (SdA x T s d B)) (SdA x T s d (MtA mb M B)):=(Imp.un SdA.into).trans SdA.into
theorem SdA.sw:Imp (SdA x T s df (SdA y T s db B)) (SdA y T s db (SdA x T s df B)):=SdA.out.trans (Imp.un (SdA.out.trans (Imp.un (SdA.out.trans (Imp.un SdA.out)))))
theorem outR:Imp (SdA x T s df (SdA y T s db (MtA mb M (Star A B)))) (Star A (SdA x T s df (SdA y T s db B))):=(SdA.fr (SdA.fr (Imp.dr.trans Imp.dr))).trans ((SdA.fr SdA.out).trans SdA.out)
def NxF (d:Sd) (c:Nat) (ok:Bool):Prop:=(ok=true∧(∃ r R,(c,((r,R):Kq)) ∈ d.opn∧r≠0∧∀ z,R z=true→d.cl z=false)∧∀ p ∈ d.opn,p.1≠c→c < p.1)∨(ok=false∧d.opn=[])
theorem SdK.with {op':List (Nat × Kq)} (h:SdK ps d) (ho:∀ p ∈ op',p.2 ∈ ps):SdK ps { d with opn:=op' }:=⟨h.cl,h.all,ho⟩
theorem nx_F {v:Value} {w':World} (hD:TwD T ps df db M) (h:NextR s m lim T T' q ps B w F x df v w') :
  (∃ c ok d2 ps2,v=.tuple #[.int .i64 (c:Nat),.bool ok,.nilIface]∧(∀ p ∈ ps,p ∈ ps2)∧TwD T ps2 d2 db M∧d2.cl=df.cl∧d2.wl=df.wl∧NxF d2 c ok∧FsA s m lim T' q ps2 (SdA x T s d2 B) w F w')∨(v=.tuple #[.int .i64 0,.bool false,berrV 10]∧Full T' lim∧∃ d',d'.wl=df.wl∧At w F (SdA x T s d' B) w'):=by
 rcases h with ⟨c,op',ps2,rfl,hNx,hps2,hk2,h5⟩ | ⟨rfl,hNo,ps2,hps2,h5⟩ | ⟨rfl,hf,op',h5⟩
 ·exact .inl ⟨c,true,{ df with opn:=op' },ps2,rfl,hps2,(hD.mono hps2).lessF hNx.h1 hNx.nd hk2 (hNx.ok hD.gf),rfl,rfl,.inl ⟨rfl,hNx.mem,hNx.min⟩,h5⟩
 ·exact .inl ⟨0,false,{ df with opn:=[] },ps2,rfl,hps2,(hD.mono hps2).lessF (fun p hp=>by cases hp) (by simp) ((hD.mono hps2).kf.with fun p hp=>by cases hp) (hNo.ok hD.gf),rfl,rfl,.inr ⟨rfl,rfl⟩,h5⟩
 ·exact .inr ⟨rfl,hf,{ df with opn:=op' },rfl,h5⟩
theorem nx_B {v:Value} {w':World} (hD:TwD T ps df db M) (h:NextR s m lim T T' q ps B w F x db v w') :
  (∃ c ok d2 ps2,v=.tuple #[.int .i64 (c:Nat),.bool ok,.nilIface]∧(∀ p ∈ ps,p ∈ ps2)∧TwD T ps2 df d2 M∧d2.cl=db.cl∧d2.wl=db.wl∧NxF d2 c ok∧FsA s m lim T' q ps2 (SdA x T s d2 B) w F w')∨(v=.tuple #[.int .i64 0,.bool false,berrV 10]∧Full T' lim∧∃ d',d'.wl=db.wl∧At w F (SdA x T s d' B) w'):=by
 rcases h with ⟨c,op',ps2,rfl,hNx,hps2,hk2,h5⟩ | ⟨rfl,hNo,ps2,hps2,h5⟩ | ⟨rfl,hf,op',h5⟩
 ·exact .inl ⟨c,true,{ db with opn:=op' },ps2,rfl,hps2,(hD.mono hps2).lessB hNx.h1 hNx.nd hk2 (hNx.ok hD.gb),rfl,rfl,.inl ⟨rfl,hNx.mem,hNx.min⟩,h5⟩
 ·exact .inl ⟨0,false,{ db with opn:=[] },ps2,rfl,hps2,(hD.mono hps2).lessB (fun p hp=>by cases hp) (by simp) ((hD.mono hps2).kb.with fun p hp=>by cases hp) (hNo.ok hD.gb),rfl,rfl,.inr ⟨rfl,rfl⟩,h5⟩
 ·exact .inr ⟨rfl,hf,{ db with opn:=op' },rfl,h5⟩
theorem mn_le {c:Nat} (h:∀ p ∈ d.opn,p.1≠c→c < p.1):∀ p ∈ d.opn,c≤p.1:=fun p hp=>by
 by_cases e:p.1=c
 ·omega
 ·exact Nat.le_of_lt (h p hp e)
theorem wl_lt {S0:List Nat→Prop} {c:Nat} {r:Kq} (h:SdG T S0 d) (hr:(c,r) ∈ d.opn):∀ u ∈ d.wl,u.cost≤c:=fun u hu=>Nat.le_of_lt (h.lt (wmW u) (List.mem_map.2 ⟨u,hu,rfl⟩) (c,r.2) (List.mem_map.2 ⟨_,hr,rfl⟩))
theorem nx_le {c:Nat} (hb:SdBd T d) (h:NxF d c true):c≤600000000:=by
 rcases h with ⟨_,⟨r,R,hr,_⟩,_⟩ | ⟨e,_⟩
 ·exact kn_le hb (p:=(c,(r,R))) (.inl hr)
 ·cases e
theorem cl_wl {S0:List Nat→Prop} (h:SdG T S0 d):∀ z,StN T.vars z→(d.cl z=true↔∃ u ∈ d.wl,u.all z=true):=fun z hz=>by
 rw [h.cl z hz]
 constructor
 ·rintro ⟨w,hw,e⟩
  obtain ⟨u,hu,rfl⟩:=List.mem_map.1 hw
  exact ⟨u,hu,e⟩
 ·rintro ⟨u,hu,e⟩
  exact ⟨wmW u,List.mem_map.2 ⟨u,hu,rfl⟩,e⟩
theorem tmod2 (t:Nat):((t:Int).tmod 2)=((t % 2:Nat):Int):=by rw [Int.tmod_eq_emod_of_nonneg (by omega)]; omega
theorem FsA.appendV {α:Type} {enc:α→List Value} {E sz by_ t ty:Nat} {z:List Value} {v u:Value} {l xs:List α} {P:Program} {KV:Kont (Value × World)} (hB:Lcl B) (h:FsA s m lim T' q ps (Star (OwnA v E sz enc l) B) w F w1) (hu:Vw w1 u enc xs) (he:∀ x,(enc x).length=sz) (h1:∀ x,(enc x).all oneC=true)
  (hT:slInfo P t=some (E,sz,by_,z)) (hb:(l.length+xs.length) * by_≤140737488355328) (hmax:l.length+xs.length≤maxLen)
  (H:∀ v' w2,FsA s m lim T' q ps (Star (OwnA v' E sz enc (l ++ xs)) B) w F w2→KV.run (v',w2)):@efH P (Builtin.append_ #[t,t] ty [v,u].toArray) w1 KV:=by
 obtain ⟨ns,ks,ss,hG,hk,hA⟩:=h
 exact At.appendV (SpcA.lcl hB) (SpcA.out hA) hu he h1 hT hb hmax fun v' w2 h3=>H v' w2 ⟨ns,ks,ss,hG,hk,SpcA.into h3⟩
theorem sd_512 (hb:SdBd T d):d.wl.length≤512:=by have:=hb.wl; have:=hb.nN; omega
def BothR (s lim:Nat) (T:Nt) (B:Asr) (w:World) (F:List Nat) (fp bp:Nat) (v:Value) (w':World):Prop :=
 (∃ vd p out c,v=.tuple #[resV vd p c 0,.nilIface]∧ResOk T lim vd out c∧out.length≤2000000000000∧∃ df db,df.wl.length≤512∧db.wl.length≤512∧At w F (Star (OwnA p 3 1 nE out) (SdA fp T s df (SdA bp T s db B))) w') ∨
 (v=.tuple #[resV 0 (.slice none 0 0) 0 0,berrV 10]∧Full T lim∧∃ df db,df.wl.length≤512∧db.wl.length≤512∧At w F (SdA fp T s df (SdA bp T s db B)) w')
def BoI (s m lim:Nat) (T T':Nt) (q:SpC) (ps:List Kq) (B0:Asr) (w:World) (F:List Nat) (fp bp rb mb N:Nat) (n:Nat) (ρ:Env) (w':World):Prop :=
 ρ 0=.pointer (some ⟨fp,0,none⟩)∧ρ 1=.pointer (some ⟨bp,0,none⟩)∧ρ 4=.pointer (some ⟨rb,0,none⟩)∧ρ 6=.pointer (some ⟨mb,0,none⟩)∧∃ t:Nat,ρ 7=.int .i64 (t:Nat)∧t+n≤N∧∃ df db M ps',(∀ p ∈ ps,p ∈ ps')∧TwD T ps' df db M∧n=cntC T df.cl+cntC T db.cl∧FsA s m lim T' q ps' (SdA fp T s df (SdA bp T s db (MtA mb M B0))) w F w'
def BoE (s m lim:Nat) (T T':Nt) (q:SpC) (ps:List Kq) (B0:Asr) (w:World) (F:List Nat) (fp bp rb mb:Nat) (ρ:Env) (w':World):Prop :=
 ρ 0=.pointer (some ⟨fp,0,none⟩)∧ρ 1=.pointer (some ⟨bp,0,none⟩)∧ρ 4=.pointer (some ⟨rb,0,none⟩)∧ρ 6=.pointer (some ⟨mb,0,none⟩)∧∃ df db M ps',(∀ p ∈ ps,p ∈ ps')∧TwD T ps' df db M∧M.fd=true∧(∃ H,LoT T H∧(∀ z,StN T.vars z→H z≤M.f+M.a)∧H T.init=M.f+M.a)∧FsA s m lim T' q ps' (SdA fp T s df (SdA bp T s db (MtA mb M B0))) w F w'
set_option maxHeartbeats 8000000 in
theorem bboth_spec (hC:BC T T' lim) (hB:Lcl B) (h:FsA s m lim T' q ps (SdA fp T s df (SdA bp T s db B)) w F w1) (hT:Rds B fun w'=>NtR w' T) (hD0:TwD T ps df db ⟨.slice none 0 0,[],0,0,false⟩) :
  Calls Tryz.prog 36 [.pointer (some ⟨fp,0,none⟩),.pointer (some ⟨bp,0,none⟩)].toArray w1 fun en w'=>∃ v,en=.returned v∧BothR s lim T B w F fp bp v w':=by
 refine enter Tryz.func36 mixed low36 (Nat.le_of_ble_eq_true rfl) ?_
 simp only [L36]
 have hLS:Lcl (SdA fp T s df (SdA bp T s db B)):=SdA.lcl (SdA.lcl hB)
 obtain ⟨rb,hrb⟩:∃ rb,rb=w1.heap.size:=⟨_,rfl⟩
 obtain ⟨w2,hw2⟩:∃ w2,w2=w1.alloc (resO 0 (.slice none 0 0) 0 0):=⟨_,rfl⟩
 have hw2':w1.alloc (.cells #[.int .i64 0,.slice none 0 0,.int .i64 0,.int .i64 0] 38 (0,0))=w2:=by rw [hw2]; rfl
 obtain ⟨B0,hB0⟩:∃ B0,B0=Star (ObjA rb (resO 0 (.slice none 0 0) 0 0)) B:=⟨_,rfl⟩
 have hL0:Lcl B0:=by rw [hB0]; exact Lcl.obj.star hB
 have rT0:Rds B0 fun w'=>NtR w' T:=by rw [hB0]; exact Rds.star hT
 have h2:FsA s m lim T' q ps (SdA fp T s df (SdA bp T s db B0)) w F w2:=by
  rw [hB0,hw2]
  have:=(h.alloc (resO 0 (.slice none 0 0) 0 0) hLS).by (SdA.into.trans (SdA.fr SdA.into))
  rw [← hrb] at this
  exact this
 obtain ⟨mb,hmb⟩:∃ mb,mb=w2.heap.size:=⟨_,rfl⟩
 obtain ⟨w3,hw3⟩:∃ w3,w3=w2.alloc (mtO ⟨.slice none 0 0,[],0,0,false⟩):=⟨_,rfl⟩
 have hw3':w2.alloc (.cells #[.slice none 0 0,.int .i64 0,.int .i64 0,.bool false] 118 (0,0))=w3:=by rw [hw3]; rfl
 have hLS0:Lcl (SdA fp T s df (SdA bp T s db B0)):=SdA.lcl (SdA.lcl hL0)
 have h3:FsA s m lim T' q ps (SdA fp T s df (SdA bp T s db (MtA mb ⟨.slice none 0 0,[],0,0,false⟩ B0))) w F w3:=by
  have h4:=h2.alloc (mtO ⟨.slice none 0 0,[],0,0,false⟩) hLS0
  rw [← hmb,← hw3] at h4
  have h5:=FsA.nil (enc:=nE) (E:=3) (sz:=1) (Lcl.obj.star hLS0) h4
  have h6:=h5.by Imp.sw
  exact FsA.by (B:=MtA mb ⟨.slice none 0 0,[],0,0,false⟩ (SdA fp T s df (SdA bp T s db B0))) h6 (MtA.sd.trans (SdA.fr MtA.sd))
 refine seq_cut (fun ρ w'=>ρ 0=.pointer (some ⟨fp,0,none⟩)∧ρ 1=.pointer (some ⟨bp,0,none⟩)∧ρ 4=.pointer (some ⟨rb,0,none⟩)∧w'=w2) ?_ ?_
 ·simp [hw2',← hrb]
 rintro ρ _ ⟨g0,g1,g4,rfl⟩
 refine seq_cut (fun ρ w'=>ρ 0=.pointer (some ⟨fp,0,none⟩)∧ρ 1=.pointer (some ⟨bp,0,none⟩)∧ρ 4=.pointer (some ⟨rb,0,none⟩)∧ρ 6=.pointer (some ⟨mb,0,none⟩)∧w'=w3) ?_ ?_
 ·simp [g0,g1,g4,hw3',← hmb]
 rintro ρ _ ⟨g0,g1,g4,g6,rfl⟩
 refine seq_cut (BoE s m lim T T' q ps B0 w F fp bp rb mb) ?_ ?_
 ·simp [g0,g1,g4,g6]
  have hn0:=hD0.bf.wl
  have hn1:=hD0.bb.wl
  have hn2:=hD0.bf.nN
  refine loop_inv (BoI s m lim T T' q ps B0 w F fp bp rb mb 2000) (cntC T df.cl+cntC T db.cl) ⟨by simp [g0],by simp [g1],by simp [g4],by simp [g6],0,by simp,by omega,df,db,_,ps,fun _ h=>h,hD0,rfl,h3⟩ ?_
  rintro n ρ w4 ⟨g0,g1,g4,g6,t,g7,hN,df,db,M,ps1,hps1,hD,hn,h4⟩
  have hopF:=hD.bf.on
  have hopF2:=hD.bf.wl
  have hopF3:=hD.bf.nN
  have hopB:=hD.bb.on
  have hopB2:=hD.bb.wl
  simp [g0,g1,g4,g6,g7]
  refine cl_of (bnext_spec fp df hC (SdA.lcl (MtA.lcl hL0)) h4 hD.kf hD.z0 (by omega)) ?_
  rintro v5 w5 h5
  rcases nx_F hD h5 with ⟨c,okf,d2,ps2,rfl,hps2,hD2,ecl2,eop2,hN1,h5'⟩ | ⟨rfl,hf,d',hwd,h5'⟩
  rotate_left
  ·simp [g0,g1,g4,g6,g7,berrV]
   have hE3:=h5'
   rw [hB0] at hE3
   have hE1:=hE3.by outR
   refine hE1.st (SdA.lcl (SdA.lcl hB)) (by simp [resO]) (by simp) fun wE hE2=>?_
   replace hE2:At w F (Star (ObjA rb (resO 0 (.slice none 0 0) 0 0)) (SdA fp T s d' (SdA bp T s db B))) wE:=by simpa [resO] using hE2
   have oE:=hE2.obj
   unfold resO at oE
   simp [g0,g1,g4,g6,g7]
   refine postL_c2 ag_38 (by simp [g0,g1,g4,g6,g7]) oE (by simp) rfl ?_
   exact ⟨_,rfl,.inr ⟨rfl,full_alk hC.alk hf,_,_,(by rw [hwd]; exact sd_512 hD.bf),(sd_512 hD.bb),hE2.drop⟩⟩
  have h5s:=h5'.by SdA.sw
  simp [g0,g1,g4,g6,g7]
  refine cl_of (bnext_spec bp db hC (SdA.lcl (MtA.lcl hL0)) h5s hD2.kb hD2.z0 (by omega)) ?_
  rintro v6 w6 hx6
  rcases nx_B hD2 hx6 with ⟨c2,okb,d3,ps3,rfl,hps3,hD3,ecl3,eop3,hN2,h6⟩ | ⟨rfl,hf,d',hwd,h6⟩
  rotate_left
  ·simp [g0,g1,g4,g6,g7,berrV]
   have hE3:=(h6.by SdA.sw)
   rw [hB0] at hE3
   have hE1:=hE3.by outR
   refine hE1.st (SdA.lcl (SdA.lcl hB)) (by simp [resO]) (by simp) fun wE hE2=>?_
   replace hE2:At w F (Star (ObjA rb (resO 0 (.slice none 0 0) 0 0)) (SdA fp T s d2 (SdA bp T s d' B))) wE:=by simpa [resO] using hE2
   have oE:=hE2.obj
   unfold resO at oE
   simp [g0,g1,g4,g6,g7]
   refine postL_c2 ag_38 (by simp [g0,g1,g4,g6,g7]) oE (by simp) rfl ?_
   exact ⟨_,rfl,.inr ⟨rfl,full_alk hC.alk hf,_,_,(sd_512 hD2.bf),(by rw [hwd]; exact sd_512 hD2.bb),hE2.drop⟩⟩
  have hps123:∀ p ∈ ps,p ∈ ps3:=fun p hp=>hps3 p (hps2 p (hps1 p hp))
  have om:=h6.frame (SdA.rds (SdA.rds Rds.obj):Rds (SdA bp T s d3 (SdA fp T s d2 (MtA mb M B0))) fun w'=>w'.heap[mb]?=some (mtO M))
  unfold mtO at om
  have hm1:=hD3.mf
  have hm2:=hD3.ma
  have hlb3:∀ u ∈ d3.wl,u.cost≤600000000:=fun u hu=>kn_le hD3.bb (p:=knW u) (.inr ⟨u,hu,rfl⟩)
  cases hfd:M.fd with
  | true =>
   rw [hfd] at om
   cases okf with
   | false =>
    obtain ⟨_,eo⟩:_∧d2.opn=[]:=by rcases hN1 with ⟨e,_⟩ | ⟨_,e⟩; cases e; exact ⟨trivial,e⟩
    rcases hN2 with ⟨rfl,⟨r,R,hrR,_,_⟩,hmin⟩ | ⟨rfl,eo2⟩
    ·simp [g0,g1,g4,g6,g7,cell_blk om]
     exact ⟨by simp [g0],by simp [g1],by simp [g4],by simp [g6],d2,d3,M,ps3,hps123,hD3,hfd,hD3.low hC.g hfd (M.f+M.a) (c2) (by omega) (by intro p hp; rw [eo] at hp; cases hp) (mn_le hmin) (wl_lt hD3.gb hrR),h6.by SdA.sw⟩
    ·simp [g0,g1,g4,g6,g7,cell_blk om]
     exact ⟨by simp [g0],by simp [g1],by simp [g4],by simp [g6],d2,d3,M,ps3,hps123,hD3,hfd,hD3.low hC.g hfd (M.f+M.a) (600000000) (by omega) (by intro p hp; rw [eo] at hp; cases hp) (by intro p hp; rw [eo2] at hp; cases hp) hlb3,h6.by SdA.sw⟩
   | true =>
    cases okb with
    | false =>
     obtain ⟨_,eo⟩:_∧d3.opn=[]:=by rcases hN2 with ⟨e,_⟩ | ⟨_,e⟩; cases e; exact ⟨trivial,e⟩
     simp [g0,g1,g4,g6,g7,cell_blk om]
     exact ⟨by simp [g0],by simp [g1],by simp [g4],by simp [g6],d2,d3,M,ps3,hps123,hD3,hfd,hD3.low hC.g hfd (0) (1200000000) (by omega) (by intro p hp; omega) (by intro p hp; rw [eo] at hp; cases hp) (fun u hu=>by have:=hlb3 u hu; omega),h6.by SdA.sw⟩
    | true =>
     have hcb:=nx_le hD3.bf hN1
     have hcb2:=nx_le hD3.bb hN2
     by_cases hle:M.f+M.a≤c+c2
     ·have hle2:((M.f:Int)+(M.a:Int)≤(c:Int)+(c2:Int)):=by omega
      rcases hN1 with ⟨_,⟨r1,R1,hrR1,_,_⟩,hmin1⟩ | ⟨e,_⟩
      rotate_left
      ·cases e
      rcases hN2 with ⟨_,⟨r2,R2,hrR2,_,_⟩,hmin2⟩ | ⟨e,_⟩
      rotate_left
      ·cases e
      simp (disch:=omega) [g0,g1,g4,g6,g7,cell_blk om,wrap_i64,hle2]
      exact ⟨by simp [g0],by simp [g1],by simp [g4],by simp [g6],d2,d3,M,ps3,hps123,hD3,hfd,hD3.low hC.g hfd (c) (c2) hle (mn_le hmin1) (mn_le hmin2) (wl_lt hD3.gb hrR2),h6.by SdA.sw⟩
     ·have hle2:¬ ((M.f:Int)+(M.a:Int)≤(c:Int)+(c2:Int)):=by omega
      simp (disch:=omega) [g0,g1,g4,g6,g7,cell_blk om,wrap_i64,hle2]
      by_cases hpar:t % 2=1
      ·have hodd:(((t:Nat):Int).tmod 2 == 1)=true:=by rw [tmod2]; simp [hpar]
       rcases hN2 with ⟨_,⟨r,R,hrR,hr0,hRc⟩,hmin⟩ | ⟨e,_⟩
       rotate_left
       ·cases e
       have h7:=h6
       simp [g0,g1,g4,g6,g7,hodd]
       refine cl_of (bcomplete_spec bp c2 (fun z=>stP T true z=true) d3 r R hC (SdA.lcl (MtA.lcl hL0)) h7 (SdA.rds (MtA.rds rT0)) hD3.kb hD3.z0 hD3.gb hD3.bb hrR hr0 hRc hmin) ?_
       rintro _ w7 (⟨rfl,d4,y,ps4,hbw4,hwl4,hyc,hyne,hg4,hb4,hcnt4,hps4,hk4,h8⟩ | ⟨rfl,hf,d4,hw4,h8⟩)
       rotate_left
       ·simp [g0,g1,g4,g6,g7,berrV]
        have hE3:=(h8.by SdA.sw)
        rw [hB0] at hE3
        have hE1:=hE3.by outR
        refine hE1.st (SdA.lcl (SdA.lcl hB)) (by simp [resO]) (by simp) fun wE hE2=>?_
        replace hE2:At w F (Star (ObjA rb (resO 0 (.slice none 0 0) 0 0)) (SdA fp T s d2 (SdA bp T s d4 B))) wE:=by simpa [resO] using hE2
        have oE:=hE2.obj
        unfold resO at oE
        simp [g0,g1,g4,g6,g7]
        refine postL_c2 ag_38 (by simp [g0,g1,g4,g6,g7]) oE (by simp) rfl ?_
        exact ⟨_,rfl,.inr ⟨rfl,full_alk hC.alk hf,_,_,(sd_512 hD3.bf),(by rw [hw4]; exact sd_512 hD3.bb),hE2.drop⟩⟩
       have h9:=h8.by ((SdA.fr SdA.mt).trans SdA.mt)
       simp [g0,g1,g4,g6,g7]
       refine cl_of (bupdate_spec mb bp fp d4 d2 y d3.wl M hC (SdA.lcl (SdA.lcl hL0)) h9 SdA.rd (SdA.rds SdA.rd) hk4 (hD3.kf.mono hps4) hwl4 hb4 hD3.bf (cl_wl hD3.gf) hD3.mf hD3.ma) ?_
       rintro _ w8 (⟨rfl,M',ps5,hps5,hup,h10⟩ | ⟨rfl,hf,M',h10⟩)
       rotate_left
       ·simp [g0,g1,g4,g6,g7,berrV]
        have hE3:=(h10.by (MtA.sd.trans ((SdA.fr MtA.sd).trans SdA.sw)))
        rw [hB0] at hE3
        have hE1:=hE3.by outR
        refine hE1.st (SdA.lcl (SdA.lcl hB)) (by simp [resO]) (by simp) fun wE hE2=>?_
        replace hE2:At w F (Star (ObjA rb (resO 0 (.slice none 0 0) 0 0)) (SdA fp T s d2 (SdA bp T s d4 B))) wE:=by simpa [resO] using hE2
        have oE:=hE2.obj
        unfold resO at oE
        simp [g0,g1,g4,g6,g7]
        refine postL_c2 ag_38 (by simp [g0,g1,g4,g6,g7]) oE (by simp) rfl ?_
        exact ⟨_,rfl,.inr ⟨rfl,full_alk hC.alk hf,_,_,(sd_512 hD3.bf),(sd_512 hb4),hE2.drop⟩⟩
       have h11:=h10.by (MtA.sd.trans ((SdA.fr MtA.sd).trans SdA.sw))
       have hD4:=((hD3.mono hps4).updB hbw4 hwl4 hk4 hg4 hb4 hup).mono hps5
       simp [g0,g1,g4,g6,g7]
       refine ⟨cntC T d2.cl+cntC T d4.cl,by rw [hn,← ecl2,← ecl3]; omega,by simp [g0],by simp [g1],by simp [g4],by simp [g6],t+1,by simp (disch:=omega) [g7,wrap_i64],by rw [hn,← ecl2,← ecl3] at hN; omega,_,_,M',ps5,fun p hp=>hps5 p (hps4 p (hps3 p (hps2 p (hps1 p hp)))),hD4,rfl,h11⟩
      ·have hodd:(((t:Nat):Int).tmod 2 == 1)=false:=by rw [tmod2]; simp; omega
       rcases hN1 with ⟨_,⟨r,R,hrR,hr0,hRc⟩,hmin⟩ | ⟨e,_⟩
       rotate_left
       ·cases e
       have h7:=h6.by SdA.sw
       simp [g0,g1,g4,g6,g7,hodd]
       refine cl_of (bcomplete_spec fp c (fun z=>stP T false z=true) d2 r R hC (SdA.lcl (MtA.lcl hL0)) h7 (SdA.rds (MtA.rds rT0)) hD3.kf hD3.z0 hD3.gf hD3.bf hrR hr0 hRc hmin) ?_
       rintro _ w7 (⟨rfl,d4,y,ps4,hbw4,hwl4,hyc,hyne,hg4,hb4,hcnt4,hps4,hk4,h8⟩ | ⟨rfl,hf,d4,hw4,h8⟩)
       rotate_left
       ·simp [g0,g1,g4,g6,g7,berrV]
        have hE3:=h8
        rw [hB0] at hE3
        have hE1:=hE3.by outR
        refine hE1.st (SdA.lcl (SdA.lcl hB)) (by simp [resO]) (by simp) fun wE hE2=>?_
        replace hE2:At w F (Star (ObjA rb (resO 0 (.slice none 0 0) 0 0)) (SdA fp T s d4 (SdA bp T s d3 B))) wE:=by simpa [resO] using hE2
        have oE:=hE2.obj
        unfold resO at oE
        simp [g0,g1,g4,g6,g7]
        refine postL_c2 ag_38 (by simp [g0,g1,g4,g6,g7]) oE (by simp) rfl ?_
        exact ⟨_,rfl,.inr ⟨rfl,full_alk hC.alk hf,_,_,(by rw [hw4]; exact sd_512 hD3.bf),(sd_512 hD3.bb),hE2.drop⟩⟩
       have h9:=h8.by ((SdA.fr SdA.mt).trans SdA.mt)
       simp [g0,g1,g4,g6,g7]
       refine cl_of (bupdate_spec mb fp bp d4 d3 y d2.wl M hC (SdA.lcl (SdA.lcl hL0)) h9 SdA.rd (SdA.rds SdA.rd) hk4 (hD3.kb.mono hps4) hwl4 hb4 hD3.bb (cl_wl hD3.gb) hD3.mf hD3.ma) ?_
       rintro _ w8 (⟨rfl,M',ps5,hps5,hup,h10⟩ | ⟨rfl,hf,M',h10⟩)
       rotate_left
       ·simp [g0,g1,g4,g6,g7,berrV]
        have hE3:=(h10.by (MtA.sd.trans ((SdA.fr MtA.sd))))
        rw [hB0] at hE3
        have hE1:=hE3.by outR
        refine hE1.st (SdA.lcl (SdA.lcl hB)) (by simp [resO]) (by simp) fun wE hE2=>?_
        replace hE2:At w F (Star (ObjA rb (resO 0 (.slice none 0 0) 0 0)) (SdA fp T s d4 (SdA bp T s d3 B))) wE:=by simpa [resO] using hE2
        have oE:=hE2.obj
        unfold resO at oE
        simp [g0,g1,g4,g6,g7]
        refine postL_c2 ag_38 (by simp [g0,g1,g4,g6,g7]) oE (by simp) rfl ?_
        exact ⟨_,rfl,.inr ⟨rfl,full_alk hC.alk hf,_,_,(sd_512 hb4),(sd_512 hD3.bb),hE2.drop⟩⟩
       have h11:=h10.by (MtA.sd.trans ((SdA.fr MtA.sd)))
       have hD4:=((hD3.mono hps4).updF hbw4 hwl4 hk4 hg4 hb4 hup).mono hps5
       simp [g0,g1,g4,g6,g7]
       refine ⟨cntC T d4.cl+cntC T d3.cl,by rw [hn,← ecl2,← ecl3]; omega,by simp [g0],by simp [g1],by simp [g4],by simp [g6],t+1,by simp (disch:=omega) [g7,wrap_i64],by rw [hn,← ecl2,← ecl3] at hN; omega,_,_,M',ps5,fun p hp=>hps5 p (hps4 p (hps3 p (hps2 p (hps1 p hp)))),hD4,rfl,h11⟩
  | false =>
   rw [hfd] at om
   cases okf with
   | false =>
    obtain ⟨_,eo⟩:_∧d2.opn=[]:=by rcases hN1 with ⟨e,_⟩ | ⟨_,e⟩; cases e; exact ⟨trivial,e⟩
    simp [g0,g1,g4,g6,g7,cell_blk om]
    obtain ⟨_,_,_,_,_,hE0⟩:=h6
    have hE3:=(SpcA.gone hE0).by SdA.sw
    rw [hB0] at hE3
    have hE1:=hE3.by outR
    refine hE1.st (SdA.lcl (SdA.lcl hB)) (by simp [resO]) (by simp) fun wE hE2=>?_
    replace hE2:At w F (Star (ObjA rb (resO 2 (.slice none 0 0) 0 0)) (SdA fp T s d2 (SdA bp T s d3 B))) wE:=by simpa [resO] using hE2
    have oE:=hE2.obj
    unfold resO at oE
    simp [g0,g1,g4,g6,g7]
    refine postL_c2 ag_38 (by simp [g0,g1,g4,g6,g7]) oE (by simp) rfl ?_
    exact ⟨_,rfl,.inl ⟨2,.slice none 0 0,[],0,rfl,.inr (.inl ⟨rfl,rfl,rfl,fun I=>hD3.infF hC.g hfd (by intro p hp; rw [eo] at hp; cases hp) I⟩),by simp,_,_,sd_512 hD3.bf,sd_512 hD3.bb,(hE2.drop).nil (SdA.lcl (SdA.lcl hB))⟩⟩
   | true =>
    cases okb with
    | false =>
     obtain ⟨_,eo⟩:_∧d3.opn=[]:=by rcases hN2 with ⟨e,_⟩ | ⟨_,e⟩; cases e; exact ⟨trivial,e⟩
     simp [g0,g1,g4,g6,g7,cell_blk om]
     obtain ⟨_,_,_,_,_,hE0⟩:=h6
     have hE3:=(SpcA.gone hE0).by SdA.sw
     rw [hB0] at hE3
     have hE1:=hE3.by outR
     refine hE1.st (SdA.lcl (SdA.lcl hB)) (by simp [resO]) (by simp) fun wE hE2=>?_
     replace hE2:At w F (Star (ObjA rb (resO 2 (.slice none 0 0) 0 0)) (SdA fp T s d2 (SdA bp T s d3 B))) wE:=by simpa [resO] using hE2
     have oE:=hE2.obj
     unfold resO at oE
     simp [g0,g1,g4,g6,g7]
     refine postL_c2 ag_38 (by simp [g0,g1,g4,g6,g7]) oE (by simp) rfl ?_
     exact ⟨_,rfl,.inl ⟨2,.slice none 0 0,[],0,rfl,.inr (.inl ⟨rfl,rfl,rfl,fun I=>hD3.infB hC.g hfd (by intro p hp; rw [eo] at hp; cases hp) I⟩),by simp,_,_,sd_512 hD3.bf,sd_512 hD3.bb,(hE2.drop).nil (SdA.lcl (SdA.lcl hB))⟩⟩
    | true =>
     simp [g0,g1,g4,g6,g7,cell_blk om]
     by_cases hpar:t % 2=1
     ·have hodd:(((t:Nat):Int).tmod 2 == 1)=true:=by rw [tmod2]; simp [hpar]
      rcases hN2 with ⟨_,⟨r,R,hrR,hr0,hRc⟩,hmin⟩ | ⟨e,_⟩
      rotate_left
      ·cases e
      have h7:=h6
      simp [g0,g1,g4,g6,g7,hodd]
      refine cl_of (bcomplete_spec bp c2 (fun z=>stP T true z=true) d3 r R hC (SdA.lcl (MtA.lcl hL0)) h7 (SdA.rds (MtA.rds rT0)) hD3.kb hD3.z0 hD3.gb hD3.bb hrR hr0 hRc hmin) ?_
      rintro _ w7 (⟨rfl,d4,y,ps4,hbw4,hwl4,hyc,hyne,hg4,hb4,hcnt4,hps4,hk4,h8⟩ | ⟨rfl,hf,d4,hw4,h8⟩)
      rotate_left
      ·simp [g0,g1,g4,g6,g7,berrV]
       have hE3:=(h8.by SdA.sw)
       rw [hB0] at hE3
       have hE1:=hE3.by outR
       refine hE1.st (SdA.lcl (SdA.lcl hB)) (by simp [resO]) (by simp) fun wE hE2=>?_
       replace hE2:At w F (Star (ObjA rb (resO 0 (.slice none 0 0) 0 0)) (SdA fp T s d2 (SdA bp T s d4 B))) wE:=by simpa [resO] using hE2
       have oE:=hE2.obj
       unfold resO at oE
       simp [g0,g1,g4,g6,g7]
       refine postL_c2 ag_38 (by simp [g0,g1,g4,g6,g7]) oE (by simp) rfl ?_
       exact ⟨_,rfl,.inr ⟨rfl,full_alk hC.alk hf,_,_,(sd_512 hD3.bf),(by rw [hw4]; exact sd_512 hD3.bb),hE2.drop⟩⟩
      have h9:=h8.by ((SdA.fr SdA.mt).trans SdA.mt)
      simp [g0,g1,g4,g6,g7]
      refine cl_of (bupdate_spec mb bp fp d4 d2 y d3.wl M hC (SdA.lcl (SdA.lcl hL0)) h9 SdA.rd (SdA.rds SdA.rd) hk4 (hD3.kf.mono hps4) hwl4 hb4 hD3.bf (cl_wl hD3.gf) hD3.mf hD3.ma) ?_
      rintro _ w8 (⟨rfl,M',ps5,hps5,hup,h10⟩ | ⟨rfl,hf,M',h10⟩)
      rotate_left
      ·simp [g0,g1,g4,g6,g7,berrV]
       have hE3:=(h10.by (MtA.sd.trans ((SdA.fr MtA.sd).trans SdA.sw)))
       rw [hB0] at hE3
       have hE1:=hE3.by outR
       refine hE1.st (SdA.lcl (SdA.lcl hB)) (by simp [resO]) (by simp) fun wE hE2=>?_
       replace hE2:At w F (Star (ObjA rb (resO 0 (.slice none 0 0) 0 0)) (SdA fp T s d2 (SdA bp T s d4 B))) wE:=by simpa [resO] using hE2
       have oE:=hE2.obj
       unfold resO at oE
       simp [g0,g1,g4,g6,g7]
       refine postL_c2 ag_38 (by simp [g0,g1,g4,g6,g7]) oE (by simp) rfl ?_
       exact ⟨_,rfl,.inr ⟨rfl,full_alk hC.alk hf,_,_,(sd_512 hD3.bf),(sd_512 hb4),hE2.drop⟩⟩
      have h11:=h10.by (MtA.sd.trans ((SdA.fr MtA.sd).trans SdA.sw))
      have hD4:=((hD3.mono hps4).updB hbw4 hwl4 hk4 hg4 hb4 hup).mono hps5
      simp [g0,g1,g4,g6,g7]
      refine ⟨cntC T d2.cl+cntC T d4.cl,by rw [hn,← ecl2,← ecl3]; omega,by simp [g0],by simp [g1],by simp [g4],by simp [g6],t+1,by simp (disch:=omega) [g7,wrap_i64],by rw [hn,← ecl2,← ecl3] at hN; omega,_,_,M',ps5,fun p hp=>hps5 p (hps4 p (hps3 p (hps2 p (hps1 p hp)))),hD4,rfl,h11⟩
     ·have hodd:(((t:Nat):Int).tmod 2 == 1)=false:=by rw [tmod2]; simp; omega
      rcases hN1 with ⟨_,⟨r,R,hrR,hr0,hRc⟩,hmin⟩ | ⟨e,_⟩
      rotate_left
      ·cases e
      have h7:=h6.by SdA.sw
      simp [g0,g1,g4,g6,g7,hodd]
      refine cl_of (bcomplete_spec fp c (fun z=>stP T false z=true) d2 r R hC (SdA.lcl (MtA.lcl hL0)) h7 (SdA.rds (MtA.rds rT0)) hD3.kf hD3.z0 hD3.gf hD3.bf hrR hr0 hRc hmin) ?_
      rintro _ w7 (⟨rfl,d4,y,ps4,hbw4,hwl4,hyc,hyne,hg4,hb4,hcnt4,hps4,hk4,h8⟩ | ⟨rfl,hf,d4,hw4,h8⟩)
      rotate_left
      ·simp [g0,g1,g4,g6,g7,berrV]
       have hE3:=h8
       rw [hB0] at hE3
       have hE1:=hE3.by outR
       refine hE1.st (SdA.lcl (SdA.lcl hB)) (by simp [resO]) (by simp) fun wE hE2=>?_
       replace hE2:At w F (Star (ObjA rb (resO 0 (.slice none 0 0) 0 0)) (SdA fp T s d4 (SdA bp T s d3 B))) wE:=by simpa [resO] using hE2
       have oE:=hE2.obj
       unfold resO at oE
       simp [g0,g1,g4,g6,g7]
       refine postL_c2 ag_38 (by simp [g0,g1,g4,g6,g7]) oE (by simp) rfl ?_
       exact ⟨_,rfl,.inr ⟨rfl,full_alk hC.alk hf,_,_,(by rw [hw4]; exact sd_512 hD3.bf),(sd_512 hD3.bb),hE2.drop⟩⟩
      have h9:=h8.by ((SdA.fr SdA.mt).trans SdA.mt)
      simp [g0,g1,g4,g6,g7]
      refine cl_of (bupdate_spec mb fp bp d4 d3 y d2.wl M hC (SdA.lcl (SdA.lcl hL0)) h9 SdA.rd (SdA.rds SdA.rd) hk4 (hD3.kb.mono hps4) hwl4 hb4 hD3.bb (cl_wl hD3.gb) hD3.mf hD3.ma) ?_
      rintro _ w8 (⟨rfl,M',ps5,hps5,hup,h10⟩ | ⟨rfl,hf,M',h10⟩)
      rotate_left
      ·simp [g0,g1,g4,g6,g7,berrV]
       have hE3:=(h10.by (MtA.sd.trans ((SdA.fr MtA.sd))))
       rw [hB0] at hE3
       have hE1:=hE3.by outR
       refine hE1.st (SdA.lcl (SdA.lcl hB)) (by simp [resO]) (by simp) fun wE hE2=>?_
       replace hE2:At w F (Star (ObjA rb (resO 0 (.slice none 0 0) 0 0)) (SdA fp T s d4 (SdA bp T s d3 B))) wE:=by simpa [resO] using hE2
       have oE:=hE2.obj
       unfold resO at oE
       simp [g0,g1,g4,g6,g7]
       refine postL_c2 ag_38 (by simp [g0,g1,g4,g6,g7]) oE (by simp) rfl ?_
       exact ⟨_,rfl,.inr ⟨rfl,full_alk hC.alk hf,_,_,(sd_512 hb4),(sd_512 hD3.bb),hE2.drop⟩⟩
      have h11:=h10.by (MtA.sd.trans ((SdA.fr MtA.sd)))
      have hD4:=((hD3.mono hps4).updF hbw4 hwl4 hk4 hg4 hb4 hup).mono hps5
      simp [g0,g1,g4,g6,g7]
      refine ⟨cntC T d4.cl+cntC T d3.cl,by rw [hn,← ecl2,← ecl3]; omega,by simp [g0],by simp [g1],by simp [g4],by simp [g6],t+1,by simp (disch:=omega) [g7,wrap_i64],by rw [hn,← ecl2,← ecl3] at hN; omega,_,_,M',ps5,fun p hp=>hps5 p (hps4 p (hps3 p (hps2 p (hps1 p hp)))),hD4,rfl,h11⟩
 ·rintro ρ w4 ⟨g0,g1,g4,g6,df2,db2,M,ps1,hps1,hD,hfd,hlow,h4⟩
  have rM:Rds (SdA fp T s df2 (SdA bp T s db2 (MtA mb M B0))) fun w'=>w'.heap[mb]?=some (mtO M):=SdA.rds (SdA.rds Rds.obj)
  have om:=h4.frame rM
  unfold mtO at om
  have hso:oneC M.sv=true:=h4.frame (SdA.rds (SdA.rds (Rds.star Rds.own1)):Rds (SdA fp T s df2 (SdA bp T s db2 (MtA mb M B0))) fun _=>oneC M.sv=true)
  obtain ⟨hst,htf,htb⟩:=hD.src hfd
  have hL4:Lcl (SdA fp T s df2 (SdA bp T s db2 (MtA mb M B0))):=SdA.lcl (SdA.lcl (MtA.lcl hL0))
  have rSt:Rds (SdA fp T s df2 (SdA bp T s db2 (MtA mb M B0))) fun w'=>Vw w' M.sv nE M.st:=SdA.rds (SdA.rds (Rds.star Rds.own))
  have rTT:Rds (SdA fp T s df2 (SdA bp T s db2 (MtA mb M B0))) fun w'=>NtR w' T:=SdA.rds (SdA.rds (MtA.rds rT0))
  have hm1:=hD.mf
  have hm2:=hD.ma
  simp [g0,g1,g4,g6,cell_blk om]
  refine cl_of (bpath_spec fp M.f (fun z=>stP T false z=true) df2 M.sv M.st hC hL4 h4 SdA.rd rTT hD.kf hD.bf.l rSt hst hD.gf htf hD.mf) ?_
  rintro _ w5 (⟨u1,out1,s1,rfl,hs1,hs1v,hrun1,hol1,ps5,hps5,h15⟩ | ⟨rfl,hf,h15⟩)
  rotate_left
  ·simp [g0,g1,g4,g6,berrV]
   have hE3:=h15
   rw [hB0] at hE3
   have hE1:=hE3.by outR
   refine hE1.st (SdA.lcl (SdA.lcl hB)) (by simp [resO]) (by simp) fun wE hE2=>?_
   replace hE2:At w F (Star (ObjA rb (resO 0 (.slice none 0 0) 0 0)) (SdA fp T s df2 (SdA bp T s db2 B))) wE:=by simpa [resO] using hE2
   have oE:=hE2.obj
   unfold resO at oE
   simp [g0,g1,g4,g6]
   refine postL_c2 ag_38 (by simp [g0,g1,g4,g6]) oE (by simp) rfl ?_
   exact ⟨_,rfl,.inr ⟨rfl,full_alk hC.alk hf,_,_,(sd_512 hD.bf),(sd_512 hD.bb),hE2.drop⟩⟩
  have om15:=h15.frame (Rds.star rM)
  unfold mtO at om15
  simp [g0,g1,g4,g6,cell_blk om15]
  refine cl_of (bpath_spec bp M.a (fun z=>stP T true z=true) db2 M.sv M.st hC (Lcl.own.star hL4) h15 (Rds.star (SdA.rds SdA.rd)) (Rds.star rTT) (hD.kb.mono hps5) hD.bb.l (Rds.star rSt) hst hD.gb htb hD.ma) ?_
  rintro _ w6 (⟨u2,out2,s2,rfl,hs2,hs2v,hrun2,hol2,ps6,hps6,h18⟩ | ⟨rfl,hf,h18⟩)
  rotate_left
  ·simp [g0,g1,g4,g6,berrV]
   have hE3:=h18.drop
   rw [hB0] at hE3
   have hE1:=hE3.by outR
   refine hE1.st (SdA.lcl (SdA.lcl hB)) (by simp [resO]) (by simp) fun wE hE2=>?_
   replace hE2:At w F (Star (ObjA rb (resO 0 (.slice none 0 0) 0 0)) (SdA fp T s df2 (SdA bp T s db2 B))) wE:=by simpa [resO] using hE2
   have oE:=hE2.obj
   unfold resO at oE
   simp [g0,g1,g4,g6]
   refine postL_c2 ag_38 (by simp [g0,g1,g4,g6]) oE (by simp) rfl ?_
   exact ⟨_,rfl,.inr ⟨rfl,full_alk hC.alk hf,_,_,(sd_512 hD.bf),(sd_512 hD.bb),hE2.drop⟩⟩
  have om18:=h18.frame (Rds.star (Rds.star rM))
  unfold mtO at om18
  have hL5:Lcl (Star (OwnA u2 3 1 nE out2) (SdA fp T s df2 (SdA bp T s db2 (MtA mb M B0)))):=Lcl.own.star hL4
  have h18s:=(h18.by Imp.sw).drew (Lcl.own.star hL5)
  have hv2:Vw w6.drew u2 nE out2:=h18s.frame (Rds.star Rds.own:Rds (Star (OwnA u1 3 1 nE out1) (Star (OwnA u2 3 1 nE out2) (SdA fp T s df2 (SdA bp T s db2 (MtA mb M B0))))) fun w'=>Vw w' u2 nE out2)
  have om18d:=h18s.frame (Rds.star (Rds.star rM))
  unfold mtO at om18d
  have hrn:∃ z,GoalT T z∧RunT T T.init (out1 ++ out2) z (M.f+M.a):=by
   rw [hD.fw] at hrun1
   rw [hD.bw] at hrun2
   have e:s1=T.init:=by simpa [stP] using hs1
   rw [e] at hrun1
   exact ⟨s2,by simpa [stP] using hs2,RunT.append (by simpa using hrun1) (by simpa using hrun2)⟩
  simp [g0,g1,g4,g6]
  refine ⟨?_,?_,?_,?_⟩
  ·try simp (disch:=omega) [g0,g1,g4,g6,cell_blk om18,cell_blk om18d,wrap_i64]
   refine h18s.appendV hL5 hv2 nE_len nE_one sl_22 (by omega) (by unfold maxLen; omega) fun v' w7 h19=>?_
   have hvo:oneC v'=true:=h19.frame (Rds.own1:Rds (Star (OwnA v' 3 1 nE (out1 ++ out2)) (Star (OwnA u2 3 1 nE out2) (SdA fp T s df2 (SdA bp T s db2 (MtA mb M B0))))) fun _=>oneC v'=true)
   have om19:=h19.frame (Rds.star (Rds.star rM))
   unfold mtO at om19
   obtain ⟨_,_,_,_,_,hE0⟩:=h19
   have hE3:=((SpcA.gone hE0).by (Imp.un Imp.dr))
   rw [hB0] at hE3
   have hE1:=(hE3.by (Imp.un outR)).by Imp.sw
   simp (disch:=omega) [g0,g1,g4,g6,wrap_i64,cells_o1 hvo,cell_blk om19]
   refine hE1.st (Lcl.own.star (SdA.lcl (SdA.lcl hB))) (by simp [resO]) (by simp [hvo]) fun wE hE2=>?_
   replace hE2:At w F (Star (ObjA rb (resO 1 v' (M.f+M.a) 0)) (Star (OwnA v' 3 1 nE (out1 ++ out2)) (SdA fp T s df2 (SdA bp T s db2 B)))) wE:=by simpa [resO] using hE2
   have oE:=hE2.obj
   unfold resO at oE
   simp [g0,g1,g4,g6]
   refine postL_c2 ag_38 (by simp [g0,g1,g4,g6]) oE (by simp) rfl ?_
   exact ⟨_,rfl,.inl ⟨1,v',out1 ++ out2,M.f+M.a,rfl,.inr (.inr ⟨rfl,by omega,hrn,hlow⟩),by simp; omega,_,_,sd_512 hD.bf,sd_512 hD.bb,hE2.drop⟩⟩
  ·try simp (disch:=omega) [g0,g1,g4,g6,cell_blk om18,cell_blk om18d,wrap_i64]
   refine h18s.appendV hL5 hv2 nE_len nE_one sl_22 (by omega) (by unfold maxLen; omega) fun v' w7 h19=>?_
   have hvo:oneC v'=true:=h19.frame (Rds.own1:Rds (Star (OwnA v' 3 1 nE (out1 ++ out2)) (Star (OwnA u2 3 1 nE out2) (SdA fp T s df2 (SdA bp T s db2 (MtA mb M B0))))) fun _=>oneC v'=true)
   have om19:=h19.frame (Rds.star (Rds.star rM))
   unfold mtO at om19
   obtain ⟨_,_,_,_,_,hE0⟩:=h19
   have hE3:=((SpcA.gone hE0).by (Imp.un Imp.dr))
   rw [hB0] at hE3
   have hE1:=(hE3.by (Imp.un outR)).by Imp.sw
   simp (disch:=omega) [g0,g1,g4,g6,wrap_i64,cells_o1 hvo,cell_blk om19]
   refine hE1.st (Lcl.own.star (SdA.lcl (SdA.lcl hB))) (by simp [resO]) (by simp [hvo]) fun wE hE2=>?_
   replace hE2:At w F (Star (ObjA rb (resO 1 v' (M.f+M.a) 0)) (Star (OwnA v' 3 1 nE (out1 ++ out2)) (SdA fp T s df2 (SdA bp T s db2 B)))) wE:=by simpa [resO] using hE2
   have oE:=hE2.obj
   unfold resO at oE
   simp [g0,g1,g4,g6]
   refine postL_c2 ag_38 (by simp [g0,g1,g4,g6]) oE (by simp) rfl ?_
   exact ⟨_,rfl,.inl ⟨1,v',out1 ++ out2,M.f+M.a,rfl,.inr (.inr ⟨rfl,by omega,hrn,hlow⟩),by simp; omega,_,_,sd_512 hD.bf,sd_512 hD.bb,hE2.drop⟩⟩
  ·try simp (disch:=omega) [g0,g1,g4,g6,cell_blk om18,cell_blk om18d,wrap_i64]
   refine h18s.appendV hL5 hv2 nE_len nE_one sl_22 (by omega) (by unfold maxLen; omega) fun v' w7 h19=>?_
   have hvo:oneC v'=true:=h19.frame (Rds.own1:Rds (Star (OwnA v' 3 1 nE (out1 ++ out2)) (Star (OwnA u2 3 1 nE out2) (SdA fp T s df2 (SdA bp T s db2 (MtA mb M B0))))) fun _=>oneC v'=true)
   have om19:=h19.frame (Rds.star (Rds.star rM))
   unfold mtO at om19
   obtain ⟨_,_,_,_,_,hE0⟩:=h19
   have hE3:=((SpcA.gone hE0).by (Imp.un Imp.dr))
   rw [hB0] at hE3
   have hE1:=(hE3.by (Imp.un outR)).by Imp.sw
   simp (disch:=omega) [g0,g1,g4,g6,wrap_i64,cells_o1 hvo,cell_blk om19]
   refine hE1.st (Lcl.own.star (SdA.lcl (SdA.lcl hB))) (by simp [resO]) (by simp [hvo]) fun wE hE2=>?_
   replace hE2:At w F (Star (ObjA rb (resO 1 v' (M.f+M.a) 0)) (Star (OwnA v' 3 1 nE (out1 ++ out2)) (SdA fp T s df2 (SdA bp T s db2 B)))) wE:=by simpa [resO] using hE2
   have oE:=hE2.obj
   unfold resO at oE
   simp [g0,g1,g4,g6]
   refine postL_c2 ag_38 (by simp [g0,g1,g4,g6]) oE (by simp) rfl ?_
   exact ⟨_,rfl,.inl ⟨1,v',out1 ++ out2,M.f+M.a,rfl,.inr (.inr ⟨rfl,by omega,hrn,hlow⟩),by simp; omega,_,_,sd_512 hD.bf,sd_512 hD.bb,hE2.drop⟩⟩
  ·try simp (disch:=omega) [g0,g1,g4,g6,cell_blk om18,cell_blk om18d,wrap_i64]
   refine h18s.appendV hL5 hv2 nE_len nE_one sl_22 (by omega) (by unfold maxLen; omega) fun v' w7 h19=>?_
   have hvo:oneC v'=true:=h19.frame (Rds.own1:Rds (Star (OwnA v' 3 1 nE (out1 ++ out2)) (Star (OwnA u2 3 1 nE out2) (SdA fp T s df2 (SdA bp T s db2 (MtA mb M B0))))) fun _=>oneC v'=true)
   have om19:=h19.frame (Rds.star (Rds.star rM))
   unfold mtO at om19
   obtain ⟨_,_,_,_,_,hE0⟩:=h19
   have hE3:=((SpcA.gone hE0).by (Imp.un Imp.dr))
   rw [hB0] at hE3
   have hE1:=(hE3.by (Imp.un outR)).by Imp.sw
   simp (disch:=omega) [g0,g1,g4,g6,wrap_i64,cells_o1 hvo,cell_blk om19]
   refine hE1.st (Lcl.own.star (SdA.lcl (SdA.lcl hB))) (by simp [resO]) (by simp [hvo]) fun wE hE2=>?_
   replace hE2:At w F (Star (ObjA rb (resO 1 v' (M.f+M.a) 0)) (Star (OwnA v' 3 1 nE (out1 ++ out2)) (SdA fp T s df2 (SdA bp T s db2 B)))) wE:=by simpa [resO] using hE2
   have oE:=hE2.obj
   unfold resO at oE
   simp [g0,g1,g4,g6]
   refine postL_c2 ag_38 (by simp [g0,g1,g4,g6]) oE (by simp) rfl ?_
   exact ⟨_,rfl,.inl ⟨1,v',out1 ++ out2,M.f+M.a,rfl,.inr (.inr ⟨rfl,by omega,hrn,hlow⟩),by simp; omega,_,_,sd_512 hD.bf,sd_512 hD.bb,hE2.drop⟩⟩
end
end Go.Proofs.YtkhfdmelcpfgoaaGreat
end
section
set_option maxRecDepth 100000
set_option linter.unusedSimpArgs false
set_option linter.unusedVariables false
namespace Go.Proofs.YtkhfdmelcpfgoaaGreat
open Go Go.W Go.Tk Go.Rx Go.Bd Go.Sy Go.Maps
section
variable {w w1:World} {F:List Nat} {A B B':Asr} {lim:Nat} {T:Nt}
def resZ (v:Nat) (p:Value) (c:Nat) (e:Int):Value:=.agg #[.int .i64 (v:Nat),p,.int .i64 (c:Nat),.int .i64 e]
def ResZ (T:Nt) (lim:Nat) (B:Asr) (w:World) (F:List Nat) (v:Value) (w':World):Prop :=
 ∃ (vd:Nat) (p:Value) (out:List Nat) (c:Nat) (e:Int),v=.tuple #[resZ vd p c e,.nilIface]∧ResOk T lim vd out c∧0≤e∧out.length≤2000000000000∧At w F (Star (OwnA p 3 1 nE out) B) w'
theorem at_rds {P:World→Prop} {w':World} (h:At w F B w') (hp:Rds B P):P w':=by
 obtain ⟨⟨F',h2,_⟩,_⟩:=h
 exact hp _ _ h2
set_option maxHeartbeats 4000000 in
theorem bsearch_spec (hS:SiC T lim) (hB:Lcl B) (h:At w F B w1) (hT:Rds B fun w'=>NtR w' T) :
  Calls Tryz.prog 18 [ntV T,.int .i64 (lim:Nat)].toArray w1 fun en w'=>∃ v,en=.returned v∧ResZ T lim B w F v w':=by
 refine enter Tryz.func18 mixed low18 (Nat.le_of_ble_eq_true rfl) ?_
 simp only [L18]
 obtain ⟨tb,htb⟩:∃ tb,tb=w1.heap.size:=⟨_,rfl⟩
 obtain ⟨w2,hw2⟩:∃ w2,w2=w1.alloc (ntO T):=⟨_,rfl⟩
 have hw2':w1.alloc (.cells #[T.vv.1,T.nv.1,T.gv.1,T.ov.1] 26 (0,0))=w2:=by rw [hw2]; rfl
 have h2:At w F (Star (ObjA tb (ntO T)) B) w2:=by rw [htb,hw2]; exact h.alloc _ hB
 obtain ⟨rb,hrb⟩:∃ rb,rb=w2.heap.size:=⟨_,rfl⟩
 obtain ⟨w3,hw3⟩:∃ w3,w3=w2.alloc (resO 0 (.slice none 0 0) 0 0):=⟨_,rfl⟩
 have hLt:Lcl (Star (ObjA tb (ntO T)) B):=Lcl.obj.star hB
 have h3:At w F (Star (ObjA rb (resO 0 (.slice none 0 0) 0 0)) (Star (ObjA tb (ntO T)) B)) w3:=by rw [hrb,hw3]; exact h2.alloc _ hLt
 have hw3':w2.alloc (.cells #[.int .i64 0,.slice none 0 0,.int .i64 0,.int .i64 0] 38 (0,0))=w3:=by rw [hw3]; rfl
 obtain ⟨Bs,hBs⟩:∃ Bs,Bs=Star (ObjA rb (resO 0 (.slice none 0 0) 0 0)) (Star (ObjA tb (ntO T)) B):=⟨_,rfl⟩
 have hLs:Lcl Bs:=by rw [hBs]; exact Lcl.obj.star hLt
 rw [← hBs] at h3
 have rT:Rds Bs fun w'=>NtR w' T:=by rw [hBs]; exact Rds.star (Rds.star hT)
 have rO:Rds Bs fun w'=>w'.heap[tb]?=some (ntO T):=by rw [hBs]; exact Rds.star Rds.obj
 have ot:=at_rds h3 rO
 unfold ntO at ot
 simp [ntV,← htb,hw2',← hrb,hw3',rd_c4 ot]
 refine cl_of (snew_spec T lim hLs h3 rT hS.g hS.good hS.l hS.l1 hS.l2 (newW (W:=tru) fun G h=>trivial)) ?_
 rintro v4 w4 hnew
 rcases hnew with ⟨hbig,_⟩ | ⟨_,e,ns,hs,hnew⟩
 ·have:=hS.nb; omega
 rcases hnew with ⟨rfl,rfl,h4⟩ | ⟨rfl,s,m,T',q,hA,rfl,hG,h4⟩
 ·simp [eB,berrV,ic_errno]
  have hE1:=h4
  rw [hBs] at hE1
  refine hE1.st hLt (by simp [resO]) (by simp) fun wE hE2=>?_
  replace hE2:At w F (Star (ObjA rb (resO 3 (.slice none 0 0) 0 0)) (Star (ObjA tb (ntO T)) B)) wE:=by simpa [resO] using hE2
  have oE:=hE2.obj
  unfold resO at oE
  simp
  refine postL_c2 ag_38 (by simp) oE (by simp) rfl ?_
  exact ⟨_,rfl,3,.slice none 0 0,[],0,0,rfl,.inl ⟨rfl,rfl,rfl,⟨ns,⟨hS.nb,hS.g.vars,hS.g.vlen,hs.ext.wf,hS.l1,hS.l2,hs.lm⟩,hs.full rfl rfl⟩⟩,by omega,by simp,(hE2.drop.drop).nil hB⟩
 have hC:BC T T' lim:=⟨hA,hS.g,by intro ns h; rw [show SpOk T'.vars=SpOk T.vars by rw [hA.vars]] at h; exact hS.cap ns h⟩
 have h00:((0,fun _=>false):Kq) ∈ [((0,fun _=>false):Kq)]:=.head _
 have h5:FsA s m lim T' q [((0,fun _=>false):Kq)] Bs w F w4:=by
  refine ⟨ns,_,[],hG,fun p hp=>?_,h4⟩
  rcases List.mem_singleton.1 hp with rfl
  refine ⟨?_,⟨by unfold Ref; omega,fun a=>by rw [eval_zero]; simp⟩⟩
  by_cases e0:q.all=0
  ·rw [e0]; exact getM_put _ _ _
  ·rw [getM_put_ne e0]; rfl
 have ot4:=h5.frame rO
 unfold ntO at ot4
 have beg:∀ bw (d:Sd) (a:Nat),d.bw=bw→d.wl=[]→d.cl=(fun _=>false)→d.opn=[(0,(a,stP T bw))]→SdG T (fun z=>stP T bw z=true) d:=fun bw d a hdb hdw hdc hdo=>by
  have h1:Go.Bi.SdOk (StN T.vars) (EB T bw) (kB T) (fun z=>stP T bw z=true) [] (fun _=>false) [(0,stP T bw)]:=Go.Bi.SdOk.begin fun z _=>Iff.rfl
  have h2:Go.Bi.SdOk (StN T.vars) (EB T d.bw) (kB T) (fun z=>stP T bw z=true) (d.wl.map wmW) d.cl (d.opn.map fun p=>(p.1,p.2.2)):=by
   rw [hdb,hdw,hdc,hdo]
   exact h1
  exact h2
 simp [rd_c4 ot4]
 refine cl_of (bnewSide_spec false hC hLs h5 rT hS.good h00) ?_
 rintro _ w5 (⟨fp,df,af,ps6,rfl,hfb,hfw,hfc,hfo,hps6,hfk,h6⟩ | ⟨rfl,hf,h6⟩)
 rotate_left
 ·simp [berrV]
  have hE1:=h6
  rw [hBs] at hE1
  refine hE1.st hLt (by simp [resO]) (by simp) fun wE hE2=>?_
  replace hE2:At w F (Star (ObjA rb (resO 3 (.slice none 0 0) 0 0)) (Star (ObjA tb (ntO T)) B)) wE:=by simpa [resO] using hE2
  have oE:=hE2.obj
  unfold resO at oE
  simp
  refine postL_c2 ag_38 (by simp) oE (by simp) rfl ?_
  exact ⟨_,rfl,3,.slice none 0 0,[],0,0,rfl,.inl ⟨rfl,rfl,rfl,full_alk hA hf⟩,by omega,by simp,(hE2.drop.drop).nil hB⟩
 have ot6:=h6.frame (SdA.rds rO)
 unfold ntO at ot6
 simp [rd_c4 ot6]
 refine cl_of (bnewSide_spec true hC (SdA.lcl hLs) h6 (SdA.rds rT) hS.good (hps6 _ h00)) ?_
 rintro _ w6 (⟨bp,db,ab,ps7,rfl,hbb,hbw,hbc,hbo,hps7,hbk,h7⟩ | ⟨rfl,hf,h7⟩)
 rotate_left
 ·simp [berrV]
  have hE1:=h7.drop.drop.drop.drop
  rw [hBs] at hE1
  refine hE1.st hLt (by simp [resO]) (by simp) fun wE hE2=>?_
  replace hE2:At w F (Star (ObjA rb (resO 3 (.slice none 0 0) 0 0)) (Star (ObjA tb (ntO T)) B)) wE:=by simpa [resO] using hE2
  have oE:=hE2.obj
  unfold resO at oE
  simp
  refine postL_c2 ag_38 (by simp) oE (by simp) rfl ?_
  exact ⟨_,rfl,3,.slice none 0 0,[],0,0,rfl,.inl ⟨rfl,rfl,rfl,full_alk hA hf⟩,by omega,by simp,(hE2.drop.drop).nil hB⟩
 have hD:TwD T ps7 df db ⟨.slice none 0 0,[],0,0,false⟩:=TwD.begin (beg false df af hfb hfw hfc hfo) (beg true db ab hbb hbw hbc hbo) hfb hbb hfw hbw (hps7 _ (hps6 _ h00)) (hfk.mono hps7) hbk (bd_new hS.ol hS.nN hfw hfo) (bd_new hS.ol hS.nN hbw hbo)
 simp
 refine cl_of (bboth_spec hC hLs (h7.by SdA.sw) rT hD) ?_
 rintro _ w7 (⟨vd,p,out,c,rfl,hok,hol,df2,db2,hlf,hlb,h8⟩ | ⟨rfl,hf,df2,db2,hlf,hlb,h8⟩)
 rotate_left
 ·simp [berrV,resV]
  have hLL:Lcl (SdA fp T s df2 (SdA bp T s db2 Bs)):=SdA.lcl (SdA.lcl hLs)
  have h9:=h8.alloc (resO 0 (.slice none 0 0) 0 0) hLL
  refine At.st hLL h9 (by simp) (by simp) fun w8 h10=>?_
  have oxf:=at_rds h10 (Rds.star SdA.obj)
  unfold sdO at oxf
  have owf:=at_rds h10 (Rds.star SdA.wvs)
  have oxb:=at_rds h10 (Rds.star (SdA.rds SdA.obj))
  unfold sdO at oxb
  have owb:=at_rds h10 (Rds.star (SdA.rds SdA.wvs))
  simp (disch:=omega) [cell_blk oxf,cell_blk oxb,owf.len,owb.len,wrap_i64]
  have hE1:=(h10.kp0 (Lcl.obj.star hLL) (Kp.refl [] w8).drew).drop.drop.drop.drop.drop.drop.drop.drop.drop
  rw [hBs] at hE1
  refine hE1.st hLt (by simp [resO]) (by simp) fun wE hE2=>?_
  simp [resO] at hE2
  have oE:=hE2.obj
  simp
  refine postL_c2 ag_38 (by simp) oE (by simp) rfl ?_
  exact ⟨_,rfl,3,.slice none 0 0,[],0,_,rfl,.inl ⟨rfl,rfl,rfl,hf⟩,by omega,by simp,(hE2.drop.drop).nil hB⟩
 ·simp [resV]
  have hLL:Lcl (Star (OwnA p 3 1 nE out) (SdA fp T s df2 (SdA bp T s db2 Bs))):=Lcl.own.star (SdA.lcl (SdA.lcl hLs))
  have hpo:oneC p=true:=at_rds h8 (Rds.own1:Rds (Star (OwnA p 3 1 nE out) (SdA fp T s df2 (SdA bp T s db2 Bs))) fun _=>oneC p=true)
  obtain ⟨kb,hkb⟩:∃ kb,kb=w7.heap.size:=⟨_,rfl⟩
  have h9:=h8.alloc (resO 0 (.slice none 0 0) 0 0) hLL
  rw [← hkb] at h9 ⊢
  refine At.st hLL h9 (by simp) (by simp [hpo]) fun w8 h10=>?_
  replace h10:At w F (Star (ObjA kb (resO vd p c 0)) (Star (OwnA p 3 1 nE out) (SdA fp T s df2 (SdA bp T s db2 Bs)))) w8:=by simpa [resO] using h10
  have oxf:=at_rds h10 (Rds.star (Rds.star SdA.obj))
  unfold sdO at oxf
  have owf:=at_rds h10 (Rds.star (Rds.star SdA.wvs))
  have oxb:=at_rds h10 (Rds.star (Rds.star (SdA.rds SdA.obj)))
  unfold sdO at oxb
  have owb:=at_rds h10 (Rds.star (Rds.star (SdA.rds SdA.wvs)))
  have h10d:=h10.kp0 (Lcl.obj.star hLL) (Kp.refl [] w8).drew
  simp (disch:=omega) [cell_blk oxf,cell_blk oxb,owf.len,owb.len,wrap_i64]
  refine h10d.st hLL (by simp [resO]) (by simp) fun w9 h11=>?_
  simp [resO] at h11
  have oK:=h11.obj
  simp [rd_c4 oK]
  have hE0:=(h11.drop).by (Imp.un (Imp.dr.trans (Imp.dr.trans (Imp.dr.trans (Imp.dr.trans (Imp.dr.trans (Imp.dr.trans (Imp.dr.trans Imp.dr))))))))
  rw [hBs] at hE0
  have hE1:=hE0.by Imp.sw
  refine hE1.st (Lcl.own.star hLt) (by simp [resO]) (by simp [hpo]) fun wE hE2=>?_
  simp [resO] at hE2
  have oE:=hE2.obj
  simp
  refine postL_c2 ag_38 (by simp) oE (by simp) rfl ?_
  exact ⟨_,rfl,vd,p,out,c,_,rfl,hok,by omega,hol,(hE2.drop.by (Imp.un Imp.dr))⟩
end
end Go.Proofs.YtkhfdmelcpfgoaaGreat
end
