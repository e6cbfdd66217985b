/-
  A part of the proof of this claim's statement (LdT, LmW9, LmWA): plain theorems; no conditions beyond those each names.
-/
import Derived.Test.YtolkjbmcindhjaaGreatPk28
import Derived.Test.YtolkjbmcindhjaaGreatPk26
set_option maxRecDepth 100000
set_option linter.unusedSimpArgs false
set_option linter.unusedVariables false
set_option linter.unusedSectionVars false
section
namespace Go.Proofs.YtolkjbmcindhjaaGreat
open Go Go.W Go.Tk Go.Rx Go.Lm Go.Maps Go.Sx
theorem cuts1_spec {w:World} (x:Kt) (cb:Nat) (u:Value) (L:List Nat) (m:Nat) (hx:Vw w x.ov.1 nE x.ops) (ho:w.heap[cb]? = some (.cells #[u,.int .i64 (m:Nat)] 63 (0,0))) (hL:Vw w u nE L) (h1:x.ops.length≤1000000) (h2:L.length≤1000000) :
  Calls Tryz.prog 67 [.agg #[x.ov.1,.int .i64 (x.cost:Nat)],.pointer (some ⟨cb,0,none⟩)].toArray w fun e w'=>∃y,e=.returned y∧(∃d,y=.bool d)∧Kp [] w w':=by
 refine enter Tryz.func67 mixed low67 (Nat.le_of_ble_eq_true rfl) ?_
 simp only [L67]
 have k1:Kp [] w (w.alloc (.cells #[x.ov.1,.int .i64 (x.cost:Nat)] 63)):=(Kp.refl [] w).alloc _
 have ob:(w.alloc (.cells #[x.ov.1,.int .i64 (x.cost:Nat)] 63)).heap[w.heap.size]? = some (.cells #[x.ov.1,.int .i64 (x.cost:Nat)] 63 (0,0)):=alloc_new
 have ho1:=k1.blk ho (by simp)
 have c1:=x.ov.2
 simp [cell_blk ob,cell_blk ho1]
 refine cl_of (eqInts_spec x.ov.1 u x.ops L (hx.kp0 k1) (hL.kp0 k1) h1 h2) ?_
 rintro _ w2 ⟨rfl,k2⟩
 simp
 exact ⟨(Classical.em _).symm,k1.trans k2⟩
theorem ifCut_spec {w:World} (v:Value) (ks:List Kt) (cb:Nat) (u:Value) (L:List Nat) (m:Nat) (hk:KtR w v ks) (hl:ks.length≤1000000) (ho:w.heap[cb]? = some (.cells #[u,.int .i64 (m:Nat)] 63 (0,0))) (hL:Vw w u nE L) (h1:∀k ∈ ks,k.ops.length≤1000000) (h2:L.length≤1000000) :
  Calls Tryz.prog 126 [v,.func (.func 67) #[] #[.pointer (some ⟨cb,0,none⟩)]].toArray w fun e w'=>∃x,e=.returned x∧(∃i:Int,x=.int .i64 i)∧Kp [] w w':=by
 refine enter Tryz.func126 mixed low126 (Nat.le_of_ble_eq_true rfl) ?_
 simp only [L126]
 simp [hk.vw.len]
 refine range_loop (n:=ks.length) (by omega) (fun k ρ w'=>ρ 0=v∧ρ 1=.func (.func 67) #[] #[.pointer (some ⟨cb,0,none⟩)]∧Kp [] w w') (by simp) (by simp)
  ⟨by simp,by simp,Kp.refl _ _⟩ (by decide) (fun _ _ _ _ h=>by simpa using h) (fun _ _ _ _ h=>by simpa using h) ?_ ?_
 rotate_left
 ·rintro ρ w4 ⟨g0,g1,k4⟩
  simp
  exact k4
 rintro k ρ w4 hi hc hlm ⟨g0,g1,k4⟩
 obtain ⟨x,hx⟩:∃x,ks[k]? = some x:=⟨_,List.getElem?_eq_getElem hi⟩
 have xm:=List.mem_of_getElem? hx
 have hk4:=hk.kp k4
 have ex:=hk4.vw.cells ktE_len hx
 simp only [ktE] at ex
 have hki:(k:Int) < ks.length:=by omega
 simp (disch:=omega) [g0,g1,hc,hlm,hk4.vw.idx,ex]
 refine cl_of (cuts1_spec x cb u L m (hk4.ops x xm) (k4.blk ho (by simp)) (hL.kp0 k4) (h1 x xm) h2) ?_
 rintro _ w5 ⟨⟨d,rfl⟩,k5⟩
 cases d with
 | true =>
  simp [g0,g1,hc,hlm]
  exact k4.trans k5
 | false =>
  simp [g0,g1,hc,hlm]
  exact k4.trans k5
theorem cfCut_spec {w:World} (v:Value) (ks:List Kt) (cb:Nat) (u:Value) (L:List Nat) (m:Nat) (hk:KtR w v ks) (hl:ks.length≤1000000) (ho:w.heap[cb]? = some (.cells #[u,.int .i64 (m:Nat)] 63 (0,0))) (hL:Vw w u nE L) (h1:∀k ∈ ks,k.ops.length≤1000000) (h2:L.length≤1000000) :
  Calls Tryz.prog 66 [v,.func (.func 67) #[] #[.pointer (some ⟨cb,0,none⟩)]].toArray w fun e w'=>∃x,e=.returned x∧(∃d,x=.bool d)∧Kp [] w w':=by
 refine enter Tryz.func66 mixed low66 (Nat.le_of_ble_eq_true rfl) ?_
 simp only [L66]
 simp
 refine cl_of (ifCut_spec v ks cb u L m hk hl ho hL h1 h2) ?_
 rintro _ w5 ⟨⟨i,rfl⟩,k5⟩
 simp
 exact ⟨by omega,k5⟩
def ktW (k:Kt):Cell1 × List Nat:=(k.ov,k.ops)
theorem ktE_one (k:Kt):(ktE k).all oneC=true:=by simp [ktE,k.ov.2]
def LcA (ov fv:Value) (ks:List Kt) (fs:List Fc):Asr:=Star (OwnA ov 63 2 ktE ks) (Star (VwsA nE (ks.map ktW)) (Star (OwnA fv 100 2 fcE fs) Emp))
theorem LcA.lcl {ov fv:Value} {ks:List Kt} {fs:List Fc}:Lcl (LcA ov fv ks fs):=Lcl.own.star (Lcl.vws.star (Lcl.own.star .emp))
theorem LcA.rd {w w1:World} {F:List Nat} {ov fv:Value} {ks:List Kt} {fs:List Fc} (h:At w F (LcA ov fv ks fs) w1):KtR w1 ov ks:=⟨(At.own (h.by (show Imp (LcA ov fv ks fs) (Star (OwnA ov 63 2 ktE ks) _) from Imp.rfl))).vw,fun k hk=>At.vws (h.by (show Imp (LcA ov fv ks fs) _ from Imp.dr)) (p:=ktW k) (List.mem_map.2 ⟨k,hk,rfl⟩)⟩
theorem LcA.fs {w w1:World} {F:List Nat} {ov fv:Value} {ks:List Kt} {fs:List Fc} (h:At w F (LcA ov fv ks fs) w1):Vw w1 fv fcE fs:=(At.own (h.by (show Imp (LcA ov fv ks fs) _ from Imp.dr.trans Imp.dr))).vw
def LcK (vars s:List Nat) (goal:List Fc) (rs:List Ld) (k:Kt):Prop:=∃f,FcLm vars s goal rs f∧AcR vars s rs f k.ops
def LcP (vars s:List Nat) (goal:List Fc) (rs:List Ld) (x:Value) (w':World):Prop :=
 (x=.tuple #[.slice none 0 0,errV 3]∧∃R,RcS (-1,-1) vars s rs R∧ClL (-1,-1) vars R rs∧gAll vars goal R=false) ∨
 ∃xv ks,x=.tuple #[xv,.nilIface]∧ks.length≤4096∧(∀k ∈ ks,LcK vars s goal rs k)∧(∃R,RcS (-1,-1) vars s rs R∧ClL (-1,-1) vars R rs∧gAll vars goal R=true)∧KtR w' xv ks
def LcI (w:World) (fv:Value) (fs:List Fc) (vars s:List Nat) (goal:List Fc) (rs:List Ld) (k:Nat) (ρ:Env) (w':World):Prop :=
 ∃ks,ks.length≤k∧(∀c ∈ ks,LcK vars s goal rs c)∧At w [] (LcA (ρ 8) fv ks fs) w'
def LcM (w:World) (cb:Nat) (u:Value) (L:List Nat) (ov fv:Value) (ks:List Kt) (fs:List Fc) (w':World):Prop :=
 ∃m:Nat,At w [] (Star (ObjA cb (.cells #[u,.int .i64 (m:Nat)] 63 (0,0))) (Star (OwnA u 3 1 nE L) (LcA ov fv ks fs))) w'
theorem AcR.rng {vars s:List Nat} {rs:List Ld} {f:Fc} {L:List Nat} {goal:List Fc} {costs:List Nat} (h:AcR vars s rs f L) (hG:FdG vars goal costs rs):∀q ∈ L,q < costs.length:=fun q hq=>by
 obtain ⟨R,_,_,hm⟩:=h.mem
 obtain ⟨r,hr,rfl,_⟩:=(hm q).1 hq
 exact hG.rop r hr
theorem AcR.len {vars s:List Nat} {rs:List Ld} {f:Fc} {L:List Nat} {goal:List Fc} {costs:List Nat} (h:AcR vars s rs f L) (hG:FdG vars goal costs rs):L.length≤4096:=Nat.le_trans (asc_len L costs.length h.asc (h.rng hG)) hG.clen
set_option maxHeartbeats 4000000 in
theorem ldCuts_spec {w:World} {b:Nat} {vars costs:List Nat} {goal:List Fc} {vv gv cv lv:Value} {rs:List Ld} (sv:Value) (s:List Nat) (hR:FdR b vars goal costs vv gv cv lv rs w) (hG:FdG vars goal costs rs) (hs:Vw w sv nE s) (hst:StN vars s) :
  Calls Tryz.prog 20 [.pointer (some ⟨b,0,none⟩),sv].toArray w fun e w'=>∃x,e=.returned x∧LcP vars s goal rs x w'∧Kp [] w w':=by
 refine enter Tryz.func20 mixed low20 (Nat.le_of_ble_eq_true rfl) ?_
 simp only [L20]
 simp
 refine cl_of (facts_spec sv s hR hG hs hst) ?_
 rintro x w1 (⟨rfl,k1,hno⟩ | ⟨fv,fs,rfl,hfl,hfs,hyes,h1⟩)
 ·simp [errV]
  exact ⟨.inl ⟨by simp [errV],hno⟩,k1⟩
 have h2:At w [] (LcA (.slice none 0 0) fv [] fs) w1:=At.nil (E:=63) (sz:=2) (enc:=ktE) (Lcl.vws.star (Lcl.own.star .emp)) (VwsA.nil (enc:=nE) (Lcl.own.star .emp) h1)
 simp [h1.own.len]
 refine range_loop (n:=fs.length) (by omega) (fun k ρ w'=>ρ 0=.pointer (some ⟨b,0,none⟩)∧ρ 1=sv∧ρ 23=fv∧LcI w fv fs vars s goal rs k ρ w') (by simp) (by simp)
  ⟨by simp,by simp,by simp,[],by simp,fun c hc=>absurd hc (by simp),by simpa using h2⟩ (by decide) (fun _ _ _ _ h=>by simpa [LcI] using h) (fun _ _ _ _ h=>by simpa [LcI] using h) ?_ ?_
 rotate_left
 ·clear h1 h2
  rintro ρ w2 ⟨g0,g1,g23,ks,hkl,hks,h2⟩
  simp
  exact ⟨.inr ⟨ρ 8,ks,rfl,by omega,hks,hyes,LcA.rd h2⟩,h2.kp⟩
 clear h1 h2
 rintro k ρ w2 hk hck hlk ⟨g0,g1,g23,ks,hkl,hks,h2⟩
 obtain ⟨ov,hov⟩:∃ov,ov=ρ 8:=⟨_,rfl⟩
 rw [←hov] at h2
 have g8:=hov.symm
 obtain ⟨f,hf⟩:∃f,fs[k]? = some f:=⟨_,List.getElem?_eq_getElem hk⟩
 have hlm:=hfs f (List.mem_of_getElem? hf)
 have o2:=LcA.fs h2
 have ef:=o2.cells fcE_len hf
 simp only [fcE] at ef
 obtain ⟨fb,hfb⟩:∃fb,fb=w2.heap.size:=⟨_,rfl⟩
 have hki:(k:Int) < fs.length:=by omega
 simp (disch:=omega) [g23,hck,hlk,o2.idx,ef,←hfb]
 refine st_fc (f:=f) LcA.lcl h2 hfb fun w3 h3=>?_
 have hof:=h3.obj
 unfold fcO at hof
 have ef3:cellsAt w3 ⟨fb,0,none⟩ 0 2=some [.int .i64 (f.1:Nat),.int .i64 (f.2:Nat)]:=by simp [cellsAt,Addr.add,cell_blk hof]
 simp [g0,g1,←hfb,ef3]
 have h3:=h3.drop
 refine cl_of (ach_spec sv s f (hR.kp h3.kp) hG (hs.kp0 h3.kp) hst) ?_
 rintro u w4 ⟨L,hac,hLl,n4⟩
 have h4:=At.nw LcA.lcl h3 n4
 have hcut:LcK vars s goal rs ⟨⟨u,n4.own.o1⟩,L,0⟩:=⟨f,hlm,hac⟩
 have hlen:=hac.len hG
 have hrng:=hac.rng hG
 obtain ⟨cb,hcb⟩:∃cb,cb=w4.heap.size:=⟨_,rfl⟩
 have hL4:Lcl (Star (OwnA u 3 1 nE L) (LcA ov fv ks fs)):=Lcl.own.star LcA.lcl
 have o4:=h4.own.o1
 have c4:=h4.own.c1
 have a4:=h4.alloc (.cells #[.slice none 0 0,.int .i64 0] 63 (0,0)) hL4
 rw [←hcb] at a4
 simp [←hcb,c4]
 refine a4.st hL4 (by simp) (by simp [o4]) fun w5 h5=>?_
 obtain ⟨M,hM⟩:∃M:Nat,((M:Nat):Int)=1125899906842624:=⟨1125899906842624,rfl⟩
 have h5:At w [] (Star (ObjA cb (.cells #[u,.int .i64 (M:Nat)] 63 (0,0))) (Star (OwnA u 3 1 nE L) (LcA ov fv ks fs))) w5:=by rw [hM]; simpa using h5
 have hkl2:∀c ∈ ks,c.ops.length≤1000000:=fun c hc=>by
  obtain ⟨g,_,hac'⟩:=hks c hc
  have:=hac'.len hG
  omega
 simp [g8,←hcb]
 refine cl_of (cfCut_spec ov ks cb u L M (LcA.rd h5.drop.drop) (by omega) h5.obj h5.drop.own.vw hkl2 hLl) ?_
 rintro _ w6 ⟨⟨d,rfl⟩,k6⟩
 have h6:=h5.kp0 (Lcl.obj.star hL4) k6
 cases d with
 | true =>
  simp [hck,hlk,g0,g1,g23]
  exact ⟨ks,by omega,hks,by simpa [g8] using h6.drop.drop⟩
 | false =>
  have hoc6:=h6.obj
  simp [cell_blk hoc6,h6.drop.own.len]
  refine range_loop (n:=L.length) (by omega) (fun j ρ w'=>ρ 0=.pointer (some ⟨b,0,none⟩)∧ρ 1=sv∧ρ 23=fv∧ρ 25=.int .i64 (k:Nat)∧ρ 24=.int .i64 (fs.length:Nat)∧ρ 8=ov∧ρ 11=.pointer (some ⟨cb,0,none⟩)∧ρ 38=u∧LcM w cb u L ov fv ks fs w') (by simp) (by simp)
   ⟨by simp [g0],by simp [g1],by simp [g23],by simp [hck],by simp [hlk],by simp [g8],by simp [←hcb],by simp,M,h6⟩ (by decide) (fun _ _ _ _ h=>by simpa using h) (fun _ _ _ _ h=>by simpa using h) ?_ ?_
  ·clear h2 h3 h4 h5 h6 hoc6 g0 g1 g23 hck hlk g8 hov hof ef3 ef o2 hfb a4
   rintro j ρ w7 hj hcj hlj ⟨g0,g1,g23,g25,g24,g8,g11,g38,m,h7⟩
   obtain ⟨op,hop⟩:∃op,L[j]? = some op:=⟨_,List.getElem?_eq_getElem hj⟩
   have hopl:=hrng op (List.mem_of_getElem? hop)
   obtain ⟨x,hx⟩:∃x,costs[op]? = some x:=⟨_,List.getElem?_eq_getElem hopl⟩
   have hoc:=h7.obj
   have hlv:=h7.drop.own.vw
   have hR7:=hR.kp h7.kp
   have ob7:=hR7.obj
   unfold fdO at ob7
   have hji:(j:Int) < L.length:=by omega
   have hopi:(op:Int) < costs.length:=by omega
   have emin:min (m:Int) (x:Int)=((min m x:Nat):Int):=by omega
   simp (disch:=omega) [g0,g11,g38,hcj,hlj,hlv.idx,nE_cell hlv hop,cell_blk hoc,cell_blk ob7,hR7.costs.idx,nE_cell hR7.costs hx,emin]
   have h7d:=h7.drew (Lcl.obj.star hL4)
   refine h7d.st hL4 (by simp) (by simp) fun w8 h8=>?_
   simp [g0,g1,g23,g25,g24,g8,g11,g38,hcj,hlj]
   exact ⟨min m x,by simpa using h8⟩
  clear h2 h3 h4 h5 h6 hoc6 g0 g1 g23 hck hlk g8 hov hof ef3 ef o2 hfb a4
  rintro ρ w7 ⟨g0,g1,g23,g25,g24,g8,g11,g38,m,h7⟩
  have hoc:=h7.obj
  have ec:cellsAt w7 ⟨cb,0,none⟩ 0 2=some [u,.int .i64 (m:Nat)]:=by simp [cellsAt,Addr.add,cell_blk hoc]
  simp [g8,g11,ec]
  have h8:At w [] (Star (OwnA ov 63 2 ktE ks) (Star (OwnA u 3 1 nE L) (Star (VwsA nE (ks.map ktW)) (Star (OwnA fv 100 2 fcE fs) Emp)))) w7:=by
   have:=h7.drop
   unfold LcA at this
   exact this.by Imp.sw
  have hLB:Lcl (Star (OwnA u 3 1 nE L) (Star (VwsA nE (ks.map ktW)) (Star (OwnA fv 100 2 fcE fs) Emp))):=Lcl.own.star (Lcl.vws.star (Lcl.own.star .emp))
  refine At.append (E:=63) (sz:=2) (enc:=ktE) (xs:=[(⟨⟨u,o4⟩,L,m⟩:Kt)]) hLB (h8.kp0 (Lcl.own.star hLB) ((Kp.refl [] w7).alloc _)) ktE_len ktE_one sl_57 rfl (fun j y hj=>?_) (by omega) (by unfold maxLen; omega) fun ov' w9 h9=>?_
  ·rw [add_none,cell_blk alloc_new]
   simpa [ktE] using hj
  simp [g0,g1,g23,g25,g24]
  refine ⟨ks ++ [⟨⟨u,o4⟩,L,m⟩],by simp; omega,fun c hc=>?_,?_⟩
  ·rcases List.mem_append.1 hc with hc | hc
   ·exact hks c hc
   ·rw [List.mem_singleton] at hc
    rw [hc]
    exact ⟨f,hlm,hac⟩
  ·unfold LcA
   have e1:(ks ++ [(⟨⟨u,o4⟩,L,m⟩:Kt)]).map ktW=ks.map ktW ++ [(⟨u,o4⟩,L)]:=by rw [List.map_append]; rfl
   rw [e1]
   simpa using h9.by (Imp.un (Imp.ow.trans (VwsA.add o4)))
end Go.Proofs.YtolkjbmcindhjaaGreat
end
section
namespace Go.Lm
open Go.Rx
theorem LmC.ub {U:List Un} {S0 G:List Nat} {c:Nat→Nat} {N C:Nat} {r:Option (List (List Nat × Nat))} (h:LmC U S0 G c r) (hz:Szs U S0 N C c):∀out,r=some out→∀p ∈ out,p.2≤C:=by
 induction h with
 | inf hV h=>intro out e; cases e
 | nil hV h=>intro out e; cases e; simp
 | @cut c V L m r hV h0 hi hc hr ih =>
  intro out e
  cases r with
  | none=>cases e
  | some o =>
   cases e
   intro p hp
   rcases List.mem_cons.1 hp with rfl | hp
   ·obtain ⟨op,ho,e1⟩:=hc.at_
    obtain ⟨u,hu,rfl⟩:=(hc.pos hV h0 hi).2.2 op ho
    have:=hz.cost u hu
    show m≤C
    omega
   ·exact ih (hz.sub L m) o rfl p hp
end Go.Lm
namespace Go.Proofs.YtolkjbmcindhjaaGreat
open Go Go.W Go.Tk Go.Rx Go.Lm Go.Maps
def ctO (c:Ct):Obj:=.cells #[c.ov.1,.int .i64 (c.cost:Nat)] 63 (0,0)
theorem st_ct {wa w:World} {F:List Nat} {X:Asr} {KW:Kont World} {c:Ct} {b:Nat} (hX:Lcl X) (h:At w F X wa) (hb:b=wa.heap.size) (H:∀w2,At w F (Star (ObjA b (ctO c)) X) w2→KW.run w2) :
  @stJ (wa.alloc (.cells #[.slice none 0 0,.int .i64 0] 63 (0,0))) ⟨b,0,none⟩ [c.ov.1,.int .i64 (c.cost:Nat)] KW:=by
 have h1:At w F (Star (ObjA b (.cells #[.slice none 0 0,.int .i64 0] 63 (0,0))) X) (wa.alloc (.cells #[.slice none 0 0,.int .i64 0] 63 (0,0))):=by rw [hb]; exact h.alloc _ hX
 exact h1.st hX (by simp) (by simp [c.ov.2]) fun w2 h2=>H w2 (by simpa [ctO] using h2)
def valP (UL:List Un) (S0 G:List Nat) (c:Nat→Nat) (x:Value):Prop:=∃r,LmC UL S0 G c r∧x=.int .i64 (match r with | none=>Inf | some out=>sumM out:Nat)
theorem sumM_take {out:List (List Nat × Nat)} {k:Nat} {p:List Nat × Nat} (h:out[k]? = some p):sumM (out.take (k+1))=sumM (out.take k)+p.2:=by
 rw [take_snoc h]; unfold sumM; rw [List.map_append,List.sum_append]; simp
theorem sumM_ub {out:List (List Nat × Nat)} {C:Nat} (h:∀p ∈ out,p.2≤C):sumM out≤out.length * C:=by
 unfold sumM
 have:=sum_le (vars:=out.map (·.2)) (N:=C) (fun n hn=>by
  obtain ⟨p,hp,rfl⟩:=List.mem_map.1 hn
  exact h p hp)
 simpa using this
section
variable {w:World} {b:Nat} {vars G C0:List Nat} {UL:List Un} {vv fv gv cv lv:Value} {rs:List Lu}
set_option maxHeartbeats 1000000 in
theorem value_walk (sv:Value) (s:List Nat) (hR:HrR b vars G C0 UL vv fv gv cv lv rs w) (hs:Vw w sv nE s) (hst:StN vars s) (hL:LuOk UL vars.sum C0.length) (hvl:vars.length≤64) (hG:∀x ∈ G,x < vars.sum) (hGl:G.length≤1000000) (hCb:∀x ∈ C0,x≤1048576) (hCl:C0.length≤4096) :
  Calls Tryz.prog 24 [.pointer (some ⟨b,0,none⟩),sv].toArray w fun e w'=>∃x,e=.returned x∧valP UL (stN vars s vars.length) G (cf C0) x∧Kp [] w w':=by
 refine enter Tryz.func24 mixed low24 (Nat.le_of_ble_eq_true rfl) ?_
 simp only [L24]
 simp
 refine cl_of (cuts_walk sv s hR hs hst hL hvl hG hGl hCb hCl) ?_
 rintro x w1 ⟨⟨r,hr,hx⟩,k1⟩
 cases r with
 | none =>
  subst hx
  simp [errV]
  exact ⟨⟨none,hr,rfl⟩,k1⟩
 | some out =>
  obtain ⟨v,rfl,cs,hcs,hv,_⟩:=hx
  have hz:=sum_szs (left:=C0) hL (stN_sum hst) hCb
  have hub:=hr.ub hz out rfl
  have hlen:=hr.len (n:=C0.length) hL.op out rfl
  have hpn:=posN_le (c:=cf C0) C0.length
  have hcl:cs.length=out.length:=by rw [←hcs]; simp
  simp [hv.len]
  refine range_loop (n:=cs.length) (by omega) (fun k ρ w'=>ρ 20=v∧ρ 7=.int .i64 (sumM (out.take k):Nat)∧Kp [] w1 w') (by simp) (by simp)
   ⟨by simp,by simp [sumM],Kp.refl _ _⟩ (by decide) (fun _ _ _ _ h=>by simpa using h) (fun _ _ _ _ h=>by simpa using h) ?_ ?_
  rotate_left
  ·rintro ρ w2 ⟨_,g7,k2⟩
   rw [hcl,List.take_length] at g7
   simp [g7]
   exact ⟨⟨some out,hr,rfl⟩,k1.trans k2⟩
  rintro k ρ w2 hk hck hlk ⟨g20,g7,k2⟩
  have hv2:=hv.kp0 k2
  obtain ⟨c,hc⟩:∃c,cs[k]? = some c:=⟨_,List.getElem?_eq_getElem hk⟩
  have hck2:out[k]? = some (ctP c):=by rw [←hcs,List.getElem?_map,hc]; rfl
  have ec:=hv2.cells ctE_len hc
  simp only [ctE] at ec
  obtain ⟨cb,hcb⟩:∃cb,cb=w2.heap.size:=⟨_,rfl⟩
  have hki:(k:Int) < cs.length:=by omega
  simp (disch:=omega) [g20,hck,hlk,hv2.idx,ec,←hcb]
  refine st_ct (c:=c) .emp (At.start rfl:At w2 [] Emp w2) hcb fun w3 h3=>?_
  have oc3:=h3.obj
  unfold ctO at oc3
  have hst1:=sumM_take hck2
  have hs1:=sumM_ub (out:=out.take (k+1)) (C:=1048576) fun p hp=>hub p (List.mem_of_mem_take hp)
  have hl1:(out.take (k+1)).length * 1048576≤4096 * 1048576:=Nat.mul_le_mul_right _ (by rw [List.length_take]; omega)
  obtain ⟨sk,hsk⟩:∃x,x=sumM (out.take k):=⟨_,rfl⟩
  obtain ⟨sk1,hsk1⟩:∃x,x=sumM (out.take (k+1)):=⟨_,rfl⟩
  rw [←hsk] at g7 hst1
  rw [←hsk1] at hst1 hs1
  have e:(sk:Int)+(c.cost:Int)=(sk1:Int):=by rw [hst1]; rfl
  simp (disch:=omega) [g7,g20,cell_blk oc3,←hcb,e,wrap_i64,hck,hlk]
  rw [hsk1]
  exact ⟨rfl,k2.trans0 h3.kp⟩
end
end Go.Proofs.YtolkjbmcindhjaaGreat
end
section
namespace Go.Lm
open Go.Rx
structure LkE (u v:Un):Prop where
 op:u.op=v.op
 mq:u.makes=v.makes
 nd:∀n,n ∈ u.needs↔n ∈ v.needs
 nl:u.needs.length≤1000000
def Lk (UL U:List Un):Prop:=UL.length=U.length∧∀(i:Nat) (u v:Un),UL[i]? = some u→U[i]? = some v→LkE u v
section
variable {UL U:List Un} {V c:Nat→Nat} {S0 G:List Nat}
theorem Lk.nil:Lk [] []:=⟨rfl,fun i u v h=>by simp at h⟩
theorem Lk.snoc {u v:Un} (h:Lk UL U) (he:LkE u v):Lk (UL ++ [u]) (U ++ [v]):=by
 refine ⟨by simp [h.1],fun i a b ha hb=>?_⟩
 by_cases hi:i < UL.length
 ·rw [List.getElem?_append_left hi] at ha
  rw [List.getElem?_append_left (by rw [←h.1]; exact hi)] at hb
  exact h.2 i a b ha hb
 ·rw [List.getElem?_append_right (by omega)] at ha
  rw [List.getElem?_append_right (by rw [←h.1]; omega)] at hb
  have h1:=(List.getElem?_eq_some_iff.1 ha).1
  simp at h1
  have e:i - UL.length=0:=by omega
  have e2:i - U.length=0:=by rw [←h.1]; exact e
  rw [e] at ha
  rw [e2] at hb
  simp at ha hb
  subst ha hb
  exact he
theorem Lk.left (h:Lk UL U) {u:Un} (hu:u ∈ UL):∃v ∈ U,LkE u v:=by
 obtain ⟨i,hi,rfl⟩:=List.getElem_of_mem hu
 have hi2:i < U.length:=by rw [←h.1]; exact hi
 exact ⟨U[i],List.getElem_mem hi2,h.2 i _ _ (List.getElem?_eq_getElem hi) (List.getElem?_eq_getElem hi2)⟩
theorem Lk.right (h:Lk UL U) {v:Un} (hv:v ∈ U):∃u ∈ UL,LkE u v:=by
 obtain ⟨i,hi,rfl⟩:=List.getElem_of_mem hv
 have hi2:i < UL.length:=by rw [h.1]; exact hi
 exact ⟨UL[i],List.getElem_mem hi2,h.2 i _ _ (List.getElem?_eq_getElem hi2) (List.getElem?_eq_getElem hi)⟩
theorem LkE.gr {u v:Un} (h:LkE u v):gr V u.needs=gr V v.needs:=gr_set h.nd
theorem LkE.ar {u v:Un} (h:LkE u v):arU V u=arU V v:=by
 unfold arU
 rw [gst_set h.nd,h.op,h.mq]
theorem Lk.arcs (h:Lk UL U):arcs UL V=arcs U V:=by
 obtain ⟨hl,hh⟩:=h
 unfold Go.Lm.arcs
 induction UL generalizing U with
 | nil =>
  cases U with
  | nil=>rfl
  | cons v U=>simp at hl
 | cons u UL ih =>
  cases U with
  | nil=>simp at hl
  | cons v U =>
   have he:=hh 0 u v (by simp) (by simp)
   have ih:=ih (U:=U) (by simpa using hl) (fun i a b ha hb=>hh (i+1) a b (by simpa using ha) (by simpa using hb))
   have hg:=he.gr (V:=V)
   simp only [List.filter_cons,hg]
   split
   ·rw [List.map_cons,List.map_cons,ih,he.ar]
   ·exact ih
theorem Lk.val (h:Lk UL U) (hV:IsVal (wc UL c) S0 V):IsVal (wc U c) S0 V:=by
 refine hV.same (fun u hu=>?_) (fun v hv=>?_)
 ·obtain ⟨u,hu2,rfl⟩:=wc_mem hu
  obtain ⟨v,hv,he⟩:=h.left hu2
  exact ⟨_,mem_wc hv,he.mq.symm,by rw [he.op],fun n=>(he.nd n).symm⟩
 ·obtain ⟨v,hv2,rfl⟩:=wc_mem hv
  obtain ⟨u,hu,he⟩:=h.right hv2
  exact ⟨_,mem_wc hu,he.mq,by rw [he.op],fun n=>he.nd n⟩
theorem Lk.lmc {r:Option (List (List Nat × Nat))} (h:Lk UL U) (hr:LmC UL S0 G c r):LmC U S0 G c r:=by
 induction hr with
 | inf hV hh=>exact .inf (h.val hV) hh
 | nil hV hh=>exact .nil (h.val hV) hh
 | cut hV h0 hi hc hr ih =>
  refine .cut (h.val hV) h0 hi ⟨?_,hc.asc,hc.le,hc.at_⟩ ih
  obtain ⟨g,e,hx⟩:=hc.ex
  exact ⟨g,e,by rw [←h.arcs]; exact hx⟩
end
end Go.Lm
namespace Go.Proofs.YtolkjbmcindhjaaGreat
open Go Go.W Go.Tk Go.Rx Go.Lm Go.Maps
def hrO (vv fv:Value) (n:Nat) (gv cv lv:Value):Obj:=.cells #[vv,fv,.int .i64 (n:Nat),gv,cv,lv] 126 (0,0)
set_option maxHeartbeats 1000000 in
theorem numbers_walk {w:World} {b:Nat} {vv fv gv cv lv:Value} {n:Nat} (lf:Value) (vars:List Nat) (l:List Fc) (ho:w.heap[b]? = some (hrO vv fv n gv cv lv)) (hf:Vw w fv nE (firsts vars vars.length)) (hl:Vw w lf fcE l) (hr:FcRng vars l) (hs:vars.sum≤4096) (hll:l.length≤1000000) :
  Calls Tryz.prog 59 [.pointer (some ⟨b,0,none⟩),lf].toArray w fun e w'=>∃x,e=.returned x∧Nw w w' x 3 1 nE (l.map (numF vars)):=by
 refine enter Tryz.func59 mixed low59 (Nat.le_of_ble_eq_true rfl) ?_
 simp only [L59]
 unfold hrO at ho
 have h1:=At.nil (E:=3) (sz:=1) (enc:=nE) .emp (At.start rfl:At w [] Emp w)
 simp [hl.len]
 refine range_loop (n:=l.length) (by omega) (fun k ρ w'=>ρ 0=.pointer (some ⟨b,0,none⟩)∧ρ 8=lf∧At w [] (Star (OwnA (ρ 5) 3 1 nE ((l.take k).map (numF vars))) Emp) w') (by simp) (by simp)
  ⟨by simp,by simp,by simpa using h1⟩ (by decide) (fun _ _ _ _ h=>by simpa using h) (fun _ _ _ _ h=>by simpa using h) ?_ ?_
 rotate_left
 ·rintro ρ w2 ⟨_,_,h2⟩
  rw [List.take_length] at h2
  simp
  exact Nw.of h2
 rintro k ρ w2 hk hck hlk ⟨g0,g8,h2⟩
 have hl2:=hl.kp0 h2.kp
 obtain ⟨f,hfe⟩:∃f,l[k]? = some f:=⟨_,List.getElem?_eq_getElem hk⟩
 obtain ⟨f1,f2⟩:=hr f (List.mem_of_getElem? hfe)
 have ec:=hl2.cells fcE_len hfe
 simp only [fcE] at ec
 obtain ⟨fb,hfb⟩:∃fb,fb=w2.heap.size:=⟨_,rfl⟩
 have hki:(k:Int) < l.length:=by omega
 simp (disch:=omega) [g8,hck,hlk,hl2.idx,ec,←hfb]
 refine st_fa (f:=faN f) (Lcl.own.star .emp) h2 hfb fun w3 h3=>?_
 have of3:=h3.obj
 simp only [faN,faO] at of3
 have ho3:=h3.kp.blk ho (by simp)
 have hf3:=hf.kp0 h3.kp
 have efc:=nE_cell hf3 (firsts_at (vars:=vars) f1)
 have hfl:(firsts vars vars.length).length=vars.length:=by simp [firsts]
 have hf1i:(f.1:Int) < vars.length:=by omega
 have hnl:=numF_lt f1 f2
 obtain ⟨x,hx⟩:∃x,x=numF vars f:=⟨_,rfl⟩
 have ex:((psum vars f.1:Nat):Int)+(f.2:Nat)=(x:Int):=by rw [hx]; unfold numF; simp
 rw [←hx] at hnl
 have h4:=h3.drop
 have hLX:Lcl (Star (OwnA (ρ 5) 3 1 nE ((l.take k).map (numF vars))) Emp):=Lcl.own.star .emp
 simp (disch:=omega) [g0,cell_blk ho3,cell_blk of3,←hfb,hf3.idx,hfl,efc,wrap_i64,ex,rowOf]
 have h4d:=h4.drew hLX
 refine nat_append .emp h4d (by simp; omega) fun v' w5 h5=>?_
 have e:(l.take (k+1)).map (numF vars)=(l.take k).map (numF vars) ++ [x]:=by rw [take_snoc hfe,List.map_append,List.map_singleton,←hx]
 rw [←e] at h5
 simp [g0,g8,hck,hlk]
 simpa using h5
end Go.Proofs.YtolkjbmcindhjaaGreat
end
