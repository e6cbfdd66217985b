/-
  A part of the proof of this claim's statement (LmW7, LmW8, LdL): plain theorems; no conditions beyond those each names.
-/
import Derived.Test.YtolkjbmcindhjaaGreatPk25
import Derived.Test.YtolkjbmcindhjaaGreatPk24
set_option maxRecDepth 100000
set_option linter.unusedSimpArgs false
set_option linter.unusedVariables false
set_option linter.unusedSectionVars false
section
namespace Go.Proofs.YtolkjbmcindhjaaGreat
open Go Go.W Go.Tk Go.Rx Go.Lm Go.Maps
structure Ct where
 ov:Cell1
 ops:List Nat
 cost:Nat
def ctE (c:Ct):List Value:=[c.ov.1,.int .i64 (c.cost:Nat)]
theorem ctE_len (c:Ct):(ctE c).length=2:=rfl
theorem ctE_one (c:Ct):(ctE c).all oneC=true:=by simp [ctE,c.ov.2]
def ctP (c:Ct):List Nat × Nat:=(c.ops,c.cost)
def ctW (c:Ct):Cell1 × List Nat:=(c.ov,c.ops)
def CtsV (w:World) (v:Value) (out:List (List Nat × Nat)):Prop:=∃cs:List Ct,cs.map ctP=out∧Vw w v ctE cs∧∀c ∈ cs,Vw w c.ov.1 nE c.ops
def CutsP (UL:List Un) (S0 G:List Nat) (c:Nat→Nat) (x:Value) (w':World):Prop:=∃r,LmC UL S0 G c r∧match r with
 | none=>x=.tuple #[.slice none 0 0,errV 3]
 | some out=>∃v,x=.tuple #[v,.nilIface]∧CtsV w' v out
def minL (c:Nat→Nat) (L:List Nat):Nat:=L.foldl (fun m op=>min m (c op)) 1048576
theorem min_take {c:Nat→Nat} {L:List Nat} {k op:Nat} (h:L[k]? = some op):minL c (L.take (k+1))=min (minL c (L.take k)) (c op):=by
 rw [take_snoc h]; unfold minL; rw [List.foldl_append]; rfl
theorem minL_le {c:Nat→Nat}:∀(L:List Nat),minL c L≤1048576∧∀op ∈ L,minL c L≤c op:=fun L=>by
 induction L using snoc_ind with
 | h0=>simp [minL]
 | h l x ih =>
  have e:minL c (l ++ [x])=min (minL c l) (c x):=by unfold minL; rw [List.foldl_append]; rfl
  rw [e]
  refine ⟨by have:=ih.1; omega,fun op hop=>?_⟩
  rcases List.mem_append.1 hop with h | h
  ·have:=ih.2 op h; omega
  ·simp at h; subst h; omega
theorem minL_at {c:Nat→Nat}:∀(L:List Nat),minL c L=1048576∨∃op ∈ L,c op=minL c L:=fun L=>by
 induction L using snoc_ind with
 | h0=>exact .inl rfl
 | h l x ih =>
  have e:minL c (l ++ [x])=min (minL c l) (c x):=by unfold minL; rw [List.foldl_append]; rfl
  by_cases hx:c x≤minL c l
  ·exact .inr ⟨x,by simp,by rw [e]; omega⟩
  ·have e2:minL c (l ++ [x])=minL c l:=by rw [e]; omega
   rw [e2]
   rcases ih with h | ⟨op,ho,h⟩
   ·exact .inl h
   ·exact .inr ⟨op,by simp [ho],h⟩
theorem minL_in {c:Nat→Nat} {L:List Nat} (hne:L≠[]) (hb:∀op ∈ L,c op≤1048576):∃op ∈ L,c op=minL c L:=by
 rcases minL_at (c:=c) L with h | h
 ·obtain ⟨x,hx⟩:=List.exists_mem_of_ne_nil L hne
  refine ⟨x,hx,?_⟩
  have:=(minL_le (c:=c) L).2 x hx
  have:=hb x hx
  omega
 ·exact h
theorem cf_tab {n:Nat} {f:Nat→Nat} (h:∀i,n≤i→f i=0):cf (tabN n f)=f:=by
 funext i
 unfold cf
 by_cases hi:i < n
 ·simp only [List.getD,tabN_at hi,Option.getD_some]
 ·have:(tabN n f)[i]? = none:=List.getElem?_eq_none_iff.2 (by rw [tabN_len]; omega)
  simp only [List.getD,this,Option.getD_none]
  exact (h i (by omega)).symm
theorem cf_out {l:List Nat} {i:Nat} (h:l.length≤i):cf l i=0:=by
 unfold cf
 simp [List.getD,List.getElem?_eq_none_iff.2 h]
theorem tab_cf (l:List Nat):tabN l.length (cf l)=l:=by
 apply List.ext_getElem
 ·exact tabN_len _ _
 ·intro i h1 h2
  simp [tabN,cf,List.getD,h2]
theorem sub_out {l L:List Nat} {m i:Nat} (h:l.length≤i):sub (cf l) L m i=0:=by
 unfold sub
 rw [cf_out h]
 split <;> omega
theorem sub_step {c:Nat→Nat} {L:List Nat} {m k op:Nat} (h:L[k]? = some op) (hn:op ∉ L.take k):updN (sub c (L.take k) m) op (c op - m)=sub c (L.take (k+1)) m:=by
 funext i
 rw [take_snoc h]
 by_cases e:i=op
 ·subst e; simp [sub]
 ·rw [updN_ne e]
  unfold sub
  by_cases hi:i ∈ L.take k
  ·rw [if_pos hi,if_pos (by simp [hi])]
  ·rw [if_neg hi,if_neg (by simp [hi,e])]
theorem asc_take {L:List Nat} {k op:Nat} (h:L.Pairwise (· < ·)) (hk:L[k]? = some op):op ∉ L.take k:=fun hm=>by
 obtain ⟨i,hi,e⟩:=List.getElem_of_mem hm
 obtain ⟨hk2,e2⟩:=List.getElem?_eq_some_iff.1 hk
 rw [List.length_take] at hi
 rw [List.getElem_take] at e
 have:=List.pairwise_iff_getElem.1 h i k (by omega) hk2 (by omega)
 omega
end Go.Proofs.YtolkjbmcindhjaaGreat
end
section
namespace Go.Proofs.YtolkjbmcindhjaaGreat
open Go Go.W Go.Tk Go.Rx Go.Lm Go.Maps
def CuB (ov dv:Value) (left:List Nat) (cs:List Ct):Asr:=Star (OwnA dv 3 1 nE left) (Star (OwnA ov 63 2 ctE cs) (Star (VwsA nE (cs.map ctW)) Emp))
theorem CuB.lcl {ov dv:Value} {left:List Nat} {cs:List Ct}:Lcl (CuB ov dv left cs):=Lcl.own.star (Lcl.own.star (Lcl.vws.star .emp))
def CuI (b:Nat) (sv dv:Value) (UL:List Un) (S0 G C0:List Nat) (w:World) (n:Nat) (ρ:Env) (w':World):Prop :=
 ρ 0=.pointer (some ⟨b,0,none⟩)∧ρ 1=sv∧ρ 6=dv∧∃left cs,left.length=C0.length∧(∀x ∈ left,x≤1048576)∧n=posN (cf left) C0.length∧cs.length+n≤C0.length ∧
  (∀r,LmC UL S0 G (cf left) r→LmC UL S0 G (cf C0) (r.map (cs.map ctP ++ ·)))∧At w [] (CuB (ρ 7) dv left cs) w'
theorem cut_pre {UL:List Un} {S0 G:List Nat} {c0 c:Nat→Nat} {done:List (List Nat × Nat)} {V:Nat→Nat} {L:List Nat} {m:Nat} (hp:∀r,LmC UL S0 G c r→LmC UL S0 G c0 (r.map (done ++ ·))) (hV:IsVal (wc UL c) S0 V) (h0:0 < gr V G) (hi:gr V G < Inf) (hc:IsCut UL c S0 G V L m) (r:Option (List (List Nat × Nat))) (hr:LmC UL S0 G (sub c L m) r):LmC UL S0 G c0 (r.map (done ++ [(L,m)] ++ ·)):=by
 have:=hp _ (.cut hV h0 hi hc hr)
 cases r with
 | none=>exact this
 | some o =>
  simp only [Option.map_some] at this ⊢
  rw [List.append_assoc]
  exact this
theorem sum_szs {UL:List Un} {S0 left:List Nat} {N:Nat} (hL:LuOk UL N left.length) (hS:∀x ∈ S0,x < N) (hb:∀x ∈ left,x≤1048576):Szs UL S0 N 1048576 (cf left):=⟨hL.made,hS,fun u hu=>by
 have:=hL.op u hu
 have h2:cf left u.op ∈ left:=mem_getD this
 exact hb _ h2,by
 have:=hL.nn
 have h3:N * 1048576≤4096 * 1048576:=Nat.mul_le_mul_right _ this
 unfold Inf; omega⟩
section
variable {w:World} {b:Nat} {vars G C0:List Nat} {UL:List Un} {vv fv gv cv lv:Value} {rs:List Lu}
set_option maxHeartbeats 4000000 in
theorem cuts_walk (sv:Value) (s:List Nat) (hR:HrR b vars G C0 UL vv fv gv cv lv rs w) (hs:Vw w sv nE s) (hst:StN vars s) (hL:LuOk UL vars.sum C0.length) (hvl:vars.length≤64) (hG:∀x ∈ G,x < vars.sum) (hGl:G.length≤1000000) (hCb:∀x ∈ C0,x≤1048576) (hCl:C0.length≤4096) :
  Calls Tryz.prog 21 [.pointer (some ⟨b,0,none⟩),sv].toArray w fun e w'=>∃x,e=.returned x∧CutsP UL (stN vars s vars.length) G (cf C0) x w'∧Kp [] w w':=by
 refine enter Tryz.func21 mixed low21 (Nat.le_of_ble_eq_true rfl) ?_
 simp only [L21]
 have hlen:=hst.len
 have hob:=hR.obj
 simp [cell_blk hob]
 refine cl_of (tproper_spec vv sv _ _ (vw_n.2 hR.vvw) (vw_n.2 hs) (by simp; omega)) ?_
 rintro _ w1 ⟨rfl,k1⟩
 rw [hst.ok]
 have hR1:=hR.kp k1
 have hob1:=hR1.obj
 simp [cell_blk hob1]
 refine cl_of (cloneI_spec cv C0 hR1.costs (by omega)) ?_
 rintro dv w2 n2
 simp
 have h2:At w [] (Star (OwnA dv 3 1 nE C0) Emp) w2:=At.nw .emp ((At.start rfl:At w [] Emp w).kp0 .emp k1) n2
 have h3:At w [] (CuB (.slice none 0 0) dv C0 []) w2:=by
  unfold CuB
  exact (At.nil (E:=63) (sz:=2) (enc:=ctE) (Lcl.vws.star (Lcl.own.star .emp)) (VwsA.nil (enc:=nE) (Lcl.own.star .emp) h2)).by Imp.fr3
 obtain ⟨S0,hS0⟩:∃S0,S0=stN vars s vars.length:=⟨_,rfl⟩
 have hS0b:∀x ∈ S0,x < vars.sum:=by rw [hS0]; exact stN_sum hst
 rw [←hS0]
 refine loop_inv (CuI b sv dv UL S0 G C0 w) (posN (cf C0) C0.length) ⟨by simp,by simp,by simp,C0,[],rfl,hCb,rfl,by have:=posN_le (c:=cf C0) C0.length; simpa using this,fun r hr=>by
  have:r.map (List.map ctP [] ++ ·)=r:=by cases r <;> simp
  rw [this]; exact hr,by simpa using h3⟩ ?_
 clear h2 h3 hR1 hob1 hob
 rintro n ρ w3 ⟨g0,g1,g6,left,cs,hll,hlb,rfl,hcn,hpre,h3⟩
 obtain ⟨ov,g7⟩:∃v,ρ 7=v:=⟨_,rfl⟩
 rw [g7] at h3
 have hR3:=hR.kp h3.kp
 have hs3:=hs.kp0 h3.kp
 have hd3:=At.own (h3.by (show Imp (CuB ov dv left cs) (Star (OwnA dv 3 1 nE left) _) from Imp.rfl))
 have hLl:LuOk UL vars.sum left.length:=by rw [hll]; exact hL
 simp [g0,g1,g6]
 refine cl_of (values35_walk sv dv s left hR3 hs3 hst hd3.vw hlb hLl hvl) ?_
 rintro tv w4 ⟨V,hV,n4⟩
 rw [←hS0] at hV
 have h4:At w [] (Star (OwnA tv 3 1 nE (tabN vars.sum V)) (CuB ov dv left cs)) w4:=At.nw CuB.lcl h3 n4
 have hR4:=hR.kp h4.kp
 have hob4:=hR4.obj
 simp [g0,cell_blk hob4]
 refine cl_of (highest_walk gv tv G vars.sum V hR4.goal h4.own.vw hG hGl) ?_
 rintro _ w5 ⟨rfl,k5⟩
 have h5:=h4.kp0 (Lcl.own.star CuB.lcl) k5
 have hInf:Inf=1125899906842624:=rfl
 have hgle:gr V G≤Inf:=gr_le_iff.2 fun f _=>hV.le f
 by_cases s1:gr V G=Inf
 ·have s1':(gr V G:Int)=1125899906842624:=by omega
  simp [s1']
  refine ⟨⟨none,hpre none (.inf hV (by omega)),?_⟩,h5.kp⟩
  simp [errV]
 have s1':((gr V G:Int) == 1125899906842624)=false:=by simp; omega
 have s1i:¬(gr V G:Int)=1125899906842624:=by omega
 by_cases s2:gr V G=0
 ·have s2':(gr V G:Int)=0:=by omega
  simp [s1',s1i,s2',s2,g7]
  have h6:=h5.drop
  unfold CuB at h6
  have hcsv:CtsV w5 ov (cs.map ctP):=⟨cs,rfl,h6.drop.own.vw,fun c hc=>h6.drop.drop.vws (p:=ctW c) (List.mem_map.2 ⟨c,hc,rfl⟩)⟩
  have:=hpre (some []) (.nil hV s2)
  simp at this
  exact ⟨⟨_,this,⟨ov,by simp,by simpa using hcsv⟩⟩,h5.kp⟩
 have s2':((gr V G:Int) == 0)=false:=by simp; omega
 have s2i:¬(gr V G:Int)=0:=by omega
 have hg0:0 < gr V G:=by omega
 have hgi:gr V G < Inf:=by omega
 obtain ⟨g,hg⟩:∃g,gst V G=some g:=by
  rcases gst_spec (V:=V) G with ⟨e,_⟩ | ⟨g,e,_⟩
  ·rw [e] at hg0; simp [gr] at hg0
  ·exact ⟨g,e⟩
 have hgv:=(gst_some hg).val
 simp [s1',s1i,s2',s2i,s2,g0,g1,g6]
 have hd5:=h5.drop.own.vw
 have ht5:=h5.own.vw
 refine cl_of (cut_walk sv dv tv s left V g (hR.kp h5.kp) (hs.kp0 h5.kp) hst hd5 ht5 hLl hvl hG hGl hg) ?_
 rintro lv5 w6 ⟨L,hLx,hLp,hLl2,n6⟩
 rw [←hS0] at hLx
 have h6:At w [] (Star (OwnA lv5 3 1 nE L) (CuB ov dv left cs)) w6:=At.nw CuB.lcl (h5.drop.kp0 CuB.lcl (Kp.refl [] _)) n6
 have hz:=sum_szs hLl hS0b hlb
 obtain ⟨op0,hop0⟩:=xo_ex hz hV (by rw [hgv]; exact hg0) (by rw [hgv]; exact hgi)
 have hne:L≠[]:=fun e=>by have:=(hLx op0).2 hop0; rw [e] at this; cases this
 have hLop:∀op ∈ L,op < left.length:=fun op ho=>by
  obtain ⟨a,ha,rfl,_⟩:=(hLx op).1 ho
  exact (arcs_ok hLl).op a ha
 have hcb:∀op ∈ L,cf left op≤1048576:=fun op ho=>hlb _ (mem_getD (hLop op ho))
 obtain ⟨m,hm⟩:∃m,m=minL (cf left) L:=⟨_,rfl⟩
 have hmle:=minL_le (c:=cf left) L
 rw [←hm] at hmle
 have hcut:IsCut UL (cf left) S0 G V L m:=⟨⟨g,hg,hLx⟩,hLp,hmle.2,by rw [hm]; exact minL_in hne hcb⟩
 have hless:=hcut.less hV hg0 hgi (n:=C0.length) (fun u hu=>by have:=hLl.op u hu; omega)
 obtain ⟨cb,hcb2⟩:∃cb,cb=w6.heap.size:=⟨_,rfl⟩
 have hL6:Lcl (Star (OwnA lv5 3 1 nE L) (CuB ov dv left cs)):=Lcl.own.star CuB.lcl
 have o5:=h6.own.o1
 have a7:=h6.alloc (.cells #[.slice none 0 0,.int .i64 0] 63 (0,0)) hL6
 rw [←hcb2] at a7
 have c5:=h6.own.c1
 simp [←hcb2,c5]
 refine a7.st hL6 (by simp) (by simp [o5]) fun w8 h8=>?_
 have h8:At w [] (Star (ObjA cb (.cells #[lv5,.int .i64 1048576] 63 (0,0))) (Star (OwnA lv5 3 1 nE L) (CuB ov dv left cs))) w8:=by simpa using h8
 have hoc8:=h8.obj
 have hd8:=h8.drop.drop.own.vw
 -- the least cost
 have hle:=hcut.le
 simp [cell_blk hoc8,←hcb2,h8.drop.own.vw.len]
 refine range_loop (n:=L.length) (by omega) (fun k ρ w'=>ρ 0=.pointer (some ⟨b,0,none⟩)∧ρ 1=sv∧ρ 6=dv∧ρ 7=ov∧ρ 10=.pointer (some ⟨cb,0,none⟩)∧ρ 54=lv5∧At w [] (Star (ObjA cb (.cells #[lv5,.int .i64 (minL (cf left) (L.take k):Nat)] 63 (0,0))) (Star (OwnA lv5 3 1 nE L) (CuB ov dv left cs))) w') (by simp) (by simp)
  ⟨by simp [g0],by simp [g1],by simp [g6],by simp [g7],by simp [←hcb2],by simp,by simpa [minL] using h8⟩ (by decide) (fun _ _ _ _ h=>by simpa using h) (fun _ _ _ _ h=>by simpa using h) ?_ ?_
 ·clear g0 g1 g6 g7 h3 h4 h5 h6 h8 hoc8 hd8 a7
  rintro k ρ w9 hk hck hlk ⟨g0,g1,g6,g7,g10,g54,h9⟩
  have hoc:=h9.obj
  have hlv:=h9.drop.own.vw
  have hdv:=h9.drop.drop.own.vw
  obtain ⟨op,hop⟩:∃op,L[k]? = some op:=⟨_,List.getElem?_eq_getElem hk⟩
  have hopl:=hLop op (List.mem_of_getElem? hop)
  obtain ⟨x,hx⟩:∃x,left[op]? = some x:=⟨_,List.getElem?_eq_getElem hopl⟩
  have hxd:cf left op=x:=by unfold cf; simp [List.getD,hx]
  have hki:(k:Int) < L.length:=by omega
  have hopi:(op:Int) < left.length:=by omega
  have hmt:=min_take (c:=cf left) hop
  rw [hxd] at hmt
  obtain ⟨mk,hmk⟩:∃mk,mk=minL (cf left) (L.take k):=⟨_,rfl⟩
  rw [←hmk] at hmt hoc h9
  have emin:min (mk:Int) (x:Int)=((min mk x:Nat):Int):=by omega
  have hLX:Lcl (Star (OwnA lv5 3 1 nE L) (CuB ov dv left cs)):=Lcl.own.star CuB.lcl
  simp (disch:=omega) [g6,g10,g54,hck,hlk,hlv.idx,nE_cell hlv hop,cell_blk hoc,hdv.idx,nE_cell hdv hx,emin]
  have h9d:=h9.drew (Lcl.obj.star hLX)
  refine h9d.st hLX (by simp) (by simp) fun w10 h10=>?_
  simp [g0,g1,g6,g7,g10,g54,hck,hlk]
  rw [hmt]
  simpa using h10
 clear g0 g1 g6 g7 h3 h4 h5 h6 h8 hoc8 hd8 a7
 rintro ρ w8 ⟨g0,g1,g6,g7,g10,_,h8⟩
 rw [List.take_length,←hm] at h8
 have hoc8:=h8.obj
 have h8':At w [] (Star (OwnA dv 3 1 nE (tabN left.length (sub (cf left) (L.take 0) m))) (Star (ObjA cb (.cells #[lv5,.int .i64 (m:Nat)] 63 (0,0))) (Star (OwnA lv5 3 1 nE L) (Star (OwnA ov 63 2 ctE cs) (Star (VwsA nE (cs.map ctW)) Emp))))) w8:=by
  have e:tabN left.length (sub (cf left) (L.take 0) m)=left:=by
   have:sub (cf left) (L.take 0) m=cf left:=by funext i; simp [sub]
   rw [this,tab_cf]
  rw [e]
  unfold CuB at h8
  exact h8.by Imp.fr3
 have hLY:Lcl (Star (ObjA cb (.cells #[lv5,.int .i64 (m:Nat)] 63 (0,0))) (Star (OwnA lv5 3 1 nE L) (Star (OwnA ov 63 2 ctE cs) (Star (VwsA nE (cs.map ctW)) Emp)))):=Lcl.obj.star (Lcl.own.star (Lcl.own.star (Lcl.vws.star .emp)))
 simp [g10,cell_blk hoc8,h8.drop.own.vw.len]
 refine range_loop (n:=L.length) (by omega) (fun k ρ w'=>ρ 0=.pointer (some ⟨b,0,none⟩)∧ρ 1=sv∧ρ 6=dv∧ρ 7=ov∧ρ 10=.pointer (some ⟨cb,0,none⟩)∧ρ 70=lv5∧At w [] (Star (OwnA dv 3 1 nE (tabN left.length (sub (cf left) (L.take k) m))) (Star (ObjA cb (.cells #[lv5,.int .i64 (m:Nat)] 63 (0,0))) (Star (OwnA lv5 3 1 nE L) (Star (OwnA ov 63 2 ctE cs) (Star (VwsA nE (cs.map ctW)) Emp))))) w') (by simp) (by simp)
  ⟨by simp [g0],by simp [g1],by simp [g6],by simp [g7],by simp [g10],by simp,by simpa using h8'⟩ (by decide) (fun _ _ _ _ h=>by simpa using h) (fun _ _ _ _ h=>by simpa using h) ?_ ?_
 ·clear g0 g1 g6 g7 g10 h8 h8' hoc8
  rintro k ρ w9 hk hck hlk ⟨g0,g1,g6,g7,g10,g70,h9⟩
  have hoc:=h9.drop.obj
  have hlv:=h9.drop.drop.own.vw
  have hdv:=h9.own.vw
  obtain ⟨op,hop⟩:∃op,L[k]? = some op:=⟨_,List.getElem?_eq_getElem hk⟩
  have hopm:=List.mem_of_getElem? hop
  have hopl:=hLop op hopm
  have hnot:=asc_take hLp hop
  have hstp:=sub_step (c:=cf left) (m:=m) hop hnot
  have hmx:=hle op hopm
  obtain ⟨x,hx⟩:∃x,x=cf left op:=⟨_,rfl⟩
  rw [←hx] at hmx hstp
  have hxb:x≤1048576:=by rw [hx]; exact hcb op hopm
  have ev:sub (cf left) (L.take k) m op=x:=by unfold sub; rw [if_neg hnot,hx]
  have hki:(k:Int) < L.length:=by omega
  have hopi:(op:Int) < left.length:=by omega
  have htl:(tabN left.length (sub (cf left) (L.take k) m)).length=left.length:=tabN_len _ _
  have cx:=nE_cell hdv (tabN_at (g:=sub (cf left) (L.take k) m) hopl)
  rw [ev] at cx
  obtain ⟨y,hy⟩:∃y,y=x - m:=⟨_,rfl⟩
  rw [←hy] at hstp
  have ey:(x:Int) - (m:Int)=(y:Int):=by omega
  simp (disch:=omega) [g6,g10,g70,hck,hlk,hlv.idx,nE_cell hlv hop,cell_blk hoc,hdv.idx,htl,cx,ey,wrap_i64]
  rw [adr_own h9.own (by omega:op < (tabN left.length (sub (cf left) (L.take k) m)).length)]
  have h9d:=h9.drew (Lcl.own.star hLY)
  refine h9d.store1 hLY nE_len nE_one (k:=op) (by omega) (x:=y) rfl fun w10 h10=>?_
  rw [tabN_set hopl,hstp] at h10
  simp [g0,g1,g6,g7,g10,g70,hck,hlk]
  exact h10
 clear g0 g1 g6 g7 g10 h8 h8' hoc8
 rintro ρ w8 ⟨g0,g1,g6,g7,g10,_,h8⟩
 rw [List.take_length] at h8
 have hoc8:=h8.drop.obj
 have rc:cellsAt w8 ⟨cb,0,none⟩ 0 2=some [lv5,.int .i64 (m:Nat)]:=by simp [cellsAt,Addr.add,cell_blk hoc8]
 obtain ⟨ct,hct⟩:∃ct:Ct,ct=⟨⟨lv5,o5⟩,L,m⟩:=⟨_,rfl⟩
 have h9:=h8.by Imp.fr4
 have hLZ:Lcl (Star (OwnA dv 3 1 nE (tabN left.length (sub (cf left) L m))) (Star (ObjA cb (.cells #[lv5,.int .i64 (m:Nat)] 63 (0,0))) (Star (OwnA lv5 3 1 nE L) (Star (VwsA nE (cs.map ctW)) Emp)))):=Lcl.own.star (Lcl.obj.star (Lcl.own.star (Lcl.vws.star .emp)))
 have h9a:=h9.kp0 (Lcl.own.star hLZ) ((Kp.refl [] w8).alloc (.cells #[lv5,.int .i64 (m:Nat)] 63))
 simp [g7,g10,rc,rowOf]
 refine At.append (xs:=[ct]) hLZ h9a ctE_len ctE_one sl_57 rfl (fun j u hj=>?_) (by omega) (by unfold maxLen; omega) fun ov' w10 h10=>?_
 ·rw [add_none,cell_blk alloc_new]
  simpa [ctE,hct] using hj
 have hcf:cf (tabN left.length (sub (cf left) L m))=sub (cf left) L m:=cf_tab fun i hi=>sub_out hi
 simp
 refine ⟨_,hless,by simp [g0],by simp [g1],by simp [g6],tabN left.length (sub (cf left) L m),cs ++ [ct],by rw [tabN_len]; exact hll,fun x hx=>?_,by rw [hcf],by simp; omega,fun r hr=>?_,?_⟩
 ·unfold tabN at hx
  obtain ⟨i,hi,rfl⟩:=List.mem_map.1 hx
  have hi:=List.mem_range.1 hi
  have:=hlb _ (mem_getD (l:=left) hi)
  have h2:cf left i≤1048576:=this
  unfold sub
  split <;> omega
 ·rw [hcf] at hr
  have:=cut_pre hpre hV hg0 hgi hcut r hr
  rw [List.map_append,hct]
  exact this
 ·simp
  unfold CuB
  have e1:(cs ++ [ct]).map ctW=cs.map ctW ++ [(⟨lv5,o5⟩,L)]:=by rw [List.map_append,hct]; rfl
  rw [e1]
  have h11:=h10.by (Imp.sw.trans (Imp.un (Imp.un Imp.dr)))
  exact h11.by (Imp.un (Imp.un (Imp.ow.trans (VwsA.add o5))))
end
end Go.Proofs.YtolkjbmcindhjaaGreat
end
section
namespace Go.Proofs.YtolkjbmcindhjaaGreat
open Go Go.W Go.Tk Go.Rx Go.Lm Go.Maps Go.Sx
structure Ro where
 iv:Cell1
 ins:List Bool
 cost:Nat
def roE (r:Ro):List Value:=[r.iv.1,.int .i64 (r.cost:Nat)]
theorem roE_len (r:Ro):(roE r).length=2:=rfl
theorem roE_one (r:Ro):(roE r).all oneC=true:=by simp [roE,r.iv.2]
def roW (r:Ro):Cell1 × List Bool:=(r.iv,r.ins)
def roP (r:Ro):Rw:=(r.ins,r.cost)
def roO (r:Ro):Obj:=.cells #[r.iv.1,.int .i64 (r.cost:Nat)] 230 (0,0)
theorem st_ro {k:Ro} {b:Nat} {w wa:World} {F:List Nat} {X:Asr} {KW:Kont World} (hX:Lcl X) (h:At w F X wa) (hb:b=wa.heap.size) (H:∀w2,At w F (Star (ObjA b (roO k)) X) w2→KW.run w2) :
  @stJ (wa.alloc (.cells #[.slice none 0 0,.int .i64 0] 230 (0,0))) ⟨b,0,none⟩ [k.iv.1,.int .i64 (k.cost:Nat)] KW:=by
 have h1:At w F (Star (ObjA b (.cells #[.slice none 0 0,.int .i64 0] 230 (0,0))) X) (wa.alloc (.cells #[.slice none 0 0,.int .i64 0] 230 (0,0))):=by rw [hb]; exact h.alloc _ hX
 exact h1.st hX (by simp) (by simp [k.iv.2]) fun w2 h2=>H w2 (by simpa [roO] using h2)
def rwsN (cs:List Nat) (ks:List (List Nat)) (n:Nat):List Rw:=((List.range n).map fun op=>((inB ks op,cs.getD op 0):Rw)).filter fun r=>r.1.any id
theorem rwsN_succ {cs:List Nat} {ks:List (List Nat)} {n:Nat}:rwsN cs ks (n+1)=rwsN cs ks n ++ if (inB ks n).any id then [(inB ks n,cs.getD n 0)] else []:=by
 unfold rwsN
 rw [List.range_succ,List.map_append,List.filter_append]
 congr 1
 by_cases h:(inB ks n).any id=true
 ·rw [if_pos h]; simp [h]
 ·rw [if_neg h]; simp [h]
theorem rwsN_len {cs:List Nat} {ks:List (List Nat)} {n:Nat}:(rwsN cs ks n).length≤n:=by
 unfold rwsN
 refine Nat.le_trans (List.length_filter_le _ _) ?_
 simp
theorem inB_tab {ks:List Kt} {op:Nat}:inB (kOps ks) op=tabB ks.length fun j=>decide (j < ks.length) && decide (op ∈ (kOps ks).getD j []):=by
 apply List.ext_getElem
 ·simp [inB,tabB,kOps]
 ·intro i h1 h2
  simp [inB,kOps] at h1
  simp [inB,tabB,kOps,List.getD_eq_getElem?_getD,h1]
def inK (ks:List Kt) (i k:Nat):Nat→Bool:=fun j=>decide (j < k) && decide (i ∈ (kOps ks).getD j [])
def RowA (v:Value) (rs:List Ro):Asr:=Star (OwnA v 230 2 roE rs) (Star (VwsA bE (rs.map roW)) Emp)
theorem RowA.lcl {v:Value} {rs:List Ro}:Lcl (RowA v rs):=Lcl.own.star (Lcl.vws.star .emp)
def RwI (w:World) (cv kv:Value) (cs:List Nat) (ks:List Kt) (i:Nat) (ρ:Env) (w':World):Prop :=
 ρ 0=cv∧ρ 1=kv∧ρ 17=cv∧∃rs,rs.map roP=rwsN cs (kOps ks) i∧At w [] (RowA (ρ 5) rs) w'
def RkI (w:World) (ov:Value) (rs:List Ro) (i:Nat) (ρ:Env) (w':World):Prop :=
 ∃qs,qs.map roP=keptN (rs.map roP) i∧(∀r ∈ qs,r ∈ rs)∧At w [] (Star (OwnA (ρ 11) 230 2 roE qs) (RowA ov rs)) w'
def RbB (rs:List Ro) (i:Nat) (x:Ro) (j:Nat):Bool:=(List.range j).any (betB (rs.map roP) i (roP x))
theorem RbB_succ {rs:List Ro} {i:Nat} {x y:Ro} {j:Nat} (hy:rs[j]? = some y):RbB rs i x (j+1)=(RbB rs i x j || (decide (i≠j) && decide (x.ins=y.ins) && (decide (y.cost < x.cost) || (decide (y.cost=x.cost) && decide (j < i))))):=by
 unfold RbB
 rw [List.range_succ,List.any_append]
 simp only [List.any_cons,List.any_nil,Bool.or_false]
 congr 1
 unfold betB
 rw [List.getElem?_map,hy]
 rfl
set_option maxHeartbeats 2000000 in
theorem rows_spec {w:World} (cv kv:Value) (cs:List Nat) (ks:List Kt) (hc:Vw w cv nE cs) (hk:KtR w kv ks) (hg:KtG cs ks) :
  Calls Tryz.prog 134 [cv,kv].toArray w fun e w'=>∃u,e=.returned u∧∃rs,rs.map roP=kept (rws cs (kOps ks))∧At w [] (RowA u rs) w':=by
 refine enter Tryz.func134 mixed low134 (Nat.le_of_ble_eq_true rfl) ?_
 simp only [L134]
 have hkl:=hg.len
 have hcl:=hg.clen
 have h0:At w [] (RowA (.slice none 0 0) []) w:=(At.nil (E:=230) (sz:=2) (enc:=roE) (Lcl.vws.star .emp) (VwsA.nil (enc:=bE) .emp (At.start rfl:At w [] Emp w)))
 simp [hc.len]
 refine range_loop (n:=cs.length) (by omega) (RwI w cv kv cs ks) (by simp) (by simp)
  ⟨by simp,by simp,by simp,[],by simp [rwsN],by simpa using h0⟩ (by decide) (fun _ _ _ _ h=>by simpa [RwI] using h) (fun _ _ _ _ h=>by simpa [RwI] using h) ?_ ?_
 ·clear h0
  rintro i ρ w1 hi hci hli ⟨g0,g1,g17,rs,hrs,h1⟩
  obtain ⟨ov,hov⟩:∃ov,ov=ρ 5:=⟨_,rfl⟩
  rw [←hov] at h1
  have g5:=hov.symm
  obtain ⟨co,hco⟩:∃co,cs[i]? = some co:=⟨_,List.getElem?_eq_getElem hi⟩
  have hc1:=hc.kp0 h1.kp
  have hii:(i:Int) < cs.length:=by omega
  simp (disch:=omega) [g0,g1,g17,hci,hli,hc1.idx,nE_cell hc1 hco,(hk.kp h1.kp).vw.len]
  refine gd_mk (by omega) ?_
  have h2:=At.made (E:=4) (enc:=bE) (x:=false) (z:=[.bool false]) (n:=ks.length) RowA.lcl h1 rfl bE_len (by unfold maxLen; omega)
  rw [tabB_false,show fB=inK ks i 0 from by funext j; simp [fB,inK]] at h2
  obtain ⟨iv,hiv⟩:∃iv,iv=Value.slice (some ⟨w1.heap.size,0,none⟩) ks.length ks.length:=⟨_,rfl⟩
  rw [←hiv] at h2
  have hkp2:=h2.kp
  simp [←hiv,g0,g1,(hk.kp hkp2).vw.len]
  have hLR:Lcl (RowA ov rs):=RowA.lcl
  refine range_loop (n:=ks.length) (by omega) (fun k ρ w'=>ρ 0=cv∧ρ 1=kv∧ρ 17=cv∧ρ 19=.int .i64 (i:Nat)∧ρ 18=.int .i64 (cs.length:Nat)∧ρ 5=ov∧ρ 6=.int .i64 (i:Nat)∧ρ 7=.int .i64 (co:Nat)∧ρ 8=iv∧ρ 27=kv∧At w [] (Star (OwnA iv 4 1 bE (tabB ks.length (inK ks i k))) (RowA ov rs)) w') (by simp) (by simp)
   ⟨by simp [g0],by simp [g1],by simp [g17],by simp [hci],by simp [hli],by simp [g5],by simp [hci],by simp,by simp,by simp,h2⟩ (by decide) (fun _ _ _ _ h=>by simpa using h) (fun _ _ _ _ h=>by simpa using h) ?_ ?_
  ·clear h1 h2 hc1 g0 g1 g17 g5 hci hli hiv hov hkp2
   rintro k ρ w3 hkl2 hck hlk ⟨g0,g1,g17,g19,g18,g5,g6,g7,g8,g27,h3⟩
   obtain ⟨kt,hkt⟩:∃kt,ks[k]? = some kt:=⟨_,List.getElem?_eq_getElem hkl2⟩
   have hkm:=List.mem_of_getElem? hkt
   have hR3:=hk.kp h3.kp
   have eck:=hR3.vw.cells ktE_len hkt
   simp only [ktE] at eck
   obtain ⟨kb,hkb⟩:∃kb,kb=w3.heap.size:=⟨_,rfl⟩
   have hkk:(k:Int) < ks.length:=by omega
   simp (disch:=omega) [g27,hck,hlk,hR3.vw.idx,eck,←hkb]
   have hL3:Lcl (Star (OwnA iv 4 1 bE (tabB ks.length (inK ks i k))) (RowA ov rs)):=Lcl.own.star hLR
   refine st_kt (k:=kt) hL3 h3 hkb fun w4 h4=>?_
   have ok4:=h4.obj
   unfold ktO at ok4
   rw [hkb] at ok4
   have hol:=hg.olen hkm
   have ho4:=(hk.kp h4.kp).ops kt hkm
   simp [g6,g8,cell_blk ok4]
   refine cl_of (ctInt_spec kt.ov.1 kt.ops i ho4 (by omega)) ?_
   rintro _ w5 ⟨rfl,k5⟩
   have h5:=(h4.kp0 (Lcl.obj.star hL3) k5).drop
   have o5:=h5.own
   have hki:(k:Int) < (tabB ks.length (inK ks i k)).length:=by rw [tabB_len]; omega
   simp (disch:=omega) [g6,g8,hck,o5.idx]
   refine h5.store1 hLR bE_len bE_one (k:=k) (by rw [tabB_len]; exact hkl2) (x:=decide (i ∈ kt.ops)) rfl fun w6 h6=>?_
   rw [tabB_set hkl2] at h6
   simp [hck,hlk]
   refine ⟨by simp [g0],by simp [g1],by simp [g17],by simp [g19],by simp [g18],by simp [g5],by simp [g6],by simp [g7],by simp [g8],by simp [g27],?_⟩
   have hko:(kOps ks).getD k []=kt.ops:=by unfold kOps; rw [List.getD_eq_getElem?_getD,List.getElem?_map,hkt]; rfl
   have:updN (inK ks i k) k (decide (i ∈ kt.ops))=inK ks i (k+1):=by
    funext x
    by_cases e:x=k
    ·subst e
     rw [updN_same]
     unfold inK
     rw [hko]
     simp
    ·rw [updN_ne e]
     have:decide (x < k)=decide (x < k+1):=by rw [decide_eq_decide]; omega
     simp only [inK,this]
   rw [←this]
   exact h6
  clear h1 h2 hc1 g0 g1 g17 g5 hci hli hiv hov hkp2
  rintro ρ w3 ⟨g0,g1,g17,g19,g18,g5,g6,g7,g8,g27,h3⟩
  have einb:tabB ks.length (inK ks i ks.length)=inB (kOps ks) i:=inB_tab.symm
  rw [einb] at h3
  simp [g8]
  refine cl_of (ctBool_spec iv (inB (kOps ks) i) h3.own.vw (by simp [inB,kOps]; omega)) ?_
  rintro _ w4 ⟨rfl,k4⟩
  have h4:=h3.kp0 (Lcl.own.star hLR) k4
  have hcg:cs.getD i 0=co:=getD_of hco
  by_cases ha:(inB (kOps ks) i).any id=true
  ·have c8:=h4.own.c1
   have o8:=h4.own.o1
   simp [ha,g5,g7,g8,c8]
   refine At.append (E:=230) (sz:=2) (enc:=roE) (xs:=[(⟨⟨iv,o8⟩,inB (kOps ks) i,co⟩:Ro)]) (B:=Star (OwnA iv 4 1 bE (inB (kOps ks) i)) (Star (VwsA bE (rs.map roW)) Emp)) (Lcl.own.star (Lcl.vws.star .emp)) ((h4.by (show Imp (Star (OwnA iv 4 1 bE (inB (kOps ks) i)) (RowA ov rs)) _ from Imp.sw)).kp0 (Lcl.own.star (Lcl.own.star (Lcl.vws.star .emp))) ((Kp.refl [] w4).alloc _)) roE_len roE_one sl_227 rfl (fun j u hj=>?_) (by have:=rwsN_len (cs:=cs) (ks:=kOps ks) (n:=i); rw [←hrs,List.length_map] at this; simp; omega) (by unfold maxLen; have:=rwsN_len (cs:=cs) (ks:=kOps ks) (n:=i); rw [←hrs,List.length_map] at this; simp; omega) fun ov' w10 h10=>?_
   ·rw [add_none,cell_blk alloc_new]
    simpa [roE] using hj
   simp [g19,g18]
   refine ⟨by simp [g0],by simp [g1],by simp [g17],rs ++ [⟨⟨iv,o8⟩,inB (kOps ks) i,co⟩],by rw [rwsN_succ,ha,List.map_append,hrs,hcg]; simp [roP],?_⟩
   unfold RowA
   have e1:(rs ++ [(⟨⟨iv,o8⟩,inB (kOps ks) i,co⟩:Ro)]).map roW=rs.map roW ++ [(⟨iv,o8⟩,inB (kOps ks) i)]:=by rw [List.map_append]; rfl
   rw [e1]
   simpa using h10.by (Imp.un (Imp.ow.trans (VwsA.add o8)))
  ·rw [Bool.not_eq_true] at ha
   simp [ha,g19,g18]
   exact ⟨by simp [g0],by simp [g1],by simp [g17],rs,by rw [rwsN_succ,ha,hrs]; simp,by simpa [g5] using h4.drop⟩
 clear h0
 rintro ρ w1 ⟨g0,g1,g17,rs,hrs,h1⟩
 obtain ⟨ov,hov⟩:∃ov,ov=ρ 5:=⟨_,rfl⟩
 rw [←hov] at h1
 have g5:=hov.symm
 obtain ⟨L,hL⟩:∃L,L=rs.map roP:=⟨_,rfl⟩
 have hLw:L=rws cs (kOps ks):=by rw [hL,hrs]; rfl
 have hlen:rs.length≤4096:=by
  have:=rwsN_len (cs:=cs) (ks:=kOps ks) (n:=cs.length)
  rw [←hrs,List.length_map] at this
  omega
 have h2:=At.nil (E:=230) (sz:=2) (enc:=roE) RowA.lcl h1
 have o1:Go.W.Own w1 ov 230 2 roE rs:=At.own (h1.by (show Imp (RowA ov rs) (Star (OwnA ov 230 2 roE rs) _) from Imp.rfl))
 simp [g5,o1.len]
 refine range_loop (n:=rs.length) (by omega) (fun i ρ w'=>ρ 5=ov∧ρ 52=ov∧RkI w ov rs i ρ w') (by simp) (by simp)
  ⟨by simp [g5],by simp,⟨[],rfl,fun _ h=>absurd h (by simp),by simpa using h2⟩⟩ (by decide) (fun _ _ _ _ h=>by simpa [RkI] using h) (fun _ _ _ _ h=>by simpa [RkI] using h) ?_ ?_
 rotate_left
 ·rintro ρ w3 ⟨g5,g52,qs,hqs,hsub,h3⟩
  simp
  refine ⟨qs,?_,?_⟩
  ·rw [hqs,←hLw,hL]
   unfold kept
   rw [List.length_map]
  ·exact h3.by (Imp.un (Imp.dr.trans (VwsA.sub fun p hp=>by
    obtain ⟨r,hr,rfl⟩:=List.mem_map.1 hp
    exact List.mem_map.2 ⟨r,hsub r hr,rfl⟩)))
 have hil:∀r ∈ rs,r.ins.length≤1000000:=fun r hr=>by
  have h1:roP r ∈ rws cs (kOps ks):=by rw [←hLw,hL]; exact List.mem_map.2 ⟨r,hr,rfl⟩
  unfold rws at h1
  obtain ⟨op,_,e⟩:=List.mem_map.1 (List.mem_filter.1 h1).1
  have:r.ins=inB (kOps ks) op:=(congrArg Prod.fst e).symm
  rw [this]
  simp [inB,kOps]
  omega
 clear h1 h2 o1 g5 hov g0 g1 g17
 rintro i ρ w3 hi hci hli ⟨g5,g52,qs,hqs,hsub,h3⟩
 obtain ⟨qv,hqv⟩:∃qv,qv=ρ 11:=⟨_,rfl⟩
 rw [←hqv] at h3
 have g11:=hqv.symm
 obtain ⟨x,hx⟩:∃x,rs[i]? = some x:=⟨_,List.getElem?_eq_getElem hi⟩
 have hLq:Lcl (Star (OwnA qv 230 2 roE qs) (RowA ov rs)):=Lcl.own.star RowA.lcl
 have ovR:∀{w4:World} {X:Asr},At w [] (Star X (Star (OwnA qv 230 2 roE qs) (RowA ov rs))) w4→Vw w4 ov roE rs:=fun h=>(At.own (h.drop.drop.by (show Imp (RowA ov rs) (Star (OwnA ov 230 2 roE rs) _) from Imp.rfl))).vw
 have insR:∀{w4:World} {X:Asr},At w [] (Star X (Star (OwnA qv 230 2 roE qs) (RowA ov rs))) w4→∀r ∈ rs,Vw w4 r.iv.1 bE r.ins:=fun h r hr=>(At.vws (h.drop.drop.by (show Imp (RowA ov rs) _ from Imp.dr)) (p:=roW r) (List.mem_map.2 ⟨r,hr,rfl⟩))
 have o3:=(At.own (h3.drop.by (show Imp (RowA ov rs) (Star (OwnA ov 230 2 roE rs) _) from Imp.rfl))).vw
 have ex:=o3.cells roE_len hx
 simp only [roE] at ex
 obtain ⟨xb,hxb⟩:∃xb,xb=w3.heap.size:=⟨_,rfl⟩
 have hii:(i:Int) < rs.length:=by omega
 simp (disch:=omega) [g5,g52,hci,hli,o3.idx,ex,←hxb]
 refine st_ro (k:=x) hLq h3 hxb fun w4 h4=>?_
 have o4:=ovR h4
 simp [g5,o4.len]
 refine range_loop (n:=rs.length) (by omega) (fun j ρ w'=>ρ 5=ov∧ρ 52=ov∧ρ 54=.int .i64 (i:Nat)∧ρ 53=.int .i64 (rs.length:Nat)∧ρ 11=qv∧ρ 12=.int .i64 (i:Nat)∧ρ 13=.pointer (some ⟨xb,0,none⟩)∧ρ 59=ov∧ρ 14=.bool (RbB rs i x j)∧At w [] (Star (ObjA xb (roO x)) (Star (OwnA qv 230 2 roE qs) (RowA ov rs))) w') (by simp) (by simp)
  ⟨by simp [g5],by simp [g52],by simp [hci],by simp [hli],by simp [g11],by simp [hci],by simp [←hxb],by simp,by simp [RbB],h4⟩ (by decide) (fun _ _ _ _ h=>by simpa using h) (fun _ _ _ _ h=>by simpa using h) ?_ ?_
 ·clear h3 h4 o3 o4 g5 g52 hci hli g11 hqv hxb ex
  rintro j ρ w5 hj hcj hlj ⟨g5,g52,g54,g53,g11,g12,g13,g59,g14,h5⟩
  obtain ⟨y,hy⟩:∃y,rs[j]? = some y:=⟨_,List.getElem?_eq_getElem hj⟩
  have o5:=ovR h5
  have ey:=o5.cells roE_len hy
  simp only [roE] at ey
  obtain ⟨yb,hyb⟩:∃yb,yb=w5.heap.size:=⟨_,rfl⟩
  have hjj:(j:Int) < rs.length:=by omega
  simp (disch:=omega) [g59,hcj,hlj,o5.idx,ey,←hyb]
  refine st_ro (k:=y) (Lcl.obj.star hLq) h5 hyb fun w6 h6=>?_
  have hox:=h6.drop.obj
  have hoy:=h6.obj
  unfold roO at hox hoy
  by_cases hb:RbB rs i x j=true
  ·simp [g14,hb,hcj,hlj]
   exact ⟨by simp [g5],by simp [g52],by simp [g54],by simp [g53],by simp [g11],by simp [g12],by simp [g13],by simp [g59],by rw [RbB_succ hy,hb]; simp,h6.drop⟩
  rw [Bool.not_eq_true] at hb
  by_cases hij:i=j
  ·have nij:((i:Int) != (j:Int))=false:=by rw [hij]; simp
   simp [g14,hb,hcj,hlj,g12,nij]
   exact ⟨by simp [g5],by simp [g52],by simp [g54],by simp [g53],by simp [g11],by simp [g13],by simp [g59],by rw [RbB_succ hy,hb]; simp [hij],h6.drop⟩
  have nij:((i:Int) != (j:Int))=true:=len_bne hij
  have nie:¬(i:Int)=(j:Int):=by omega
  simp [g14,hb,hcj,hlj,g12,g13,nij,cell_blk hox,cell_blk hoy,←hyb]
  have hL6:Lcl (Star (ObjA yb (roO y)) (Star (ObjA xb (roO x)) (Star (OwnA qv 230 2 roE qs) (RowA ov rs)))):=Lcl.obj.star (Lcl.obj.star hLq)
  have ir6:=insR h6.drop
  have xm:=List.mem_of_getElem? hx
  have ym:=List.mem_of_getElem? hy
  refine cl_of (eqBools_spec x.iv.1 y.iv.1 x.ins y.ins (ir6 x xm) (ir6 y ym) (hil x xm) (hil y ym)) ?_
  rintro _ w7 ⟨rfl,k7⟩
  have h7:=h6.kp0 hL6 k7
  have hox:=h7.drop.obj
  have hoy:=h7.obj
  unfold roO at hox hoy
  by_cases he:x.ins=y.ins
  ·by_cases hlt:y.cost < x.cost
   ·have hlt':(y.cost:Int) < (x.cost:Int):=by omega
    simp [g14,hb,hij,nie,he,g5,g52,g54,g53,g11,g12,g13,g59,hcj,hlj,cell_blk hox,cell_blk hoy,←hyb,g13,hlt,hlt']
    exact ⟨by rw [RbB_succ hy,hb]; simp [hij,he,hlt],h7.drop⟩
   ·have hlt':¬(y.cost:Int) < (x.cost:Int):=by omega
    by_cases hec:y.cost=x.cost
    ·have hec':(y.cost:Int)=(x.cost:Int):=by omega
     simp [g14,hb,hij,nie,he,g5,g52,g54,g53,g11,g12,g13,g59,hcj,hlj,cell_blk hox,cell_blk hoy,←hyb,g12,g13,hlt,hlt',hec,hec']
     exact ⟨by rw [RbB_succ hy,hb]; simp [hij,he,hlt,hec],h7.drop⟩
    ·have hec':((y.cost:Int) == (x.cost:Int))=false:=len_beq hec
     simp [g14,hb,hij,nie,he,g5,g52,g54,g53,g11,g12,g13,g59,hcj,hlj,cell_blk hox,cell_blk hoy,←hyb,g12,g13,hlt,hlt',hec,hec']
     exact ⟨by rw [RbB_succ hy,hb]; simp [hij,he,hlt,hec],h7.drop⟩
  ·simp [g14,hb,hij,nie,he,g5,g52,g54,g53,g11,g12,g13,g59,hcj,hlj]
   exact ⟨by rw [RbB_succ hy,hb]; simp [he],h7.drop⟩
 clear h3 h4 o3 o4 g5 g52 hci hli g11 hqv hxb ex
 rintro ρ w5 ⟨g5,g52,g54,g53,g11,g12,g13,g59,g14,h5⟩
 have hox:=h5.obj
 unfold roO at hox
 have hLi:(rs.map roP)[i]? = some (roP x):=by rw [List.getElem?_map,hx]; rfl
 have hkp:kepB (rs.map roP) i=!RbB rs i x rs.length:=by
  unfold kepB RbB
  rw [hLi,List.length_map]
 by_cases hb:RbB rs i x rs.length=true
 ·simp [g14,hb,g54,g53]
  refine ⟨by simp [g5],by simp [g52],qs,?_,hsub,by simpa [g11] using h5.drop⟩
  rw [hqs]
  unfold keptN
  rw [List.range_succ,List.filter_append]
  simp [hkp,hb]
 ·rw [Bool.not_eq_true] at hb
  have exr:cellsAt w5 ⟨xb,0,none⟩ 0 2=some [x.iv.1,.int .i64 (x.cost:Nat)]:=by simp [cellsAt,Addr.add,cell_blk hox]
  simp [g14,hb,g11,g13,exr]
  have hql:qs.length≤4096:=by
   have h1:(qs.map roP).length≤i:=by
    rw [hqs]
    unfold keptN
    rw [List.length_map]
    refine Nat.le_trans (List.length_filter_le _ _) ?_
    rw [List.length_range]
    exact Nat.le_refl _
   rw [List.length_map] at h1
   omega
  refine At.append (E:=230) (sz:=2) (enc:=roE) (xs:=[x]) (B:=RowA ov rs) RowA.lcl (h5.drop.kp0 hLq ((Kp.refl [] w5).alloc _)) roE_len roE_one sl_227 rfl (fun j u hj=>?_) (by first | omega | (simp; omega)) (by unfold maxLen; first | omega | (simp; omega)) fun ov' w10 h10=>?_
  ·rw [add_none,cell_blk alloc_new]
   simpa [roE] using hj
  simp [g54,g53,g5,g52]
  refine ⟨qs ++ [x],?_,fun r hr=>?_,by simpa using h10⟩
  ·rw [List.map_append,hqs]
   unfold keptN
   rw [List.range_succ,List.filter_append,List.map_append]
   congr 1
   simp [hkp,hb,List.getD_eq_getElem?_getD,hLi,roP]
   rw [List.getElem?_map] at hLi
   simp [hx,roP]
  ·rcases List.mem_append.1 hr with h | h
   ·exact hsub r h
   ·rw [List.mem_singleton] at h
    rw [h]
    exact List.mem_of_getElem? hx
end Go.Proofs.YtolkjbmcindhjaaGreat
end
