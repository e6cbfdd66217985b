/-
  A part of the proof of this claim's statement (LdM, LdN, LdO): plain theorems; no conditions beyond those each names.
-/
import Derived.Test.YtolkjbmcindhjaaGreatPk26
set_option maxRecDepth 100000
set_option linter.unusedSimpArgs false
set_option linter.unusedVariables false
set_option linter.unusedSectionVars false
section
namespace Go.W
theorem Imp.toE {X:Asr}:Imp X Emp:=fun w F _=>⟨[],Eq.refl _,fun x hx=>by cases hx⟩
end Go.W
namespace Go.Sx
theorem tb0_congr {m n:Nat} {A A':Nat→Nat→Rat} {b b':Nat→Rat} (hA:∀i j,A i j=A' i j) (hb:∀i,i < m→b i=b' i):tb0 m n A b=tb0 m n A' b':=by
 have e1:A=A':=by funext i j; exact hA i j
 subst e1
 unfold tb0
 congr 1
 funext i
 by_cases h:i < m
 ·rw [if_pos h,if_pos h,hb i h]
 ·rw [if_neg h,if_neg h]
end Go.Sx
namespace Go.Proofs.YtolkjbmcindhjaaGreat
open Go Go.W Go.Tk Go.Rx Go.Lm Go.Maps Go.Sx
def lnF (ins:List Bool):List Fr:=ins.map fun b=>whF (if b then 1 else 0)
theorem whF_P {n:Nat} (h:n≤1048576):frP (whF n)=true:=frP_iff.2 ⟨by simp [whF],by simp [whF],by show -1099511627776≤(n:Int); omega,by show (n:Int)≤1099511627776; omega,by simp [whF]⟩
theorem whF_rv (n:Nat):rv (whF n)=(n:Rat):=by
 show ((n:Int):Rat) / ((1:Int):Rat)=_
 rw [Rat.intCast_natCast]
 grind
theorem lnF_at {L:List Rw} {i j:Nat}:PgA (L.map fun r=>lnF r.1) i j=mtA L i j:=by
 unfold PgA mtA
 rw [List.getD_eq_getElem?_getD (l:=L),List.getD_eq_getElem?_getD (l:=L.map fun r=>lnF r.1),List.getElem?_map]
 cases h:L[i]? with
 | none =>
  simp
  show ((0:Int):Rat) / ((1:Int):Rat)=0
  grind
 | some r =>
  simp only [Option.map_some,Option.getD_some]
  unfold lnF
  rw [List.getD_eq_getElem?_getD,List.getElem?_map]
  simp only [List.getD_eq_getElem?_getD]
  cases h2:r.1[j]? with
  | none =>
   simp
   show ((0:Int):Rat) / ((1:Int):Rat)=0
   grind
  | some b =>
   simp only [Option.map_some,Option.getD_some]
   rw [whF_rv]
   cases b <;> simp
theorem rgB_at {L:List Rw} {i:Nat} (h:i < L.length):PgB (L.map fun r=>whF r.2) i=mtb L i:=by
 unfold PgB mtb
 rw [List.getD_eq_getElem?_getD,List.getD_eq_getElem?_getD (l:=L),List.getElem?_map,List.getElem?_eq_getElem h]
 exact whF_rv _
theorem optX {cs:List Nat} {ks:List Kt} (hg:KtG cs ks) (hc24:cs.length≤24):PgX (List.replicate ks.length (1,1)) ((kept (rws cs (kOps ks))).map fun r=>lnF r.1) ((kept (rws cs (kOps ks))).map fun r=>whF r.2):=by
 have hkk:=Nat.le_trans (kept_len (rws cs (kOps ks))) rws_len
 have hkl:(kOps ks).length=ks.length:=by simp [kOps]
 have hrow:∀x ∈ kept (rws cs (kOps ks)),∃op,op < cs.length∧x=(inB (kOps ks) op,cs.getD op 0):=fun x hx=>by
  have h2:=kept_mem hx
  unfold rws at h2
  obtain ⟨op,ho,e⟩:=List.mem_map.1 (List.mem_filter.1 h2).1
  exact ⟨op,List.mem_range.1 ho,e.symm⟩
 refine ⟨⟨by rw [List.length_replicate]; exact hg.len,by rw [List.length_map]; omega,by simp,fun r hr=>?_,fun r hr x hx=>?_,fun x hx=>?_,fun x hx=>?_,fun x hx=>List.eq_of_mem_replicate hx⟩,fun i j=>?_,fun j hj=>?_⟩
 ·obtain ⟨y,hy,rfl⟩:=List.mem_map.1 hr
  obtain ⟨op,ho,rfl⟩:=hrow y hy
  simp [lnF,inB,kOps]
 ·obtain ⟨y,hy,rfl⟩:=List.mem_map.1 hr
  unfold lnF at hx
  obtain ⟨b,_,rfl⟩:=List.mem_map.1 hx
  exact whF_P (by cases b <;> simp)
 ·obtain ⟨y,hy,rfl⟩:=List.mem_map.1 hx
  obtain ⟨op,ho,rfl⟩:=hrow y hy
  exact whF_P (hg.cmax _ (mem_getD ho))
 ·obtain ⟨y,hy,rfl⟩:=List.mem_map.1 hx
  show (0:Int)≤(y.2:Int)
  omega
 ·rw [lnF_at]; exact mtA_nn _ i j
 ·rw [List.length_replicate] at hj
  obtain ⟨i,hi,e⟩:=kept_col (cs:=cs) (ks:=kOps ks) (fun k hk=>by obtain ⟨kt,hkt,rfl⟩:=List.mem_map.1 hk; exact hg.ne kt hkt) (fun k hk q hq=>by obtain ⟨kt,hkt,rfl⟩:=List.mem_map.1 hk; exact hg.rng kt hkt q hq) j (by omega)
  exact ⟨i,by rw [List.length_map]; exact hi,by rw [lnF_at]; exact e⟩
def OpB (mv rv_ wv ov:Value) (ps:List (Cell1 × List Fr)) (bs:List Fr) (rs:List Ro) (n:Nat):Asr:=Star (TabS mv 88 151 2 frE ps) (Star (OwnA rv_ 151 2 frE bs) (Star (RowA wv rs) (Star (OwnA ov 151 2 frE (List.replicate n (1,1))) Emp)))
theorem OpB.lcl {mv rv_ wv ov:Value} {ps:List (Cell1 × List Fr)} {bs:List Fr} {rs:List Ro} {n:Nat}:Lcl (OpB mv rv_ wv ov ps bs rs n):=Lcl.tabS.star (Lcl.own.star (RowA.lcl.star (Lcl.own.star .emp)))
theorem OpB.rows {w w1:World} {F:List Nat} {mv rv_ wv ov:Value} {ps:List (Cell1 × List Fr)} {bs:List Fr} {rs:List Ro} {n:Nat} (h:At w F (OpB mv rv_ wv ov ps bs rs n) w1):Vw w1 wv roE rs :=
 (At.own (h.by (show Imp (OpB mv rv_ wv ov ps bs rs n) (Star (OwnA wv 230 2 roE rs) _) from Imp.dr.trans (Imp.dr.trans Imp.as)))).vw
theorem OpB.ins {w w1:World} {F:List Nat} {mv rv_ wv ov:Value} {ps:List (Cell1 × List Fr)} {bs:List Fr} {rs:List Ro} {n:Nat} (h:At w F (OpB mv rv_ wv ov ps bs rs n) w1):∀r ∈ rs,Vw w1 r.iv.1 bE r.ins:=fun r hr =>
 At.vws (h.by (show Imp (OpB mv rv_ wv ov ps bs rs n) (Star (VwsA bE (rs.map roW)) _) from Imp.dr.trans (Imp.dr.trans (Imp.as.trans (Imp.dr.trans Imp.as))))) (p:=roW r) (List.mem_map.2 ⟨r,hr,rfl⟩)
def OpI (w:World) (wv ov:Value) (rs:List Ro) (n i:Nat) (ρ:Env) (w':World):Prop :=
 ∃ps,ps.map (·.2)=(rs.take i).map (fun r=>lnF r.ins)∧At w [] (OpB (ρ 9) (ρ 8) wv ov ps ((rs.take i).map fun r=>whF r.cost) rs n) w'
def OpR (cs:List Nat) (ks:List Kt) (xs:List Fr):Prop:=xs.length=ks.length∧(∀x ∈ xs,frP x=true)∧∃v,(cs.length≤10→Opt cs (kOps ks) v)∧∀j,j < ks.length→rv (xs.getD j fr0)=v j
def OpP (cs:List Nat) (ks:List Kt) (w:World) (x:Value) (w':World):Prop :=
 (x=.tuple #[.slice none 0 0,errV 5]∧Kp [] w w')∨∃xv xs,x=.tuple #[xv,.nilIface]∧OpR cs ks xs∧At w [] (Star (OwnA xv 151 2 frE xs) Emp) w'
theorem opt_read {cs:List Nat} {ks:List Kt} {xs:List Fr} (h:SvR (List.replicate ks.length (1,1)) ((kept (rws cs (kOps ks))).map fun r=>lnF r.1) ((kept (rws cs (kOps ks))).map fun r=>whF r.2) xs):OpR cs ks xs:=by
 obtain ⟨h1,h2,T,r,k,t,hway,hT0,hend,hx⟩:=h
 rw [List.length_replicate] at h1 hway hend hx
 rw [List.length_map] at hway hend hx
 refine ⟨h1,h2,_,fun hc=>?_,hx⟩
 have hkl:(kOps ks).length=ks.length:=by simp [kOps]
 have:=Way.best (cs:=cs) (ks:=kOps ks) (T:=T) (r:=r) (k:=k) (t:=t) (by rw [hkl]; exact hway) ?_ (by rw [hkl]; exact hend) hc
 ·exact this
 ·rw [hT0,hkl,List.length_map,List.length_replicate]
  exact tb0_congr (fun i j=>lnF_at) fun i hi=>rgB_at hi
set_option maxHeartbeats 2000000 in
theorem optimal_spec {w:World} (cv kv:Value) (cs:List Nat) (ks:List Kt) (hc:Vw w cv nE cs) (hk:KtR w kv ks) (hg:KtG cs ks) (hc24:cs.length≤24) :
  Calls Tryz.prog 75 [cv,kv].toArray w fun e w'=>∃u,e=.returned u∧OpP cs ks w u w':=by
 refine enter Tryz.func75 mixed low75 (Nat.le_of_ble_eq_true rfl) ?_
 simp only [L75]
 have hkl:=hg.len
 have hcl:=hg.clen
 simp
 refine cl_of (paCheck_spec cv kv cs ks hc hk hg) ?_
 rintro _ w1 ⟨rfl,k1⟩
 have h1:=(At.start rfl:At w [] Emp w).kp0 .emp k1
 have h2:=At.nil (E:=151) (sz:=2) (enc:=frE) .emp h1
 simp [(hk.kp k1).vw.len]
 refine range_loop (n:=ks.length) (by omega) (fun i ρ w'=>ρ 0=cv∧ρ 1=kv∧ρ 8=.slice none 0 0∧At w [] (Star (OwnA (ρ 7) 151 2 frE (List.replicate i (1,1))) Emp) w') (by simp) (by simp)
  ⟨by simp,by simp,by simp,by simpa using h2⟩ (by decide) (fun _ _ _ _ h=>by simpa using h) (fun _ _ _ _ h=>by simpa using h) ?_ ?_
 ·clear h1 h2
  rintro i ρ w2 hi hci hli ⟨g0,g1,g8,h2⟩
  obtain ⟨ov,hov⟩:∃ov,ov=ρ 7:=⟨_,rfl⟩
  rw [←hov] at h2
  have g7:=hov.symm
  simp
  refine cl_of (whole_spec 1) ?_
  rintro _ w3 ⟨rfl,k3⟩
  have h3:=h2.kp0 (Lcl.own.star .emp) k3
  simp [frV,g7]
  refine fr_append (x:=whF 1) .emp h3 (by rw [List.length_replicate]; omega) fun v' w4 h4=>?_
  simp [hci,hli,g0,g1,g8]
  rw [List.replicate_succ']
  exact h4
 clear h1 h2
 rintro ρ w2 ⟨g0,g1,g8,h2⟩
 obtain ⟨ov,hov⟩:∃ov,ov=ρ 7:=⟨_,rfl⟩
 rw [←hov] at h2
 have g7:=hov.symm
 have hLo:Lcl (Star (OwnA ov 151 2 frE (List.replicate ks.length (1,1))) Emp):=Lcl.own.star .emp
 simp [g0,g1]
 refine cl_of (rows_spec cv kv cs ks (hc.kp0 h2.kp) (hk.kp h2.kp) hg) ?_
 rintro wv w3 ⟨rs,hrs,h3⟩
 have hlen:rs.length≤24:=by
  have h1:=congrArg List.length hrs
  rw [List.length_map] at h1
  have:=Nat.le_trans (kept_len (rws cs (kOps ks))) rws_len
  omega
 have hco:∀r ∈ rs,r.cost≤1048576∧r.ins.length=ks.length:=fun r hr=>by
  have h1:roP r ∈ kept (rws cs (kOps ks)):=by rw [←hrs]; exact List.mem_map.2 ⟨r,hr,rfl⟩
  have h2:=kept_mem h1
  unfold rws at h2
  obtain ⟨op,ho,e⟩:=List.mem_map.1 (List.mem_filter.1 h2).1
  have e1:r.ins=inB (kOps ks) op:=(congrArg Prod.fst e).symm
  have e2:r.cost=cs.getD op 0:=(congrArg Prod.snd e).symm
  refine ⟨?_,by rw [e1]; simp [inB,kOps]⟩
  rw [e2]
  exact hg.cmax _ (mem_getD (List.mem_range.1 ho))
 have h4:At w [] (OpB (.slice none 0 0) (.slice none 0 0) wv ov [] [] rs ks.length) w3:=TabS.nilS (Lcl.own.star (RowA.lcl.star hLo)) (At.nil (E:=151) (sz:=2) (enc:=frE) (RowA.lcl.star hLo) (at_join2 hLo h2 h3))
 simp [(OpB.rows h4).len]
 clear h2 h3
 refine range_loop (n:=rs.length) (by omega) (fun i ρ w'=>ρ 7=ov∧ρ 36=wv∧OpI w wv ov rs ks.length i ρ w') (by simp) (by simp)
  ⟨by simp [g7],by simp,⟨[],rfl,by simpa [g8] using h4⟩⟩ (by decide) (fun _ _ _ _ h=>by simpa [OpI] using h) (fun _ _ _ _ h=>by simpa [OpI] using h) ?_ ?_
 ·clear h4 g0 g1 g8 g7 hov
  rintro i ρ w4 hi hci hli ⟨g7,g36,ps,hps,h4⟩
  obtain ⟨mv,hmv⟩:∃mv,mv=ρ 9:=⟨_,rfl⟩
  obtain ⟨rv_,hrv⟩:∃rv_,rv_=ρ 8:=⟨_,rfl⟩
  rw [←hmv,←hrv] at h4
  have g9:=hmv.symm
  have g8:=hrv.symm
  obtain ⟨bs,hbs⟩:∃bs,bs=(rs.take i).map fun r=>whF r.cost:=⟨_,rfl⟩
  rw [←hbs] at h4
  obtain ⟨x,hx⟩:∃x,rs[i]? = some x:=⟨_,List.getElem?_eq_getElem hi⟩
  have xm:=List.mem_of_getElem? hx
  have o4:=OpB.rows h4
  have ex:=o4.cells roE_len hx
  simp only [roE] at ex
  obtain ⟨xb,hxb⟩:∃xb,xb=w4.heap.size:=⟨_,rfl⟩
  have hii:(i:Int) < rs.length:=by omega
  simp (disch:=omega) [g36,hci,hli,o4.idx,ex,←hxb]
  refine st_ro (k:=x) OpB.lcl h4 hxb fun w5 h5=>?_
  have hox:=h5.obj
  unfold roO at hox
  have oi:=OpB.ins h5.drop x xm
  obtain ⟨hxc,hxl⟩:=hco x xm
  have h6:=At.nil (E:=151) (sz:=2) (enc:=frE) (Lcl.obj.star OpB.lcl) h5
  simp [←hxb,cell_blk hox,oi.len]
  refine range_loop (n:=x.ins.length) (by omega) (fun j ρ w'=>ρ 7=ov∧ρ 36=wv∧ρ 38=.int .i64 (i:Nat)∧ρ 37=.int .i64 (rs.length:Nat)∧ρ 9=mv∧ρ 8=rv_∧ρ 11=.pointer (some ⟨xb,0,none⟩)∧ρ 43=x.iv.1∧At w [] (Star (OwnA (ρ 12) 151 2 frE (lnF (x.ins.take j))) (Star (ObjA xb (roO x)) (OpB mv rv_ wv ov ps bs rs ks.length))) w') (by simp) (by simp)
   ⟨by simp [g7],by simp [g36],by simp [hci],by simp [hli],by simp [g9],by simp [g8],by simp,by simp,by simpa [lnF] using h6⟩ (by decide) (fun _ _ _ _ h=>by simpa using h) (fun _ _ _ _ h=>by simpa using h) ?_ ?_
  ·clear h4 h5 h6 hox oi o4 ex g7 g36 hci hli g9 g8 hxb hmv hrv
   rintro j ρ w7 hj hcj hlj ⟨g7,g36,g38,g37,g9,g8,g11,g43,h7⟩
   obtain ⟨lv,hlv⟩:∃lv,lv=ρ 12:=⟨_,rfl⟩
   rw [←hlv] at h7
   have g12:=hlv.symm
   obtain ⟨z,hz⟩:∃z,x.ins[j]? = some z:=⟨_,List.getElem?_eq_getElem hj⟩
   have oi:=OpB.ins h7.drop.drop x xm
   have hjj:(j:Int) < x.ins.length:=by omega
   have hLX:Lcl (Star (ObjA xb (roO x)) (OpB mv rv_ wv ov ps bs rs ks.length)):=Lcl.obj.star OpB.lcl
   have hll:(lnF (x.ins.take j)).length≤1000000:=by simp [lnF]; omega
   have e1:lnF (x.ins.take (j+1))=lnF (x.ins.take j) ++ [whF (if z then 1 else 0)]:=by
    rw [take_snoc hz]; unfold lnF; rw [List.map_append]; rfl
   simp (disch:=omega) [g43,hcj,hlj,oi.idx,bE_cell oi hz]
   cases z with
   | true =>
    simp
    refine cl_of (whole_spec 1) ?_
    rintro _ w8 ⟨rfl,k8⟩
    have h8:=h7.kp0 (Lcl.own.star hLX) k8
    simp [frV,g12]
    refine fr_append (x:=whF 1) hLX h8 hll fun v' w9 h9=>?_
    simp [hcj,hlj,g7,g36,g38,g37,g9,g8,g11,g43]
    rw [e1]
    exact h9
   | false =>
    simp
    refine cl_of (whole_spec 0) ?_
    rintro _ w8 ⟨rfl,k8⟩
    have h8:=h7.kp0 (Lcl.own.star hLX) k8
    simp [frV,g12]
    refine fr_append (x:=whF 0) hLX h8 hll fun v' w9 h9=>?_
    simp [hcj,hlj,g7,g36,g38,g37,g9,g8,g11,g43]
    rw [e1]
    exact h9
  clear h4 h5 h6 hox oi o4 ex g7 g36 hci hli g9 g8 hxb hmv hrv
  rintro ρ w7 ⟨g7,g36,g38,g37,g9,g8,g11,g43,h7⟩
  obtain ⟨lv,hlv⟩:∃lv,lv=ρ 12:=⟨_,rfl⟩
  rw [←hlv] at h7
  have g12:=hlv.symm
  rw [List.take_length] at h7
  have hox:=h7.drop.obj
  unfold roO at hox
  have c7:=h7.own.c1
  have hpl:ps.length≤24:=by
   have h1:=congrArg List.length hps
   rw [List.length_map,List.length_map,List.length_take] at h1
   omega
  have hbl:bs.length≤24:=by rw [hbs,List.length_map,List.length_take]; omega
  have hLB:Lcl (Star (ObjA xb (roO x)) (Star (OwnA rv_ 151 2 frE bs) (Star (RowA wv rs) (Star (OwnA ov 151 2 frE (List.replicate ks.length (1,1))) Emp)))):=Lcl.obj.star (Lcl.own.star (RowA.lcl.star (Lcl.own.star .emp)))
  have h8:At w [] (Star (OwnA lv 151 2 frE (lnF x.ins)) (Star (TabS mv 88 151 2 frE ps) (Star (ObjA xb (roO x)) (Star (OwnA rv_ 151 2 frE bs) (Star (RowA wv rs) (Star (OwnA ov 151 2 frE (List.replicate ks.length (1,1))) Emp)))))) w7:=h7.by (Imp.un Imp.sw)
  have hL8:Lcl (Star (OwnA lv 151 2 frE (lnF x.ins)) (Star (TabS mv 88 151 2 frE ps) (Star (ObjA xb (roO x)) (Star (OwnA rv_ 151 2 frE bs) (Star (RowA wv rs) (Star (OwnA ov 151 2 frE (List.replicate ks.length (1,1))) Emp)))))):=Lcl.own.star (Lcl.tabS.star hLB)
  have e1:(rs.take (i+1)).map (fun r=>whF r.cost)=bs ++ [whF x.cost]:=by rw [take_snoc hx,List.map_append,hbs]; rfl
  simp [g9,g12,g8,g11,cell_blk hox,c7]
  refine ⟨?_,?_⟩
  all_goals
   refine tabS_append hLB (h8.drew hL8) (by omega) fun ho mv' w8 h9=>?_
   have hox9:=h9.drop.obj
   unfold roO at hox9
   simp [g9,g12,g8,g11,cell_blk hox9]
   refine cl_of (whole_spec x.cost) ?_
   rintro _ w9 ⟨rfl,k9⟩
   have h10:=(h9.kp0 (Lcl.tabS.star hLB) k9).by Imp.fr3
   simp [frV,g8]
   refine fr_append (x:=whF x.cost) (Lcl.tabS.star (Lcl.obj.star (RowA.lcl.star (Lcl.own.star .emp)))) h10 (by omega) fun v' w10 h11=>?_
   simp [g38,g37,g7,g36]
   refine ⟨ps ++ [(⟨lv,ho⟩,lnF x.ins)],by rw [List.map_append,hps,take_snoc hx,List.map_append]; rfl,?_⟩
   rw [e1]
   simpa [OpB] using h11.by (Imp.sw.trans (Imp.un (Imp.un Imp.dr)))
 clear h4 g0 g1 g8 g7 hov
 rintro ρ w4 ⟨g7,g36,ps,hps,h4⟩
 obtain ⟨mv,hmv⟩:∃mv,mv=ρ 9:=⟨_,rfl⟩
 obtain ⟨rv_,hrv⟩:∃rv_,rv_=ρ 8:=⟨_,rfl⟩
 rw [←hmv,←hrv] at h4
 have g9:=hmv.symm
 have g8:=hrv.symm
 rw [List.take_length] at hps h4
 have er:rs.map (fun r=>lnF r.ins)=(kept (rws cs (kOps ks))).map fun r=>lnF r.1:=by rw [←hrs,List.map_map]; rfl
 have eb:rs.map (fun r=>whF r.cost)=(kept (rws cs (kOps ks))).map fun r=>whF r.2:=by rw [←hrs,List.map_map]; rfl
 rw [er] at hps
 rw [eb] at h4
 have hX:=optX hg hc24
 rw [←hps] at hX
 have hR:PgR w4 ov mv rv_ (List.replicate ks.length (1,1)) ps ((kept (rws cs (kOps ks))).map fun r=>whF r.2) :=
  ⟨(At.own (h4.by (show Imp _ (Star (OwnA ov 151 2 frE (List.replicate ks.length (1,1))) Emp) from Imp.dr.trans (Imp.dr.trans Imp.dr)))).vw,(TabS.own h4).vw,fun p hp=>by
   obtain ⟨i,hi⟩:=List.mem_iff_getElem?.1 hp
   exact (TabS.row h4 hi).vw,(h4.drop.own).vw⟩
 simp [g7,g8,g9]
 refine cl_of (solve_spec hR hX) ?_
 rintro x w5 hS
 rcases hS with ⟨rfl,k5⟩ | ⟨z,xv,yv,xs,rfl,hr,h5⟩
 ·have h5:=h4.kp0 OpB.lcl k5
  simp [frV,errV]
  refine st_fr0 (f:=(0,0)) OpB.lcl h5 rfl fun w6 h6=>?_
  simp
  exact .inl ⟨by simp [errV],h6.kp⟩
 ·have h6:=at_join2 OpB.lcl h4 h5
  have hL6:Lcl (Star (Star (OwnA xv 151 2 frE xs) Emp) (OpB mv rv_ wv ov ps ((kept (rws cs (kOps ks))).map fun r=>whF r.2) rs ks.length)):=(Lcl.own.star .emp).star OpB.lcl
  simp [frV]
  refine st_fr0 (f:=z) hL6 h6 rfl fun w7 h7=>?_
  simp
  rw [hps] at hr
  exact .inr ⟨xv,xs,rfl,opt_read hr,h7.drop.by (Imp.as.trans (Imp.un Imp.toE))⟩
end Go.Proofs.YtolkjbmcindhjaaGreat
end
section
namespace Go.Proofs.YtolkjbmcindhjaaGreat
open Go Go.W Go.Tk Go.Rx Go.Lm Go.Maps Go.Sx
def pdL (ks:List Kt) (xs:List Fr) (op n:Nat):List Fr:=((List.range n).filter fun k=>decide (op ∈ (kOps ks).getD k [])).map fun k=>xs.getD k fr0
theorem pdL_succ {ks:List Kt} {xs:List Fr} {op n:Nat}:pdL ks xs op (n+1)=pdL ks xs op n ++ if op ∈ (kOps ks).getD n [] then [xs.getD n fr0] else []:=by
 unfold pdL
 rw [List.range_succ,List.filter_append,List.map_append]
 congr 1
 by_cases h:op ∈ (kOps ks).getD n []
 ·rw [if_pos h,List.filter_cons,if_pos (by rw [decide_eq_true_eq]; exact h)]; rfl
 ·rw [if_neg h,List.filter_cons,if_neg (by rw [decide_eq_true_eq]; exact h)]; rfl
theorem pdL_len {ks:List Kt} {xs:List Fr} {op n:Nat}:(pdL ks xs op n).length≤n:=by
 unfold pdL
 rw [List.length_map]
 refine Nat.le_trans (List.length_filter_le _ _) ?_
 rw [List.length_range]
 exact Nat.le_refl _
theorem pdL_P {ks:List Kt} {xs:List Fr} {op n:Nat} (h:∀x ∈ xs,frP x=true):∀x ∈ pdL ks xs op n,frP x=true:=fun x hx=>by
 unfold pdL at hx
 obtain ⟨k,_,rfl⟩:=List.mem_map.1 hx
 exact getD_P h k
def PdO (cs:List Nat) (ks:List Kt) (xs:List Fr):Prop:=∀op,op < cs.length→∃f,frSum (pdL ks xs op ks.length) (0,1)=some f∧frP f=true∧¬0 < frCmp f (whF (cs.getD op 0))
theorem pdL_sum {ks:List Kt} {xs:List Fr} {op:Nat} {v:Nat→Rat} (hv:∀j,j < ks.length→rv (xs.getD j fr0)=v j):∀n,n≤ks.length→((pdL ks xs op n).map rv).sum=sumN n fun j=>if (inB (kOps ks) op).getD j false=true then v j else 0
 | 0,_=>rfl
 | n+1,h=>by
  rw [pdL_succ,List.map_append,List.sum_append,pdL_sum hv n (by omega)]
  simp only [sumN]
  congr 1
  obtain ⟨kt,hkt⟩:∃kt,ks[n]? = some kt:=⟨_,List.getElem?_eq_getElem (by omega)⟩
  have hko:(kOps ks)[n]? = some kt.ops:=by unfold kOps; rw [List.getElem?_map,hkt]; rfl
  have e1:(kOps ks).getD n []=kt.ops:=by rw [List.getD_eq_getElem?_getD,hko]; rfl
  have e2:(inB (kOps ks) op).getD n false=decide (op ∈ kt.ops):=by
   unfold inB
   rw [List.getD_eq_getElem?_getD,List.getElem?_map,hko]
   rfl
  rw [e1,e2]
  by_cases h2:op ∈ kt.ops
  ·rw [if_pos h2,if_pos (decide_eq_true h2),←hv n (by omega)]
   simp
   exact Rat.add_zero _
  ·rw [if_neg h2,if_neg (by rw [decide_eq_true_eq]; exact h2)]
   rfl
theorem rv_zero1:rv (0,1)=0:=rv_zero
theorem PdO.mk {cs:List Nat} {ks:List Kt} {xs:List Fr} {v:Nat→Rat} (hg:KtG cs ks) (hxl:xs.length=ks.length) (hxp:∀x ∈ xs,frP x=true) (hv:∀j,j < ks.length→rv (xs.getD j fr0)=v j) (hval:Val cs (kOps ks) v) {D:Int} (h1:1≤D) (h2:D≤907200) (hD:∀j,j < ks.length→IsI ((D:Rat) * v j)):PdO cs ks xs:=by
 intro op ho
 have hkl:(kOps ks).length=ks.length:=by simp [kOps]
 have hle:=hval.le op ho
 rw [hkl] at hle
 have hs:=pdL_sum (op:=op) hv ks.length (Nat.le_refl _)
 have hcm:cs.getD op 0≤1048576:=hg.cmax _ (mem_getD ho)
 have hmem:∀x ∈ pdL ks xs op ks.length,∃j,j < ks.length∧x=xs.getD j fr0:=fun x hx=>by
  unfold pdL at hx
  obtain ⟨k,hk,rfl⟩:=List.mem_map.1 hx
  exact ⟨k,List.mem_range.1 (List.mem_filter.1 hk).1,rfl⟩
 obtain ⟨f,hf⟩:=frSum_some h1 h2 (pdL ks xs op ks.length) (0,1) rfl (pdL_P hxp) (by rw [rv_zero1]; exact Rat.le_refl) (fun x hx=>by
  obtain ⟨j,hj,rfl⟩:=hmem x hx
  rw [hv j hj]
  exact hval.nn j (by omega)) (by rw [rv_zero1,Rat.mul_zero]; exact ⟨0,rfl⟩) (fun x hx=>by
  obtain ⟨j,hj,rfl⟩:=hmem x hx
  rw [hv j hj]
  exact hD j hj) (by
  rw [rv_zero1,hs]
  have h3:=nc_le hcm
  have h4:((1048576:Nat):Rat)=1048576:=by simp
  rw [h4] at h3
  grind)
 obtain ⟨h3,h4⟩:=frSum_rv _ _ _ rfl (pdL_P hxp) hf
 refine ⟨f,hf,h3,fun h5=>?_⟩
 have h6:=(frCmp_pos h3 (whF_P hcm)).1 h5
 rw [whF_rv,h4,hs,rv_zero1] at h6
 grind
set_option maxHeartbeats 1000000 in
theorem valid_spec {w:World} (cv kv vv:Value) (cs:List Nat) (ks:List Kt) (xs:List Fr) (hc:Vw w cv nE cs) (hk:KtR w kv ks) (hg:KtG cs ks) (hx:Vw w vv frE xs) (hxl:xs.length=ks.length) (hxp:∀x ∈ xs,frP x=true) (hx0:∀x ∈ xs,0≤x.1) (hpd:PdO cs ks xs) :
  Calls Tryz.prog 78 [cv,kv,vv].toArray w fun e w'=>∃x,e=.returned x∧x=.bool true∧Kp [] w w':=by
 refine enter Tryz.func78 mixed low78 (Nat.le_of_ble_eq_true rfl) ?_
 simp only [L78]
 have hkl:=hg.len
 have hcl:=hg.clen
 simp
 refine cl_of (paCheck_spec cv kv cs ks hc hk hg) ?_
 rintro _ w1 ⟨rfl,k1⟩
 simp [(hk.kp k1).vw.len,(hx.kp0 k1).len,hxl]
 refine range_loop (n:=ks.length) (by omega) (fun i ρ w'=>ρ 0=cv∧ρ 1=kv∧ρ 2=vv∧ρ 27=vv∧Kp [] w w') (by simp) (by simp)
  ⟨by simp,by simp,by simp,by simp,k1⟩ (by decide) (fun _ _ _ _ h=>by simpa using h) (fun _ _ _ _ h=>by simpa using h) ?_ ?_
 ·clear k1
  rintro i ρ w2 hi hci hli ⟨g0,g1,g2,g27,k2⟩
  obtain ⟨x,hxx⟩:∃x,xs[i]? = some x:=⟨_,List.getElem?_eq_getElem (by omega)⟩
  have xm:=List.mem_of_getElem? hxx
  have hv2:=hx.kp0 k2
  have ex:=hv2.cells frE_len hxx
  simp only [frE] at ex
  have hki:(i:Int) < xs.length:=by omega
  obtain ⟨fb,hfb⟩:∃fb,fb=w2.heap.size:=⟨_,rfl⟩
  simp (disch:=omega) [g27,hci,hli,hv2.idx,ex,←hfb]
  refine st_fr0 (f:=x) .emp ((At.start rfl:At w [] Emp w).kp0 .emp k2) hfb fun w3 h3=>?_
  have r3:=rd_fr h3.obj
  have r3':=r3
  rw [hfb] at r3'
  simp [r3,r3',←hfb]
  refine cl_of (proper9_spec x) ?_
  rintro _ w4 ⟨rfl,k4⟩
  rw [hxp x xm]
  have h4:=h3.kp0 (Lcl.obj.star .emp) k4
  have hx0':=hx0 x xm
  have nx:¬x.1 < 0:=by omega
  have ho4:=h4.obj
  unfold frO at ho4
  simp [cell_blk ho4,←hfb,hci,hli,nx,g0,g1,g2,g27]
  exact h4.kp
 clear k1
 rintro ρ w2 ⟨g0,g1,g2,g27,k2⟩
 simp [g0,(hc.kp0 k2).len]
 refine range_loop (n:=cs.length) (by omega) (fun i ρ w'=>ρ 1=kv∧ρ 2=vv∧ρ 42=cv∧Kp [] w w') (by simp) (by simp)
  ⟨by simp [g1],by simp [g2],by simp,k2⟩ (by decide) (fun _ _ _ _ h=>by simpa using h) (fun _ _ _ _ h=>by simpa using h) ?_ ?_
 rotate_left
 ·rintro ρ w3 ⟨g1,g2,g42,k3⟩
  simp
  exact k3
 clear k2 g0 g1 g2 g27
 rintro i ρ w3 hi hci hli ⟨g1,g2,g42,k3⟩
 obtain ⟨co,hco⟩:∃co,cs[i]? = some co:=⟨_,List.getElem?_eq_getElem hi⟩
 have hcom:co≤1048576:=hg.cmax _ (List.mem_of_getElem? hco)
 have hc3:=hc.kp0 k3
 have hii:(i:Int) < cs.length:=by omega
 have h3:=At.nil (E:=151) (sz:=2) (enc:=frE) .emp ((At.start rfl:At w [] Emp w).kp0 .emp k3)
 simp (disch:=omega) [g1,g2,g42,hci,hli,hc3.idx,nE_cell hc3 hco,(hk.kp k3).vw.len]
 refine range_loop (n:=ks.length) (by omega) (fun k ρ w'=>ρ 1=kv∧ρ 2=vv∧ρ 42=cv∧ρ 44=.int .i64 (i:Nat)∧ρ 43=.int .i64 (cs.length:Nat)∧ρ 9=.int .i64 (i:Nat)∧ρ 10=.int .i64 (co:Nat)∧ρ 49=kv∧At w [] (Star (OwnA (ρ 11) 151 2 frE (pdL ks xs i k)) Emp) w') (by simp) (by simp)
  ⟨by simp [g1],by simp [g2],by simp [g42],by simp [hci],by simp [hli],by simp [hci],by simp,by simp,by simpa [pdL] using h3⟩ (by decide) (fun _ _ _ _ h=>by simpa using h) (fun _ _ _ _ h=>by simpa using h) ?_ ?_
 ·clear h3 hc3 k3 g1 g2 g42 hci hli
  rintro k ρ w4 hk2 hck hlk ⟨g1,g2,g42,g44,g43,g9,g10,g49,h4⟩
  obtain ⟨pv,hpv⟩:∃pv,pv=ρ 11:=⟨_,rfl⟩
  rw [←hpv] at h4
  have g11:=hpv.symm
  obtain ⟨kt,hkt⟩:∃kt,ks[k]? = some kt:=⟨_,List.getElem?_eq_getElem hk2⟩
  have hkm:=List.mem_of_getElem? hkt
  have hko:(kOps ks).getD k []=kt.ops:=by unfold kOps; rw [List.getD_eq_getElem?_getD,List.getElem?_map,hkt]; rfl
  have hR4:=hk.kp h4.kp
  have eck:=hR4.vw.cells ktE_len hkt
  simp only [ktE] at eck
  obtain ⟨kb,hkb⟩:∃kb,kb=w4.heap.size:=⟨_,rfl⟩
  have hkk:(k:Int) < ks.length:=by omega
  have hLp:Lcl (Star (OwnA pv 151 2 frE (pdL ks xs i k)) Emp):=Lcl.own.star .emp
  simp (disch:=omega) [g49,hck,hlk,hR4.vw.idx,eck,←hkb]
  refine st_kt (k:=kt) hLp h4 hkb fun w5 h5=>?_
  have ok5:=h5.obj
  unfold ktO at ok5
  rw [hkb] at ok5
  have hol:=hg.olen hkm
  have ho5:=(hk.kp h5.kp).ops kt hkm
  simp [g9,cell_blk ok5]
  refine cl_of (ctInt_spec kt.ov.1 kt.ops i ho5 (by omega)) ?_
  rintro _ w6 ⟨rfl,k6⟩
  have h6:=(h5.kp0 (Lcl.obj.star hLp) k6).drop
  by_cases hin:i ∈ kt.ops
  ·obtain ⟨x,hxx⟩:∃x,xs[k]? = some x:=⟨_,List.getElem?_eq_getElem (by omega)⟩
   have hv6:=hx.kp0 h6.kp
   have ex:=hv6.cells frE_len hxx
   simp only [frE] at ex
   have hkx:(k:Int) < xs.length:=by omega
   simp (disch:=omega) [hin,g11,g2,hck,hv6.idx,ex]
   have:=pdL_len (ks:=ks) (xs:=xs) (op:=i) (n:=k)
   refine fr_append (x:=x) .emp h6 (by omega) fun v' w7 h7=>?_
   simp [hck,hlk,g1,g2,g42,g44,g43,g9,g10,g49]
   rw [pdL_succ,hko,if_pos hin,getD_of hxx]
   exact h7
  ·simp [hin,hck,hlk,g1,g2,g42,g44,g43,g9,g10,g49]
   rw [pdL_succ,hko,if_neg hin,List.append_nil]
   simpa [g11] using h6
 clear h3 hc3 k3 g1 g2 g42 hci hli
 rintro ρ w4 ⟨g1,g2,g42,g44,g43,g9,g10,g49,h4⟩
 obtain ⟨pv,hpv⟩:∃pv,pv=ρ 11:=⟨_,rfl⟩
 rw [←hpv] at h4
 have g11:=hpv.symm
 obtain ⟨f,hf,hfp,hfc⟩:=hpd i hi
 have:=pdL_len (ks:=ks) (xs:=xs) (op:=i) (n:=ks.length)
 simp [g11]
 refine cl_of (sum9_spec pv (pdL ks xs i ks.length) h4.own.vw (by omega) (pdL_P hxp)) ?_
 rintro _ w5 ⟨rfl,k5⟩
 have h5:=h4.kp0 (Lcl.own.star .emp) k5
 rw [hf]
 simp [frR,frV]
 obtain ⟨fb,hfb⟩:∃fb,fb=w5.heap.size:=⟨_,rfl⟩
 rw [←hfb]
 refine st_fr0 (f:=f) (Lcl.own.star .emp) h5 hfb fun w6 h6=>?_
 have r6:=rd_fr h6.obj
 have hL6:Lcl (Star (ObjA fb (frO f)) (Star (OwnA pv 151 2 frE (pdL ks xs i ks.length)) Emp)):=Lcl.obj.star (Lcl.own.star .emp)
 have hcg:cs.getD i 0=co:=getD_of hco
 rw [hcg] at hfc
 have hwp:frP (whF co)=true:=whF_P hcom
 have rl6:cellsAt w6 ⟨fb,0,none⟩ 0 2=some [.int .i64 f.1,.int .i64 f.2]:=by have:=h6.obj; unfold frO at this; simp [cellsAt,Addr.add,cell_blk this]
 simp [r6,g10,←hfb]
 refine ⟨?_,?_⟩
 all_goals
  refine cl_of (whole_spec co) ?_
  rintro _ w7 ⟨rfl,k7⟩
  have h7:=(h6.drew hL6).kp0 hL6 k7
  have r7:=rd_fr h7.obj
  simp [r7,←hfb]
  refine cl_of (cmp9_spec f (whF co) hfp hwp) ?_
  rintro _ w8 ⟨rfl,k8⟩
  have h8:=h7.kp0 hL6 k8
  simp [hfc,g44,g43,g1,g2,g42]
  exact h8.kp
end Go.Proofs.YtolkjbmcindhjaaGreat
end
section
namespace Go.Proofs.YtolkjbmcindhjaaGreat
open Go Go.W Go.Tk Go.Rx Go.Lm Go.Maps Go.Sx
def rowB (vars:List Nat) (R:Nat→Bool) (v:Nat):List Bool:=tabB (vars.getD v 0) fun x=>R (psum vars v+x)
def rowsB (vars:List Nat) (R:Nat→Bool):List (List Bool):=(List.range vars.length).map (rowB vars R)
structure FvR (vars:List Nat) (R:Nat→Bool) (v:Value) (ps:List (Cell1 × List Bool)) (w:World):Prop where
 tab:Vw w v sv1 ps
 row:∀p ∈ ps,Vw w p.1.1 bE p.2
 eq:ps.map (·.2)=rowsB vars R
theorem FvR.kp {vars:List Nat} {R:Nat→Bool} {v:Value} {ps:List (Cell1 × List Bool)} {w w':World} (h:FvR vars R v ps w) (k:Kp [] w w'):FvR vars R v ps w':=⟨h.tab.kp0 k,fun p hp=>(h.row p hp).kp0 k,h.eq⟩
theorem rows_len {vars:List Nat} {R:Nat→Bool} {ps:List (Cell1 × List Bool)} (h:ps.map (·.2)=rowsB vars R):ps.length=vars.length:=by
 have:=congrArg List.length h
 simpa [rowsB] using this
theorem rows_at {vars:List Nat} {R:Nat→Bool} {ps:List (Cell1 × List Bool)} (h:ps.map (·.2)=rowsB vars R) {v:Nat} (hv:v < vars.length):∃p,ps[v]? = some p∧p.2=rowB vars R v:=by
 have hl:=rows_len h
 refine ⟨ps[v],List.getElem?_eq_getElem (by omega),?_⟩
 have h1:(ps.map (·.2))[v]? = some (rowB vars R v):=by rw [h]; simp [rowsB,hv]
 rw [List.getElem?_map,List.getElem?_eq_getElem (by omega)] at h1
 exact Option.some.inj h1
theorem sv1_cell {α:Type} {w:World} {v:Value} {ps:List (Cell1 × List α)} {k:Nat} {p:Cell1 × List α} (h:Vw w v sv1 ps) (hx:ps[k]? = some p):w.cell? (v.adr.add k)=some p.1.1:=by
 simpa [sv1] using h.at_ sv1_len hx (o:=0) (u:=p.1.1) rfl
def fcO (f:Fc):Obj:=.cells #[.int .i64 (f.1:Nat),.int .i64 (f.2:Nat)] 100 (0,0)
theorem st_fc {f:Fc} {b:Nat} {w wa:World} {F:List Nat} {X:Asr} {KW:Kont World} (hX:Lcl X) (h:At w F X wa) (hb:b=wa.heap.size) (H:∀w2,At w F (Star (ObjA b (fcO f)) X) w2→KW.run w2) :
  @stJ (wa.alloc (.cells #[.int .i64 0,.int .i64 0] 100 (0,0))) ⟨b,0,none⟩ [.int .i64 (f.1:Nat),.int .i64 (f.2:Nat)] KW :=
 st_fa (f:=((f.1:Int),(f.2:Int))) hX h hb fun w2 h2=>H w2 h2
set_option maxHeartbeats 1000000 in
theorem has_spec {w:World} {vars:List Nat} {R:Nat→Bool} {fv:Value} {ps:List (Cell1 × List Bool)} (lv:Value) (l:List Fc) (hf:FvR vars R fv ps w) (hv:Vw w lv fcE l) (hl:l.length≤1000000) (hr:FcRng vars l) :
  Calls Tryz.prog 124 [fv,lv].toArray w fun e w'=>∃x,e=.returned x∧x=.bool (l.all fun f=>R (numF vars f))∧Kp [] w w':=by
 refine enter Tryz.func124 mixed low124 (Nat.le_of_ble_eq_true rfl) ?_
 simp only [L124]
 simp [hv.len]
 refine range_loop (n:=l.length) (by omega) (fun k ρ w'=>ρ 0=fv∧ρ 7=lv∧Kp [] w w'∧∀f ∈ l.take k,R (numF vars f)=true) (by simp) (by simp)
  ⟨by simp,by simp,Kp.refl _ _,fun f hf=>absurd hf (by simp)⟩ (by decide) (fun _ _ _ _ h=>by simpa using h) (fun _ _ _ _ h=>by simpa using h) ?_ ?_
 rotate_left
 ·rintro ρ w4 ⟨g0,g7,k4,ha⟩
  rw [List.take_length] at ha
  have:(l.all fun f=>R (numF vars f))=true:=List.all_eq_true.2 ha
  simp
  exact ⟨fun a b h=>ha (a,b) h,k4⟩
 rintro k ρ w4 hk hc' hlm ⟨g0,g7,k4,ha⟩
 obtain ⟨f,hff⟩:∃f,l[k]? = some f:=⟨_,List.getElem?_eq_getElem hk⟩
 have fm:=List.mem_of_getElem? hff
 obtain ⟨r1,r2⟩:=hr f fm
 have hv4:=hv.kp0 k4
 have ex:=hv4.cells fcE_len hff
 simp only [fcE] at ex
 have hki:(k:Int) < l.length:=by omega
 obtain ⟨fb,hfb⟩:∃fb,fb=w4.heap.size:=⟨_,rfl⟩
 simp (disch:=omega) [g0,g7,hc',hlm,hv4.idx,ex,←hfb]
 refine st_fc (f:=f) .emp ((At.start rfl:At w [] Emp w).kp0 .emp k4) hfb fun w5 h5=>?_
 have ob:=h5.obj
 unfold fcO at ob
 rw [hfb] at ob
 have hf5:=hf.kp h5.kp
 obtain ⟨p,hp,ep⟩:=rows_at hf5.eq r1
 have hrow:=hf5.row p (List.mem_of_getElem? hp)
 have hpl:=rows_len hf5.eq
 have hi1:(f.1:Int) < ps.length:=by omega
 have hi2:(f.2:Int) < p.2.length:=by rw [ep]; unfold rowB; rw [tabB_len]; omega
 have hb:p.2[f.2]? = some (R (numF vars f)):=by rw [ep]; unfold rowB; rw [tabB_at r2]; rfl
 simp (disch:=omega) [g0,cell_blk ob,hf5.tab.idx,sv1_cell hf5.tab hp,hrow.idx,bE_cell hrow hb]
 by_cases hR:R (numF vars f)=true
 ·simp [hR,hc',hlm,g0,g7]
  refine ⟨by first | exact h5.kp | exact h5.kp.drew,fun a b h=>?_⟩
  rw [take_snoc hff] at h
  rcases List.mem_append.1 h with h | h
  ·exact ha (a,b) h
  ·rw [List.mem_singleton] at h
   rw [h]; exact hR
 ·simp [hR]
  refine ⟨⟨f.1,f.2,fm,by simpa using hR⟩,by first | exact h5.kp | exact h5.kp.drew⟩
theorem nothing_spec {w:World}:Calls Tryz.prog 123 ([]:List Value).toArray w fun e w'=>∃x,e=.returned x∧x=faV (-1,-1)∧Kp [] w w':=by
 refine enter Tryz.func123 mixed low123 (Nat.le_of_ble_eq_true rfl) ?_
 simp only [L123]
 obtain ⟨b,hb⟩:∃b,b=w.heap.size:=⟨_,rfl⟩
 simp [←hb]
 refine st_fa (f:=(-1,-1)) .emp (At.start rfl:At w [] Emp w) hb fun w2 h2=>?_
 simp
 refine postL_c1 ag_100 (by simp) h2.obj rfl rfl ?_
 exact ⟨_,rfl,rfl,h2.kp⟩
structure Ld where
 op:Nat
 nv:Cell1
 needs:List Fc
 mkf:Fc
def ldE (r:Ld):List Value:=[.int .i64 (r.op:Nat),r.nv.1,.int .i64 (r.mkf.1:Nat),.int .i64 (r.mkf.2:Nat)]
theorem ldE_len (r:Ld):(ldE r).length=4:=rfl
theorem ldE_one (r:Ld):(ldE r).all oneC=true:=by simp [ldE,r.nv.2]
def ldU (vars:List Nat) (r:Ld):Un:=⟨r.op,0,0,numF vars r.mkf,r.needs.map (numF vars)⟩
def fdO (vv gv cv lv:Value):Obj:=.cells #[vv,gv,cv,lv] 121 (0,0)
structure FdR (b:Nat) (vars:List Nat) (goal:List Fc) (costs:List Nat) (vv gv cv lv:Value) (rs:List Ld) (w:World):Prop where
 obj:w.heap[b]? = some (fdO vv gv cv lv)
 vars:Vw w vv nE vars
 goal:Vw w gv fcE goal
 costs:Vw w cv nE costs
 list:Vw w lv ldE rs
 needs:∀r ∈ rs,Vw w r.nv.1 fcE r.needs
theorem FdR.kp {b:Nat} {vars:List Nat} {goal:List Fc} {costs:List Nat} {vv gv cv lv:Value} {rs:List Ld} {w w':World} (h:FdR b vars goal costs vv gv cv lv rs w) (k:Kp [] w w'):FdR b vars goal costs vv gv cv lv rs w' :=
 ⟨k.blk h.obj (by simp),h.vars.kp0 k,h.goal.kp0 k,h.costs.kp0 k,h.list.kp0 k,fun r hr=>(h.needs r hr).kp0 k⟩
structure FdG (vars:List Nat) (goal:List Fc) (costs:List Nat) (rs:List Ld):Prop where
 vlen:vars.length≤64
 vsum:vars.sum≤4096
 gl:goal.length≤1000000
 goal:FcRng vars goal
 clen:costs.length≤4096
 cmax:∀c ∈ costs,c≤1048576
 rl:rs.length≤1000000
 rneeds:∀r ∈ rs,FcRng vars r.needs∧r.needs.length≤1000000
 rmk:∀r ∈ rs,r.mkf.1 < vars.length∧r.mkf.2 < vars.getD r.mkf.1 0
 rop:∀r ∈ rs,r.op < costs.length
 rasc:rs.Pairwise fun a b=>a.op≤b.op
end Go.Proofs.YtolkjbmcindhjaaGreat
end
