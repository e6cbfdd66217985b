/-
  A part of the proof of this claim's statement (LdJ, LdK, LmW1, LmW2, LmW3): plain theorems; no conditions beyond those each names.
-/
import Derived.Test.YtolkjbmcindhjaaGreatPk22
import Derived.Test.YtolkjbmcindhjaaGreatPk21
import Derived.Test.YtolkjbmcindhjaaGreatPk23
import Derived.Test.YtolkjbmcindhjaaGreatPk20
set_option maxRecDepth 100000
set_option linter.unusedSimpArgs false
set_option linter.unusedVariables false
set_option linter.unusedSectionVars false
section
namespace Go.Sx
theorem grL_snoc {k:List Nat}:∀(l:List (List Nat)) (left:Nat→Nat),grL left (l ++ [k])=grL left l ++ [gLs (l.foldl gLf left) k]
 | [],left=>rfl
 | x :: l,left=>by
  show gLs left x :: grL (gLf left x) (l ++ [k])=_
  rw [grL_snoc l]
  rfl
theorem grL_app (l2:List (List Nat)):∀(l:List (List Nat)) (left:Nat→Nat),grL left (l ++ l2)=grL left l ++ grL (l.foldl gLf left) l2
 | [],left=>rfl
 | x :: l,left=>by
  show gLs left x :: grL (gLf left x) (l ++ l2)=_
  rw [grL_app l2 l]
  rfl
theorem gLf_le {left:Nat→Nat} {k:List Nat} {q:Nat}:gLf left k q≤left q:=by
 unfold gLf
 split
 ·exact Nat.sub_le _ _
 ·exact Nat.le_refl _
theorem gAt_le {q:Nat}:∀(l:List (List Nat)) (left:Nat→Nat),l.foldl gLf left q≤left q
 | [],left=>Nat.le_refl _
 | x :: l,left=>by
  show l.foldl gLf (gLf left x) q≤_
  exact Nat.le_trans (gAt_le l _) gLf_le
def gLj (left:Nat→Nat) (k:List Nat) (j:Nat):Nat:=(k.take j).foldl (fun m q=>min m (left q)) (left (k.headD 0))
theorem gLj_succ {left:Nat→Nat} {k:List Nat} {j q:Nat} (h:k[j]? = some q):gLj left k (j+1)=min (gLj left k j) (left q):=by
 unfold gLj
 have:k.take (j+1)=k.take j ++ [q]:=by rw [List.take_add_one,h]; rfl
 rw [this,List.foldl_append]
 rfl
end Go.Sx
namespace Go.Proofs.YtolkjbmcindhjaaGreat
open Go Go.W Go.Tk Go.Rx Go.Maps Go.Sx
def whF (n:Nat):Fr:=((n:Int),1)
theorem whole_spec {w:World} (n:Nat):Calls Tryz.prog 133 [.int .i64 (n:Nat)].toArray w fun e w'=>∃x,e=.returned x∧x=frV (whF n)∧Kp [] w w':=by
 refine enter Tryz.func133 mixed low133 (Nat.le_of_ble_eq_true rfl) ?_
 simp only [L133]
 obtain ⟨b,hb⟩:∃b,b=w.heap.size:=⟨_,rfl⟩
 simp [←hb]
 refine st_fr0 (f:=whF n) .emp (At.start rfl:At w [] Emp w) hb fun w2 h2=>?_
 simp
 refine postL_c1 ag_151 (by simp) h2.obj rfl rfl ?_
 exact ⟨_,rfl,rfl,h2.kp⟩
def kOps (ks:List Kt):List (List Nat):=ks.map (·.ops)
def grX (cs:List Nat) (ks:List Kt):List Fr:=(grL (fun q=>cs.getD q 0) (kOps ks)).map whF
def grA (cs:List Nat) (ks:List Kt) (i:Nat):Nat→Nat:=((kOps ks).take i).foldl gLf fun q=>cs.getD q 0
abbrev GrU (lv ov:Value) (n:Nat) (g:Nat→Nat) (l:List Fr):Asr:=Star (OwnA ov 151 2 frE l) (Star (OwnA lv 3 1 nE (tabN n g)) Emp)
set_option maxHeartbeats 1000000 in
theorem greedy_spec {w:World} (cv kv:Value) (cs:List Nat) (ks:List Kt) (hc:Vw w cv nE cs) (hk:KtR w kv ks) (hg:KtG cs ks) :
  Calls Tryz.prog 74 [cv,kv].toArray w fun e w'=>∃x,e=.returned x∧∃u,x=.tuple #[u,.nilIface]∧At w [] (Star (OwnA u 151 2 frE (grX cs ks)) Emp) w':=by
 refine enter Tryz.func74 mixed low74 (Nat.le_of_ble_eq_true rfl) ?_
 simp only [L74]
 have hkl:=hg.len
 have hcl:=hg.clen
 simp
 refine cl_of (paCheck_spec cv kv cs ks hc hk hg) ?_
 rintro _ w1 ⟨rfl,k1⟩
 simp
 refine cl_of (cloneI_spec cv cs (hc.kp0 k1) (by omega)) ?_
 rintro lv w2 n2
 have h2:At w [] (Star (OwnA lv 3 1 nE cs) Emp) w2:=At.nw .emp ((At.start rfl:At w [] Emp w).kp0 .emp k1) n2
 obtain ⟨n,hn⟩:∃n,n=cs.length:=⟨_,rfl⟩
 have e0:cs=tabN n (grA cs ks 0):=by
  rw [hn]
  apply List.ext_getElem
  ·simp [tabN]
  ·intro i h1 h2; simp [tabN,grA,List.getD_eq_getElem?_getD,h1]
 have hkp:=h2.kp
 rw [e0] at h2
 have h3:=At.nil (E:=151) (sz:=2) (enc:=frE) (Lcl.own.star .emp) h2
 simp (disch:=omega) [(hk.kp hkp).vw.len]
 refine range_loop (n:=ks.length) (by omega) (fun i ρ w'=>ρ 0=cv∧ρ 7=lv∧ρ 24=kv∧At w [] (GrU lv (ρ 8) n (grA cs ks i) ((grX cs ks).take i)) w') (by simp) (by simp)
  ⟨by simp,by simp,by simp,by simpa using h3⟩ (by decide) (fun _ _ _ _ h=>by simpa using h) (fun _ _ _ _ h=>by simpa using h) ?_ ?_
 rotate_left
 ·rintro ρ w5 ⟨g0,g7,g24,h5⟩
  have e1:(grX cs ks).take ks.length=grX cs ks:=List.take_of_length_le (by simp [grX,grL_len,kOps])
  rw [e1] at h5
  simp
  exact h5.by (Imp.un Imp.dr)
 clear h2 h3 e0 hkp n2 k1
 rintro i ρ w5 hi hci hli ⟨g0,g7,g24,h5⟩
 obtain ⟨k,hkk⟩:∃k,ks[i]? = some k:=⟨_,List.getElem?_eq_getElem hi⟩
 have hkm:=List.mem_of_getElem? hkk
 have hR5:=hk.kp h5.kp
 have eck:=hR5.vw.cells ktE_len hkk
 simp only [ktE] at eck
 obtain ⟨kb,hkb⟩:∃kb,kb=w5.heap.size:=⟨_,rfl⟩
 have hii:(i:Int) < ks.length:=by omega
 obtain ⟨ov,hov⟩:∃ov,ov=ρ 8:=⟨_,rfl⟩
 obtain ⟨us,hus⟩:∃us,us=(grX cs ks).take i:=⟨_,rfl⟩
 obtain ⟨g,hgg⟩:∃g,g=grA cs ks i:=⟨_,rfl⟩
 rw [←hov,←hus,←hgg] at h5
 have husl:us.length=i:=by rw [hus]; simp [grX,grL_len,kOps]; omega
 have hgle:∀q,g q≤cs.getD q 0:=fun q=>by rw [hgg]; exact gAt_le _ _
 have hgm:∀q,g q≤1048576:=fun q=>Nat.le_trans (hgle q) (by
  by_cases e:q < cs.length
  ·exact hg.cmax _ (mem_getD e)
  ·rw [List.getD_eq_getElem?_getD,List.getElem?_eq_none (by omega)]; exact Nat.zero_le _)
 simp (disch:=omega) [g24,hci,hli,hR5.vw.idx,eck,←hkb]
 have hLg:Lcl (GrU lv ov n g us):=Lcl.own.star (Lcl.own.star .emp)
 refine st_kt (k:=k) hLg h5 hkb fun w6 h6=>?_
 have ok6:=h6.obj
 unfold ktO at ok6
 have ok6':=ok6
 rw [hkb] at ok6
 have hol:=hg.olen hkm
 have ho6:=(hk.kp h6.kp).ops k hkm
 have hne:=hg.ne k hkm
 have hnl:0 < k.ops.length:=by
  cases h:k.ops with
  | nil=>exact absurd h hne
  | cons a l=>simp
 obtain ⟨q0,hq0⟩:∃q0,k.ops[0]? = some q0:=⟨_,List.getElem?_eq_getElem hnl⟩
 have hq0n:q0 < n:=by rw [hn]; exact hg.rng k hkm q0 (List.mem_of_getElem? hq0)
 have hO6:=(h6.drop.drop).own
 have hq0c:=own_cell hO6 (tabN_at hq0n)
 have hq0i:(q0:Int) < (tabN n g).length:=by rw [tabN_len]; omega
 have hc0:=nE_cell ho6 hq0
 have hnli:(0:Int) < k.ops.length:=by omega
 simp (disch:=omega) [g7,cell_blk ok6,ho6.len,ho6.idx,hc0,hO6.idx,hq0c]
 have hhd:k.ops.headD 0=q0:=by
  cases h:k.ops with
  | nil=>exact absurd h hne
  | cons a l=>rw [h] at hq0; simpa using hq0
 have hgl0:gLj g k.ops 0=g q0:=by unfold gLj; rw [hhd]; rfl
 refine range_loop (n:=k.ops.length) (by omega) (fun j ρ w'=>ρ 0=cv∧ρ 7=lv∧ρ 24=kv∧ρ 26=.int .i64 (i:Nat)∧ρ 25=.int .i64 (ks.length:Nat)∧ρ 8=ov∧ρ 10=.pointer (some ⟨kb,0,none⟩)∧ρ 38=k.ov.1∧ρ 11=.int .i64 (gLj g k.ops j:Nat)∧At w [] (Star (ObjA kb (ktO k)) (GrU lv ov n g us)) w') (by simp) (by simp)
  ⟨by simp [g0],by simp [g7],by simp [g24],by simp [hci],by simp [hli],by simp [←hov],by simp [←hkb],by simp,by simp [hgl0],h6⟩ (by decide) (fun _ _ _ _ h=>by simpa using h) (fun _ _ _ _ h=>by simpa using h) ?_ ?_
 ·clear h5 h6 ok6 ok6' ho6 hR5 eck hkb g0 g7 g24 hci hli hov hO6 hq0c hc0
  rintro j ρ w8 hj hcj hlj ⟨g0,g7,g24,g26,g25,g8,g10,g38,g11,h8⟩
  obtain ⟨q,hq⟩:∃q,k.ops[j]? = some q:=⟨_,List.getElem?_eq_getElem hj⟩
  have hqn:q < n:=by rw [hn]; exact hg.rng k hkm q (List.mem_of_getElem? hq)
  have ho8:=(hk.kp h8.kp).ops k hkm
  have hO:=h8.drop.drop.own
  have hqi:(q:Int) < (tabN n g).length:=by rw [tabN_len]; omega
  have hqc:=own_cell hO (tabN_at hqn)
  have hji:(j:Int) < k.ops.length:=by omega
  simp (disch:=omega) [g7,g38,g11,hcj,hlj,ho8.idx,nE_cell ho8 hq,hO.idx,hqc]
  refine ⟨by simp [g0],by simp [g24],by simp [g26],by simp [g25],by simp [g8],by simp [g10],?_,h8⟩
  rw [gLj_succ hq]
  omega
 clear h5 h6 ok6 ok6' ho6 hR5 eck g0 g7 g24 hci hli hov hO6 hq0c hc0
 rintro ρ w8 ⟨g0,g7,g24,g26,g25,g8,g10,g38,g11,h8⟩
 have ok8:=h8.obj
 unfold ktO at ok8
 have ho8:=(hk.kp h8.kp).ops k hkm
 obtain ⟨m,hm⟩:∃m,m=gLs g k.ops:=⟨_,rfl⟩
 have hmj:gLj g k.ops k.ops.length=m:=by rw [hm]; unfold gLj; rw [List.take_length]; rfl
 rw [hmj] at g11
 have hml:∀q ∈ k.ops,m≤g q:=fun q hq=>by rw [hm]; exact gLs_le hq
 have hmx:m≤1048576:=Nat.le_trans (hml q0 (List.mem_of_getElem? hq0)) (hgm q0)
 have hnd:k.ops.Nodup:=(hg.asc k hkm).imp fun h=>Nat.ne_of_lt h
 simp [g10,cell_blk ok8,ho8.len]
 refine range_loop (n:=k.ops.length) (by omega) (fun j ρ w'=>ρ 0=cv∧ρ 7=lv∧ρ 24=kv∧ρ 26=.int .i64 (i:Nat)∧ρ 25=.int .i64 (ks.length:Nat)∧ρ 8=ov∧ρ 52=k.ov.1∧ρ 11=.int .i64 (m:Nat)∧At w [] (GrU lv ov n (fun q=>if q ∈ k.ops.take j then g q - m else g q) us) w') (by simp) (by simp)
  ⟨by simp [g0],by simp [g7],by simp [g24],by simp [g26],by simp [g25],by simp [g8],by simp,by simp [g11],by simpa using h8.drop⟩ (by decide) (fun _ _ _ _ h=>by simpa using h) (fun _ _ _ _ h=>by simpa using h) ?_ ?_
 ·clear h8 ok8 ho8 g0 g7 g24 g26 g25 g8 g10 g38 g11
  rintro j ρ w9 hj hcj hlj ⟨g0,g7,g24,g26,g25,g8,g52,g11,h9⟩
  obtain ⟨q,hq⟩:∃q,k.ops[j]? = some q:=⟨_,List.getElem?_eq_getElem hj⟩
  have hqm:=List.mem_of_getElem? hq
  have hqn:q < n:=by rw [hn]; exact hg.rng k hkm q hqm
  have ho9:=(hk.kp h9.kp).ops k hkm
  obtain ⟨f,hf⟩:∃f:Nat→Nat,f=fun q=>if q ∈ k.ops.take j then g q - m else g q:=⟨_,rfl⟩
  rw [←hf] at h9
  have hfq:f q=g q:=by
   rw [hf]
   show (if q ∈ k.ops.take j then _ else _)=_
   rw [if_neg]
   intro hx
   obtain ⟨j',hj',e⟩:=List.mem_iff_getElem.1 hx
   rw [List.length_take] at hj'
   rw [List.getElem_take] at e
   have h1:=(List.getElem?_eq_some_iff.1 hq)
   obtain ⟨h2,h3⟩:=h1
   have:=(List.getElem_inj hnd).1 (e.trans h3.symm)
   omega
  have hO:=h9.drop.own
  have hqi:(q:Int) < (tabN n f).length:=by rw [tabN_len]; omega
  have hqc:=own_cell hO (tabN_at hqn)
  have hji:(j:Int) < k.ops.length:=by omega
  rw [hfq] at hqc
  obtain ⟨z,hz⟩:∃z,z=g q - m:=⟨_,rfl⟩
  have hmq:=hml q hqm
  have hgq:=hgm q
  have hzi:(g q:Int) - (m:Int)=(z:Int):=by omega
  simp (disch:=omega) [g7,g52,g11,hcj,hlj,ho9.idx,nE_cell ho9 hq,hO.idx,hqc,hzi,wrap_i64]
  refine (h9.by Imp.sw).store1 (Lcl.own.star .emp) nE_len nE_one (k:=q) (by rw [tabN_len]; exact hqn) (x:=z) rfl fun w6 h6=>?_
  rw [tabN_set hqn] at h6
  simp [hcj,hlj]
  refine ⟨by simp [g0],by simp [g7],by simp [g24],by simp [g26],by simp [g25],by simp [g8],by simp [g52],by simp [g11],?_⟩
  have:updN f q z=fun q=>if q ∈ k.ops.take (j+1) then g q - m else g q:=by
   funext x
   rw [take_snoc hq]
   by_cases e:x=q
   ·subst e
    rw [updN_same,hz]
    simp
   ·rw [updN_ne e,hf]
    simp [e]
  rw [←this]
  exact h6.by Imp.sw
 clear h8 ok8 ho8 g0 g7 g24 g26 g25 g8 g10 g38 g11
 rintro ρ w9 ⟨g0,g7,g24,g26,g25,g8,g52,g11,h9⟩
 rw [List.take_length] at h9
 simp [g11,g8]
 refine cl_of (whole_spec m) ?_
 rintro _ w10 ⟨rfl,k10⟩
 have h10:=h9.kp0 (Lcl.own.star (Lcl.own.star .emp)) k10
 simp [frV,g8]
 refine fr_append (l:=us) (x:=whF m) (Lcl.own.star .emp) h10 (by omega) fun v' w11 h11=>?_
 simp [g26,g25]
 refine ⟨by simp [g0],by simp [g7],by simp [g24],?_⟩
 have hko:(kOps ks)[i]? = some k.ops:=by unfold kOps; rw [List.getElem?_map,hkk]; rfl
 have e1:(grX cs ks).take (i+1)=us ++ [whF m]:=by
  have e2:∀j,(grX cs ks).take j=(grL (fun q=>cs.getD q 0) ((kOps ks).take j)).map whF:=fun j=>by
   have h1:=grL_app ((kOps ks).drop j) ((kOps ks).take j) fun q=>cs.getD q 0
   rw [List.take_append_drop] at h1
   unfold grX
   by_cases hj:j≤ks.length
   ·rw [h1,List.map_append,List.take_append_of_le_length (by simp [grL_len,kOps]; omega),List.take_of_length_le (by simp [grL_len,kOps]; omega)]
   ·rw [List.take_of_length_le (by simp [grL_len,kOps]; omega),List.take_of_length_le (l:=kOps ks) (by simp [kOps]; omega)]
  rw [hus,e2,e2,take_snoc hko,grL_snoc,List.map_append,hm,hgg]
  rfl
 have e3:grA cs ks (i+1)=fun q=>if q ∈ k.ops then g q - m else g q:=by
  unfold grA
  rw [take_snoc hko,List.foldl_append]
  funext q
  rw [hm,hgg]
  rfl
 rw [e1,e3]
 exact h11
end Go.Proofs.YtolkjbmcindhjaaGreat
end
section
namespace Go.Proofs.YtolkjbmcindhjaaGreat
open Go Go.W Go.Tk Go.Rx Go.Maps Go.Sx
def IxR {α:Type} (l:List α) (q:α) (i:Int):Prop:=(i=-1∧q ∉ l)∨(∃k:Nat,i=k∧q ∈ l)
theorem not_mem_all {α:Type} {l:List α} {q:α} (h:∀(i:Nat) (x:α),i < l.length→l[i]? = some x→x≠q):q ∉ l:=fun hm=>by
 obtain ⟨i,hi⟩:=List.mem_iff_getElem?.1 hm
 exact h i q (List.getElem?_eq_some_iff.1 hi).1 hi rfl
theorem ixInt_spec {w:World} (v:Value) (l:List Nat) (q:Nat) (hv:Vw w v nE l) (hl:l.length≤1000000) :
  Calls Tryz.prog 184 [v,.int .i64 (q:Nat)].toArray w fun e w'=>∃x,e=.returned x∧∃i:Int,x=.int .i64 i∧IxR l q i∧Kp [] w w':=by
 refine enter Tryz.func184 mixed low184 (Nat.le_of_ble_eq_true rfl) ?_
 simp only [L184]
 simp [hv.len]
 refine range_loop (n:=l.length) (by omega) (fun k ρ w'=>ρ 0=v∧ρ 1=.int .i64 (q:Nat)∧Kp [] w w'∧∀i x,i < k→l[i]? = some x→x≠q) (by simp) (by simp)
  ⟨by simp,by simp,Kp.refl _ _,fun i x hi=>absurd hi (by omega)⟩ (by decide) (fun _ _ _ _ h=>by simpa using h) (fun _ _ _ _ h=>by simpa using h) ?_ ?_
 rotate_left
 ·rintro ρ w4 ⟨g0,g1,k4,hn⟩
  simp
  exact ⟨.inl ⟨rfl,not_mem_all hn⟩,k4⟩
 rintro k ρ w4 hk hc' hlm ⟨g0,g1,k4,hn⟩
 obtain ⟨x,hx⟩:∃x,l[k]? = some x:=⟨_,List.getElem?_eq_getElem hk⟩
 have hv4:=hv.kp0 k4
 have hki:(k:Int) < l.length:=by omega
 by_cases e:q=x
 ·subst e
  simp (disch:=omega) [g0,g1,hc',hlm,hv4.idx,nE_cell hv4 hx]
  exact ⟨.inr ⟨k,rfl,List.mem_of_getElem? hx⟩,k4⟩
 ·have e2:((q:Int) == (x:Int))=false:=by
   cases h:((q:Int) == (x:Int)) with
   | false=>rfl
   | true=>rw [beq_iff_eq] at h; omega
  simp (disch:=omega) [g0,g1,hc',hlm,hv4.idx,nE_cell hv4 hx,e,e2]
  refine ⟨k4,fun i y hi hy=>?_⟩
  by_cases ei:i=k
  ·subst ei
   rw [hx] at hy
   cases hy
   exact fun h=>e h.symm
  ·exact hn i y (by omega) hy
theorem ctInt_spec {w:World} (v:Value) (l:List Nat) (q:Nat) (hv:Vw w v nE l) (hl:l.length≤1000000) :
  Calls Tryz.prog 121 [v,.int .i64 (q:Nat)].toArray w fun e w'=>∃x,e=.returned x∧x=.bool (decide (q ∈ l))∧Kp [] w w':=by
 refine enter Tryz.func121 mixed low121 (Nat.le_of_ble_eq_true rfl) ?_
 simp only [L121]
 simp
 refine cl_of (ixInt_spec v l q hv hl) ?_
 rintro _ w1 ⟨i,rfl,hi,k1⟩
 rcases hi with ⟨rfl,hn⟩ | ⟨k,rfl,hm⟩
 ·simp [hn]
  exact k1
 ·simp [hm]
  exact k1
theorem bE_cell {w:World} {v:Value} {l:List Bool} {k:Nat} {x:Bool} (h:Vw w v bE l) (hx:l[k]? = some x):w.cell? (v.adr.add k)=some (.bool x):=by
 simpa [bE] using h.at_ bE_len hx (o:=0) (u:=.bool x) rfl
def NoT (l:List Bool) (k:Nat):Prop:=∀i x,i < k→l[i]? = some x→x≠true
theorem ixBool_spec {w:World} (v:Value) (l:List Bool) (hv:Vw w v bE l) (hl:l.length≤1000000) :
  Calls Tryz.prog 226 [v,.bool true].toArray w fun e w'=>∃x,e=.returned x∧∃i:Int,x=.int .i64 i∧IxR l true i∧Kp [] w w':=by
 refine enter Tryz.func226 mixed low226 (Nat.le_of_ble_eq_true rfl) ?_
 simp only [L226]
 simp [hv.len]
 refine range_loop (n:=l.length) (by omega) (fun k ρ w'=>ρ 0=v∧ρ 1=.bool true∧Kp [] w w'∧NoT l k) (by simp) (by simp)
  ⟨by simp,by simp,Kp.refl _ _,fun i x hi=>absurd hi (by omega)⟩ (by decide) (fun _ _ _ _ h=>by simpa using h) (fun _ _ _ _ h=>by simpa using h) ?_ ?_
 rotate_left
 ·rintro ρ w4 ⟨g0,g1,k4,hn⟩
  simp
  exact ⟨.inl ⟨rfl,not_mem_all hn⟩,k4⟩
 rintro k ρ w4 hk hc' hlm ⟨g0,g1,k4,hn⟩
 obtain ⟨x,hx⟩:∃x,l[k]? = some x:=⟨_,List.getElem?_eq_getElem hk⟩
 have hv4:=hv.kp0 k4
 have hki:(k:Int) < l.length:=by omega
 have ex:=bE_cell hv4 hx
 cases x with
 | true =>
  simp (disch:=omega) [g0,g1,hc',hlm,hv4.idx,ex]
  exact ⟨.inr ⟨k,rfl,List.mem_of_getElem? hx⟩,k4⟩
 | false =>
  simp (disch:=omega) [g0,g1,hc',hlm,hv4.idx,ex]
  refine ⟨by first | exact k4 | exact k4.drew,fun i y hi hy=>?_⟩
  by_cases ei:i=k
  ·subst ei
   rw [hx] at hy
   cases hy
   simp
  ·exact hn i y (by omega) hy
theorem ctBool_spec {w:World} (v:Value) (l:List Bool) (hv:Vw w v bE l) (hl:l.length≤1000000) :
  Calls Tryz.prog 187 [v,.bool true].toArray w fun e w'=>∃x,e=.returned x∧x=.bool (l.any id)∧Kp [] w w':=by
 refine enter Tryz.func187 mixed low187 (Nat.le_of_ble_eq_true rfl) ?_
 simp only [L187]
 simp
 refine cl_of (ixBool_spec v l hv hl) ?_
 rintro _ w1 ⟨i,rfl,hi,k1⟩
 have ha:l.any id=decide (true ∈ l):=by
  by_cases h:true ∈ l
  ·rw [decide_eq_true h,List.any_eq_true]; exact ⟨true,h,rfl⟩
  ·rw [decide_eq_false h,List.any_eq_false]; intro x hx hx2; exact h (by cases x <;> simp_all)
 rw [ha]
 rcases hi with ⟨rfl,hn⟩ | ⟨k,rfl,hm⟩
 ·simp [hn]
  exact k1
 ·simp [hm]
  exact k1
theorem list_ne {α:Type} {a b:List α} {k:Nat} {x y:α} (ha:a[k]? = some x) (hb:b[k]? = some y) (h:x≠y):a≠b:=fun e=>by
 rw [e,hb] at ha
 exact h (Option.some.inj ha).symm
theorem list_eq_all {α:Type} {a b:List α} (hl:a.length=b.length) (h:∀i x y,i < a.length→a[i]? = some x→b[i]? = some y→x=y):a=b:=List.ext_getElem hl fun i h1 h2=>h i _ _ h1 (List.getElem?_eq_getElem h1) (List.getElem?_eq_getElem h2)
theorem len_beq {a b:Nat} (h:a≠b):((a:Int) == (b:Int))=false:=by
 cases h2:((a:Int) == (b:Int)) with
 | false=>rfl
 | true=>rw [beq_iff_eq] at h2; omega
theorem len_bne {a b:Nat} (h:a≠b):((a:Int) != (b:Int))=true:=by
 rw [bne,len_beq h]; rfl
def EqT (a b:List Bool) (k:Nat):Prop:=∀i x y,i < k→a[i]? = some x→b[i]? = some y→x=y
theorem eqBools_spec {w:World} (v u:Value) (a b:List Bool) (hv:Vw w v bE a) (hu:Vw w u bE b) (hl:a.length≤1000000) (hl2:b.length≤1000000) :
  Calls Tryz.prog 188 [v,u].toArray w fun e w'=>∃x,e=.returned x∧x=.bool (decide (a=b))∧Kp [] w w':=by
 refine enter Tryz.func188 mixed low188 (Nat.le_of_ble_eq_true rfl) ?_
 simp only [L188]
 by_cases hlen:a.length=b.length
 ·simp [hv.len,hu.len,hlen]
  refine range_loop (n:=b.length) (by omega) (fun k ρ w'=>ρ 0=v∧ρ 1=u∧Kp [] w w'∧EqT a b k) (by simp) (by simp)
   ⟨by simp,by simp,Kp.refl _ _,fun i x y hi=>absurd hi (by omega)⟩ (by decide) (fun _ _ _ _ h=>by simpa using h) (fun _ _ _ _ h=>by simpa using h) ?_ ?_
  rotate_left
  ·rintro ρ w4 ⟨g0,g1,k4,hn⟩
   have e:a=b:=list_eq_all hlen fun i x y hi=>hn i x y (by omega)
   simp [e]
   exact k4
  rintro k ρ w4 hk hc' hlm ⟨g0,g1,k4,hn⟩
  obtain ⟨x,hx⟩:∃x,a[k]? = some x:=⟨_,List.getElem?_eq_getElem (by omega)⟩
  obtain ⟨y,hy⟩:∃y,b[k]? = some y:=⟨_,List.getElem?_eq_getElem (by omega)⟩
  have hv4:=hv.kp0 k4
  have hu4:=hu.kp0 k4
  have hki:(k:Int) < a.length:=by omega
  have hkj:(k:Int) < b.length:=by omega
  have ex:=bE_cell hv4 hx
  have ey:=bE_cell hu4 hy
  by_cases e:x=y
  ·subst e
   simp (disch:=omega) [g0,g1,hc',hlm,hv4.idx,hu4.idx,ex,ey]
   refine ⟨by first | exact k4 | exact k4.drew,fun i x' y' hi hx' hy'=>?_⟩
   by_cases ei:i=k
   ·subst ei
    rw [hx] at hx'
    rw [hy] at hy'
    exact (Option.some.inj hx').symm.trans (Option.some.inj hy')
   ·exact hn i x' y' (by omega) hx' hy'
  ·have hne:=list_ne hx hy e
   have e2:(x == y)=false:=by simpa using e
   simp (disch:=omega) [g0,g1,hc',hlm,hv4.idx,hu4.idx,ex,ey,e,e2]
   exact ⟨hne,by first | exact k4 | exact k4.drew⟩
 ·have hne:a≠b:=fun e=>hlen (by rw [e])
  simp [hv.len,hu.len,hlen,len_bne hlen]
  exact ⟨hne,Kp.refl _ _⟩
theorem eqInts_spec {w:World} (v u:Value) (a b:List Nat) (hv:Vw w v nE a) (hu:Vw w u nE b) (hl:a.length≤1000000) (hl2:b.length≤1000000) :
  Calls Tryz.prog 68 [v,u].toArray w fun e w'=>∃x,e=.returned x∧x=.bool (decide (a=b))∧Kp [] w w':=by
 refine enter Tryz.func68 mixed low68 (Nat.le_of_ble_eq_true rfl) ?_
 simp only [L68]
 by_cases hlen:a.length=b.length
 ·simp [hv.len,hu.len,hlen]
  refine range_loop (n:=b.length) (by omega) (fun k ρ w'=>ρ 0=v∧ρ 1=u∧Kp [] w w'∧∀i x y,i < k→a[i]? = some x→b[i]? = some y→x=y) (by simp) (by simp)
   ⟨by simp,by simp,Kp.refl _ _,fun i x y hi=>absurd hi (by omega)⟩ (by decide) (fun _ _ _ _ h=>by simpa using h) (fun _ _ _ _ h=>by simpa using h) ?_ ?_
  rotate_left
  ·rintro ρ w4 ⟨g0,g1,k4,hn⟩
   have e:a=b:=list_eq_all hlen fun i x y hi=>hn i x y (by omega)
   simp [e]
   exact k4
  rintro k ρ w4 hk hc' hlm ⟨g0,g1,k4,hn⟩
  obtain ⟨x,hx⟩:∃x,a[k]? = some x:=⟨_,List.getElem?_eq_getElem (by omega)⟩
  obtain ⟨y,hy⟩:∃y,b[k]? = some y:=⟨_,List.getElem?_eq_getElem (by omega)⟩
  have hv4:=hv.kp0 k4
  have hu4:=hu.kp0 k4
  have hki:(k:Int) < a.length:=by omega
  have hkj:(k:Int) < b.length:=by omega
  by_cases e:x=y
  ·subst e
   simp (disch:=omega) [g0,g1,hc',hlm,hv4.idx,hu4.idx,nE_cell hv4 hx,nE_cell hu4 hy]
   refine ⟨by first | exact k4 | exact k4.drew,fun i x' y' hi hx' hy'=>?_⟩
   by_cases ei:i=k
   ·subst ei
    rw [hx] at hx'
    rw [hy] at hy'
    exact (Option.some.inj hx').symm.trans (Option.some.inj hy')
   ·exact hn i x' y' (by omega) hx' hy'
  ·have hne:=list_ne hx hy e
   simp (disch:=omega) [g0,g1,hc',hlm,hv4.idx,hu4.idx,nE_cell hv4 hx,nE_cell hu4 hy,e,len_bne e]
   exact ⟨hne,by first | exact k4 | exact k4.drew⟩
 ·have hne:a≠b:=fun e=>hlen (by rw [e])
  simp [hv.len,hu.len,hlen,len_bne hlen]
  exact ⟨hne,Kp.refl _ _⟩
end Go.Proofs.YtolkjbmcindhjaaGreat
end
section
namespace Go.Proofs.YtolkjbmcindhjaaGreat
open Go Go.W Go.Tk Go.Rx Go.Lm Go.Maps
def gI (o:Option Nat):Int:=match o with | some g=>(g:Int) | none=>-1
theorem gst_take {V:Nat→Nat} {l:List Nat} {k f:Nat} (h:l[k]? = some f):gst V (l.take (k+1))=gStep V (gst V (l.take k)) f:=by
 rw [take_snoc h,gst_snoc]
theorem gst_mem_take {V:Nat→Nat} {l:List Nat} {k g:Nat} (h:gst V (l.take k)=some g):g ∈ l:=List.mem_of_mem_take (gst_some h).1
set_option maxHeartbeats 1000000 in
theorem greatest_walk {w:World} (lv tv:Value) (l:List Nat) (N:Nat) (V:Nat→Nat) (hl:Vw w lv nE l) (ht:Vw w tv nE (tabN N V)) (hr:∀x ∈ l,x < N) (hll:l.length≤1000000) :
  Calls Tryz.prog 127 [lv,tv].toArray w fun e w'=>∃x,e=.returned x∧x=.int .i64 (gI (gst V l))∧Kp [] w w':=by
 refine enter Tryz.func127 mixed low127 (Nat.le_of_ble_eq_true rfl) ?_
 simp only [L127]
 simp [hl.len]
 refine range_loop (n:=l.length) (by omega) (fun k ρ w'=>ρ 0=lv∧ρ 1=tv∧ρ 8=lv∧ρ 5=.int .i64 (gI (gst V (l.take k)))∧Kp [] w w') (by simp) (by simp)
  ⟨by simp,by simp,by simp,by simp [gst,gI],Kp.refl _ _⟩ (by decide) (fun _ _ _ _ h=>by simpa using h) (fun _ _ _ _ h=>by simpa using h) ?_ ?_
 rotate_left
 ·rintro ρ w2 ⟨g0,g1,g8,g5,k2⟩
  rw [List.take_length] at g5
  simp [g5]
  exact k2
 rintro k ρ w2 hk hck hlk ⟨g0,g1,g8,g5,k2⟩
 have hl2:=hl.kp0 k2
 have ht2:=ht.kp0 k2
 obtain ⟨f,hf⟩:∃f,l[k]? = some f:=⟨_,List.getElem?_eq_getElem hk⟩
 have hfN:=hr f (List.mem_of_getElem? hf)
 have hki:(k:Int) < l.length:=by omega
 have htl:(tabN N V).length=N:=tabN_len _ _
 have hfi:(f:Int) < N:=by omega
 have cf:=nE_cell ht2 (tabN_at (g:=V) hfN)
 have hsuc:=gst_take (V:=V) hf
 cases hg:gst V (l.take k) with
 | none =>
  rw [hg] at g5 hsuc
  have e:gst V (l.take (k+1))=some f:=hsuc
  simp (disch:=omega) [g0,g1,g8,g5,hck,hlk,hl2.idx,nE_cell hl2 hf,gI,e]
  exact k2.drew
 | some g =>
  rw [hg] at g5 hsuc
  have hgN:=hr g (gst_mem_take hg)
  have hgi:(g:Int) < N:=by omega
  have cg:=nE_cell ht2 (tabN_at (g:=V) hgN)
  have n0:¬(g:Int) < 0:=by omega
  have hsuc:gst V (l.take (k+1))=if btr V f g=true then some f else some g:=hsuc
  by_cases s1:V g < V f
  ·have s1':(V g:Int) < (V f:Int):=by omega
   have e:gst V (l.take (k+1))=some f:=by rw [hsuc,if_pos]; unfold btr; simp [s1]
   simp (disch:=omega) [g0,g1,g8,g5,hck,hlk,hl2.idx,nE_cell hl2 hf,gI,e,n0,ht2.idx,htl,cf,cg,s1,s1']
   exact k2.drew
  have s1':¬(V g:Int) < (V f:Int):=by omega
  by_cases s2:V f=V g
  ·have s2':(V f:Int)=(V g:Int):=by omega
   by_cases s3:f < g
   ·have s3':(f:Int) < (g:Int):=by omega
    have e:gst V (l.take (k+1))=some f:=by rw [hsuc,if_pos]; unfold btr; simp [s2,s3]
    simp (disch:=omega) [g0,g1,g8,g5,hck,hlk,hl2.idx,nE_cell hl2 hf,gI,e,n0,ht2.idx,htl,cf,cg,s2,s2',s3,s3']
    exact k2.drew
   ·have s3':¬(f:Int) < (g:Int):=by omega
    have e:gst V (l.take (k+1))=some g:=by rw [hsuc,if_neg]; unfold btr; simp [s2]; omega
    simp (disch:=omega) [g0,g1,g8,g5,hck,hlk,hl2.idx,nE_cell hl2 hf,gI,e,n0,ht2.idx,htl,cf,cg,s2,s2',s3,s3']
    exact k2.drew
  ·have s2':((V f:Int) == (V g:Int))=false:=by simp; omega
   have e:gst V (l.take (k+1))=some g:=by rw [hsuc,if_neg]; unfold btr; simp [s2]; omega
   simp (disch:=omega) [g0,g1,g8,g5,hck,hlk,hl2.idx,nE_cell hl2 hf,gI,e,n0,ht2.idx,htl,cf,cg,s1,s1',s2,s2']
   exact k2.drew
theorem highest_walk {w:World} (lv tv:Value) (l:List Nat) (N:Nat) (V:Nat→Nat) (hl:Vw w lv nE l) (ht:Vw w tv nE (tabN N V)) (hr:∀x ∈ l,x < N) (hll:l.length≤1000000) :
  Calls Tryz.prog 70 [lv,tv].toArray w fun e w'=>∃x,e=.returned x∧x=.int .i64 (gr V l:Nat)∧Kp [] w w':=by
 refine enter Tryz.func70 mixed low70 (Nat.le_of_ble_eq_true rfl) ?_
 simp only [L70]
 simp
 refine cl_of (greatest_walk lv tv l N V hl ht hr hll) ?_
 rintro _ w2 ⟨rfl,k2⟩
 have e:=gr_gst (V:=V) l
 cases hg:gst V l with
 | none =>
  rw [hg] at e
  simp [gI,e]
  exact k2
 | some g =>
  rw [hg] at e
  have hgN:=hr g (gst_some hg).1
  have ht2:=ht.kp0 k2
  have htl:(tabN N V).length=N:=tabN_len _ _
  have hgi:(g:Int) < N:=by omega
  have n0:(0:Int)≤(g:Int):=by omega
  simp (disch:=omega) [gI,n0,ht2.idx,htl,nE_cell ht2 (tabN_at (g:=V) hgN),e]
  exact k2
end Go.Proofs.YtolkjbmcindhjaaGreat
end
section
namespace Go.Proofs.YtolkjbmcindhjaaGreat
open Go Go.W Go.Tk Go.Rx Go.Lm Go.Maps
structure Lu where
 nv:Cell1
 u:Un
def luE (r:Lu):List Value:=[.int .i64 (r.u.op:Nat),.int .i64 (r.u.makes:Nat),r.nv.1]
theorem luE_len (r:Lu):(luE r).length=3:=rfl
theorem luE_one (r:Lu):(luE r).all oneC=true:=by simp [luE,r.nv.2]
def luO (r:Lu):Obj:=.cells #[.int .i64 (r.u.op:Nat),.int .i64 (r.u.makes:Nat),r.nv.1] 130 (0,0)
theorem st_lu {wa w:World} {F:List Nat} {X:Asr} {KW:Kont World} {r:Lu} {b:Nat} (hX:Lcl X) (h:At w F X wa) (hb:b=wa.heap.size) (H:∀w2,At w F (Star (ObjA b (luO r)) X) w2→KW.run w2) :
  @stJ (wa.alloc (.cells #[.int .i64 0,.int .i64 0,.slice none 0 0] 130 (0,0))) ⟨b,0,none⟩ [.int .i64 (r.u.op:Nat),.int .i64 (r.u.makes:Nat),r.nv.1] KW:=by
 have h1:At w F (Star (ObjA b (.cells #[.int .i64 0,.int .i64 0,.slice none 0 0] 130 (0,0))) X) (wa.alloc (.cells #[.int .i64 0,.int .i64 0,.slice none 0 0] 130 (0,0))):=by rw [hb]; exact h.alloc _ hX
 exact h1.st hX (by simp) (by simp [r.nv.2]) fun w2 h2=>H w2 (by simpa [luO] using h2)
structure LuOk (UL:List Un) (N M:Nat):Prop where
 rng:∀u ∈ UL,∀n ∈ u.needs,n < N
 made:∀u ∈ UL,u.makes < N
 op:∀u ∈ UL,u.op < M
 nl:∀u ∈ UL,u.needs.length≤1000000
 ul:UL.length≤1000000
 nn:N≤4096
structure HrR (b:Nat) (vars:List Nat) (G C0:List Nat) (UL:List Un) (vv fv gv cv lv:Value) (rs:List Lu) (w:World):Prop where
 obj:w.heap[b]? = some (.cells #[vv,fv,.int .i64 (vars.sum:Nat),gv,cv,lv] 126 (0,0))
 vvw:Vw w vv nE vars
 first:Vw w fv nE (firsts vars vars.length)
 goal:Vw w gv nE G
 costs:Vw w cv nE C0
 list:Vw w lv luE rs
 needs:∀r ∈ rs,Vw w r.nv.1 nE r.u.needs
 eu:rs.map (·.u)=UL
theorem HrR.kp {b:Nat} {vars G C0:List Nat} {UL:List Un} {vv fv gv cv lv:Value} {rs:List Lu} {w w':World} (h:HrR b vars G C0 UL vv fv gv cv lv rs w) (k:Kp [] w w'):HrR b vars G C0 UL vv fv gv cv lv rs w' :=
 ⟨k.blk h.obj (by simp),h.vvw.kp0 k,h.first.kp0 k,h.goal.kp0 k,h.costs.kp0 k,h.list.kp0 k,fun r hr=>(h.needs r hr).kp0 k,h.eu⟩
def cf (l:List Nat):Nat→Nat:=fun i=>l.getD i 0
def v0S (S:List Nat):Nat→Nat:=fun f=>if f ∈ S then 0 else Inf
theorem v0S_snoc (S:List Nat) (f:Nat):updN (v0S S) f 0=v0S (S ++ [f]):=by
 funext g
 unfold v0S
 by_cases h:g=f
 ·subst h; simp
 ·rw [updN_ne h]; simp [h]
theorem wc_take {UL:List Un} {c:Nat→Nat} {k:Nat} {u:Un} (h:UL[k]? = some u):wc (UL.take (k+1)) c=wc (UL.take k) c ++ [{ u with cost:=c u.op }]:=by
 rw [take_snoc h]; unfold wc; rw [List.map_append]; rfl
structure Vfs (UL:List Un) (c:Nat→Nat) (S:List Nat) (N s0 k:Nat) (ch:Bool) (V:Nat→Nat):Prop where
 rf:Rf (wc UL c) S V
 clo:ch=false→Clo (wc (UL.take k) c) V
 lt:ch=true→sumV N V < s0
 le:sumV N V≤s0
def VmI (b:Nat) (cv ov:Value) (UL:List Un) (c:Nat→Nat) (S:List Nat) (N:Nat) (w:World) (n:Nat) (ρ:Env) (w':World):Prop :=
 ρ 0=.pointer (some ⟨b,0,none⟩)∧ρ 2=cv∧ρ 7=ov∧∃V ch,ρ 11=.bool ch∧Rf (wc UL c) S V∧(ch=false→Clo (wc UL c) V)∧n=(if ch then sumV N V+1 else 0)∧At w [] (Star (OwnA ov 3 1 nE (tabN N V)) Emp) w'
def VmE (b:Nat) (cv ov lv:Value) (UL:List Un) (c:Nat→Nat) (S:List Nat) (N s0:Nat) (w:World) (k:Nat) (ρ:Env) (w':World):Prop :=
 ρ 0=.pointer (some ⟨b,0,none⟩)∧ρ 2=cv∧ρ 7=ov∧ρ 52=lv∧∃V ch,ρ 11=.bool ch∧Vfs UL c S N s0 k ch V∧At w [] (Star (OwnA ov 3 1 nE (tabN N V)) Emp) w'
theorem adr_own {α:Type} {enc:α→List Value} {w:World} {v:Value} {E sz:Nat} {l:List α} {k:Nat} (h:Own w v E sz enc l) (hk:k < l.length):v.adr.add k=⟨v.blk,k,none⟩:=by
 rcases h with ⟨rfl,h⟩ | ⟨g,cap,cur,junk,rfl,hh,_⟩
 ·rw [h] at hk; simp at hk
 ·simp [Value.adr,Value.blk,Addr.add]
  try omega
section
variable {w:World} {b:Nat} {vars G C0:List Nat} {UL:List Un} {vv fv gv cv lv:Value} {rs:List Lu}
set_option maxHeartbeats 1000000 in
theorem values35_walk (sv dv:Value) (s left:List Nat) (hR:HrR b vars G C0 UL vv fv gv cv lv rs w) (hs:Vw w sv nE s) (hst:StN vars s) (hd:Vw w dv nE left) (hdb:∀x ∈ left,x≤1048576) (hL:LuOk UL vars.sum left.length) (hvl:vars.length≤64) :
  Calls Tryz.prog 69 [.pointer (some ⟨b,0,none⟩),sv,dv].toArray w fun e w'=>∃x,e=.returned x∧∃V,IsVal (wc UL (cf left)) (stN vars s vars.length) V∧Nw w w' x 3 1 nE (tabN vars.sum V):=by
 refine enter Tryz.func69 mixed low69 (Nat.le_of_ble_eq_true rfl) ?_
 simp only [L69]
 have hlen:=hst.len
 obtain ⟨N,hN⟩:∃N,N=vars.sum:=⟨_,rfl⟩
 have hNb:N≤4096:=by rw [hN]; exact hL.nn
 rw [←hN] at hL
 have hob:=hR.obj
 rw [←hN] at hob ⊢
 simp [cell_blk hob]
 refine gd_mk (by omega) ?_
 have h1:=(At.start rfl:At w [] Emp w).made (E:=3) (enc:=nE) (x:=0) (z:=[.int .i64 0]) (n:=N) .emp rfl nE_len (by unfold maxLen; omega)
 rw [upto_zero N 0 (fun _=>Inf)] at h1
 obtain ⟨ov,hov⟩:∃ov,ov=Value.slice (some ⟨w.heap.size,0,none⟩) N N:=⟨_,rfl⟩
 rw [←hov] at h1
 simp [←hov,h1.own.vw.len,tabN_len]
 refine range_loop (n:=N) (by omega) (fun i ρ w'=>ρ 0=.pointer (some ⟨b,0,none⟩)∧ρ 1=sv∧ρ 2=dv∧ρ 7=ov∧At w [] (Star (OwnA ov 3 1 nE (tabN N (upto i (fun _=>Inf) 0))) Emp) w') (by simp) (by simp)
  ⟨by simp,by simp,by simp,by simp,by simpa using h1⟩ (by decide) (fun _ _ _ _ h=>by simpa using h) (fun _ _ _ _ h=>by simpa using h) ?_ ?_
 ·rintro i ρ w2 hi hci hli ⟨g0,g1,g2,g7,h2⟩
  have hiN:(i:Int) < N:=by omega
  have htl:(tabN N (upto i (fun _=>Inf) 0)).length=N:=tabN_len _ _
  simp (disch:=omega) [g0,g1,g2,g7,hci,hli,h2.own.idx,htl]
  refine h2.store1 .emp nE_len nE_one (k:=i) (by omega) (x:=Inf) rfl fun w3 h3=>?_
  rw [tabN_set hi,upto_succ] at h3
  simp [g0,g1,g2,g7,hci,hli]
  exact h3
 rintro ρ w2 ⟨g0,g1,g2,g7,h2⟩
 rw [upto_all] at h2
 have e0:(fun _:Nat=>Inf)=v0S (stN vars s 0):=by funext f; simp [v0S,stN]
 rw [e0] at h2
 have hs2:=hs.kp0 h2.kp
 simp [g1,hs2.len]
 refine range_loop (n:=s.length) (by omega) (fun v ρ w'=>ρ 0=.pointer (some ⟨b,0,none⟩)∧ρ 2=dv∧ρ 7=ov∧ρ 29=sv∧At w [] (Star (OwnA ov 3 1 nE (tabN N (v0S (stN vars s v)))) Emp) w') (by simp) (by simp)
  ⟨by simp [g0],by simp [g2],by simp [g7],by simp,by simpa using h2⟩ (by decide) (fun _ _ _ _ h=>by simpa using h) (fun _ _ _ _ h=>by simpa using h) ?_ ?_
 ·clear g0 g1 g2 g7 h2 hs2
  rintro v ρ w3 hv hcv hlv2 ⟨g0,g2,g7,g29,h3⟩
  have hR3:=hR.kp h3.kp
  have hs3:=hs.kp0 h3.kp
  have hob3:=hR3.obj
  obtain ⟨x,hx⟩:∃x,s[v]? = some x:=⟨_,List.getElem?_eq_getElem hv⟩
  have hxd:s.getD v 0=x:=by simp [List.getD,hx]
  have hvlt:v < vars.length:=by rw [←hlen]; exact hv
  have hvr:=hst.rng v hvlt
  rw [hxd] at hvr
  have hnum:=numF_lt (f:=(v,x)) (vars:=vars) hvlt hvr
  unfold numF at hnum
  obtain ⟨f,hf⟩:∃f,f=psum vars v+x:=⟨_,rfl⟩
  have ef:((psum vars v:Nat):Int)+(x:Nat)=(f:Int):=by rw [hf]; simp
  have hfN:f < N:=by rw [hf,hN]; exact hnum
  have hfi:(f:Int) < N:=by omega
  have efc:=nE_cell hR3.first (firsts_at (vars:=vars) hvlt)
  have hfl:(firsts vars vars.length).length=vars.length:=by simp [firsts]
  have hvi:(v:Int) < s.length:=by omega
  have hvi2:(v:Int) < vars.length:=by omega
  have htl:(tabN N (v0S (stN vars s v))).length=N:=tabN_len _ _
  simp (disch:=omega) [g0,g2,g7,g29,hcv,hlv2,hs3.idx,nE_cell hs3 hx,cell_blk hob3,hR3.first.idx,hfl,efc,wrap_i64,ef,h3.own.idx,htl]
  refine h3.store1 .emp nE_len nE_one (k:=f) (by omega) (x:=0) rfl fun w4 h4=>?_
  have e5:stN vars s (v+1)=stN vars s v ++ [f]:=by rw [stN_succ,hxd,hf]
  rw [tabN_set hfN,v0S_snoc,←e5] at h4
  simp [g0,g2,g7,g29,hcv,hlv2]
  exact h4
 clear g0 g1 g2 g7 h2 hs2
 rintro ρ w2 ⟨g0,g2,g7,g29,h2⟩
 rw [hlen] at h2
 obtain ⟨S,hS⟩:∃S,S=stN vars s vars.length:=⟨_,rfl⟩
 rw [←hS] at h2 ⊢
 simp
 refine loop_inv (VmI b dv ov UL (cf left) S N w) (sumV N (v0S S)+1) ⟨by simp [g0],by simp [g2],by simp [g7],_,true,by simp,Rf.init,by simp,rfl,h2⟩ ?_
 clear g0 g2 g7 g29 h2
 rintro n ρ w3 ⟨g0,g2,g7,V,ch,g11,hRf,hCl,rfl,h3⟩
 cases ch with
 | false =>
  simp [g11,g7]
  exact ⟨V,hRf.fin (hCl rfl),Nw.of h3⟩
 | true =>
  have hR3:=hR.kp h3.kp
  have hob3:=hR3.obj
  have hrl:rs.length=UL.length:=by rw [←hR.eu]; simp
  have hul:=hL.ul
  obtain ⟨s0,hs0⟩:∃s0,s0=sumV N V:=⟨_,rfl⟩
  simp [g11,g0,cell_blk hob3,hR3.list.len,hrl]
  refine range_loop (n:=UL.length) (by omega) (VmE b dv ov lv UL (cf left) S N s0 w) (by simp) (by simp)
   ⟨by simp [g0],by simp [g2],by simp [g7],by simp,V,false,by simp,⟨hRf,fun _=>by simp [wc]; exact Clo.nil,by simp,by omega⟩,by simpa using h3⟩ (by decide) (fun _ _ _ _ h=>by unfold VmE at h ⊢; simpa using h) (fun _ _ _ _ h=>by unfold VmE at h ⊢; simpa using h) ?_ ?_
  rotate_left
  ·clear g0 g2 g7 g11 h3
   rintro ρ w4 ⟨g0,g2,g7,g52,V2,ch2,g11,hF,h4⟩
   simp
   have hcl2:=hF.clo
   rw [List.take_length] at hcl2
   refine ⟨_,?_,g0,g2,g7,V2,ch2,g11,hF.rf,hcl2,rfl,h4⟩
   cases ch2 with
   | false=>simp
   | true=>have:=hF.lt rfl; simp; omega
  clear g0 g2 g7 g11 h3 hR3 hob3 hRf hCl
  rintro k ρ w4 hk hck hlk ⟨g0,g2,g7,g52,V2,ch2,g11,hF,h4⟩
  have hR4:=hR.kp h4.kp
  obtain ⟨r,hr⟩:∃r,rs[k]? = some r:=⟨_,List.getElem?_eq_getElem (by omega)⟩
  have hrm:=List.mem_of_getElem? hr
  obtain ⟨u,hu⟩:∃u,u=r.u:=⟨_,rfl⟩
  have huk:UL[k]? = some u:=by rw [←hR.eu,List.getElem?_map,hr,hu]; rfl
  have hum:=List.mem_of_getElem? huk
  have ec:=hR4.list.cells luE_len hr
  simp only [luE] at ec
  obtain ⟨ub,hub⟩:∃ub,ub=w4.heap.size:=⟨_,rfl⟩
  have hki:(k:Int) < rs.length:=by omega
  simp (disch:=omega) [g52,hck,hlk,hR4.list.idx,ec,←hub]
  refine st_lu (r:=r) (Lcl.own.star .emp) h4 hub fun w5 h5=>?_
  have oo5:=h5.obj
  unfold luO at oo5
  have h5':=h5.by Imp.sw
  simp [g7,cell_blk oo5,←hub]
  refine cl_of (highest_walk r.nv.1 ov r.u.needs N V2 ((hR.kp h5.kp).needs r hrm) h5'.own.vw (by rw [←hu]; exact hL.rng u hum) (by rw [←hu]; exact hL.nl u hum)) ?_
  rintro _ w6 ⟨rfl,k6⟩
  rw [←hu]
  have h6:=h5'.kp0 (Lcl.own.star (Lcl.obj.star .emp)) k6
  have oo6:=h6.drop.obj
  unfold luO at oo6
  rw [←hu] at oo6
  have hopM:=hL.op u hum
  have hmk:=hL.made u hum
  obtain ⟨x,hx⟩:∃x,left[u.op]? = some x:=⟨_,List.getElem?_eq_getElem hopM⟩
  have hxd:cf left u.op=x:=by unfold cf; simp [List.getD,hx]
  have hxb:=hdb x (List.mem_of_getElem? hx)
  have hd6:=hd.kp0 h6.kp
  have htl:(tabN N V2).length=N:=tabN_len _ _
  have cO:=h6.own.vw
  have cm:=nE_cell cO (tabN_at (g:=V2) hmk)
  have hoi:(u.op:Int) < left.length:=by omega
  have hmi:(u.makes:Int) < N:=by omega
  obtain ⟨gr0,hgr⟩:∃z,z=gr V2 u.needs:=⟨_,rfl⟩
  rw [←hgr]
  have hInf:Inf=1125899906842624:=rfl
  have hgI:gr0≤Inf:=by rw [hgr]; exact gr_le_iff.2 fun f _=>hF.rf.le f
  obtain ⟨sm,hsm⟩:∃sm,sm=gr0+x:=⟨_,rfl⟩
  have esm:(gr0:Int)+(x:Int)=(sm:Int):=by omega
  have hwt:=wc_take (c:=cf left) huk
  have same:(¬(gr0 < Inf∧sm < V2 u.makes))→Vfs UL (cf left) S N s0 (k+1) ch2 V2:=fun hno=>⟨hF.rf,fun hc=>by
   rw [hwt]
   refine (hF.clo hc).app (Clo.one fun hg=>?_)
   have hg:gr V2 u.needs < Inf:=hg
   show V2 u.makes≤gr V2 u.needs+cf left u.op
   omega,hF.lt,hF.le⟩
  by_cases s1:gr0 < Inf
  ·have s1':(gr0:Int) < 1125899906842624:=by omega
   by_cases s2:sm < V2 u.makes
   ·have s2':(sm:Int) < (V2 u.makes:Int):=by omega
    simp (disch:=omega) [g2,g7,←hub,cell_blk oo6,hd6.idx,nE_cell hd6 hx,cO.idx,htl,cm,s1',s2',esm,wrap_i64]
    rw [adr_own h6.own (by omega:u.makes < (tabN N V2).length)]
    have hLX:Lcl (Star (ObjA ub (luO r)) Emp):=Lcl.obj.star .emp
    have h7:=(h6.drew (Lcl.own.star hLX)).drew (Lcl.own.star hLX)
    refine h7.store1 hLX nE_len nE_one (k:=u.makes) (by omega) (x:=sm) rfl fun w8 h8=>?_
    rw [tabN_set hmk] at h8
    have hst1:=hF.rf.step (mem_wc (c:=cf left) hum) (by show gr V2 u.needs+cf left u.op < V2 u.makes; omega)
    have hst2:Rf (wc UL (cf left)) S (updN V2 u.makes sm):=by
     have e:gr V2 u.needs+cf left u.op=sm:=by omega
     have h9:Rf (wc UL (cf left)) S (updN V2 u.makes (gr V2 u.needs+cf left u.op)):=hst1
     rwa [e] at h9
    have hlt:=sumV_upd (V:=V2) (x:=sm) hmk s2
    have hle:=hF.le
    simp [hck,hlk]
    exact ⟨by simp [g0],by simp [g2],by simp [g7],by simp [g52],updN V2 u.makes sm,true,by simp,⟨hst2,(fun h=>by cases h),(fun _=>by omega),by omega⟩,h8.by (Imp.un Imp.dr)⟩
   ·have s2':¬(sm:Int) < (V2 u.makes:Int):=by omega
    simp (disch:=omega) [g2,g7,←hub,cell_blk oo6,hd6.idx,nE_cell hd6 hx,cO.idx,htl,cm,s1',s2',esm,wrap_i64,hck,hlk]
    exact ⟨by simp [g0],by simp [g2],by simp [g7],by simp [g52],V2,ch2,by simp [g11],same (by omega),(h6.by (Imp.un Imp.dr)).drew (Lcl.own.star .emp)⟩
  ·have s1':¬(gr0:Int) < 1125899906842624:=by omega
   simp (disch:=omega) [g2,g7,←hub,cell_blk oo6,s1',wrap_i64,hck,hlk]
   exact ⟨by simp [g0],by simp [g2],by simp [g7],by simp [g52],V2,ch2,by simp [g11],same (by omega),(h6.by (Imp.un Imp.dr)).drew (Lcl.own.star .emp)⟩
end
end Go.Proofs.YtolkjbmcindhjaaGreat
end
section
namespace Go.Proofs.YtolkjbmcindhjaaGreat
open Go Go.W Go.Tk Go.Rx Go.Lm Go.Maps
def arE (a:Ar):List Value:=[.int .i64 (gI a.fr),.int .i64 (a.to:Nat),.int .i64 (a.op:Nat)]
theorem arE_len (a:Ar):(arE a).length=3:=rfl
theorem arE_one (a:Ar):(arE a).all oneC=true:=rfl
def arO (a:Ar):Obj:=.cells #[.int .i64 (gI a.fr),.int .i64 (a.to:Nat),.int .i64 (a.op:Nat)] 215 (0,0)
theorem st_ar {wa w:World} {F:List Nat} {X:Asr} {KW:Kont World} {a:Ar} {b:Nat} (hX:Lcl X) (h:At w F X wa) (hb:b=wa.heap.size) (H:∀w2,At w F (Star (ObjA b (arO a)) X) w2→KW.run w2) :
  @stJ (wa.alloc (.cells #[.int .i64 0,.int .i64 0,.int .i64 0] 215 (0,0))) ⟨b,0,none⟩ [.int .i64 (gI a.fr),.int .i64 (a.to:Nat),.int .i64 (a.op:Nat)] KW:=by
 have h1:At w F (Star (ObjA b (.cells #[.int .i64 0,.int .i64 0,.int .i64 0] 215 (0,0))) X) (wa.alloc (.cells #[.int .i64 0,.int .i64 0,.int .i64 0] 215 (0,0))):=by rw [hb]; exact h.alloc _ hX
 exact h1.st hX (by simp) (by simp) fun w2 h2=>H w2 (by simpa [arO] using h2)
theorem arcs_take {UL:List Un} {V:Nat→Nat} {k:Nat} {u:Un} (h:UL[k]? = some u):arcs (UL.take (k+1)) V=arcs (UL.take k) V ++ if gr V u.needs < Inf then [arU V u] else []:=by
 rw [take_snoc h]
 unfold arcs
 rw [List.filter_append,List.map_append]
 by_cases hg:gr V u.needs < Inf
 ·simp [hg]
 ·simp [hg]
theorem arcs_len (UL:List Un) (V:Nat→Nat):(arcs UL V).length≤UL.length:=by
 unfold arcs
 rw [List.length_map]
 exact List.length_filter_le _ _
theorem ar_append {w w1:World} {F:List Nat} {B:Asr} {ov:Value} {l:List Ar} {a:Ar} {KV:Kont (Value × World)} (hB:Lcl B) (h:At w F (Star (OwnA ov 215 3 arE l) B) w1) (hl:l.length≤1000000)
  (H:∀v' w2,At w F (Star (OwnA v' 215 3 arE (l ++ [a])) B) w2→KV.run (v',w2)) :
  @efH Tryz.prog (Builtin.append_ #[212,212] 212 [ov,.slice (some ⟨w1.heap.size,0,none⟩) 1 1].toArray) (w1.alloc (.cells #[.int .i64 (gI a.fr),.int .i64 (a.to:Nat),.int .i64 (a.op:Nat)] 215)) KV:=by
 have h4:=h.kp0 (Lcl.own.star hB) ((Kp.refl [] w1).alloc (.cells #[.int .i64 (gI a.fr),.int .i64 (a.to:Nat),.int .i64 (a.op:Nat)] 215))
 refine At.append (xs:=[a]) hB h4 arE_len arE_one sl_212 rfl (fun j u hj=>?_) (by omega) (by unfold maxLen; omega) fun v' w5 h5=>H v' w5 h5
 rw [add_none,cell_blk alloc_new]
 simpa [arE] using hj
section
variable {w:World} {b:Nat} {vars G C0:List Nat} {UL:List Un} {vv fv gv cv lv:Value} {rs:List Lu}
set_option maxHeartbeats 1000000 in
theorem arcs_walk (tv:Value) (V:Nat→Nat) (M:Nat) (hR:HrR b vars G C0 UL vv fv gv cv lv rs w) (ht:Vw w tv nE (tabN vars.sum V)) (hL:LuOk UL vars.sum M) :
  Calls Tryz.prog 128 [.pointer (some ⟨b,0,none⟩),tv].toArray w fun e w'=>∃x,e=.returned x∧Nw w w' x 215 3 arE (arcs UL V):=by
 refine enter Tryz.func128 mixed low128 (Nat.le_of_ble_eq_true rfl) ?_
 simp only [L128]
 have hrl:rs.length=UL.length:=by rw [←hR.eu]; simp
 have hul:=hL.ul
 have h1:=At.nil (E:=215) (sz:=3) (enc:=arE) .emp (At.start rfl:At w [] Emp w)
 simp [cell_blk hR.obj,hR.list.len,hrl]
 refine range_loop (n:=UL.length) (by omega) (fun k ρ w'=>ρ 1=tv∧ρ 11=lv∧At w [] (Star (OwnA (ρ 5) 215 3 arE (arcs (UL.take k) V)) Emp) w') (by simp) (by simp)
  ⟨by simp,by simp,by simpa [arcs] using h1⟩ (by decide) (fun _ _ _ _ h=>by simpa using h) (fun _ _ _ _ h=>by simpa using h) ?_ ?_
 rotate_left
 ·rintro ρ w2 ⟨g1,g11,h2⟩
  rw [List.take_length] at h2
  simp
  exact Nw.of h2
 rintro k ρ w2 hk hck hlk ⟨g1,g11,h2⟩
 have hR2:=hR.kp h2.kp
 obtain ⟨r,hr⟩:∃r,rs[k]? = some r:=⟨_,List.getElem?_eq_getElem (by omega)⟩
 have hrm:=List.mem_of_getElem? hr
 obtain ⟨u,hu⟩:∃u,u=r.u:=⟨_,rfl⟩
 have huk:UL[k]? = some u:=by rw [←hR.eu,List.getElem?_map,hr,hu]; rfl
 have hum:=List.mem_of_getElem? huk
 have ec:=hR2.list.cells luE_len hr
 simp only [luE] at ec
 obtain ⟨ub,hub⟩:∃ub,ub=w2.heap.size:=⟨_,rfl⟩
 have hki:(k:Int) < rs.length:=by omega
 simp (disch:=omega) [g11,hck,hlk,hR2.list.idx,ec,←hub]
 refine st_lu (r:=r) (Lcl.own.star .emp) h2 hub fun w3 h3=>?_
 have oo3:=h3.obj
 unfold luO at oo3
 have hrg:=hL.rng u hum
 have hnl:=hL.nl u hum
 simp [g1,cell_blk oo3,←hub]
 refine cl_of (highest_walk r.nv.1 tv r.u.needs vars.sum V ((hR.kp h3.kp).needs r hrm) (ht.kp0 h3.kp) (by rw [←hu]; exact hrg) (by rw [←hu]; exact hnl)) ?_
 rintro _ w4 ⟨rfl,k4⟩
 have h4:=h3.kp0 (Lcl.obj.star (Lcl.own.star .emp)) k4
 have hsuc:=arcs_take (V:=V) huk
 have hal:=arcs_len (UL.take k) V
 have htl:(UL.take k).length≤UL.length:=by rw [List.length_take]; omega
 rw [hu] at hsuc
 by_cases s1:gr V r.u.needs < Inf
 ·have hInf:Inf=1125899906842624:=rfl
  have s1':(gr V r.u.needs:Int) < 1125899906842624:=by omega
  rw [if_pos s1] at hsuc
  have h4d:=h4.drew (Lcl.obj.star (Lcl.own.star .emp))
  have oo4:=h4d.obj
  unfold luO at oo4
  simp [s1',g1,cell_blk oo4,←hub]
  refine ⟨?_,?_,?_,?_⟩ <;>
  ·refine cl_of (greatest_walk r.nv.1 tv r.u.needs vars.sum V ((hR.kp h4d.kp).needs r hrm) (ht.kp0 h4d.kp) (by rw [←hu]; exact hrg) (by rw [←hu]; exact hnl)) ?_
   rintro _ w5 ⟨rfl,k5⟩
   have h5:=h4d.kp0 (Lcl.obj.star (Lcl.own.star .emp)) k5
   have oo5:=h5.obj
   unfold luO at oo5
   simp [g1,cell_blk oo5,←hub,rowOf]
   refine ar_append (a:=arU V r.u) .emp h5.drop (by omega) fun v' w6 h6=>?_
   simp [g1,g11,hck,hlk]
   rw [hsuc]
   exact h6
 ·have hInf:Inf=1125899906842624:=rfl
  have s1':¬(gr V r.u.needs:Int) < 1125899906842624:=by omega
  rw [if_neg s1,List.append_nil] at hsuc
  simp [s1',g1,g11,hck,hlk]
  rw [hsuc]
  exact h4.drop
end
end Go.Proofs.YtolkjbmcindhjaaGreat
end
