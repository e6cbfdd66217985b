/-
  A part of the proof of this claim's statement (WhU, LdG): plain theorems; no conditions beyond those each names.
-/
import Derived.Test.YtolkjbmcindhjaaGreatPk16
import Derived.Test.YtolkjbmcindhjaaGreatPk18
import Derived.Test.YtolkjbmcindhjaaGreatPk20
set_option maxRecDepth 100000
set_option linter.unusedSimpArgs false
set_option linter.unusedVariables false
set_option linter.unusedSectionVars false
section
namespace Go.Proofs.YtolkjbmcindhjaaGreat
open Go Go.W Go.Tk Go.Rx Go.Maps
theorem own_cell {w:World} {v:Value} {E:Nat} {l:List Nat} {k x:Nat} (h:Go.W.Own w v E 1 nE l) (hx:l[k]? = some x):w.cell? ⟨v.blk,k,none⟩=some (.int .i64 (x:Nat)):=by
 have:=h.cell nE_len hx (o:=0) (by omega)
 simpa [nE] using this
structure Kt where
 ov:Cell1
 ops:List Nat
 cost:Nat
def ktE (k:Kt):List Value:=[k.ov.1,.int .i64 (k.cost:Nat)]
theorem ktE_len (k:Kt):(ktE k).length=2:=rfl
def ktO (k:Kt):Obj:=.cells #[k.ov.1,.int .i64 (k.cost:Nat)] 63 (0,0)
structure KtR (w:World) (v:Value) (ks:List Kt):Prop where
 vw:Vw w v ktE ks
 ops:∀k ∈ ks,Vw w k.ov.1 nE k.ops
theorem KtR.kp {w w':World} {v:Value} {ks:List Kt} (h:KtR w v ks) (k:Kp [] w w'):KtR w' v ks:=⟨h.vw.kp0 k,fun x hx=>(h.ops x hx).kp0 k⟩
structure KtG (cs:List Nat) (ks:List Kt):Prop where
 len:ks.length≤24
 clen:cs.length≤4096
 cmax:∀c ∈ cs,c≤1048576
 ne:∀k ∈ ks,k.ops≠[]
 asc:∀k ∈ ks,k.ops.Pairwise (· < ·)
 rng:∀k ∈ ks,∀q ∈ k.ops,q < cs.length
theorem KtG.olen {cs:List Nat} {ks:List Kt} (h:KtG cs ks) {k:Kt} (hk:k ∈ ks):k.ops.length≤4096:=Nat.le_trans (asc_len k.ops cs.length (h.asc k hk) (h.rng k hk)) h.clen
theorem st_kt {k:Kt} {b:Nat} {w wa:World} {F:List Nat} {X:Asr} {KW:Kont World} (hX:Lcl X) (h:At w F X wa) (hb:b=wa.heap.size) (H:∀w2,At w F (Star (ObjA b (ktO k)) X) w2→KW.run w2) :
  @stJ (wa.alloc (.cells #[.slice none 0 0,.int .i64 0] 63 (0,0))) ⟨b,0,none⟩ [k.ov.1,.int .i64 (k.cost:Nat)] KW:=by
 have h1:At w F (Star (ObjA b (.cells #[.slice none 0 0,.int .i64 0] 63 (0,0))) X) (wa.alloc (.cells #[.slice none 0 0,.int .i64 0] 63 (0,0))):=by rw [hb]; exact h.alloc _ hX
 exact h1.st hX (by simp) (by simp [k.ov.2]) fun w2 h2=>H w2 (by simpa [ktO] using h2)
theorem check1_spec {w:World} (c:Nat) (hc:c≤1048576) :
  Calls Tryz.prog 160 [.int .i64 (c:Nat)].toArray w fun e w'=>∃x,e=.returned x∧x=.bool false∧Kp [] w w':=by
 refine enter Tryz.func160 mixed low160 (Nat.le_of_ble_eq_true rfl) ?_
 simp only [L160]
 have n1:¬(c:Int) < 0:=by omega
 have n2:¬(1048576:Int) < (c:Int):=by omega
 have n2':¬1048576 < c:=by omega
 simp [n1,n2,n2']
 exact Kp.refl _ _
theorem indexPI_spec {w:World} (v:Value) (l:List Nat) (hv:Vw w v nE l) (hl:l.length≤1000000) (hc:∀c ∈ l,c≤1048576) :
  Calls Tryz.prog 165 [v,.func (.func 160) #[] #[]].toArray w fun e w'=>∃x,e=.returned x∧x=.int .i64 (-1)∧Kp [] w w':=by
 refine enter Tryz.func165 mixed low165 (Nat.le_of_ble_eq_true rfl) ?_
 simp only [L165]
 simp [hv.len]
 refine range_loop (n:=l.length) (by omega) (fun k ρ w'=>ρ 0=v∧ρ 1=.func (.func 160) #[] #[]∧Kp [] w w') (by simp) (by simp)
  ⟨by simp,by simp,Kp.refl _ _⟩ (by decide) (fun _ _ _ _ h=>by simpa using h) (fun _ _ _ _ h=>by simpa using h) ?_ ?_
 rotate_left
 ·rintro ρ w4 ⟨g0,g1,k4⟩
  simp
  exact k4
 rintro k ρ w4 hk hc' hlm ⟨g0,g1,k4⟩
 obtain ⟨x,hx⟩:∃x,l[k]? = some x:=⟨_,List.getElem?_eq_getElem hk⟩
 have hv4:=hv.kp0 k4
 have hki:(k:Int) < l.length:=by omega
 simp (disch:=omega) [g0,g1,hc',hlm,hv4.idx,nE_cell hv4 hx]
 refine cl_of (check1_spec x (hc x (List.mem_of_getElem? hx))) ?_
 rintro _ w5 ⟨rfl,k5⟩
 simp [g0,g1,hc',hlm]
 exact k4.trans0 k5
theorem containsPI_spec {w:World} (v:Value) (l:List Nat) (hv:Vw w v nE l) (hl:l.length≤1000000) (hc:∀c ∈ l,c≤1048576) :
  Calls Tryz.prog 113 [v,.func (.func 160) #[] #[]].toArray w fun e w'=>∃x,e=.returned x∧x=.bool false∧Kp [] w w':=by
 refine enter Tryz.func113 mixed low113 (Nat.le_of_ble_eq_true rfl) ?_
 simp only [L113]
 simp
 refine cl_of (indexPI_spec v l hv hl hc) ?_
 rintro _ w5 ⟨rfl,k5⟩
 simp
 exact k5
theorem asc_succ {l:List Nat} (h:l.Pairwise (· < ·)) {i a b:Nat} (ha:l[i]? = some a) (hb:l[i+1]? = some b):a < b:=by
 rw [List.pairwise_iff_getElem] at h
 obtain ⟨h2,rfl⟩:=List.getElem?_eq_some_iff.1 ha
 obtain ⟨h3,rfl⟩:=List.getElem?_eq_some_iff.1 hb
 exact h i (i+1) h2 h3 (by omega)
set_option maxHeartbeats 1000000 in
theorem paCheck_spec {w:World} (cv kv:Value) (cs:List Nat) (ks:List Kt) (hc:Vw w cv nE cs) (hk:KtR w kv ks) (hg:KtG cs ks) :
  Calls Tryz.prog 105 [cv,kv].toArray w fun e w'=>∃x,e=.returned x∧x=.nilIface∧Kp [] w w':=by
 refine enter Tryz.func105 mixed low105 (Nat.le_of_ble_eq_true rfl) ?_
 simp only [L105]
 have hkl:=hg.len
 have hcl:=hg.clen
 simp
 refine cl_of (containsPI_spec cv cs hc (by omega) hg.cmax) ?_
 rintro _ w1 ⟨rfl,k1⟩
 have n1:¬(24:Int) < (ks.length:Int):=by omega
 have n1':¬24 < ks.length:=by omega
 simp [(hk.kp k1).vw.len,n1,n1']
 refine range_loop (n:=ks.length) (by omega) (fun i ρ w'=>ρ 0=cv∧ρ 16=kv∧At w [] Emp w') (by simp) (by simp)
  ⟨by simp,by simp,(At.start rfl).kp0 .emp k1⟩ (by decide) (fun _ _ _ _ h=>by simpa using h) (fun _ _ _ _ h=>by simpa using h) ?_ ?_
 rotate_left
 ·rintro ρ w2 ⟨g0,g16,h2⟩
  simp
  exact h2.kp
 rintro i ρ w2 hi hci hli ⟨g0,g16,h2⟩
 obtain ⟨k,hkk⟩:∃k,ks[i]? = some k:=⟨_,List.getElem?_eq_getElem hi⟩
 have hkm:=List.mem_of_getElem? hkk
 have hR2:=hk.kp h2.kp
 have eck:=hR2.vw.cells ktE_len hkk
 simp only [ktE] at eck
 obtain ⟨kb,hkb⟩:∃kb,kb=w2.heap.size:=⟨_,rfl⟩
 have hii:(i:Int) < ks.length:=by omega
 simp (disch:=omega) [g16,hci,hli,hR2.vw.idx,eck,←hkb]
 refine st_kt (k:=k) .emp h2 hkb fun w3 h3=>?_
 have ok3:=h3.obj
 unfold ktO at ok3
 have ok3':=ok3
 rw [hkb] at ok3'
 have ho3:=(hk.kp h3.kp).ops k hkm
 have hol:=hg.olen hkm
 have hne:=hg.ne k hkm
 have hnl:0 < k.ops.length:=by
  cases h:k.ops with
  | nil=>exact absurd h hne
  | cons a l=>simp
 have n2:((k.ops.length:Int) == 0)=false:=by
  cases h:((k.ops.length:Int) == 0) with
  | false=>rfl
  | true=>rw [beq_iff_eq] at h; omega
 simp [cell_blk ok3',ho3.len,n2]
 refine range_loop (n:=k.ops.length) (by omega) (fun j ρ w'=>ρ 0=cv∧ρ 16=kv∧ρ 18=.int .i64 (i:Nat)∧ρ 17=.int .i64 (ks.length:Nat)∧ρ 6=.pointer (some ⟨kb,0,none⟩)∧ρ 28=k.ov.1∧At w [] (Star (ObjA kb (ktO k)) Emp) w') (by simp) (by simp)
  ⟨by simp [g0],by simp [g16],by simp [hci],by simp [hli],by simp [←hkb],by simp,h3⟩ (by decide) (fun _ _ _ _ h=>by simpa using h) (fun _ _ _ _ h=>by simpa using h) ?_ ?_
 rotate_left
 ·rintro ρ w4 ⟨g0,g16,g18,g17,g6,g28,h4⟩
  simp [g18,g17]
  exact ⟨by simp [g0],by simp [g16],h4.drop⟩
 clear h2 h3 ok3 ok3' ho3 hR2 eck g0 g16 hci hli hkb
 rintro j ρ w4 hj hcj hlj ⟨g0,g16,g18,g17,g6,g28,h4⟩
 obtain ⟨v,hv⟩:∃v,k.ops[j]? = some v:=⟨_,List.getElem?_eq_getElem hj⟩
 have hvl:=hg.rng k hkm v (List.mem_of_getElem? hv)
 have ok4:=h4.obj
 unfold ktO at ok4
 have ho4:=(hk.kp h4.kp).ops k hkm
 have hc4:=hc.kp0 h4.kp
 have hji:(j:Int) < k.ops.length:=by omega
 have n1:¬(v:Int) < 0:=by omega
 have n2:¬((cs.length:Nat):Int)≤(v:Int):=by omega
 have n2':¬cs.length≤v:=by omega
 rcases j with _ | j
 ·simp (disch:=omega) [g0,g28,hcj,hlj,ho4.idx,nE_cell ho4 hv,hc4.len,n1,n2,n2']
  exact ⟨by simp [g16],by simp [g18],by simp [g17],by simp [g6],h4⟩
 ·obtain ⟨u,hu⟩:∃u,k.ops[j]? = some u:=⟨_,List.getElem?_eq_getElem (by omega)⟩
  have huv:=asc_succ (hg.asc k hkm) hu hv
  have n3:¬(v:Int)≤(u:Int):=by omega
  have n3':¬v≤u:=by omega
  have e1:((j+1:Nat):Int) - 1=(j:Int):=by omega
  obtain ⟨k1,hk1⟩:∃k1,k1=j+1:=⟨_,rfl⟩
  rw [←hk1] at hcj hv e1 hji ⊢
  have n4:(0:Int) < (k1:Int):=by omega
  have n4':0 < k1:=by omega
  have hkl:(j:Int) < k.ops.length:=by omega
  simp (disch:=omega) [g0,g28,g6,hcj,hlj,ho4.idx,nE_cell ho4 hv,nE_cell ho4 hu,hc4.len,n1,n2,n2',n3,n3',n4,n4',e1,wrap_i64,cell_blk ok4]
  exact ⟨by simp [g16],by simp [g18],by simp [g17],h4⟩
def mnL (ks:List Kt) (q:Nat):Nat:=(ks.map fun k=>k.ops.count q).sum
theorem mnL_snoc {ks:List Kt} {k:Kt} {q:Nat}:mnL (ks ++ [k]) q=mnL ks q+k.ops.count q:=by simp [mnL]
theorem mnL_le {ks:List Kt} {q n:Nat} (hn:∀k ∈ ks,k.ops.count q≤n):mnL ks q≤ks.length * n:=by
 induction ks with
 | nil=>simp [mnL]
 | cons k ks ih =>
  have h1:=hn k (by simp)
  have h2:=ih fun k' hk'=>hn k' (List.mem_cons_of_mem _ hk')
  have h3:mnL (k :: ks) q=k.ops.count q+mnL ks q:=by simp [mnL]
  rw [h3,List.length_cons,Nat.add_mul]
  omega
theorem mnL_pos {ks:List Kt} {k:Kt} {q:Nat} (hk:k ∈ ks) (hq:q ∈ k.ops):1≤mnL ks q:=by
 induction ks with
 | nil=>cases hk
 | cons k' ks ih =>
  have h3:mnL (k' :: ks) q=k'.ops.count q+mnL ks q:=by simp [mnL]
  rcases List.mem_cons.1 hk with rfl | hk
  ·have:=List.count_pos_iff.2 hq
   omega
  ·have:=ih hk
   omega
def shr (cs:List Nat) (ks:List Kt) (q:Nat):Fr:=(frNew (cs.getD q 0:Nat) (mnL ks q:Nat)).getD (0,1)
theorem shr_new {n d:Nat} (hn:n≤1048576) (hd:1≤d∧d≤1048576):∃f,frNew (n:Nat) (d:Nat)=some f:=by
 unfold frNew
 obtain ⟨g,hg⟩:∃g,g=Nat.gcd (n:Int).natAbs (d:Int).natAbs:=⟨_,rfl⟩
 have hg1:1≤g:=by rw [hg]; exact Nat.gcd_pos_of_pos_right _ (by omega)
 simp only [←hg]
 have h1:=tdiv_le (n:=(n:Int)) hg1
 have h2:=tdiv_le (n:=(d:Int)) hg1
 rw [if_neg (by omega)]
 exact ⟨_,rfl⟩
theorem KtG.cnt {cs:List Nat} {ks:List Kt} (h:KtG cs ks) (q:Nat) {ks':List Kt} (hs:∀k ∈ ks',k ∈ ks) (hl:ks'.length≤24):mnL ks' q≤24:=by
 have:mnL ks' q≤ks'.length * 1:=mnL_le fun k hk=>by
  have:=(h.asc k (hs k hk)).imp (S:=fun a b=>a≠b) fun h=>Nat.ne_of_lt h
  exact List.nodup_iff_count.1 this q
 omega
theorem shr_ok {cs:List Nat} {ks:List Kt} (h:KtG cs ks) {k:Kt} {q:Nat} (hk:k ∈ ks) (hq:q ∈ k.ops):frNew (cs.getD q 0:Nat) (mnL ks q:Nat)=some (shr cs ks q)∧frP (shr cs ks q)=true:=by
 have h1:cs.getD q 0≤1048576:=h.cmax _ (mem_getD (h.rng k hk q hq))
 have h2:=mnL_pos hk hq
 have h3:=h.cnt q (ks':=ks) (fun _ h=>h) h.len
 obtain ⟨f,hf⟩:=shr_new h1 ⟨h2,by omega⟩
 have:shr cs ks q=f:=by unfold shr; rw [hf]; rfl
 rw [this]
 exact ⟨hf,(frNew_ok (by omega) hf).1⟩
def lsF (f:Nat→Fr):List Nat→Fr
 | []=>(0,0)
 | q :: r=>r.foldl (fun a x=>if frCmp (f x) a < 0 then f x else a) (f q)
theorem lsF_snoc {f:Nat→Fr} {l:List Nat} {x:Nat}:lsF f (l ++ [x])=if l=[] then f x else if frCmp (f x) (lsF f l) < 0 then f x else lsF f l:=by
 cases l with
 | nil=>rfl
 | cons q r =>
  rw [if_neg (by simp)]
  show (r ++ [x]).foldl _ (f q)=_
  rw [List.foldl_append]
  rfl
theorem lsF_ok {f:Nat→Fr} {l:List Nat} (hl:l≠[]) (h:∀q ∈ l,frP (f q)=true):frP (lsF f l)=true:=by
 obtain ⟨q,r,rfl⟩:∃q r,l=q :: r:=by
  cases l with
  | nil=>exact absurd rfl hl
  | cons q r=>exact ⟨q,r,rfl⟩
 simp only [lsF]
 have:∀(r:List Nat) (a:Fr),frP a=true→(∀x ∈ r,frP (f x)=true)→frP (r.foldl (fun a x=>if frCmp (f x) a < 0 then f x else a) a)=true:=by
  intro r
  induction r with
  | nil=>intro a ha _; exact ha
  | cons x r ih =>
   intro a ha hr
   rw [List.foldl_cons]
   refine ih _ ?_ fun y hy=>hr y (List.mem_cons_of_mem _ hy)
   split
   ·exact hr x (by simp)
   ·exact ha
 exact this r _ (h q (by simp)) fun x hx=>h x (List.mem_cons_of_mem _ hx)
def unF (cs:List Nat) (ks:List Kt):List Fr:=ks.map fun k=>lsF (shr cs ks) k.ops
theorem fr_append {w w1:World} {F:List Nat} {B:Asr} {ov:Value} {l:List Fr} {x:Fr} {KV:Kont (Value × World)} (hB:Lcl B) (h:At w F (Star (OwnA ov 151 2 frE l) B) w1) (hl:l.length≤1000000)
  (H:∀v' w2,At w F (Star (OwnA v' 151 2 frE (l ++ [x])) B) w2→KV.run (v',w2)) :
  @efH Tryz.prog (Builtin.append_ #[88,88] 88 [ov,.slice (some ⟨w1.heap.size,0,none⟩) 1 1].toArray) (w1.alloc (.cells #[.int .i64 x.1,.int .i64 x.2] 151)) KV:=by
 have h4:=h.kp0 (Lcl.own.star hB) ((Kp.refl [] w1).alloc (.cells #[.int .i64 x.1,.int .i64 x.2] 151))
 refine At.append (xs:=[x]) hB h4 frE_len frE_one sl_88 rfl (fun j u hj=>?_) (by omega) (by unfold maxLen; omega) fun v' w5 h5=>H v' w5 h5
 rw [add_none,cell_blk alloc_new]
 simpa [frE] using hj
abbrev FrU (mv ov:Value) (n:Nat) (g:Nat→Nat) (l:List Fr):Asr:=Star (OwnA ov 151 2 frE l) (Star (OwnA mv 3 1 nE (tabN n g)) Emp)
theorem lcl_u {mv ov:Value} {n:Nat} {g:Nat→Nat} {l:List Fr}:Lcl (FrU mv ov n g l):=Lcl.own.star (Lcl.own.star .emp)
set_option maxHeartbeats 1000000 in
theorem uniform_spec {w:World} (cv kv:Value) (cs:List Nat) (ks:List Kt) (hc:Vw w cv nE cs) (hk:KtR w kv ks) (hg:KtG cs ks) :
  Calls Tryz.prog 44 [cv,kv].toArray w fun e w'=>∃x,e=.returned x∧∃u,x=.tuple #[u,.nilIface]∧At w [] (Star (OwnA u 151 2 frE (unF cs ks)) Emp) w':=by
 refine enter Tryz.func44 mixed low44 (Nat.le_of_ble_eq_true rfl) ?_
 simp only [L44]
 have hkl:=hg.len
 have hcl:=hg.clen
 simp
 refine cl_of (paCheck_spec cv kv cs ks hc hk hg) ?_
 rintro _ w1 ⟨rfl,k1⟩
 simp (disch:=omega) [(hc.kp0 k1).len]
 refine gd_mk (by omega) ?_
 have h2:=((At.start (w:=w) (F:=[]) (A:=Emp) rfl).kp0 .emp k1).made (E:=3) (enc:=nE) (x:=0) (z:=[.int .i64 0]) (n:=cs.length) .emp rfl nE_len (by unfold maxLen; omega)
 obtain ⟨mv,hmv⟩:∃mv,mv=Value.slice (some ⟨w1.heap.size,0,none⟩) cs.length cs.length:=⟨_,rfl⟩
 obtain ⟨w2,hw2⟩:∃w2,w2=w1.alloc (.cells (rowOf [.int .i64 0] cs.length).toArray 3):=⟨_,rfl⟩
 rw [←hmv,←hw2] at h2
 obtain ⟨n,hn⟩:∃n,n=cs.length:=⟨_,rfl⟩
 have e0:List.replicate cs.length 0=tabN n (mnL (ks.take 0)):=by
  rw [hn]
  apply List.ext_getElem
  ·simp [tabN]
  ·intro i h1 h2; simp [tabN,mnL]
 rw [e0] at h2
 have hLm:∀g,Lcl (Star (OwnA mv 3 1 nE (tabN n g)) Emp):=fun _=>Lcl.own.star .emp
 simp (disch:=omega) [←hmv,←hw2,(hk.kp h2.kp).vw.len]
 refine range_loop (n:=ks.length) (by omega) (fun i ρ w'=>ρ 0=cv∧ρ 1=kv∧ρ 7=mv∧ρ 29=kv∧At w [] (Star (OwnA mv 3 1 nE (tabN n (mnL (ks.take i)))) Emp) w') (by simp) (by simp)
  ⟨by simp,by simp,by simp,by simp,h2⟩ (by decide) (fun _ _ _ _ h=>by simpa using h) (fun _ _ _ _ h=>by simpa using h) ?_ ?_
 ·clear h2 hw2 hmv k1
  rintro i ρ w3 hi hci hli ⟨g0,g1,g7,g29,h3⟩
  obtain ⟨k,hkk⟩:∃k,ks[i]? = some k:=⟨_,List.getElem?_eq_getElem hi⟩
  have hkm:=List.mem_of_getElem? hkk
  have hR3:=hk.kp h3.kp
  have eck:=hR3.vw.cells ktE_len hkk
  simp only [ktE] at eck
  obtain ⟨kb,hkb⟩:∃kb,kb=w3.heap.size:=⟨_,rfl⟩
  have hii:(i:Int) < ks.length:=by omega
  simp (disch:=omega) [g29,hci,hli,hR3.vw.idx,eck,←hkb]
  refine st_kt (k:=k) (hLm _) h3 hkb fun w4 h4=>?_
  have ok4:=h4.obj
  unfold ktO at ok4
  rw [hkb] at ok4
  have ho4:=(hk.kp h4.kp).ops k hkm
  have hol:=hg.olen hkm
  simp [cell_blk ok4,ho4.len]
  refine range_loop (n:=k.ops.length) (by omega) (fun j ρ w'=>ρ 0=cv∧ρ 1=kv∧ρ 7=mv∧ρ 29=kv∧ρ 31=.int .i64 (i:Nat)∧ρ 30=.int .i64 (ks.length:Nat)∧ρ 36=k.ov.1∧At w [] (Star (OwnA mv 3 1 nE (tabN n fun q=>mnL (ks.take i) q+(k.ops.take j).count q)) Emp) w') (by simp) (by simp)
   ⟨by simp [g0],by simp [g1],by simp [g7],by simp [g29],by simp [hci],by simp [hli],by simp,by simpa using h4.drop⟩ (by decide) (fun _ _ _ _ h=>by simpa using h) (fun _ _ _ _ h=>by simpa using h) ?_ ?_
  rotate_left
  ·rintro ρ w5 ⟨g0,g1,g7,g29,g31,g30,g36,h5⟩
   rw [List.take_length] at h5
   simp [g31,g30]
   refine ⟨by simp [g0],by simp [g1],by simp [g7],by simp [g29],?_⟩
   have:(fun q=>mnL (ks.take i) q+k.ops.count q)=mnL (ks.take (i+1)):=by
    funext q
    rw [take_snoc hkk,mnL_snoc]
   rw [←this]
   exact h5
  clear h3 h4 ok4 ho4 hR3 eck hkb g0 g1 g7 g29 hci hli
  rintro j ρ w5 hj hcj hlj ⟨g0,g1,g7,g29,g31,g30,g36,h5⟩
  obtain ⟨q,hq⟩:∃q,k.ops[j]? = some q:=⟨_,List.getElem?_eq_getElem hj⟩
  have hqn:q < n:=by rw [hn]; exact hg.rng k hkm q (List.mem_of_getElem? hq)
  have ho5:=(hk.kp h5.kp).ops k hkm
  have hO:=h5.own
  have hji:(j:Int) < k.ops.length:=by omega
  obtain ⟨g,hgf⟩:∃g:Nat→Nat,g=fun q=>mnL (ks.take i) q+(k.ops.take j).count q:=⟨_,rfl⟩
  rw [←hgf] at h5 hO
  have hqi:(q:Int) < (tabN n g).length:=by rw [tabN_len]; omega
  have hqc:=own_cell hO (tabN_at hqn)
  have hgq:g q≤24+4096:=by
   rw [hgf]
   have h1:=hg.cnt q (ks':=ks.take i) (fun _ h=>List.mem_of_mem_take h) (by simp; omega)
   have h2:(k.ops.take j).count q≤(k.ops.take j).length:=List.count_le_length
   have h3:(k.ops.take j).length≤k.ops.length:=by simp; omega
   have h4:=hg.olen hkm
   show mnL _ q+_≤_
   omega
  obtain ⟨z,hz⟩:∃z,z=g q+1:=⟨_,rfl⟩
  have hzi:(g q:Int)+1=(z:Int):=by omega
  simp (disch:=omega) [g7,g36,hcj,hlj,ho5.idx,nE_cell ho5 hq,hO.idx,hqc,hzi,wrap_i64]
  refine h5.store1 .emp nE_len nE_one (k:=q) (by rw [tabN_len]; exact hqn) (x:=z) rfl fun w6 h6=>?_
  rw [tabN_set hqn] at h6
  simp [hcj,hlj]
  refine ⟨by simp [g0],by simp [g1],by simp [g7],by simp [g29],by simp [g31],by simp [g30],by simp [g36],?_⟩
  have:updN g q z=fun q=>mnL (ks.take i) q+(k.ops.take (j+1)).count q:=by
   funext x
   rw [take_snoc hq,List.count_append]
   by_cases e:x=q
   ·subst e
    rw [updN_same,hz,hgf]
    simp
    omega
   ·rw [updN_ne e,hgf]
    have:List.count x [q]=0:=by
     rw [List.count_eq_zero]; simpa using e
    simp [this]
  rw [←this]
  exact h6
 clear h2 hw2 hmv k1
 rintro ρ w3 ⟨g0,g1,g7,g29,h3⟩
 rw [List.take_length] at h3
 have h4:=At.nil (E:=151) (sz:=2) (enc:=frE) (hLm _) h3
 simp (disch:=omega) [g1,(hk.kp h3.kp).vw.len]
 refine range_loop (n:=ks.length) (by omega) (fun i ρ w'=>ρ 0=cv∧ρ 7=mv∧ρ 50=kv∧At w [] (FrU mv (ρ 12) n (mnL ks) ((unF cs ks).take i)) w') (by simp) (by simp)
  ⟨by simp [g0],by simp [g7],by simp,by simpa using h4⟩ (by decide) (fun _ _ _ _ h=>by simpa using h) (fun _ _ _ _ h=>by simpa using h) ?_ ?_
 rotate_left
 ·rintro ρ w5 ⟨g0,g7,g50,h5⟩
  have e1:(unF cs ks).take ks.length=unF cs ks:=List.take_of_length_le (by simp [unF])
  rw [e1] at h5
  simp
  exact h5.by (Imp.un Imp.dr)
 clear h3 h4 g0 g1 g7 g29
 rintro i ρ w5 hi hci hli ⟨g0,g7,g50,h5⟩
 obtain ⟨k,hkk⟩:∃k,ks[i]? = some k:=⟨_,List.getElem?_eq_getElem hi⟩
 have hkm:=List.mem_of_getElem? hkk
 have hR5:=hk.kp h5.kp
 have eck:=hR5.vw.cells ktE_len hkk
 simp only [ktE] at eck
 obtain ⟨kb,hkb⟩:∃kb,kb=w5.heap.size:=⟨_,rfl⟩
 have hii:(i:Int) < ks.length:=by omega
 simp (disch:=omega) [g50,hci,hli,hR5.vw.idx,eck,←hkb]
 refine st_kt (k:=k) lcl_u h5 hkb fun w6 h6=>?_
 have ok6:=h6.obj
 unfold ktO at ok6
 rw [hkb] at ok6
 have hol:=hg.olen hkm
 obtain ⟨lb,hlb⟩:∃lb,lb=w6.heap.size:=⟨_,rfl⟩
 have hL6:Lcl (Star (ObjA kb (ktO k)) (FrU mv (ρ 12) n (mnL ks) ((unF cs ks).take i))):=Lcl.obj.star lcl_u
 have h7:=h6.alloc (frO (0,0)) hL6
 rw [←hlb] at h7
 obtain ⟨w7,hw7⟩:∃w7,w7=w6.alloc (frO (0,0)):=⟨_,rfl⟩
 rw [←hw7] at h7
 have hw7':w6.alloc (.cells #[.int .i64 0,.int .i64 0] 151 (0,0))=w7:=by rw [hw7]; rfl
 have ok7:=h7.drop.obj
 unfold ktO at ok7
 rw [hkb] at ok7
 have ho7:=(hk.kp h7.kp).ops k hkm
 simp (disch:=omega) [←hlb,hw7',cell_blk ok7,ho7.len]
 obtain ⟨ov,hov⟩:∃ov,ov=ρ 12:=⟨_,rfl⟩
 obtain ⟨us,hus⟩:∃us,us=(unF cs ks).take i:=⟨_,rfl⟩
 rw [←hov,←hus] at h7
 have husl:us.length=i:=by rw [hus]; simp [unF]; omega
 have hshr:∀q ∈ k.ops,frNew (cs.getD q 0:Nat) (mnL ks q:Nat)=some (shr cs ks q)∧frP (shr cs ks q)=true:=fun q hq=>shr_ok hg hkm hq
 refine range_loop (n:=k.ops.length) (by omega) (fun j ρ w'=>ρ 0=cv∧ρ 7=mv∧ρ 50=kv∧ρ 52=.int .i64 (i:Nat)∧ρ 51=.int .i64 (ks.length:Nat)∧ρ 12=ov∧ρ 15=.pointer (some ⟨lb,0,none⟩)∧ρ 57=k.ov.1∧At w [] (Star (ObjA lb (frO (lsF (shr cs ks) (k.ops.take j)))) (FrU mv ov n (mnL ks) us)) w') (by simp) (by simp)
  ⟨by simp [g0],by simp [g7],by simp [g50],by simp [hci],by simp [hli],by simp [←hov],by simp,by simp,h7.by (Imp.un Imp.dr)⟩ (by decide) (fun _ _ _ _ h=>by simpa using h) (fun _ _ _ _ h=>by simpa using h) ?_ ?_
 rotate_left
 ·clear h5 h6 h7 ok6 ok7 ho7 hR5 eck hw7 hw7' hlb hkb g0 g7 g50 hci hli hov
  rintro ρ w8 ⟨g0,g7,g50,g52,g51,g12,g15,g57,h8⟩
  rw [List.take_length] at h8
  simp [g12,g15,rd_fr h8.obj]
  refine fr_append (l:=us) (x:=lsF (shr cs ks) k.ops) (B:=Star (ObjA lb (frO (lsF (shr cs ks) k.ops))) (Star (OwnA mv 3 1 nE (tabN n (mnL ks))) Emp)) (Lcl.obj.star (Lcl.own.star .emp)) (h8.by Imp.sw) (by omega) fun v' w9 h9=>?_
  simp [g52,g51]
  refine ⟨by simp [g0],by simp [g7],by simp [g50],?_⟩
  have e1:(unF cs ks).take (i+1)=us ++ [lsF (shr cs ks) k.ops]:=by
   rw [hus,take_snoc (x:=lsF (shr cs ks) k.ops)]
   unfold unF
   rw [List.getElem?_map,hkk]
   rfl
  rw [e1]
  exact h9.by (Imp.un Imp.dr)
 clear h5 h6 h7 ok6 ok7 ho7 hR5 eck hw7 hw7' hlb hkb g0 g7 g50 hci hli hov
 rintro j ρ w8 hj hcj hlj ⟨g0,g7,g50,g52,g51,g12,g15,g57,h8⟩
 obtain ⟨q,hq⟩:∃q,k.ops[j]? = some q:=⟨_,List.getElem?_eq_getElem hj⟩
 have hqm:=List.mem_of_getElem? hq
 have hqn:q < n:=by rw [hn]; exact hg.rng k hkm q hqm
 obtain ⟨hs1,hs2⟩:=hshr q hqm
 have ho8:=(hk.kp h8.kp).ops k hkm
 have hO:=h8.drop.drop.own
 have hqi:(q:Int) < (tabN n (mnL ks)).length:=by rw [tabN_len]; omega
 have hqc:=own_cell hO (tabN_at hqn)
 have hc8:=hc.kp0 h8.kp
 obtain ⟨c,hcq⟩:∃c,cs[q]? = some c:=⟨_,List.getElem?_eq_getElem (by rw [←hn]; exact hqn)⟩
 have hcd:cs.getD q 0=c:=by simp [List.getD,hcq]
 have hcm:=hg.cmax c (List.mem_of_getElem? hcq)
 have hmp:=mnL_pos hkm hqm
 have hml:=hg.cnt q (ks':=ks) (fun _ h=>h) hg.len
 rw [hcd] at hs1
 obtain ⟨f,hf⟩:∃f,f=shr cs ks q:=⟨_,rfl⟩
 rw [←hf] at hs1 hs2
 obtain ⟨a,ha⟩:∃a,a=lsF (shr cs ks) (k.ops.take j):=⟨_,rfl⟩
 rw [←ha] at h8
 have hsn:lsF (shr cs ks) (k.ops.take (j+1))=if k.ops.take j=[] then f else if frCmp f a < 0 then f else a:=by rw [take_snoc hq,lsF_snoc,←hf,←ha]
 have hji:(j:Int) < k.ops.length:=by omega
 have hqci:(q:Int) < cs.length:=by omega
 have hL8:Lcl (Star (ObjA lb (frO a)) (FrU mv ov n (mnL ks) us)):=Lcl.obj.star lcl_u
 simp (disch:=omega) [g57,hcj,hlj,ho8.idx,nE_cell ho8 hq,g0,hc8.idx,nE_cell hc8 hcq,g7,hO.idx,hqc]
 refine ⟨?_,?_⟩
 ·refine cl_of (new9_spec (c:Nat) (mnL ks q:Nat) (by omega) (by omega) (by omega) (by omega)) ?_
  rintro _ w9 ⟨rfl,k9⟩
  have h9:=(h8.drew hL8).kp0 hL8 k9
  obtain ⟨sb,hsb⟩:∃sb,sb=w9.heap.size:=⟨_,rfl⟩
  simp [hs1,frR,frV,←hsb]
  refine st_fr0 (f:=f) hL8 h9 hsb fun wA hT=>?_
  have rs:=rd_fr hT.obj
  rw [hsb] at rs
  have hT2:=hT
  have hj0:(k.ops.take j=[])=(j=0):=by
   rw [eq_iff_iff]
   constructor
   ·intro h
    have:=congrArg List.length h
    simp at this
    rcases this with h | h
    ·exact h
    ·rw [h] at hj; simp at hj
   ·intro h; rw [h]; rfl
  simp only [hj0] at hsn
  by_cases t0:j=0
  ·subst t0
   rw [if_pos rfl] at hsn
   simp [hcj,hlj,rs,g15]
   refine st_fr (f:=a) (g:=f) (Lcl.obj.star lcl_u) (hT.by Imp.sw) fun wB hB=>?_
   simp [hcj,hlj]
   refine ⟨by simp [g0],by simp [g7],by simp [g50],by simp [g52],by simp [g51],by simp [g12],by simp [g15],by simp [g57],?_⟩
   rw [hsn]
   exact hB.by (Imp.un Imp.dr)
  ·rw [if_neg t0] at hsn
   have t1:((j:Int) == 0)=false:=by
    cases h:((j:Int) == 0) with
    | false=>rfl
    | true=>rw [beq_iff_eq] at h; omega
   have hap:frP a=true:=by
    rw [ha]
    exact lsF_ok (by rw [ne_eq,hj0]; exact t0) fun x hx=>(hshr x (List.mem_of_mem_take hx)).2
   have rl:=rd_fr hT.drop.obj
   simp [hcj,hlj,t1,rs,g15,rl]
   refine cl_of (cmp9_spec f a hs2 hap) ?_
   rintro _ wB ⟨rfl,kB⟩
   have hB:=hT.kp0 (Lcl.obj.star hL8) kB
   have rsB:=rd_fr hB.obj
   rw [hsb] at rsB
   by_cases t2:frCmp f a < 0
   ·rw [if_pos t2] at hsn
    simp [t0,t1,t2,rsB,g15]
    refine st_fr (f:=a) (g:=f) (Lcl.obj.star lcl_u) (hB.by Imp.sw) fun wC hC=>?_
    simp [hcj,hlj]
    refine ⟨by simp [g0],by simp [g7],by simp [g50],by simp [g52],by simp [g51],by simp [g12],by simp [g15],by simp [g57],?_⟩
    rw [hsn]
    exact hC.by (Imp.un Imp.dr)
   ·rw [if_neg t2] at hsn
    simp [t0,t1,t2,hcj,hlj]
    refine ⟨by simp [g0],by simp [g7],by simp [g50],by simp [g52],by simp [g51],by simp [g12],by simp [g15],by simp [g57],?_⟩
    rw [hsn]
    exact hB.drop
 ·obtain ⟨sb,hsb⟩:∃sb,sb=w8.drew.heap.size:=⟨_,rfl⟩
  have h9:At w [] (Star (ObjA sb (frO (0,0))) (Star (ObjA lb (frO a)) (FrU mv ov n (mnL ks) us))) (w8.drew.alloc (frO (0,0))):=by rw [hsb]; exact (h8.drew hL8).alloc _ hL8
  have hb9:Lcl (Star (ObjA sb (frO (0,0))) (Star (ObjA lb (frO a)) (FrU mv ov n (mnL ks) us))):=Lcl.obj.star hL8
  refine cl_of (new9_spec (c:Nat) (mnL ks q:Nat) (by omega) (by omega) (by omega) (by omega)) ?_
  rintro _ w9 ⟨rfl,k9⟩
  have h10:=h9.kp0 hb9 k9
  simp [hs1,frR,frV]
  have hsb':w8.heap.size=sb:=hsb.symm
  rw [hsb']
  refine st_fr (f:=(0,0)) (g:=f) hL8 h10 fun wA hT=>?_
  have rs:=rd_fr hT.obj
  rw [←hsb'] at rs
  have hT2:=hT
  have hj0:(k.ops.take j=[])=(j=0):=by
   rw [eq_iff_iff]
   constructor
   ·intro h
    have:=congrArg List.length h
    simp at this
    rcases this with h | h
    ·exact h
    ·rw [h] at hj; simp at hj
   ·intro h; rw [h]; rfl
  simp only [hj0] at hsn
  by_cases t0:j=0
  ·subst t0
   rw [if_pos rfl] at hsn
   simp [hcj,hlj,rs,g15]
   refine st_fr (f:=a) (g:=f) (Lcl.obj.star lcl_u) (hT.by Imp.sw) fun wB hB=>?_
   simp [hcj,hlj]
   refine ⟨by simp [g0],by simp [g7],by simp [g50],by simp [g52],by simp [g51],by simp [g12],by simp [g15],by simp [g57],?_⟩
   rw [hsn]
   exact hB.by (Imp.un Imp.dr)
  ·rw [if_neg t0] at hsn
   have t1:((j:Int) == 0)=false:=by
    cases h:((j:Int) == 0) with
    | false=>rfl
    | true=>rw [beq_iff_eq] at h; omega
   have hap:frP a=true:=by
    rw [ha]
    exact lsF_ok (by rw [ne_eq,hj0]; exact t0) fun x hx=>(hshr x (List.mem_of_mem_take hx)).2
   have rl:=rd_fr hT.drop.obj
   simp [hcj,hlj,t1,rs,g15,rl]
   refine cl_of (cmp9_spec f a hs2 hap) ?_
   rintro _ wB ⟨rfl,kB⟩
   have hB:=hT.kp0 (Lcl.obj.star hL8) kB
   have rsB:=rd_fr hB.obj
   rw [←hsb'] at rsB
   by_cases t2:frCmp f a < 0
   ·rw [if_pos t2] at hsn
    simp [t0,t1,t2,rsB,g15]
    refine st_fr (f:=a) (g:=f) (Lcl.obj.star lcl_u) (hB.by Imp.sw) fun wC hC=>?_
    simp [hcj,hlj]
    refine ⟨by simp [g0],by simp [g7],by simp [g50],by simp [g52],by simp [g51],by simp [g12],by simp [g15],by simp [g57],?_⟩
    rw [hsn]
    exact hC.by (Imp.un Imp.dr)
   ·rw [if_neg t2] at hsn
    simp [t0,t1,t2,hcj,hlj]
    refine ⟨by simp [g0],by simp [g7],by simp [g50],by simp [g52],by simp [g51],by simp [g12],by simp [g15],by simp [g57],?_⟩
    rw [hsn]
    exact hB.drop
end Go.Proofs.YtolkjbmcindhjaaGreat
end
section
namespace Go.Proofs.YtolkjbmcindhjaaGreat
open Go Go.W Go.Tk Go.Rx Go.Maps Go.Sx
def unitR (m i:Nat):List Fr:=(List.range m).map fun k=>if k=i then ((1,1):Fr) else fr0
def rowE (m i:Nat) (r:List Fr):List Fr:=r ++ unitR m i
def rowsE (m:Nat) (rows:List (List Fr)):List (List Fr):=(List.range rows.length).map fun i=>rowE m i (rows.getD i [])
def tl0 (c:List Fr) (rows:List (List Fr)) (b:List Fr):Tl:=⟨c.length,rows.length,rowsE rows.length rows,b,(List.range rows.length).map fun i=>c.length+i,c ++ List.replicate rows.length fr0,fr0⟩
structure PgW (c:List Fr) (rows:List (List Fr)) (b:List Fr):Prop where
 n24:c.length≤24
 m24:rows.length≤24
 bl:b.length=rows.length
 rl:∀r ∈ rows,r.length=c.length
 rp:∀r ∈ rows,∀x ∈ r,frP x=true
 bp:∀x ∈ b,frP x=true
 b0:∀x ∈ b,0≤x.1
 c1:∀x ∈ c,x=(1,1)
def PgA (rows:List (List Fr)) (i j:Nat):Rat:=rv ((rows.getD i []).getD j fr0)
def PgB (b:List Fr) (i:Nat):Rat:=rv (b.getD i fr0)
theorem unitR_len {m i:Nat}:(unitR m i).length=m:=by simp [unitR]
theorem rowsE_at {m:Nat} {rows:List (List Fr)} {i:Nat} (hi:i < rows.length):(rowsE m rows).getD i []=rowE m i (rows.getD i []):=by
 unfold rowsE
 rw [List.getD_eq_getElem?_getD,List.getElem?_map,List.getElem?_range hi]
 rfl
theorem rowsE_len {m:Nat} {rows:List (List Fr)}:(rowsE m rows).length=rows.length:=by simp [rowsE]
theorem getD_app {l k:List Fr} {j:Nat} {d:Fr}:(l ++ k).getD j d=if j < l.length then l.getD j d else k.getD (j - l.length) d:=by
 rw [List.getD_eq_getElem?_getD,List.getD_eq_getElem?_getD,List.getD_eq_getElem?_getD]
 by_cases h:j < l.length
 ·rw [if_pos h,List.getElem?_append_left h]
 ·rw [if_neg h,List.getElem?_append_right (by omega)]
theorem unitR_at {m i j:Nat}:(unitR m i).getD j fr0=if j=i∧j < m then (1,1) else fr0:=by
 unfold unitR
 rw [List.getD_eq_getElem?_getD,List.getElem?_map]
 by_cases h:j < m
 ·rw [List.getElem?_range h]
  by_cases e:j=i
  ·rw [if_pos ⟨e,h⟩]; simp [e]
  ·rw [if_neg (fun x=>e x.1)]; simp [e]
 ·rw [List.getElem?_eq_none (by simp; omega),if_neg (fun x=>h x.2)]
  rfl
theorem rv1:rv (1,1)=1:=by rw [rv_whole]; simp
theorem tl0_tb {c:List Fr} {rows:List (List Fr)} {b:List Fr} (h:PgW c rows b):(tl0 c rows b).tb=tb0 rows.length c.length (PgA rows) (PgB b):=by
 show Tb.mk _ _ _ _ _=Tb.mk _ _ _ _ _
 congr 1
 ·funext i j
  show rv (((rowsE rows.length rows).getD i []).getD j fr0)=_
  by_cases hi:i < rows.length
  ·rw [if_pos hi,rowsE_at hi]
   have hr:(rows.getD i []).length=c.length:=by
    rw [List.getD_eq_getElem?_getD,List.getElem?_eq_getElem hi]
    exact h.rl _ (List.getElem_mem hi)
   unfold rowE
   rw [getD_app,hr]
   by_cases hj:j < c.length
   ·rw [if_pos hj,if_pos hj]
    rfl
   ·rw [if_neg hj,if_neg hj,unitR_at]
    by_cases e:j=c.length+i
    ·rw [if_pos e,if_pos ⟨by omega,by omega⟩,rv1]
    ·rw [if_neg e,if_neg (fun x=>e (by omega)),rv0]
  ·rw [if_neg hi,getD_out (l:=rowsE rows.length rows) (by rw [rowsE_len]; omega)]
   show rv fr0=0
   exact rv0
 ·funext i
  show rv (b.getD i fr0)=_
  by_cases hi:i < rows.length
  ·rw [if_pos hi]; rfl
  ·rw [if_neg hi,getD_out (by rw [h.bl]; omega),rv0]
 ·funext i
  show ((List.range rows.length).map fun i=>c.length+i).getD i 0=_
  rw [List.getD_eq_getElem?_getD,List.getElem?_map]
  by_cases hi:i < rows.length
  ·rw [if_pos hi,List.getElem?_range hi]; rfl
  ·rw [if_neg hi,List.getElem?_eq_none (by simp; omega)]; rfl
 ·funext j
  show rv ((c ++ List.replicate rows.length fr0).getD j fr0)=_
  rw [getD_app]
  by_cases hj:j < c.length
  ·rw [if_pos hj,if_pos hj,List.getD_eq_getElem?_getD,List.getElem?_eq_getElem hj]
   show rv c[j]=1
   rw [h.c1 _ (List.getElem_mem hj),rv1]
  ·rw [if_neg hj,if_neg hj]
   have:(List.replicate rows.length fr0).getD (j - c.length) fr0=fr0:=by
    rw [List.getD_eq_getElem?_getD,List.getElem?_replicate]
    split <;> rfl
   rw [this,rv0]
 ·exact rv0
theorem tl0_ok {c:List Fr} {rows:List (List Fr)} {b:List Fr} (h:PgW c rows b):TlW (tl0 c rows b):=by
 have h1:frP (1,1)=true:=by decide
 refine ⟨h.n24,h.m24,rowsE_len,h.bl,by simp [tl0],by simp [tl0],fun r hr=>?_,h.bp,fun x hx=>?_,frP0,fun x hx=>?_⟩
 ·unfold tl0 rowsE at hr
  obtain ⟨i,hi,rfl⟩:=List.mem_map.1 hr
  have hi':=List.mem_range.1 hi
  have hm:rows.getD i [] ∈ rows:=by
   rw [List.getD_eq_getElem?_getD,List.getElem?_eq_getElem hi']
   exact List.getElem_mem hi'
  refine ⟨by unfold rowE; rw [List.length_append,unitR_len,h.rl _ hm]; rfl,fun x hx=>?_⟩
  unfold rowE at hx
  rcases List.mem_append.1 hx with hx | hx
  ·exact h.rp _ hm x hx
  ·unfold unitR at hx
   obtain ⟨k,_,rfl⟩:=List.mem_map.1 hx
   split
   ·exact h1
   ·exact frP0
 ·unfold tl0 at hx
  rcases List.mem_append.1 hx with hx | hx
  ·rw [h.c1 x hx]; exact h1
  ·rw [List.eq_of_mem_replicate hx]; exact frP0
 ·unfold tl0 at hx
  obtain ⟨i,hi,rfl⟩:=List.mem_map.1 hx
  have:=List.mem_range.1 hi
  have:=h.n24
  have:=h.m24
  show c.length+i≤48
  omega
theorem slF_nil {w:World} {v:Value} {l:List Fr} (h:Vw w v frE l):(v=.slice none 0 0∧l=[])∨∃a cap,v=.slice (some a) l.length cap:=by
 rcases h with h | ⟨a,cap,rfl,_⟩
 ·exact .inl h
 ·exact .inr ⟨a,cap,rfl⟩
theorem clFrac_spec {w:World} (v:Value) (l:List Fr) (hv:Vw w v frE l) (hl:l.length≤1000000) :
  Calls Tryz.prog 228 [v].toArray w fun e w'=>∃u,e=.returned u∧Nw w w' u 151 2 frE l:=by
 refine enter Tryz.func228 mixed low228 (Nat.le_of_ble_eq_true rfl) ?_
 simp only [L228]
 have h0:At w [] Emp w:=At.start rfl
 rcases slF_nil hv with ⟨rfl,rfl⟩ | ⟨a,cap,rfl⟩
 ·simp
  exact Nw.of (At.nil (E:=151) (sz:=2) (enc:=frE) .emp h0)
 ·simp [rowOf]
  have h1:=h0.lit (xs:=([]:List Fr)) (enc:=frE) (E:=151) (sz:=2) (cs:=#[]) (m:=0) .emp (by simp) frE_len (by simp [maxLen]) rfl
  refine At.appendV (xs:=l) .emp h1 (hv.kp0 ((Kp.refl [] w).alloc _)) frE_len frE_one sl_88 (by simp; omega) (by simp; unfold maxLen; omega) fun v' w2 h2=>?_
  simp
  exact Nw.of (by simpa using h2)
def FpR (l:List Fr) (x:Int):Prop:=(x=-1∧∀f ∈ l,¬0 < f.1)∨∃i:Nat,x=i∧i < l.length∧0 < (l.getD i fr0).1∧∀j,j < i→¬0 < (l.getD j fr0).1
def FiI (w:World) (v:Value) (l:List Fr) (k:Nat) (ρ:Env) (w':World):Prop:=ρ 0=v∧ρ 1=.func (.func 192) #[] #[]∧Kp [] w w'∧∀j,j < k→¬0 < (l.getD j fr0).1
theorem ifFrac_spec {w:World} (v:Value) (l:List Fr) (hv:Vw w v frE l) (hl:l.length≤1000000) :
  Calls Tryz.prog 191 [v,.func (.func 192) #[] #[]].toArray w fun e w'=>∃x,e=.returned x∧∃i:Int,x=.int .i64 i∧FpR l i∧Kp [] w w':=by
 refine enter Tryz.func191 mixed low191 (Nat.le_of_ble_eq_true rfl) ?_
 simp only [L191]
 simp [hv.len]
 refine range_loop (n:=l.length) (by omega) (FiI w v l) (by simp) (by simp)
  ⟨by simp,by simp,Kp.refl _ _,fun j hj=>absurd hj (by omega)⟩ (by decide) (fun _ _ _ _ h=>by simpa [FiI] using h) (fun _ _ _ _ h=>by simpa [FiI] using h) ?_ ?_
 rotate_left
 ·rintro ρ w4 ⟨g0,g1,k4,hn⟩
  simp
  refine ⟨.inl ⟨rfl,fun f hf=>?_⟩,k4⟩
  obtain ⟨i,hi⟩:=List.mem_iff_getElem?.1 hf
  have:=hn i (List.getElem?_eq_some_iff.1 hi).1
  rw [getD_of hi] at this
  exact this
 rintro k ρ w4 hk hc' hlm ⟨g0,g1,k4,hn⟩
 obtain ⟨x,hx⟩:∃x,l[k]? = some x:=⟨_,List.getElem?_eq_getElem hk⟩
 have hv4:=hv.kp0 k4
 have ex:=hv4.cells frE_len hx
 simp only [frE] at ex
 have hki:(k:Int) < l.length:=by omega
 simp (disch:=omega) [g0,g1,hc',hlm,hv4.idx,ex]
 refine cl_of (positive_spec x) ?_
 rintro _ w5 ⟨rfl,k5⟩
 by_cases hp:0 < x.1
 ·simp [g0,g1,hc',hlm,hp]
  exact ⟨.inr ⟨k,rfl,hk,by rw [getD_of hx]; exact hp,hn⟩,k4.trans k5⟩
 ·simp [g0,g1,hc',hlm,hp]
  refine ⟨by simp [g0],by simp [g1],k4.trans k5,fun j hj=>?_⟩
  by_cases e:j=k
  ·rw [e,getD_of hx]; exact hp
  ·exact fun h=>hn j (by omega) h
theorem properL_spec {w:World} (v:Value) (l:List Fr) (hv:Vw w v frE l) (hl:l.length≤1000000) (hp:∀x ∈ l,frP x=true) :
  Calls Tryz.prog 227 [v].toArray w fun e w'=>∃x,e=.returned x∧x=.bool true∧Kp [] w w':=by
 refine enter Tryz.func227 mixed low227 (Nat.le_of_ble_eq_true rfl) ?_
 simp only [L227]
 simp [hv.len]
 refine range_loop (n:=l.length) (by omega) (fun k ρ w'=>ρ 5=v∧Kp [] w w') (by simp) (by simp)
  ⟨by simp,Kp.refl _ _⟩ (by decide) (fun _ _ _ _ h=>by simpa using h) (fun _ _ _ _ h=>by simpa using h) ?_ ?_
 rotate_left
 ·rintro ρ w4 ⟨g0,k4⟩
  simp
  exact k4
 rintro k ρ w4 hk hc' hlm ⟨g0,k4⟩
 obtain ⟨x,hx⟩:∃x,l[k]? = some x:=⟨_,List.getElem?_eq_getElem hk⟩
 have hv4:=hv.kp0 k4
 have ex:=hv4.cells frE_len hx
 simp only [frE] at ex
 have hki:(k:Int) < l.length:=by omega
 obtain ⟨fb,hfb⟩:∃fb,fb=w4.heap.size:=⟨_,rfl⟩
 simp (disch:=omega) [g0,hc',hlm,hv4.idx,ex,←hfb]
 refine st_fr0 (f:=x) .emp (At.start rfl:At w4 [] Emp w4) hfb fun w5 h5=>?_
 have r5:=rd_fr h5.obj
 have r5':=r5
 rw [hfb] at r5'
 simp [r5,r5']
 refine cl_of (proper9_spec x) ?_
 rintro _ w6 ⟨rfl,k6⟩
 rw [hp x (List.mem_of_getElem? hx)]
 simp [g0,hc',hlm]
 exact (k4.trans h5.kp).trans k6
structure PgR (w:World) (cv av bv:Value) (c:List Fr) (ps:List (Cell1 × List Fr)) (b:List Fr):Prop where
 c:Vw w cv frE c
 a:Vw w av sv1 ps
 row:∀p ∈ ps,Vw w p.1.1 frE p.2
 b:Vw w bv frE b
theorem PgR.kp {w w':World} {cv av bv:Value} {c:List Fr} {ps:List (Cell1 × List Fr)} {b:List Fr} (h:PgR w cv av bv c ps b) (k:Kp [] w w'):PgR w' cv av bv c ps b :=
 ⟨h.c.kp0 k,h.a.kp0 k,fun p hp=>(h.row p hp).kp0 k,h.b.kp0 k⟩
set_option maxHeartbeats 1000000 in
theorem sxCheck_spec {w:World} {cv av bv:Value} {c:List Fr} {ps:List (Cell1 × List Fr)} {b:List Fr} (hR:PgR w cv av bv c ps b) (hw:PgW c (ps.map (·.2)) b) :
  Calls Tryz.prog 189 [cv,av,bv].toArray w fun e w'=>∃x,e=.returned x∧x=.nilIface∧Kp [] w w':=by
 refine enter Tryz.func189 mixed low189 (Nat.le_of_ble_eq_true rfl) ?_
 simp only [L189]
 have hn:=hw.n24
 have hm:=hw.m24
 have hbl:=hw.bl
 rw [List.length_map] at hm hbl
 have n1:¬(24:Int) < c.length:=by omega
 have n2:¬(24:Int) < ps.length:=by omega
 have n3:¬(24:Int) < b.length:=by omega
 have n1':¬24 < c.length:=by omega
 have n2':¬24 < ps.length:=by omega
 have n3':¬24 < b.length:=by omega
 have n4:((ps.length:Int) != (b.length:Int))=false:=by simp; omega
 have n4':(ps.length != b.length)=false:=by simp; omega
 have hc1:∀x ∈ c,frP x=true:=fun x hx=>by rw [hw.c1 x hx]; decide
 simp [hR.c.len,hR.a.len,hR.b.len,n1,n2,n3,n1',n2',n3',n4,n4']
 refine range_loop (n:=ps.length) (by omega) (fun k ρ w'=>ρ 0=cv∧ρ 1=av∧ρ 2=bv∧ρ 33=av∧w'=w) (by simp) (by simp)
  ⟨by simp,by simp,by simp,by simp,rfl⟩ (by decide) (fun _ _ _ _ h=>by simpa using h) (fun _ _ _ _ h=>by simpa using h) ?_ ?_
 ·rintro k ρ w4 hk hc' hlm ⟨g0,g1,g2,g33,rfl⟩
  obtain ⟨p,hp⟩:∃p,ps[k]? = some p:=⟨_,List.getElem?_eq_getElem hk⟩
  have hrl:=hw.rl p.2 (List.mem_map.2 ⟨p,List.mem_of_getElem? hp,rfl⟩)
  have hki:(k:Int) < ps.length:=by omega
  have n5:((p.2.length:Int) != (c.length:Int))=false:=by simp; omega
  have n5':(p.2.length != c.length)=false:=by simp; omega
  simp (disch:=omega) [g0,g1,g2,g33,hc',hlm,hR.a.idx,sv_cell hR.a hp,(hR.row p (List.mem_of_getElem? hp)).len,hR.c.len,n5,n5']
 rintro ρ w4 ⟨g0,g1,g2,g33,rfl⟩
 simp [g0,g1,g2]
 refine cl_of (properL_spec cv c hR.c (by omega) hc1) ?_
 rintro _ w5 ⟨rfl,k5⟩
 simp [g0,g1,g2]
 refine cl_of (properL_spec bv b (hR.b.kp0 k5) (by omega) hw.bp) ?_
 rintro _ w6 ⟨rfl,k6⟩
 have hR6:=(hR.kp k5).kp k6
 simp [g0,g1,g2,hR6.a.len]
 refine range_loop (n:=ps.length) (by omega) (fun k ρ w'=>ρ 2=bv∧ρ 55=av∧Kp [] w4 w') (by simp) (by simp)
  ⟨by simp [g2],by simp,k5.trans k6⟩ (by decide) (fun _ _ _ _ h=>by simpa using h) (fun _ _ _ _ h=>by simpa using h) ?_ ?_
 ·rintro k ρ w7 hk hc' hlm ⟨g2,g55,k7⟩
  obtain ⟨p,hp⟩:∃p,ps[k]? = some p:=⟨_,List.getElem?_eq_getElem hk⟩
  have hR7:=hR.kp k7
  have hki:(k:Int) < ps.length:=by omega
  have hrl:=hw.rl p.2 (List.mem_map.2 ⟨p,List.mem_of_getElem? hp,rfl⟩)
  simp (disch:=omega) [g2,g55,hc',hlm,hR7.a.idx,sv_cell hR7.a hp]
  refine cl_of (properL_spec p.1.1 p.2 (hR7.row p (List.mem_of_getElem? hp)) (by omega) (hw.rp p.2 (List.mem_map.2 ⟨p,List.mem_of_getElem? hp,rfl⟩))) ?_
  rintro _ w8 ⟨rfl,k8⟩
  simp [g2,g55,hc',hlm]
  exact k7.trans k8
 clear g0 g1 g2 hR6 k5 k6
 rintro ρ w7 ⟨g2,g55,k7⟩
 have hR7:=hR.kp k7
 simp [g2,hR7.b.len]
 refine range_loop (n:=b.length) (by omega) (fun k ρ w'=>ρ 66=bv∧Kp [] w4 w') (by simp) (by simp)
  ⟨by simp,k7⟩ (by decide) (fun _ _ _ _ h=>by simpa using h) (fun _ _ _ _ h=>by simpa using h) ?_ ?_
 ·rintro k ρ w8 hk hc' hlm ⟨g66,k8⟩
  obtain ⟨x,hx⟩:∃x,b[k]? = some x:=⟨_,List.getElem?_eq_getElem hk⟩
  have hb8:=hR.b.kp0 k8
  have ex:=hb8.cells frE_len hx
  simp only [frE] at ex
  have hki:(k:Int) < b.length:=by omega
  have h0:=hw.b0 x (List.mem_of_getElem? hx)
  have n6:¬x.1 < 0:=by omega
  obtain ⟨fb,hfb⟩:∃fb,fb=w8.heap.size:=⟨_,rfl⟩
  simp (disch:=omega) [g66,hc',hlm,hb8.idx,ex,←hfb]
  refine st_fr0 (f:=x) .emp (At.start rfl:At w8 [] Emp w8) hfb fun w9 h9=>?_
  have o9:=h9.obj
  unfold frO at o9
  have o9':=o9
  rw [hfb] at o9'
  simp [cell_blk o9,cell_blk o9',n6,g66,hc',hlm]
  exact k8.trans h9.kp
 rintro ρ w8 ⟨g66,k8⟩
 simp
 exact k8
end Go.Proofs.YtolkjbmcindhjaaGreat
end
