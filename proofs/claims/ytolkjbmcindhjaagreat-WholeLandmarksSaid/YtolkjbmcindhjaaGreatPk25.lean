/-
  A part of the proof of this claim's statement (WhKeys, LmW4, LmW5, LmW6): plain theorems; no conditions beyond those each names.
-/
import Derived.Shelf.SortM.Plain
import Derived.Shelf.SortM.SortNone
import Derived.Shelf.Slices.CompactI
import Derived.Test.YtolkjbmcindhjaaGreatProg
import Derived.Test.YtolkjbmcindhjaaGreatPk24
import Derived.Lib.SlKeysI
set_option maxRecDepth 100000
set_option linter.unusedSimpArgs false
set_option linter.unusedVariables false
set_option linter.unusedSectionVars false
section
namespace Go.Proofs
open Go.Shelf
def Tryz.sort60_ren:Go.Shelf.Ren:=⟨fun | 5=>60 | 8=>120 | 7=>119 | 19=>182 | 20=>183 | 10=>173 | 11=>174 | 12=>175 | 13=>176 | 14=>177 | 15=>178 | 16=>179 | 17=>180 | 18=>181 | 30=>221 | 31=>222 | 32=>223 | 33=>224 | 34=>225 | 35=>209 | 40=>246 | n=>n,fun | 23=>22 | 25=>3 | 3=>3 | 32=>205 | 22=>22 | 0=>0 | 44=>285 | 46=>287 | 4=>4 | 36=>278 | 35=>277 | 41=>248 | 5=>5 | 9=>9 | 53=>325 | 57=>329 | 63=>346 | 64=>347 | n=>n,fun | n=>n⟩
theorem Tryz.sort60:Go.Proofs.SlLaysM.n5 Tryz.prog Tryz.sort60_ren:={
 mixed:=by kernel_rfl
 f5:=⟨Tryz.f60.name,by decide,Tryz.func60.trans (congrArg some (by kernel_rfl))⟩
 f7:=⟨Tryz.f119.name,by decide,Tryz.func119.trans (congrArg some (by kernel_rfl))⟩
 f8:=Tryz.func120.trans (congrArg some (by kernel_rfl))
 f10:=⟨Tryz.f173.name,by decide,Tryz.func173.trans (congrArg some (by kernel_rfl))⟩
 f11:=⟨Tryz.f174.name,by decide,Tryz.func174.trans (congrArg some (by kernel_rfl))⟩
 f12:=⟨Tryz.f175.name,by decide,Tryz.func175.trans (congrArg some (by kernel_rfl))⟩
 f13:=⟨Tryz.f176.name,by decide,Tryz.func176.trans (congrArg some (by kernel_rfl))⟩
 f14:=⟨Tryz.f177.name,by decide,Tryz.func177.trans (congrArg some (by kernel_rfl))⟩
 f15:=⟨Tryz.f178.name,by decide,Tryz.func178.trans (congrArg some (by kernel_rfl))⟩
 f16:=⟨Tryz.f179.name,by decide,Tryz.func179.trans (congrArg some (by kernel_rfl))⟩
 f17:=⟨Tryz.f180.name,by decide,Tryz.func180.trans (congrArg some (by kernel_rfl))⟩
 f18:=⟨Tryz.f181.name,by decide,Tryz.func181.trans (congrArg some (by kernel_rfl))⟩
 f19:=Tryz.func182.trans (congrArg some (by kernel_rfl))
 f20:=Tryz.func183.trans (congrArg some (by kernel_rfl))
 f30:=⟨Tryz.f221.name,by decide,Tryz.func221.trans (congrArg some (by kernel_rfl))⟩
 f31:=Tryz.func222.trans (congrArg some (by kernel_rfl))
 f32:=Tryz.func223.trans (congrArg some (by kernel_rfl))
 f33:=⟨Tryz.f224.name,by decide,Tryz.func224.trans (congrArg some (by kernel_rfl))⟩
 f34:=⟨Tryz.f225.name,by decide,Tryz.func225.trans (congrArg some (by kernel_rfl))⟩
 f35:=⟨Tryz.f209.name,by decide,Tryz.func209.trans (congrArg some (by kernel_rfl))⟩
 f40:=⟨Tryz.f246.name,by decide,Tryz.func246.trans (congrArg some (by kernel_rfl))⟩
 t0:=Tryz.underlying0
 a0:=Tryz.isAgg0
 z0:=Tryz.sizeOf0
 v0:=Tryz.zeroValue0
 t3:=Tryz.underlying3
 a3:=Tryz.isAgg3
 z3:=Tryz.sizeOf3
 v3:=Tryz.zeroValue3
 t4:=Tryz.underlying4
 a4:=Tryz.isAgg4
 z4:=Tryz.sizeOf4
 v4:=Tryz.zeroValue4
 t5:=Tryz.underlying5
 a5:=Tryz.isAgg5
 z5:=Tryz.sizeOf5
 v5:=Tryz.zeroValue5
 t9:=Tryz.underlying9
 a9:=Tryz.isAgg9
 z9:=Tryz.sizeOf9
 v9:=Tryz.zeroValue9
 t22:=Tryz.underlying22
 a22:=Tryz.isAgg22
 z22:=Tryz.sizeOf22
 v22:=Tryz.zeroValue22
 t23:=Tryz.underlying22
 a23:=Tryz.isAgg22
 z23:=Tryz.sizeOf22
 v23:=Tryz.zeroValue22
 t25:=Tryz.underlying3
 a25:=Tryz.isAgg3
 z25:=Tryz.sizeOf3
 v25:=Tryz.zeroValue3
 t32:=Tryz.underlying205
 a32:=Tryz.isAgg205
 z32:=Tryz.sizeOf205
 v32:=Tryz.zeroValue205
 t35:=Tryz.underlying277
 a35:=Tryz.isAgg277
 z35:=Tryz.sizeOf277
 v35:=Tryz.zeroValue277
 t36:=Tryz.underlying278
 a36:=Tryz.isAgg278
 z36:=Tryz.sizeOf278
 v36:=Tryz.zeroValue278
 t41:=Tryz.underlying248
 a41:=Tryz.isAgg248
 z41:=Tryz.sizeOf248
 v41:=Tryz.zeroValue248
 t44:=Tryz.underlying285
 a44:=Tryz.isAgg285
 z44:=Tryz.sizeOf285
 v44:=Tryz.zeroValue285
 t46:=Tryz.underlying287
 a46:=Tryz.isAgg287
 z46:=Tryz.sizeOf287
 v46:=Tryz.zeroValue287
 t53:=Tryz.underlying325
 a53:=Tryz.isAgg325
 z53:=Tryz.sizeOf325
 v53:=Tryz.zeroValue325
 t57:=Tryz.underlying329
 a57:=Tryz.isAgg329
 z57:=Tryz.sizeOf329
 v57:=Tryz.zeroValue329
 t63:=Tryz.underlying346
 a63:=Tryz.isAgg346
 z63:=Tryz.sizeOf346
 v63:=Tryz.zeroValue346
 t64:=Tryz.underlying347
 a64:=Tryz.isAgg347
 z64:=Tryz.sizeOf347
 v64:=Tryz.zeroValue347 }
def Tryz.compact61_ren:Go.Shelf.Ren:=⟨fun | 20=>61 | n=>n,fun | 22=>22 | 3=>3 | 4=>4 | 0=>0 | n=>n,fun | n=>n⟩
theorem Tryz.compact61:Go.Proofs.Lays2.n20 Tryz.prog Tryz.compact61_ren:={
 mixed:=by kernel_rfl
 f20:=Tryz.func61.trans (congrArg some (by kernel_rfl))
 t0:=Tryz.underlying0
 a0:=Tryz.isAgg0
 z0:=Tryz.sizeOf0
 v0:=Tryz.zeroValue0
 t3:=Tryz.underlying3
 a3:=Tryz.isAgg3
 z3:=Tryz.sizeOf3
 v3:=Tryz.zeroValue3
 t4:=Tryz.underlying4
 a4:=Tryz.isAgg4
 z4:=Tryz.sizeOf4
 v4:=Tryz.zeroValue4
 t22:=Tryz.underlying22
 a22:=Tryz.isAgg22
 z22:=Tryz.sizeOf22
 v22:=Tryz.zeroValue22
 i3:=by kernel_rfl }
end Go.Proofs
end
section
namespace Go.Proofs.YtolkjbmcindhjaaGreat
open Go Go.W Go.Tk Go.Rx Go.Lm Go.Maps
theorem flat_nE (l:List Nat):l.flatMap nE=(l.map iN).map (Value.int .i64):=by
 induction l with
 | nil=>rfl
 | cons x l ih=>rw [List.flatMap_cons,ih]; rfl
theorem put_list {cur:Array Value} {l ys:List Int} {junk:List Value} (hc:cur.toList=l.map (Value.int .i64) ++ junk) (hy:ys.length=l.length) :
  (Go.Sort.putCells (Value.int .i64) 0 ys.toArray cur).toList=ys.map (Value.int .i64) ++ junk:=by
 unfold Go.Sort.putCells
 rw [Array.toList_mapIdx,hc]
 apply List.ext_getElem?
 intro i
 rw [List.getElem?_mapIdx]
 by_cases hi:i < ys.length
 ·rw [List.getElem?_append_left (by simpa [hy] using hi),List.getElem?_append_left (by simpa using hi),List.getElem?_map,List.getElem?_map,List.getElem?_eq_getElem hi,List.getElem?_eq_getElem (by omega)]
  simp [hi]
 ·rw [List.getElem?_append_right (by simp; omega),List.getElem?_append_right (by simp; omega)]
  simp only [List.length_map,hy]
  cases junk[i - l.length]? with
  | none=>rfl
  | some v =>
   simp
   intro h
   omega
theorem kp_put {w w':World} {g n:Nat} {f:Array Value→Array Value} {os:Array Obj} (hw:w'=Go.Sort.grow (Go.Sort.mapBlock (Go.Sort.ahead w n) g f) os):Kp [g] w w':=by
 subst hw
 refine ⟨rfl,rfl,rfl,?_,fun i hi hn=>?_⟩
 ·show w.heap.size≤((w.heap.modify g _) ++ os).size
  simp
 ·show ((w.heap.modify g (Go.Sort.onCells f)) ++ os)[i]? = w.heap[i]?
  rw [Array.getElem?_append_left (by simpa using hi),Array.getElem?_modify,if_neg (by intro e; exact hn (by simp [e]))]
theorem blk_put {w w':World} {g n E:Nat} {f:Array Value→Array Value} {os:Array Obj} {cur:Array Value} (hb:w.heap[g]? = some (.cells cur E (0,0))) (hw:w'=Go.Sort.grow (Go.Sort.mapBlock (Go.Sort.ahead w n) g f) os):w'.heap[g]? = some (.cells (f cur) E (0,0)):=by
 subst hw
 show ((w.heap.modify g (Go.Sort.onCells f)) ++ os)[g]? = _
 have hg:=lt_of_blk hb
 rw [Array.getElem?_append_left (by simpa using hg),Array.getElem?_modify,if_pos rfl,hb]
 rfl
theorem sort_spec {w:World} {v:Value} {l:List Nat} (h:Own w v 3 1 nE l) (hl:l.length≤1000000) :
  Calls Tryz.prog 60 [v].toArray w fun e w'=>∃x,e=.returned x∧x=.tuple #[]∧Kp v.own w w'∧∃l',Own w' v 3 1 nE l'∧(∀x,x ∈ l'↔x ∈ l)∧l'.Pairwise (·≤·)∧l'.length=l.length:=by
 rcases h with ⟨rfl,rfl⟩ | ⟨g,cap,cur,junk,rfl,hb,hc,hj,hle,hm⟩
 ·refine Calls.mono (AnyM.slices_Sort_int_none Tryz.sort60 none 0 w) ?_
  rintro e w' ⟨rfl,rfl⟩
  exact ⟨_,rfl,rfl,Kp.refl _ _,[],Own.nil _ _ _ _,by simp,by simp,rfl⟩
 ·rw [flat_nE] at hc
  obtain ⟨zs,hzs⟩:∃zs,zs=l.map iN:=⟨_,rfl⟩
  rw [←hzs] at hc
  have hzl:zs.length=l.length:=by rw [hzs]; simp
  have hH:Go.Sort.Holds (Value.int .i64) w g 0 zs.toArray:=by
   refine holds_of_block_i hb ?_
   rw [hc,List.take_append_of_le_length (by simp),List.take_of_length_le (by simp)]
  rw [←hzl]
  refine Calls.mono (AnyM.slices_Sort_int Tryz.sort60 g 0 cap zs w hH (lt_of_blk hb) (by omega)) ?_
  rintro e w' ⟨rfl,n,os,hw⟩
  obtain ⟨ys,hys⟩:∃ys,ys=zs.mergeSort fun x y=>decide (x≤y):=⟨_,rfl⟩
  rw [←hys] at hw
  have hperm:ys.Perm zs:=by rw [hys]; exact List.mergeSort_perm _ _
  have hpw:ys.Pairwise fun x y=>x≤y:=by
   have:=List.pairwise_mergeSort (le:=fun x y:Int=>decide (x≤y)) (fun a b c h1 h2=>by simp at h1 h2 ⊢; omega) (fun a b=>by simp; omega) zs
   rw [hys]
   exact this.imp fun h=>by simpa using h
  have hyl:ys.length=zs.length:=hperm.length_eq
  obtain ⟨l',hl',hl2⟩:=list_nat (f:=iN) (p:=fun n=>n ∈ l) (l:=ys) fun a ha=>by
   have:=hperm.mem_iff.1 ha
   rw [hzs] at this
   obtain ⟨x,hx,rfl⟩:=List.mem_map.1 this
   exact ⟨x,rfl,hx⟩
  have hw2:w'=Go.Sort.grow (Go.Sort.mapBlock (Go.Sort.ahead w n) g (Go.Sort.putCells (Value.int .i64) 0 ys.toArray)) os:=hw
  have hl'l:l'.length=l.length:=by
   have:=congrArg List.length hl'
   simp at this; omega
  refine ⟨_,rfl,rfl,kp_put hw2,l',?_,fun x=>⟨fun hx=>hl2 x hx,fun hx=>?_⟩,?_,hl'l.trans hzl.symm⟩
  ·refine .inr ⟨g,cap,_,junk,by rw [hl'l,hzl],blk_put hb hw2,?_,by rw [hl'l]; exact hj,by omega,hm⟩
   rw [put_list hc hyl,flat_nE,hl']
  ·have:iN x ∈ ys:=hperm.mem_iff.2 (by rw [hzs]; exact List.mem_map.2 ⟨x,hx,rfl⟩)
   rw [←hl'] at this
   obtain ⟨y,hy,e⟩:=List.mem_map.1 this
   have:y=x:=by unfold iN at e; omega
   rw [←this]; exact hy
  ·rw [←hl',List.pairwise_map] at hpw
   exact hpw.imp fun h=>by unfold iN at h; omega
theorem cpt_ok {d:Array Int} (hd:∀i j,i≤j→j < d.size→d[i]! ≤ d[j]!):∀m,m≤d.size→(Go.Lib.compactUpTo d m).Pairwise (· < ·)∧∀x,x ∈ Go.Lib.compactUpTo d m↔∃j,j < m∧d[j]! = x
 | 0,_=>by simp [Go.Lib.compactUpTo]
 | m+1,hm=>by
  obtain ⟨h1,h2⟩:=cpt_ok hd m (by omega)
  rw [Go.Lib.compactUpTo_succ]
  by_cases hk:Go.Lib.keeps d m=true
  ·rw [if_pos hk]
   unfold Go.Lib.keeps at hk
   simp only [decide_eq_true_eq] at hk
   refine ⟨List.pairwise_append.2 ⟨h1,by simp,fun a ha b hb=>?_⟩,fun x=>?_⟩
   ·simp at hb; subst hb
    obtain ⟨j,hj,rfl⟩:=(h2 a).1 ha
    rcases hk with hk | hk
    ·omega
    ·have e1:=hd j (m - 1) (by omega) (by omega)
     have e2:=hd (m - 1) m (by omega) (by omega)
     omega
   ·rw [List.mem_append,h2]
    constructor
    ·rintro (⟨j,hj,e⟩ | e)
     ·exact ⟨j,by omega,e⟩
     ·simp at e; exact ⟨m,by omega,e.symm⟩
    ·rintro ⟨j,hj,e⟩
     by_cases hjm:j=m
     ·subst hjm; right; simp [e]
     ·exact .inl ⟨j,by omega,e⟩
  ·rw [if_neg hk,List.append_nil]
   refine ⟨h1,fun x=>?_⟩
   rw [h2]
   unfold Go.Lib.keeps at hk
   simp only [decide_eq_true_eq,not_or,Classical.not_not] at hk
   constructor
   ·rintro ⟨j,hj,e⟩; exact ⟨j,by omega,e⟩
   ·rintro ⟨j,hj,e⟩
    by_cases hjm:j=m
    ·subst hjm; exact ⟨j - 1,by omega,by rw [←hk.2]; exact e⟩
    ·exact ⟨j,by omega,e⟩
theorem compact_spec {w:World} {v:Value} {l:List Nat} (h:Own w v 3 1 nE l) (hp:l.Pairwise (·≤·)) (hl:l.length≤1000000) :
  Calls Tryz.prog 61 [v].toArray w fun e w'=>∃x,e=.returned x∧Kp v.own w w'∧x.own=v.own∧∃l',Own w' x 3 1 nE l'∧(∀x,x ∈ l'↔x ∈ l)∧l'.Pairwise (· < ·)∧l'.length≤l.length:=by
 rcases h with ⟨rfl,rfl⟩ | ⟨g,cap,cur,junk,rfl,hb,hc,hj,hle,hm⟩
 ·refine Calls.mono (Any.slices_Compact_int_empty Tryz.compact61 none 0 w) ?_
  rintro e w' ⟨rfl,rfl⟩
  exact ⟨_,rfl,Kp.refl _ _,rfl,[],Own.nil _ _ _ _,by simp,by simp,by simp⟩
 ·rw [flat_nE] at hc
  obtain ⟨zs,hzs⟩:∃zs,zs=l.map iN:=⟨_,rfl⟩
  rw [←hzs] at hc
  have hzl:zs.length=l.length:=by rw [hzs]; simp
  have hH:Go.Sort.Holds (Value.int .i64) w g 0 zs.toArray:=by
   refine holds_of_block_i hb ?_
   rw [hc,List.take_append_of_le_length (by simp),List.take_of_length_le (by simp)]
  have hpz:zs.Pairwise (·≤·):=by
   rw [hzs,List.pairwise_map]
   exact hp.imp fun h=>by unfold iN; omega
  rw [←hzl]
  refine Calls.mono (Any.slices_Compact_int Tryz.compact61 g 0 cap zs w hH (by omega) (by omega)) ?_
  rintro e w' ⟨rfl,q,hw⟩
  have hok:=cpt_ok (d:=zs.toArray) (fun i j hij hjs=>by
   have hjs:j < zs.length:=by simpa using hjs
   by_cases e:i=j
   ·subst e; exact Int.le_refl _
   ·have:=List.pairwise_iff_getElem.1 hpz i j (by omega) hjs (by omega)
    simpa [getElem!_pos,hjs,show i < zs.length by omega] using this) zs.length (by simp)
  obtain ⟨ys,hys⟩:∃ys,ys=Go.Lib.compact zs:=⟨_,rfl⟩
  have hys2:ys=Go.Lib.compactUpTo zs.toArray zs.length:=hys
  rw [←hys2] at hok
  have hyl:ys.length≤zs.length:=by
   rw [hys2]
   unfold Go.Lib.compactUpTo
   rw [List.length_map]
   refine Nat.le_trans (List.length_filter_le _ _) ?_
   simp
  rw [←hys] at hw ⊢
  have hmem:∀x,x ∈ ys↔x ∈ zs:=fun x=>by
   rw [hok.2 x]
   constructor
   ·rintro ⟨j,hj,rfl⟩
    simp [getElem!_pos,hj]
   ·intro hx
    obtain ⟨j,hj,rfl⟩:=List.getElem_of_mem hx
    exact ⟨j,hj,by simp [getElem!_pos,hj]⟩
  obtain ⟨l',hl',hl2⟩:=list_nat (f:=iN) (p:=fun n=>n ∈ l) (l:=ys) fun a ha=>by
   have:=(hmem a).1 ha
   rw [hzs] at this
   obtain ⟨x,hx,rfl⟩:=List.mem_map.1 this
   exact ⟨x,rfl,hx⟩
  have hl'l:l'.length=ys.length:=by rw [←hl']; simp
  have hw2:w'=Go.Sort.grow (Go.Sort.mapBlock (Go.Sort.ahead w q) g (Go.Sort.putCells (Value.int .i64) 0 (ys ++ List.replicate (zs.length - ys.length) 0).toArray)) #[]:=by rw [Go.Sort.grow_empty]; exact hw
  refine ⟨_,rfl,kp_put hw2,rfl,l',?_,fun x=>⟨fun hx=>hl2 x hx,fun hx=>?_⟩,?_,by omega⟩
  ·refine .inr ⟨g,cap,_,(List.replicate (zs.length - ys.length) (0:Int)).map (Value.int .i64) ++ junk,by rw [hl'l],blk_put hb hw2,?_,by simp; omega,by omega,hm⟩
   rw [put_list hc (by simp; omega),flat_nE,hl',List.map_append,List.append_assoc]
  ·have:iN x ∈ ys:=(hmem _).2 (by rw [hzs]; exact List.mem_map.2 ⟨x,hx,rfl⟩)
   rw [←hl'] at this
   obtain ⟨y,hy,e⟩:=List.mem_map.1 this
   have:y=x:=by unfold iN at e; omega
   rw [←this]; exact hy
  ·have:=hok.1
   rw [←hl',List.pairwise_map] at this
   exact this.imp fun h=>by unfold iN at h; omega
end Go.Proofs.YtolkjbmcindhjaaGreat
end
section
namespace Go.Proofs.YtolkjbmcindhjaaGreat
open Go Go.W Go.Tk Go.Rx Go.Lm Go.Maps
def nfl (t:Nat→Bool):Nat→Nat:=fun i=>if t i=true then 0 else 1
theorem nfl_upd {t:Nat→Bool} {f N:Nat} (hf:f < N) (h:t f=false):sumV N (nfl (updN t f true)) < sumV N (nfl t):=by
 have e:nfl (updN t f true)=updN (nfl t) f 0:=by
  funext i
  by_cases hi:i=f
  ·subst hi; simp [nfl]
  ·rw [updN_ne hi]; simp [nfl,updN_ne hi]
 rw [e]
 exact sumV_upd hf (by simp [nfl,h])
structure Tg (A:List Ar) (c:Nat→Nat) (g:Nat) (t:Nat→Bool):Prop where
 base:t g=true
 snd:∀f,t f=true→TZ A c g f
def TgC (B:List Ar) (c:Nat→Nat) (t:Nat→Bool):Prop:=∀a ∈ B,∀f,a.fr=some f→c a.op=0→t a.to=true→t f=true
theorem Tg.fin {A:List Ar} {c:Nat→Nat} {g:Nat} {t:Nat→Bool} (h:Tg A c g t) (hc:TgC A c t) (f:Nat):t f=true↔TZ A c g f:=by
 refine ⟨h.snd f,fun ht=>?_⟩
 induction ht with
 | base=>exact h.base
 | step ha hf hc0 ht ih=>exact hc _ ha _ hf hc0 ih
theorem Tg.step {A:List Ar} {c:Nat→Nat} {g:Nat} {t:Nat→Bool} (h:Tg A c g t) {a:Ar} {f:Nat} (ha:a ∈ A) (hf:a.fr=some f) (hc:c a.op=0) (ht:t a.to=true):Tg A c g (updN t f true):={
 base:=by
  by_cases e:g=f
  ·subst e; simp
  ·rw [updN_ne e]; exact h.base
 snd:=fun x hx=>by
  by_cases e:x=f
  ·subst e; exact .step ha hf hc (h.snd _ ht)
  ·rw [updN_ne e] at hx; exact h.snd x hx }
structure Sg (A:List Ar) (S0:List Nat) (T:Nat→Prop) (t:Nat→Bool):Prop where
 base:∀f ∈ S0,t f=true
 snd:∀f,t f=true→SZ A S0 T f
def bgB (t:Nat→Bool) (a:Ar):Bool:=match a.fr with | none=>true | some f=>t f
def SgC (B:List Ar) (T t:Nat→Bool):Prop:=∀a ∈ B,bgB t a=true→T a.to=false→t a.to=true
theorem Sg.fin {A:List Ar} {S0:List Nat} {T:Nat→Prop} {tb t:Nat→Bool} (h:Sg A S0 T t) (hT:∀f,tb f=true↔T f) (hc:SgC A tb t) (f:Nat):t f=true↔SZ A S0 T f:=by
 have hT2:∀{f},¬T f→tb f=false:=fun {f} hn=>by
  cases h:tb f with
  | false=>rfl
  | true=>exact absurd ((hT f).1 h) hn
 refine ⟨h.snd f,fun ht=>?_⟩
 induction ht with
 | base hf=>exact h.base _ hf
 | start ha hf ht=>exact hc _ ha (by unfold bgB; rw [hf]) (hT2 ht)
 | step ha hf hs ht ih=>exact hc _ ha (by unfold bgB; rw [hf]; exact ih) (hT2 ht)
theorem Sg.step {A:List Ar} {S0:List Nat} {T:Nat→Prop} {t:Nat→Bool} (h:Sg A S0 T t) {a:Ar} (ha:a ∈ A) (hb:bgB t a=true) (ht:¬T a.to):Sg A S0 T (updN t a.to true):={
 base:=fun f hf=>by
  by_cases e:f=a.to
  ·subst e; simp
  ·rw [updN_ne e]; exact h.base f hf
 snd:=fun x hx=>by
  by_cases e:x=a.to
  ·subst e
   unfold bgB at hb
   cases hfr:a.fr with
   | none=>exact .start ha hfr ht
   | some f=>rw [hfr] at hb; exact .step ha hfr (h.snd f hb) ht
  ·rw [updN_ne e] at hx; exact h.snd x hx }
theorem bg_iff {A:List Ar} {S0:List Nat} {T:Nat→Prop} {t:Nat→Bool} (hS:∀f,t f=true↔SZ A S0 T f) (a:Ar):bgB t a=true↔Beg A S0 T a:=by
 unfold bgB Beg
 cases hfr:a.fr with
 | none=>simp
 | some f=>simp [hS]
def crK (A:List Ar) (tb t:Nat→Bool):List Nat:=(A.filter fun a=>bgB t a && tb a.to).map (·.op)
theorem cr_take {A:List Ar} {tb t:Nat→Bool} {k:Nat} {a:Ar} (h:A[k]? = some a):crK (A.take (k+1)) tb t=crK (A.take k) tb t ++ if (bgB t a && tb a.to)=true then [a.op] else []:=by
 rw [take_snoc h]
 unfold crK
 rw [List.filter_append,List.map_append]
 by_cases hg:(bgB t a && tb a.to)=true
 ·rw [if_pos hg]; simp [hg]
 ·rw [if_neg hg]; simp [hg]
theorem cr_len (A:List Ar) (tb t:Nat→Bool):(crK A tb t).length≤A.length:=by
 unfold crK; rw [List.length_map]; exact List.length_filter_le _ _
theorem cr_mem {A:List Ar} {c:Nat→Nat} {S0:List Nat} {g:Nat} {tb t:Nat→Bool} (hT:∀f,tb f=true↔TZ A c g f) (hS:∀f,t f=true↔SZ A S0 (TZ A c g) f) (op:Nat):op ∈ crK A tb t↔XO A c S0 g op:=by
 unfold crK XO
 rw [List.mem_map]
 constructor
 ·rintro ⟨a,ha,rfl⟩
  rw [List.mem_filter,Bool.and_eq_true,bg_iff hS,hT] at ha
  exact ⟨a,ha.1,rfl,ha.2.1,ha.2.2⟩
 ·rintro ⟨a,ha,rfl,h1,h2⟩
  exact ⟨a,by rw [List.mem_filter,Bool.and_eq_true,bg_iff hS,hT]; exact ⟨ha,h1,h2⟩,rfl⟩
def fB:Nat→Bool:=fun _=>false
theorem tabB_false (N:Nat):List.replicate N false=tabB N fB:=by
 unfold tabB fB
 apply List.ext_getElem
 ·simp
 ·intro i h1 h2; simp
def setS (S:List Nat):Nat→Bool:=fun f=>decide (f ∈ S)
theorem setS_snoc (S:List Nat) (f:Nat):updN (setS S) f true=setS (S ++ [f]):=by
 funext x
 by_cases e:x=f
 ·subst e; simp [setS]
 ·rw [updN_ne e]; simp [setS,e]
structure ArOk (A:List Ar) (N M:Nat):Prop where
 to:∀a ∈ A,a.to < N
 op:∀a ∈ A,a.op < M
 fr:∀a ∈ A,∀f,a.fr=some f→f < N
theorem arcs_ok {UL:List Un} {V:Nat→Nat} {N M:Nat} (h:LuOk UL N M):ArOk (arcs UL V) N M:={
 to:=fun a ha=>by
  obtain ⟨u,hu,_,rfl⟩:=arcs_mem ha
  exact h.made u hu
 op:=fun a ha=>by
  obtain ⟨u,hu,_,rfl⟩:=arcs_mem ha
  exact h.op u hu
 fr:=fun a ha f hf=>by
  obtain ⟨u,hu,_,rfl⟩:=arcs_mem ha
  exact h.rng u hu f (gst_some hf).1 }
def TgI (av dv tgv:Value) (A:List Ar) (c:Nat→Nat) (g N:Nat) (b:Nat) (sv:Value) (w:World) (n:Nat) (ρ:Env) (w':World):Prop :=
 ρ 0=.pointer (some ⟨b,0,none⟩)∧ρ 1=sv∧ρ 2=dv∧ρ 9=av∧ρ 10=tgv∧∃t ch,ρ 11=.bool ch∧Tg A c g t∧(ch=false→TgC A c t)∧n=(if ch then sumV N (nfl t)+1 else 0)∧At w [] (Star (OwnA tgv 4 1 bE (tabB N t)) (Star (OwnA av 215 3 arE A) Emp)) w'
structure Tgf (A:List Ar) (c:Nat→Nat) (g N s0 k:Nat) (ch:Bool) (t:Nat→Bool):Prop where
 tg:Tg A c g t
 clo:ch=false→TgC (A.take k) c t
 lt:ch=true→sumV N (nfl t) < s0
 le:sumV N (nfl t)≤s0
def TgE (av dv tgv:Value) (A:List Ar) (c:Nat→Nat) (g N s0:Nat) (b:Nat) (sv:Value) (w:World) (k:Nat) (ρ:Env) (w':World):Prop :=
 ρ 0=.pointer (some ⟨b,0,none⟩)∧ρ 1=sv∧ρ 2=dv∧ρ 9=av∧ρ 10=tgv∧ρ 40=av∧∃t ch,ρ 11=.bool ch∧Tgf A c g N s0 k ch t∧At w [] (Star (OwnA tgv 4 1 bE (tabB N t)) (Star (OwnA av 215 3 arE A) Emp)) w'
def SgI (av tgv sgv:Value) (A:List Ar) (S0:List Nat) (T:Nat→Prop) (tb:Nat→Bool) (N:Nat) (w:World) (n:Nat) (ρ:Env) (w':World):Prop :=
 ρ 9=av∧ρ 10=tgv∧ρ 14=sgv∧∃t ch,ρ 17=.bool ch∧Sg A S0 T t∧(ch=false→SgC A tb t)∧n=(if ch then sumV N (nfl t)+1 else 0)∧At w [] (Star (OwnA sgv 4 1 bE (tabB N t)) (Star (OwnA tgv 4 1 bE (tabB N tb)) (Star (OwnA av 215 3 arE A) Emp))) w'
structure Sgf (A:List Ar) (S0:List Nat) (T:Nat→Prop) (tb:Nat→Bool) (N s0 k:Nat) (ch:Bool) (t:Nat→Bool):Prop where
 sg:Sg A S0 T t
 clo:ch=false→SgC (A.take k) tb t
 lt:ch=true→sumV N (nfl t) < s0
 le:sumV N (nfl t)≤s0
def SgE (av tgv sgv:Value) (A:List Ar) (S0:List Nat) (T:Nat→Prop) (tb:Nat→Bool) (N s0:Nat) (w:World) (k:Nat) (ρ:Env) (w':World):Prop :=
 ρ 9=av∧ρ 10=tgv∧ρ 14=sgv∧ρ 102=av∧∃t ch,ρ 17=.bool ch∧Sgf A S0 T tb N s0 k ch t∧At w [] (Star (OwnA sgv 4 1 bE (tabB N t)) (Star (OwnA tgv 4 1 bE (tabB N tb)) (Star (OwnA av 215 3 arE A) Emp))) w'
end Go.Proofs.YtolkjbmcindhjaaGreat
end
section
namespace Go.Proofs.YtolkjbmcindhjaaGreat
open Go Go.W Go.Tk Go.Rx Go.Lm Go.Maps
section
variable {w:World} {b:Nat} {vars G C0:List Nat} {UL:List Un} {vv fv gv cv lv:Value} {rs:List Lu}
set_option maxHeartbeats 4000000 in
theorem cut_walk (sv dv tv:Value) (s left:List Nat) (V:Nat→Nat) (g:Nat) (hR:HrR b vars G C0 UL vv fv gv cv lv rs w) (hs:Vw w sv nE s) (hst:StN vars s) (hd:Vw w dv nE left) (ht:Vw w tv nE (tabN vars.sum V)) (hL:LuOk UL vars.sum left.length) (hvl:vars.length≤64) (hG:∀x ∈ G,x < vars.sum) (hGl:G.length≤1000000) (hg:gst V G=some g) :
  Calls Tryz.prog 71 [.pointer (some ⟨b,0,none⟩),sv,dv,tv].toArray w fun e w'=>∃x,e=.returned x∧∃L,(∀op,op ∈ L↔XO (arcs UL V) (cf left) (stN vars s vars.length) g op)∧L.Pairwise (· < ·)∧L.length≤1000000∧Nw w w' x 3 1 nE L:=by
 refine enter Tryz.func71 mixed low71 (Nat.le_of_ble_eq_true rfl) ?_
 simp only [L71]
 have hlen:=hst.len
 obtain ⟨N,hN⟩:∃N,N=vars.sum:=⟨_,rfl⟩
 obtain ⟨A,hA⟩:∃A,A=arcs UL V:=⟨_,rfl⟩
 have hAo:ArOk A N left.length:=by rw [hA,hN]; exact arcs_ok hL
 have hAl:A.length≤1000000:=by
  have:=arcs_len UL V
  have:=hL.ul
  rw [hA]; omega
 have hgG:=(gst_some hg).1
 have hgN:g < N:=by rw [hN]; exact hG g hgG
 have hNb:N≤4096:=by rw [hN]; exact hL.nn
 refine seq_cut (fun ρ w'=>ρ 0=.pointer (some ⟨b,0,none⟩)∧ρ 1=sv∧ρ 2=dv∧ρ 3=tv∧w'=w) ?_ ?_
 ·simp
 rintro ρ w ⟨g0,g1,g2,g3,rfl⟩
 refine seq_cut (fun ρ w'=>ρ 0=.pointer (some ⟨b,0,none⟩)∧ρ 1=sv∧ρ 2=dv∧ρ 3=tv∧At w [] (Star (OwnA (ρ 9) 215 3 arE A) Emp) w') ?_ ?_
 ·simp [g0,g3]
  refine cl_of (arcs_walk tv V left.length hR ht hL) ?_
  rintro av w1 n1
  simp [g0,g1,g2,g3]
  rw [hA]
  exact At.nw .emp (At.start rfl) n1
 clear g0 g1 g2 g3
 rintro ρ w1 ⟨g0,g1,g2,g3,h1⟩
 obtain ⟨av,g9⟩:∃av,ρ 9=av:=⟨_,rfl⟩
 rw [g9] at h1
 have hLa:Lcl (Star (OwnA av 215 3 arE A) Emp):=Lcl.own.star .emp
 refine seq_cut (fun ρ w'=>ρ 0=.pointer (some ⟨b,0,none⟩)∧ρ 1=sv∧ρ 2=dv∧ρ 3=tv∧ρ 9=av∧At w [] (Star (OwnA (ρ 10) 4 1 bE (tabB N fB)) (Star (OwnA av 215 3 arE A) Emp)) w') ?_ ?_
 ·have hob:=(hR.kp h1.kp).obj
  simp [g0,cell_blk hob,←hN]
  refine gd_mk (by omega) ?_
  have h2:=h1.made (E:=4) (enc:=bE) (x:=false) (z:=[.bool false]) (n:=N) hLa rfl bE_len (by unfold maxLen; omega)
  rw [tabB_false] at h2
  simp [g0,g1,g2,g3,g9]
  exact h2
 clear g0 g1 g2 g3 g9 h1
 rintro ρ w1 ⟨g0,g1,g2,g3,g9,h1⟩
 obtain ⟨tgv,g10⟩:∃v,ρ 10=v:=⟨_,rfl⟩
 rw [g10] at h1
 refine seq_cut (fun ρ w'=>ρ 0=.pointer (some ⟨b,0,none⟩)∧ρ 1=sv∧ρ 2=dv∧ρ 9=av∧ρ 10=tgv∧At w [] (Star (OwnA tgv 4 1 bE (tabB N (updN fB g true))) (Star (OwnA av 215 3 arE A) Emp)) w') ?_ ?_
 ·have hR1:=hR.kp h1.kp
  have hob:=hR1.obj
  have ht1:=ht.kp0 h1.kp
  simp [g0,g3,cell_blk hob]
  refine cl_of (greatest_walk gv tv G vars.sum V hR1.goal ht1 hG hGl) ?_
  rintro _ w2 ⟨rfl,k2⟩
  rw [hg]
  have h2:=h1.kp0 (Lcl.own.star hLa) k2
  have hgi:(g:Int) < N:=by omega
  have htl:(tabB N fB).length=N:=tabB_len _ _
  simp (disch:=omega) [gI,g10,h2.own.idx,htl]
  refine h2.store1 hLa bE_len bE_one (k:=g) (by omega) (x:=true) rfl fun w3 h3=>?_
  rw [tabB_set hgN] at h3
  simp [g0,g1,g2,g9,g10]
  exact h3
 clear g0 g1 g2 g3 g9 g10 h1
 rintro ρ w1 ⟨g0,g1,g2,g9,g10,h1⟩
 -- the goal zone
 have hLt:∀l,Lcl (Star (OwnA tgv 4 1 bE l) (Star (OwnA av 215 3 arE A) Emp)):=fun _=>Lcl.own.star hLa
 have ht0:Tg A (cf left) g (updN fB g true):=⟨by simp,fun f hf=>by
  by_cases e:f=g
  ·subst e; exact .base
  ·rw [updN_ne e] at hf; cases hf⟩
 refine seq_cut (fun ρ w'=>ρ 0=.pointer (some ⟨b,0,none⟩)∧ρ 1=sv∧ρ 9=av∧ρ 10=tgv∧∃tb:Nat→Bool,(∀f,tb f=true↔TZ A (cf left) g f)∧At w [] (Star (OwnA tgv 4 1 bE (tabB N tb)) (Star (OwnA av 215 3 arE A) Emp)) w') ?_ ?_
 ·simp
  refine loop_inv (TgI av dv tgv A (cf left) g N b sv w) (sumV N (nfl (updN fB g true))+1) ⟨by simp [g0],by simp [g1],by simp [g2],by simp [g9],by simp [g10],_,true,by simp,ht0,by simp,rfl,h1⟩ ?_
  clear g0 g1 g2 g9 g10 h1
  rintro n ρ w2 ⟨g0,g1,g2,g9,g10,t,ch,g11,hT,hC,rfl,h2⟩
  cases ch with
  | false =>
   simp [g11,g0,g1,g9,g10]
   exact ⟨t,hT.fin (hC rfl),h2⟩
  | true =>
   obtain ⟨s0,hs0⟩:∃s0,s0=sumV N (nfl t):=⟨_,rfl⟩
   simp [g11,g9,h2.drop.own.vw.len]
   refine range_loop (n:=A.length) (by omega) (TgE av dv tgv A (cf left) g N s0 b sv w) (by simp) (by simp)
    ⟨by simp [g0],by simp [g1],by simp [g2],by simp [g9],by simp [g10],by simp,t,false,by simp,⟨hT,fun _ a ha=>by simp at ha,by simp,by omega⟩,by simpa using h2⟩ (by decide) (fun _ _ _ _ h=>by unfold TgE at h ⊢; simpa using h) (fun _ _ _ _ h=>by unfold TgE at h ⊢; simpa using h) ?_ ?_
   rotate_left
   ·clear g0 g1 g2 g9 g10 g11 h2
    rintro ρ w3 ⟨g0,g1,g2,g9,g10,g40,t2,ch2,g11,hF,h3⟩
    simp
    have hcl2:=hF.clo
    rw [List.take_length] at hcl2
    refine ⟨_,?_,g0,g1,g2,g9,g10,t2,ch2,g11,hF.tg,hcl2,rfl,h3⟩
    cases ch2 with
    | false=>simp
    | true=>have:=hF.lt rfl; simp; omega
   clear g0 g1 g2 g9 g10 g11 h2 hT hC
   rintro k ρ w3 hk hck hlk ⟨g0,g1,g2,g9,g10,g40,t2,ch2,g11,hF,h3⟩
   obtain ⟨a,ha⟩:∃a,A[k]? = some a:=⟨_,List.getElem?_eq_getElem hk⟩
   have ham:=List.mem_of_getElem? ha
   have hav:=h3.drop.own.vw
   have ec:=hav.cells arE_len ha
   simp only [arE] at ec
   obtain ⟨ab,hab⟩:∃ab,ab=w3.heap.size:=⟨_,rfl⟩
   have hki:(k:Int) < A.length:=by omega
   have htak:A.take (k+1)=A.take k ++ [a]:=take_snoc ha
   simp (disch:=omega) [g40,hck,hlk,hav.idx,ec,←hab]
   refine st_ar (a:=a) (hLt _) h3 hab fun w4 h4=>?_
   have oa4:=h4.obj
   unfold arO at oa4
   have h4':=h4.by Imp.sw
   have hLb:Lcl (Star (ObjA ab (arO a)) (Star (OwnA av 215 3 arE A) Emp)):=Lcl.obj.star hLa
   have htl:(tabB N t2).length=N:=tabB_len _ _
   have hto:=hAo.to a ham
   have hop:=hAo.op a ham
   have hd4:=hd.kp0 h4.kp
   obtain ⟨x,hx⟩:∃x,left[a.op]? = some x:=⟨_,List.getElem?_eq_getElem hop⟩
   have hxd:cf left a.op=x:=by unfold cf; simp [List.getD,hx]
   have hopi:(a.op:Int) < left.length:=by omega
   have htoi:(a.to:Int) < N:=by omega
   have tO:=h4'.own.vw
   have ct:w4.cell? (tgv.adr.add a.to)=some (.bool (t2 a.to)):=by simpa [bE] using tO.at_ bE_len (tabB_at (g:=t2) hto) (o:=0) (u:=.bool (t2 a.to)) rfl
   have same:(∀f,a.fr=some f→cf left a.op=0→t2 a.to=true→t2 f=true)→Tgf A (cf left) g N s0 (k+1) ch2 t2:=fun hno=>⟨hF.tg,fun hc=>by
    rw [htak]
    intro y hy
    rcases List.mem_append.1 hy with h | h
    ·exact hF.clo hc y h
    ·simp at h; subst h; exact hno,hF.lt,hF.le⟩
   cases hfr:a.fr with
   | none =>
    rw [hfr] at oa4
    simp (disch:=omega) [gI,cell_blk oa4,←hab,hck,hlk]
    exact ⟨by simp [g0],by simp [g1],by simp [g2],by simp [g9],by simp [g10],by simp [g40],t2,ch2,by simp [g11],same (fun f hf=>by rw [hfr] at hf; cases hf),h4.drop⟩
   | some f =>
    rw [hfr] at oa4
    have hfN:=hAo.fr a ham f hfr
    have hfi:(f:Int) < N:=by omega
    have hf0:(0:Int)≤(f:Int):=by omega
    have cfr:w4.cell? (tgv.adr.add f)=some (.bool (t2 f)):=by simpa [bE] using tO.at_ bE_len (tabB_at (g:=t2) hfN) (o:=0) (u:=.bool (t2 f)) rfl
    by_cases z:x=0
    ·have z':((x:Nat):Int)=0:=by omega
     cases e1:t2 a.to with
     | false =>
      rw [e1] at ct
      simp (disch:=omega) [gI,g2,g10,cell_blk oa4,←hab,hd4.idx,nE_cell hd4 hx,z,z',hf0,tO.idx,htl,ct,hck,hlk]
      exact ⟨by simp [g0],by simp [g1],by simp [g2],by simp [g9],by simp [g10],by simp [g40],t2,ch2,by simp [g11],same (fun f hf _ h=>by rw [e1] at h; cases h),h4.drop⟩
     | true =>
      rw [e1] at ct
      cases e2:t2 f with
      | true =>
       rw [e2] at cfr
       simp (disch:=omega) [gI,g2,g10,cell_blk oa4,←hab,hd4.idx,nE_cell hd4 hx,z,z',hf0,tO.idx,htl,ct,cfr,hck,hlk]
       exact ⟨by simp [g0],by simp [g1],by simp [g2],by simp [g9],by simp [g10],by simp [g40],t2,ch2,by simp [g11],same (fun f' hf _ _=>by rw [hfr] at hf; cases hf; exact e2),h4.drop⟩
      | false =>
       rw [e2] at cfr
       simp (disch:=omega) [gI,g2,g10,cell_blk oa4,←hab,hd4.idx,nE_cell hd4 hx,z,z',hf0,tO.idx,htl,ct,cfr]
       rw [adr_own h4'.own (by omega:f < (tabB N t2).length)]
       refine h4'.store1 hLb bE_len bE_one (k:=f) (by omega) (x:=true) rfl fun w5 h5=>?_
       rw [tabB_set hfN] at h5
       have hst1:=hF.tg.step ham hfr (by rw [hxd]; exact z) e1
       have hlt:=nfl_upd (N:=N) hfN e2
       have hle:=hF.le
       simp [hck,hlk]
       exact ⟨by simp [g0],by simp [g1],by simp [g2],by simp [g9],by simp [g10],by simp [g40],updN t2 f true,true,by simp,⟨hst1,(fun h=>by cases h),(fun _=>by omega),by omega⟩,h5.by (Imp.un Imp.dr)⟩
    ·have z':((x:Int) == 0)=false:=by simp; omega
     have zi:¬(x:Int)=0:=by omega
     simp (disch:=omega) [gI,g2,g10,cell_blk oa4,←hab,hd4.idx,nE_cell hd4 hx,z,z',zi,hf0,hck,hlk]
     exact ⟨by simp [g0],by simp [g1],by simp [g2],by simp [g9],by simp [g10],by simp [g40],t2,ch2,by simp [g11],same (fun f hf h _=>by rw [hxd] at h; exact absurd h z),h4.drop⟩
 clear g0 g1 g2 g9 g10 h1
 rintro ρ w1 ⟨g0,g1,g9,g10,tb,hT,h1⟩
 have hLg:Lcl (Star (OwnA tgv 4 1 bE (tabB N tb)) (Star (OwnA av 215 3 arE A) Emp)):=hLt _
 refine seq_cut (fun ρ w'=>ρ 0=.pointer (some ⟨b,0,none⟩)∧ρ 1=sv∧ρ 9=av∧ρ 10=tgv∧At w [] (Star (OwnA (ρ 14) 4 1 bE (tabB N (setS (stN vars s 0)))) (Star (OwnA tgv 4 1 bE (tabB N tb)) (Star (OwnA av 215 3 arE A) Emp))) w') ?_ ?_
 ·have hob:=(hR.kp h1.kp).obj
  simp [g0,cell_blk hob,←hN]
  refine gd_mk (by omega) ?_
  have h2:=h1.made (E:=4) (enc:=bE) (x:=false) (z:=[.bool false]) (n:=N) hLg rfl bE_len (by unfold maxLen; omega)
  have e0:fB=setS (stN vars s 0):=by funext f; simp [fB,setS,stN]
  rw [tabB_false,e0] at h2
  simp [g0,g1,g9,g10]
  exact h2
 clear g0 g1 g9 g10 h1
 rintro ρ w1 ⟨g0,g1,g9,g10,h1⟩
 obtain ⟨sgv,g14⟩:∃v,ρ 14=v:=⟨_,rfl⟩
 rw [g14] at h1
 have hLs:∀l,Lcl (Star (OwnA sgv 4 1 bE l) (Star (OwnA tgv 4 1 bE (tabB N tb)) (Star (OwnA av 215 3 arE A) Emp))):=fun _=>Lcl.own.star hLg
 refine seq_cut (fun ρ w'=>ρ 9=av∧ρ 10=tgv∧ρ 14=sgv∧At w [] (Star (OwnA sgv 4 1 bE (tabB N (setS (stN vars s vars.length)))) (Star (OwnA tgv 4 1 bE (tabB N tb)) (Star (OwnA av 215 3 arE A) Emp))) w') ?_ ?_
 ·have hs1:=hs.kp0 h1.kp
  simp [g1,hs1.len]
  refine range_loop (n:=s.length) (by omega) (fun v ρ w'=>ρ 0=.pointer (some ⟨b,0,none⟩)∧ρ 9=av∧ρ 10=tgv∧ρ 14=sgv∧ρ 82=sv∧At w [] (Star (OwnA sgv 4 1 bE (tabB N (setS (stN vars s v)))) (Star (OwnA tgv 4 1 bE (tabB N tb)) (Star (OwnA av 215 3 arE A) Emp))) w') (by simp) (by simp)
   ⟨by simp [g0],by simp [g9],by simp [g10],by simp [g14],by simp,by simpa using h1⟩ (by decide) (fun _ _ _ _ h=>by simpa using h) (fun _ _ _ _ h=>by simpa using h) ?_ ?_
  rotate_left
  ·clear g0 g1 g9 g10 g14 h1 hs1
   rintro ρ w3 ⟨g0,g9,g10,g14,g82,h3⟩
   rw [hlen] at h3
   simp only [thenK_nrm]
   exact ⟨g9,g10,g14,h3⟩
  clear g0 g1 g9 g10 g14 h1 hs1
  rintro v ρ w3 hv hcv hlv2 ⟨g0,g9,g10,g14,g82,h3⟩
  have hR3:=hR.kp h3.kp
  have hs3:=hs.kp0 h3.kp
  have hob3:=hR3.obj
  obtain ⟨x,hx⟩:∃x,s[v]? = some x:=⟨_,List.getElem?_eq_getElem hv⟩
  have hxd:s.getD v 0=x:=by simp [List.getD,hx]
  have hvlt:v < vars.length:=by rw [←hlen]; exact hv
  have hvr:=hst.rng v hvlt
  rw [hxd] at hvr
  have hnum:=numF_lt (f:=(v,x)) (vars:=vars) hvlt hvr
  unfold numF at hnum
  obtain ⟨f,hf⟩:∃f,f=psum vars v+x:=⟨_,rfl⟩
  have ef:((psum vars v:Nat):Int)+(x:Nat)=(f:Int):=by rw [hf]; simp
  have hfN:f < N:=by rw [hf,hN]; exact hnum
  have hfi:(f:Int) < N:=by omega
  have efc:=nE_cell hR3.first (firsts_at (vars:=vars) hvlt)
  have hfl:(firsts vars vars.length).length=vars.length:=by simp [firsts]
  have hvi:(v:Int) < s.length:=by omega
  have hvi2:(v:Int) < vars.length:=by omega
  have htl:(tabB N (setS (stN vars s v))).length=N:=tabB_len _ _
  simp (disch:=omega) [g0,g9,g10,g14,g82,hcv,hlv2,hs3.idx,nE_cell hs3 hx,cell_blk hob3,hR3.first.idx,hfl,efc,wrap_i64,ef,h3.own.idx,htl]
  refine h3.store1 hLg bE_len bE_one (k:=f) (by omega) (x:=true) rfl fun w4 h4=>?_
  have e5:stN vars s (v+1)=stN vars s v ++ [f]:=by rw [stN_succ,hxd,hf]
  rw [tabB_set hfN,setS_snoc,←e5] at h4
  simp [g0,g9,g10,g14,g82,hcv,hlv2]
  exact h4
 clear g0 g1 g9 g10 g14 h1
 rintro ρ w1 ⟨g9,g10,g14,h1⟩
 obtain ⟨S0,hS0⟩:∃S0,S0=stN vars s vars.length:=⟨_,rfl⟩
 rw [←hS0] at h1 ⊢
 -- the start zone
 have hs0:Sg A S0 (TZ A (cf left) g) (setS S0):=⟨fun f hf=>by simp [setS,hf],fun f hf=>.base (by simpa [setS] using hf)⟩
 refine seq_cut (fun ρ w'=>ρ 9=av∧ρ 10=tgv∧ρ 14=sgv∧∃t:Nat→Bool,(∀f,t f=true↔SZ A S0 (TZ A (cf left) g) f)∧At w [] (Star (OwnA sgv 4 1 bE (tabB N t)) (Star (OwnA tgv 4 1 bE (tabB N tb)) (Star (OwnA av 215 3 arE A) Emp))) w') ?_ ?_
 ·simp
  refine loop_inv (SgI av tgv sgv A S0 (TZ A (cf left) g) tb N w) (sumV N (nfl (setS S0))+1) ⟨by simp [g9],by simp [g10],by simp [g14],_,true,by simp,hs0,by simp,rfl,h1⟩ ?_
  clear g9 g10 g14 h1
  rintro n ρ w2 ⟨g9,g10,g14,t,ch,g17,hS,hC,rfl,h2⟩
  cases ch with
  | false =>
   simp [g17,g9,g10,g14]
   exact ⟨t,hS.fin hT (hC rfl),h2⟩
  | true =>
   obtain ⟨s0,hs0⟩:∃s0,s0=sumV N (nfl t):=⟨_,rfl⟩
   simp [g17,g9,h2.drop.drop.own.vw.len]
   refine range_loop (n:=A.length) (by omega) (SgE av tgv sgv A S0 (TZ A (cf left) g) tb N s0 w) (by simp) (by simp)
    ⟨by simp [g9],by simp [g10],by simp [g14],by simp,t,false,by simp,⟨hS,fun _ a ha=>by simp at ha,by simp,by omega⟩,by simpa using h2⟩ (by decide) (fun _ _ _ _ h=>by unfold SgE at h ⊢; simpa using h) (fun _ _ _ _ h=>by unfold SgE at h ⊢; simpa using h) ?_ ?_
   rotate_left
   ·clear g9 g10 g14 g17 h2
    rintro ρ w3 ⟨g9,g10,g14,g102,t2,ch2,g17,hF,h3⟩
    simp
    have hcl2:=hF.clo
    rw [List.take_length] at hcl2
    refine ⟨_,?_,g9,g10,g14,t2,ch2,g17,hF.sg,hcl2,rfl,h3⟩
    cases ch2 with
    | false=>simp
    | true=>have:=hF.lt rfl; simp; omega
   clear g9 g10 g14 g17 h2 hS hC
   rintro k ρ w3 hk hck hlk ⟨g9,g10,g14,g102,t2,ch2,g17,hF,h3⟩
   obtain ⟨a,ha⟩:∃a,A[k]? = some a:=⟨_,List.getElem?_eq_getElem hk⟩
   have ham:=List.mem_of_getElem? ha
   have hav:=h3.drop.drop.own.vw
   have ec:=hav.cells arE_len ha
   simp only [arE] at ec
   obtain ⟨ab,hab⟩:∃ab,ab=w3.heap.size:=⟨_,rfl⟩
   have hki:(k:Int) < A.length:=by omega
   have htak:A.take (k+1)=A.take k ++ [a]:=take_snoc ha
   simp (disch:=omega) [g102,hck,hlk,hav.idx,ec,←hab]
   refine st_ar (a:=a) (hLs _) h3 hab fun w4 h4=>?_
   have oa4:=h4.obj
   unfold arO at oa4
   have h4':=h4.by Imp.sw
   have hLb:Lcl (Star (ObjA ab (arO a)) (Star (OwnA tgv 4 1 bE (tabB N tb)) (Star (OwnA av 215 3 arE A) Emp))):=Lcl.obj.star hLg
   have htl:(tabB N t2).length=N:=tabB_len _ _
   have htl2:(tabB N tb).length=N:=tabB_len _ _
   have hto:=hAo.to a ham
   have htoi:(a.to:Int) < N:=by omega
   have sO:=h4'.own.vw
   have tO:=h4'.drop.drop.own.vw
   have ct:w4.cell? (tgv.adr.add a.to)=some (.bool (tb a.to)):=by simpa [bE] using tO.at_ bE_len (tabB_at (g:=tb) hto) (o:=0) (u:=.bool (tb a.to)) rfl
   have cs:w4.cell? (sgv.adr.add a.to)=some (.bool (t2 a.to)):=by simpa [bE] using sO.at_ bE_len (tabB_at (g:=t2) hto) (o:=0) (u:=.bool (t2 a.to)) rfl
   have same:(bgB t2 a=true→tb a.to=false→t2 a.to=true)→Sgf A S0 (TZ A (cf left) g) tb N s0 (k+1) ch2 t2:=fun hno=>⟨hF.sg,fun hc=>by
    rw [htak]
    intro y hy
    rcases List.mem_append.1 hy with h | h
    ·exact hF.clo hc y h
    ·simp at h; subst h; exact hno,hF.lt,hF.le⟩
   have hTf:tb a.to=false→¬TZ A (cf left) g a.to:=fun h h2=>by rw [(hT _).2 h2] at h; cases h
   cases hfr:a.fr with
   | none =>
    have hbg:bgB t2 a=true:=by unfold bgB; rw [hfr]
    rw [hfr] at oa4
    cases e1:tb a.to with
    | true =>
     rw [e1] at ct
     simp (disch:=omega) [gI,g10,g14,cell_blk oa4,←hab,tO.idx,htl2,ct,hck,hlk]
     exact ⟨by simp [g9],by simp [g10],by simp [g14],by simp [g102],t2,ch2,by simp [g17],same (fun _ h=>by rw [e1] at h; cases h),h4.drop⟩
    | false =>
     rw [e1] at ct
     cases e2:t2 a.to with
     | true =>
      rw [e2] at cs
      simp (disch:=omega) [gI,g10,g14,cell_blk oa4,←hab,tO.idx,htl2,ct,sO.idx,htl,cs,hck,hlk]
      exact ⟨by simp [g9],by simp [g10],by simp [g14],by simp [g102],t2,ch2,by simp [g17],same (fun _ _=>e2),h4.drop⟩
     | false =>
      rw [e2] at cs
      simp (disch:=omega) [gI,g10,g14,cell_blk oa4,←hab,tO.idx,htl2,ct,sO.idx,htl,cs]
      rw [adr_own h4'.own (by omega:a.to < (tabB N t2).length)]
      refine h4'.store1 hLb bE_len bE_one (k:=a.to) (by omega) (x:=true) rfl fun w5 h5=>?_
      rw [tabB_set hto] at h5
      have hst1:=hF.sg.step ham hbg (hTf e1)
      have hlt:=nfl_upd (N:=N) hto e2
      have hle:=hF.le
      simp [hck,hlk]
      exact ⟨by simp [g9],by simp [g10],by simp [g14],by simp [g102],updN t2 a.to true,true,by simp,⟨hst1,(fun h=>by cases h),(fun _=>by omega),by omega⟩,h5.by (Imp.un Imp.dr)⟩
   | some f =>
    rw [hfr] at oa4
    have hfN:=hAo.fr a ham f hfr
    have hfi:(f:Int) < N:=by omega
    have hf0:¬(f:Int) < 0:=by omega
    have cfr:w4.cell? (sgv.adr.add f)=some (.bool (t2 f)):=by simpa [bE] using sO.at_ bE_len (tabB_at (g:=t2) hfN) (o:=0) (u:=.bool (t2 f)) rfl
    have hbe:bgB t2 a=t2 f:=by unfold bgB; rw [hfr]
    cases e0:t2 f with
    | false =>
     rw [e0] at cfr hbe
     simp (disch:=omega) [gI,hf0,g10,g14,cell_blk oa4,←hab,sO.idx,htl,cfr,hck,hlk]
     exact ⟨by simp [g9],by simp [g10],by simp [g14],by simp [g102],t2,ch2,by simp [g17],same (fun h=>by rw [hbe] at h; cases h),h4.drop⟩
    | true =>
     rw [e0] at cfr hbe
     have hbg:=hbe
     cases e1:tb a.to with
     | true =>
      rw [e1] at ct
      simp (disch:=omega) [gI,hf0,g10,g14,cell_blk oa4,←hab,tO.idx,htl2,ct,sO.idx,htl,cfr,hck,hlk]
      exact ⟨by simp [g9],by simp [g10],by simp [g14],by simp [g102],t2,ch2,by simp [g17],same (fun _ h=>by rw [e1] at h; cases h),h4.drop⟩
     | false =>
      rw [e1] at ct
      cases e2:t2 a.to with
      | true =>
       rw [e2] at cs
       simp (disch:=omega) [gI,hf0,g10,g14,cell_blk oa4,←hab,tO.idx,htl2,ct,sO.idx,htl,cs,cfr,hck,hlk]
       exact ⟨by simp [g9],by simp [g10],by simp [g14],by simp [g102],t2,ch2,by simp [g17],same (fun _ _=>e2),h4.drop⟩
      | false =>
       rw [e2] at cs
       simp (disch:=omega) [gI,hf0,g10,g14,cell_blk oa4,←hab,tO.idx,htl2,ct,sO.idx,htl,cs,cfr]
       rw [adr_own h4'.own (by omega:a.to < (tabB N t2).length)]
       refine h4'.store1 hLb bE_len bE_one (k:=a.to) (by omega) (x:=true) rfl fun w5 h5=>?_
       rw [tabB_set hto] at h5
       have hst1:=hF.sg.step ham hbg (hTf e1)
       have hlt:=nfl_upd (N:=N) hto e2
       have hle:=hF.le
       simp [hck,hlk]
       exact ⟨by simp [g9],by simp [g10],by simp [g14],by simp [g102],updN t2 a.to true,true,by simp,⟨hst1,(fun h=>by cases h),(fun _=>by omega),by omega⟩,h5.by (Imp.un Imp.dr)⟩
 clear g9 g10 g14 h1
 rintro ρ w1 ⟨g9,g10,g14,t,hSt,h1⟩
 refine seq_cut (fun ρ w'=>ρ 9=av∧ρ 10=tgv∧ρ 14=sgv∧ρ 20=.slice none 0 0∧w'=w1) ?_ ?_
 ·simp [g9,g10,g14]
 clear g9 g10 g14
 rintro ρ w1 ⟨g9,g10,g14,g20,rfl⟩
 have h2:=At.nil (E:=3) (sz:=1) (enc:=nE) (hLs _) h1
 refine seq_cut (fun ρ w'=>At w [] (Star (OwnA (ρ 20) 3 1 nE (crK A tb t)) Emp) w') ?_ ?_
 ·have hav:=h1.drop.drop.own.vw
  simp [g9,hav.len]
  refine range_loop (n:=A.length) (by omega) (fun k ρ w'=>ρ 10=tgv∧ρ 14=sgv∧ρ 139=av∧At w [] (Star (OwnA (ρ 20) 3 1 nE (crK (A.take k) tb t)) (Star (OwnA sgv 4 1 bE (tabB N t)) (Star (OwnA tgv 4 1 bE (tabB N tb)) (Star (OwnA av 215 3 arE A) Emp)))) w') (by simp) (by simp)
   ⟨by simp [g10],by simp [g14],by simp,by simpa [g20,crK] using h2⟩ (by decide) (fun _ _ _ _ h=>by simpa using h) (fun _ _ _ _ h=>by simpa using h) ?_ ?_
  rotate_left
  ·rintro ρ w3 ⟨_,_,_,h3⟩
   rw [List.take_length] at h3
   simp only [thenK_nrm]
   exact h3.by (Imp.un (Imp.dr.trans (Imp.dr.trans Imp.dr)))
  clear g9 g10 g14 g20 h1 h2 hav
  rintro k ρ w3 hk hck hlk ⟨g10,g14,g139,h3⟩
  obtain ⟨a,ha⟩:∃a,A[k]? = some a:=⟨_,List.getElem?_eq_getElem hk⟩
  have ham:=List.mem_of_getElem? ha
  have hav:=h3.drop.drop.drop.own.vw
  have ec:=hav.cells arE_len ha
  simp only [arE] at ec
  obtain ⟨ab,hab⟩:∃ab,ab=w3.heap.size:=⟨_,rfl⟩
  have hki:(k:Int) < A.length:=by omega
  have hsuc:=cr_take (tb:=tb) (t:=t) ha
  have hcl:=cr_len (A.take k) tb t
  have hcl2:(A.take k).length≤A.length:=by rw [List.length_take]; omega
  have hLo:∀(v:Value) (l:List Nat),Lcl (Star (OwnA v 3 1 nE l) (Star (OwnA sgv 4 1 bE (tabB N t)) (Star (OwnA tgv 4 1 bE (tabB N tb)) (Star (OwnA av 215 3 arE A) Emp)))):=fun _ _=>Lcl.own.star (hLs _)
  simp (disch:=omega) [g139,hck,hlk,hav.idx,ec,←hab]
  refine st_ar (a:=a) (hLo _ _) h3 hab fun w4 h4=>?_
  have oa4:=h4.obj
  unfold arO at oa4
  have htl:(tabB N t).length=N:=tabB_len _ _
  have htl2:(tabB N tb).length=N:=tabB_len _ _
  have hto:=hAo.to a ham
  have htoi:(a.to:Int) < N:=by omega
  have sO:=h4.drop.drop.own.vw
  have tO:=h4.drop.drop.drop.own.vw
  have ct:w4.cell? (tgv.adr.add a.to)=some (.bool (tb a.to)):=by simpa [bE] using tO.at_ bE_len (tabB_at (g:=tb) hto) (o:=0) (u:=.bool (tb a.to)) rfl
  have h5:=h4.drop
  cases hfr:a.fr with
  | none =>
   have hbg:bgB t a=true:=by unfold bgB; rw [hfr]
   rw [hfr] at oa4
   cases e1:tb a.to with
   | true =>
    rw [e1] at ct
    rw [hbg,e1,if_pos (show (true && true)=true from Eq.refl _)] at hsuc
    simp (disch:=omega) [gI,g10,g14,cell_blk oa4,←hab,tO.idx,htl2,ct,rowOf]
    refine nat_append (hLs _) h5 (by omega) fun v' w6 h6=>?_
    simp [g10,g14,g139,hck,hlk]
    rw [hsuc]; exact h6
   | false =>
    rw [e1] at ct
    rw [hbg,e1,if_neg (by simp),List.append_nil] at hsuc
    simp (disch:=omega) [gI,g10,g14,cell_blk oa4,←hab,tO.idx,htl2,ct,g139,hck,hlk]
    rw [hsuc]; exact h5
  | some f =>
   rw [hfr] at oa4
   have hfN:=hAo.fr a ham f hfr
   have hfi:(f:Int) < N:=by omega
   have hf0:¬(f:Int) < 0:=by omega
   have cfr:w4.cell? (sgv.adr.add f)=some (.bool (t f)):=by simpa [bE] using sO.at_ bE_len (tabB_at (g:=t) hfN) (o:=0) (u:=.bool (t f)) rfl
   have hbe:bgB t a=t f:=by unfold bgB; rw [hfr]
   cases e0:t f with
   | false =>
    rw [e0] at cfr hbe
    rw [hbe,Bool.false_and,if_neg (by simp),List.append_nil] at hsuc
    simp (disch:=omega) [gI,hf0,g10,g14,cell_blk oa4,←hab,sO.idx,htl,cfr,g139,hck,hlk]
    rw [hsuc]; exact h5
   | true =>
    rw [e0] at cfr hbe
    cases e1:tb a.to with
    | true =>
     rw [e1] at ct
     rw [hbe,e1,if_pos (show (true && true)=true from Eq.refl _)] at hsuc
     simp (disch:=omega) [gI,hf0,g10,g14,cell_blk oa4,←hab,tO.idx,htl2,ct,sO.idx,htl,cfr,rowOf]
     refine nat_append (hLs _) h5 (by omega) fun v' w6 h6=>?_
     simp [g10,g14,g139,hck,hlk]
     rw [hsuc]; exact h6
    | false =>
     rw [e1] at ct
     rw [hbe,e1,if_neg (by simp),List.append_nil] at hsuc
     simp (disch:=omega) [gI,hf0,g10,g14,cell_blk oa4,←hab,tO.idx,htl2,ct,sO.idx,htl,cfr,g139,hck,hlk]
     rw [hsuc]; exact h5
 clear g9 g10 g14 g20 h1 h2
 rintro ρ w1 h1
 obtain ⟨ov,g20⟩:∃v,ρ 20=v:=⟨_,rfl⟩
 rw [g20] at h1
 have hcl:=cr_len A tb t
 simp [g20]
 refine cl_of (sort_spec h1.own (by omega)) ?_
 rintro _ w2 ⟨rfl,k2,l2,o2,m2,p2,n2⟩
 have h2:At w [] (Star (OwnA ov 3 1 nE l2) Emp) w2:=h1.step Lcl.own .emp (fun Fa ⟨ho,e⟩=>⟨ov.own,⟨o2,rfl⟩,by rw [e]; exact k2,fun x hx=>.inl (by rw [e]; exact hx)⟩)
 simp [g20]
 refine cl_of (compact_spec h2.own p2 (by omega)) ?_
 rintro xv w3 ⟨k3,ex,l3,o3,m3,p3,n3⟩
 have h3:At w [] (Star (OwnA xv 3 1 nE l3) Emp) w3:=h2.step Lcl.own .emp (fun Fa ⟨ho,e⟩=>⟨xv.own,⟨o3,rfl⟩,by rw [e]; exact k3,fun x hx=>.inl (by rw [e,←ex]; exact hx)⟩)
 simp
 refine ⟨l3,fun op=>?_,p3,by omega,Nw.of h3⟩
 rw [m3,m2,←hA]
 exact cr_mem hT hSt op
end
end Go.Proofs.YtolkjbmcindhjaaGreat
end
