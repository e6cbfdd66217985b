/-
  A part of the proof of this claim's statement (BdWF, BdKeys, BdWC, BdWG): plain theorems; no conditions beyond those each names.
-/
import Derived.Test.YtkhfdmelcpfgoaaGreatPk15
import Derived.Shelf.SlIterI.Nil
import Derived.Shelf.SortM.Plain
import Derived.Shelf.SortM.SortNone
import Derived.Test.YtkhfdmelcpfgoaaGreatProg
import Derived.Test.YtkhfdmelcpfgoaaGreatPk10
import Derived.Maps.OwnSet
section
set_option maxRecDepth 100000
set_option linter.unusedSimpArgs false
set_option linter.unusedVariables false
namespace Go.Proofs.YtkhfdmelcpfgoaaGreat
open Go Go.W Go.Bd Go.Maps
def AePost (m n lim:Nat) (S:Nat→Nat→Prop) (xs:List Int) (vv:Value) (ns:Ns) (f g:Nat) (B:Asr) (w:World) (F:List Nat) (v:Value) (w':World):Prop :=
 ∃ r1 r ns1 ns' M',v=optV r∧BinOk n lim 0 S ns f g r1 ns1∧(r1=none→r=none∧ns'=ns1)∧(∀ y,r1=some y→QOk n lim 1 (inB (insOf n xs)) ns1 y r ns' M')∧At w F (Star (MgrA m n lim ns') (Star (VwA vv iv xs) B)) w'
theorem andExists_spec {w w1:World} {F:List Nat} {B:Asr} (m n lim:Nat) (ns:Ns) (f g:Nat) (S:Nat→Nat→Prop) (v:Value) (xs:List Int) (hB:Lcl B) (hA:At w F (Star (MgrA m n lim ns) (Star (VwA v iv xs) B)) w1) (hw:Wf n ns) (hb:Bnd n lim ns) (hf:Ref ns f) (hg:Ref ns g) (hC:Clo n 0 ns S) (hS:Sn 0 S f g)
  (hx:xs.length≤1000000) (hv:xs.all (varB n)=true) :
  Calls Tryz.prog 102 [.pointer (some ⟨m,0,none⟩),.int .i64 (f:Nat),.int .i64 (g:Nat),v].toArray w1 fun e w'=>∃ x,e=.returned x∧AePost m n lim S xs v ns f g B w F x w':=by
 refine enter Tryz.func102 mixed low102 (Nat.le_of_ble_eq_true rfl) ?_
 simp only [L102]
 have hLV:Lcl (Star (VwA v iv xs) B):=Lcl.vw.star hB
 have hl:Lcl (Star (MgrA m n lim ns) (Star (VwA v iv xs) B)):=Lcl.mgr.star hLV
 simp [rowOf]
 refine cl_of (check_lit [(f:Int),(g:Int)] (MgrA.rd hA) hb rfl (by simp) rfl) ?_
 rintro u w2 ⟨rfl,k2⟩
 have h2:=hA.kp0 hl k2
 have hr:[(f:Int),(g:Int)].all (refB ns)=true:=by
  unfold Ref at hf hg
  simp [refB]; omega
 rw [hr]
 simp [bchkV]
 refine cl_of (checkVars_spec m n lim ns v xs _ (MgrA.rd h2) h2.drop.vw hx) ?_
 rintro u w3 ⟨rfl,k3⟩
 have h3:=h2.kp0 hl k3
 rw [hv]
 simp [bchkV]
 refine cl_of (and_of (binary_spec m n lim ns 0 f g S (by omega) hLV h3 hw hb hf hg hC hS) (by rintro _ _ ⟨r,_,rfl,_⟩; exact optV_tup r)) ?_
 rintro _ w4 ⟨r1,ns1,rfl,hbin,h4⟩
 cases r1 with
 | none =>
  simp [optV,bnoV,berrV]
  exact ⟨none,none,ns1,ns1,[],rfl,hbin,fun _=>⟨rfl,rfl⟩,fun y hy=>(by cases hy),h4⟩
 | some y =>
  have hb1:Bnd n lim ns1:=⟨hb.hn,hb.hl,hbin.lim⟩
  simp [optV,okV]
  refine cl_of (exists_of (quantified_spec m n lim ns1 1 y v xs (by omega) hB h4 hbin.ext.wf hb1 (hbin.ok y rfl).1 hx hv) (by rintro _ _ ⟨r,_,_,rfl,_⟩; exact optV_tup r)) ?_
  rintro _ w5 ⟨r,ns2,M2,rfl,hq,h5⟩
  cases r with
  | none=>simp [optV,bnoV,berrV]; exact ⟨some y,none,ns1,ns2,M2,rfl,hbin,fun h=>(by cases h),fun z hz=>by cases hz; exact hq,h5⟩
  | some x=>simp [optV,okV]; exact ⟨some y,some x,ns1,ns2,M2,rfl,hbin,fun h=>(by cases h),fun z hz=>by cases hz; exact hq,h5⟩
end Go.Proofs.YtkhfdmelcpfgoaaGreat
end
section
namespace Go.Proofs
open Go.Shelf
def Tryz.keys135_ren:Go.Shelf.Ren:=⟨fun | 7=>135 | 10=>138 | n=>n,fun | 23=>97 | 26=>3 | 3=>4 | 28=>111 | 0=>0 | 27=>110 | 33=>132 | 4=>4 | n=>n,fun | n=>n⟩
theorem Tryz.keys135:Go.Proofs.SlLaysZI.n7 Tryz.prog Tryz.keys135_ren:={
 mixed:=by kernel_rfl
 f7:=⟨Tryz.f135.name,by decide,Tryz.func135.trans (congrArg some (by kernel_rfl))⟩
 f10:=⟨Tryz.f138.name,by decide,Tryz.func138.trans (congrArg some (by kernel_rfl))⟩
 t0:=Tryz.underlying0
 a0:=Tryz.isAgg0
 z0:=Tryz.sizeOf0
 v0:=Tryz.zeroValue0
 t4:=Tryz.underlying4
 a4:=Tryz.isAgg4
 z4:=Tryz.sizeOf4
 v4:=Tryz.zeroValue4
 t23:=Tryz.underlying97
 a23:=Tryz.isAgg97
 z23:=Tryz.sizeOf97
 v23:=Tryz.zeroValue97
 t26:=Tryz.underlying3
 a26:=Tryz.isAgg3
 z26:=Tryz.sizeOf3
 v26:=Tryz.zeroValue3
 t27:=Tryz.underlying110
 a27:=Tryz.isAgg110
 z27:=Tryz.sizeOf110
 v27:=Tryz.zeroValue110
 t28:=Tryz.underlying111
 a28:=Tryz.isAgg111
 z28:=Tryz.sizeOf111
 v28:=Tryz.zeroValue111
 t33:=Tryz.underlying132
 a33:=Tryz.isAgg132
 z33:=Tryz.sizeOf132
 v33:=Tryz.zeroValue132 }
def Tryz.keys54_ren:Go.Shelf.Ren:=⟨fun | 7=>54 | 10=>77 | n=>n,fun | 23=>76 | 26=>3 | 3=>3 | 28=>111 | 0=>0 | 27=>110 | 33=>132 | 4=>4 | n=>n,fun | n=>n⟩
theorem Tryz.keys54:Go.Proofs.SlLaysZI.n7 Tryz.prog Tryz.keys54_ren:={
 mixed:=by kernel_rfl
 f7:=⟨Tryz.f54.name,by decide,Tryz.func54.trans (congrArg some (by kernel_rfl))⟩
 f10:=⟨Tryz.f77.name,by decide,Tryz.func77.trans (congrArg some (by kernel_rfl))⟩
 t0:=Tryz.underlying0
 a0:=Tryz.isAgg0
 z0:=Tryz.sizeOf0
 v0:=Tryz.zeroValue0
 t4:=Tryz.underlying4
 a4:=Tryz.isAgg4
 z4:=Tryz.sizeOf4
 v4:=Tryz.zeroValue4
 t23:=Tryz.underlying76
 a23:=Tryz.isAgg76
 z23:=Tryz.sizeOf76
 v23:=Tryz.zeroValue76
 t26:=Tryz.underlying3
 a26:=Tryz.isAgg3
 z26:=Tryz.sizeOf3
 v26:=Tryz.zeroValue3
 t27:=Tryz.underlying110
 a27:=Tryz.isAgg110
 z27:=Tryz.sizeOf110
 v27:=Tryz.zeroValue110
 t28:=Tryz.underlying111
 a28:=Tryz.isAgg111
 z28:=Tryz.sizeOf111
 v28:=Tryz.zeroValue111
 t33:=Tryz.underlying132
 a33:=Tryz.isAgg132
 z33:=Tryz.sizeOf132
 v33:=Tryz.zeroValue132 }
def Tryz.sorted53_ren:Go.Shelf.Ren:=⟨fun | 6=>53 | 8=>75 | 9=>76 | 11=>95 | 13=>97 | 12=>96 | 23=>117 | 24=>118 | 14=>108 | 15=>109 | 16=>110 | 17=>111 | 18=>112 | 19=>113 | 20=>114 | 21=>115 | 22=>116 | 25=>127 | 26=>128 | 27=>129 | 28=>130 | 29=>131 | 30=>132 | 31=>137 | n=>n,fun | 26=>3 | 28=>111 | 24=>22 | 0=>0 | 3=>3 | 37=>156 | 48=>177 | 50=>179 | 4=>4 | 40=>170 | 39=>169 | 45=>80 | 5=>5 | 9=>9 | 51=>186 | 55=>190 | 57=>194 | 58=>195 | 33=>132 | n=>n,fun | n=>n⟩
theorem Tryz.sorted53:Go.Proofs.SlLaysZI.n6 Tryz.prog Tryz.sorted53_ren:={
 mixed:=by kernel_rfl
 f6:=⟨Tryz.f53.name,by decide,Tryz.func53.trans (congrArg some (by kernel_rfl))⟩
 f8:=⟨Tryz.f75.name,by decide,Tryz.func75.trans (congrArg some (by kernel_rfl))⟩
 f11:=⟨Tryz.f95.name,by decide,Tryz.func95.trans (congrArg some (by kernel_rfl))⟩
 t0:=Tryz.underlying0
 a0:=Tryz.isAgg0
 z0:=Tryz.sizeOf0
 v0:=Tryz.zeroValue0
 t24:=Tryz.underlying22
 a24:=Tryz.isAgg22
 z24:=Tryz.sizeOf22
 v24:=Tryz.zeroValue22
 t26:=Tryz.underlying3
 a26:=Tryz.isAgg3
 z26:=Tryz.sizeOf3
 v26:=Tryz.zeroValue3
 t28:=Tryz.underlying111
 a28:=Tryz.isAgg111
 z28:=Tryz.sizeOf111
 v28:=Tryz.zeroValue111
 i26:=by kernel_rfl }
def Tryz.sort76_ren:Go.Shelf.Ren:=⟨fun | 5=>76 | 8=>97 | 7=>96 | 19=>117 | 20=>118 | 10=>108 | 11=>109 | 12=>110 | 13=>111 | 14=>112 | 15=>113 | 16=>114 | 17=>115 | 18=>116 | 30=>127 | 31=>128 | 32=>129 | 33=>130 | 34=>131 | 35=>132 | 40=>137 | n=>n,fun | 23=>22 | 25=>3 | 3=>3 | 32=>156 | 22=>22 | 0=>0 | 44=>177 | 46=>179 | 4=>4 | 36=>170 | 35=>169 | 41=>80 | 5=>5 | 9=>9 | 53=>186 | 57=>190 | 63=>194 | 64=>195 | n=>n,fun | n=>n⟩
theorem Tryz.sort76:Go.Proofs.SlLaysM.n5 Tryz.prog Tryz.sort76_ren:={
 mixed:=by kernel_rfl
 f5:=⟨Tryz.f76.name,by decide,Tryz.func76.trans (congrArg some (by kernel_rfl))⟩
 f7:=⟨Tryz.f96.name,by decide,Tryz.func96.trans (congrArg some (by kernel_rfl))⟩
 f8:=Tryz.func97.trans (congrArg some (by kernel_rfl))
 f10:=⟨Tryz.f108.name,by decide,Tryz.func108.trans (congrArg some (by kernel_rfl))⟩
 f11:=⟨Tryz.f109.name,by decide,Tryz.func109.trans (congrArg some (by kernel_rfl))⟩
 f12:=⟨Tryz.f110.name,by decide,Tryz.func110.trans (congrArg some (by kernel_rfl))⟩
 f13:=⟨Tryz.f111.name,by decide,Tryz.func111.trans (congrArg some (by kernel_rfl))⟩
 f14:=⟨Tryz.f112.name,by decide,Tryz.func112.trans (congrArg some (by kernel_rfl))⟩
 f15:=⟨Tryz.f113.name,by decide,Tryz.func113.trans (congrArg some (by kernel_rfl))⟩
 f16:=⟨Tryz.f114.name,by decide,Tryz.func114.trans (congrArg some (by kernel_rfl))⟩
 f17:=⟨Tryz.f115.name,by decide,Tryz.func115.trans (congrArg some (by kernel_rfl))⟩
 f18:=⟨Tryz.f116.name,by decide,Tryz.func116.trans (congrArg some (by kernel_rfl))⟩
 f19:=Tryz.func117.trans (congrArg some (by kernel_rfl))
 f20:=Tryz.func118.trans (congrArg some (by kernel_rfl))
 f30:=⟨Tryz.f127.name,by decide,Tryz.func127.trans (congrArg some (by kernel_rfl))⟩
 f31:=Tryz.func128.trans (congrArg some (by kernel_rfl))
 f32:=Tryz.func129.trans (congrArg some (by kernel_rfl))
 f33:=⟨Tryz.f130.name,by decide,Tryz.func130.trans (congrArg some (by kernel_rfl))⟩
 f34:=⟨Tryz.f131.name,by decide,Tryz.func131.trans (congrArg some (by kernel_rfl))⟩
 f35:=⟨Tryz.f132.name,by decide,Tryz.func132.trans (congrArg some (by kernel_rfl))⟩
 f40:=⟨Tryz.f137.name,by decide,Tryz.func137.trans (congrArg some (by kernel_rfl))⟩
 t0:=Tryz.underlying0
 a0:=Tryz.isAgg0
 z0:=Tryz.sizeOf0
 v0:=Tryz.zeroValue0
 t3:=Tryz.underlying3
 a3:=Tryz.isAgg3
 z3:=Tryz.sizeOf3
 v3:=Tryz.zeroValue3
 t4:=Tryz.underlying4
 a4:=Tryz.isAgg4
 z4:=Tryz.sizeOf4
 v4:=Tryz.zeroValue4
 t5:=Tryz.underlying5
 a5:=Tryz.isAgg5
 z5:=Tryz.sizeOf5
 v5:=Tryz.zeroValue5
 t9:=Tryz.underlying9
 a9:=Tryz.isAgg9
 z9:=Tryz.sizeOf9
 v9:=Tryz.zeroValue9
 t22:=Tryz.underlying22
 a22:=Tryz.isAgg22
 z22:=Tryz.sizeOf22
 v22:=Tryz.zeroValue22
 t23:=Tryz.underlying22
 a23:=Tryz.isAgg22
 z23:=Tryz.sizeOf22
 v23:=Tryz.zeroValue22
 t25:=Tryz.underlying3
 a25:=Tryz.isAgg3
 z25:=Tryz.sizeOf3
 v25:=Tryz.zeroValue3
 t32:=Tryz.underlying156
 a32:=Tryz.isAgg156
 z32:=Tryz.sizeOf156
 v32:=Tryz.zeroValue156
 t35:=Tryz.underlying169
 a35:=Tryz.isAgg169
 z35:=Tryz.sizeOf169
 v35:=Tryz.zeroValue169
 t36:=Tryz.underlying170
 a36:=Tryz.isAgg170
 z36:=Tryz.sizeOf170
 v36:=Tryz.zeroValue170
 t41:=Tryz.underlying80
 a41:=Tryz.isAgg80
 z41:=Tryz.sizeOf80
 v41:=Tryz.zeroValue80
 t44:=Tryz.underlying177
 a44:=Tryz.isAgg177
 z44:=Tryz.sizeOf177
 v44:=Tryz.zeroValue177
 t46:=Tryz.underlying179
 a46:=Tryz.isAgg179
 z46:=Tryz.sizeOf179
 v46:=Tryz.zeroValue179
 t53:=Tryz.underlying186
 a53:=Tryz.isAgg186
 z53:=Tryz.sizeOf186
 v53:=Tryz.zeroValue186
 t57:=Tryz.underlying190
 a57:=Tryz.isAgg190
 z57:=Tryz.sizeOf190
 v57:=Tryz.zeroValue190
 t63:=Tryz.underlying194
 a63:=Tryz.isAgg194
 z63:=Tryz.sizeOf194
 v63:=Tryz.zeroValue194
 t64:=Tryz.underlying195
 a64:=Tryz.isAgg195
 z64:=Tryz.sizeOf195
 v64:=Tryz.zeroValue195 }
end Go.Proofs
end
section
set_option maxRecDepth 100000
set_option linter.unusedSimpArgs false
set_option linter.unusedVariables false
namespace Go.Proofs
open Go.RowKit Go.Maps Go.Sort Go.Shelf
theorem Tryz.sorts53 (m:Nat):AnyZI.SortsIn Tryz.prog Tryz.sorted53_ren Fence.wide m :=
 ⟨fun blk off cap ss W hH hblk hsz=>callsIn_wide.2 (AnyM.slices_Sort_int Tryz.sort76 blk off cap ss W hH hblk hsz),
  fun p cap W=>callsIn_wide.2 (AnyM.slices_Sort_int_none Tryz.sort76 p cap W)⟩
theorem Tryz.maps_Keys_135 (mb:Option Nat) (W:World):CallsIn Fence.wide 5 Tryz.prog 135 #[.map mb] W fun e w'=>e=.returned (.func (.func 138) #[] #[.pointer (some ⟨W.heap.size,0,none⟩)])∧w'=W.alloc (.cells #[.map mb] 97) :=
 AnyZI.keys_in Tryz.keys135 Fence.wide 5 trivial rfl mb W
theorem Tryz.sorted_keys_135 {H:Type} (b nn:Nat) (D0:DataW H) (R:Value→Option (DataW H × List MemPlace)) (w:World) (hown:w.ownsMap Tryz.prog 3 R b nn D0) (hmax:Maps.size D0≤maxLen) (hbytes:Maps.size D0 * 8≤140737488355328) :
  CallsIn Fence.wide 5 Tryz.prog 53 #[.func (.func 138) #[] #[.pointer (some ⟨w.heap.size,0,none⟩)]] (w.alloc (.cells #[.map (some b)] 97)) fun e w'=>∃ (v:Value) (ss:List Int),e=.returned v∧ss.Perm (intKeys D0) ∧
   w'.ownsRow (w.alloc (.cells #[.map (some b)] 97)).heap.size 3 1 v ss.length ((ss.mergeSort (fun x y=>decide (x≤y))).map encZ)∧(v=.slice none 0 0↔ss=[])∧Below (w.alloc (.cells #[.map (some b)] 97)).heap.size (w.alloc (.cells #[.map (some b)] 97)) w':=by
 have hbl:=hown.lt
 have hseq:SeqGives Fence.wide 2 Tryz.prog 138 #[.pointer (some ⟨w.heap.size,0,none⟩)] encZ (fun ss=>ss.Perm (intKeys D0)) (Maps.size D0) (w.alloc (.cells #[.map (some b)] 97)) :=
  AnyZI.keys_gives (ρ:=Tryz.keys135_ren) { Tryz.keys135 with } Fence.wide _ trivial rfl (by omega) w.heap.size b nn D0 _ (by simp) (by simp) (by
   obtain ⟨es,clock,hb,Ft,hs,hD⟩:=hown
   exact ⟨es,clock,(Below.heap_alloc _ _ b hbl).trans hb,Ft,hs,hD⟩)
 exact AnyZI.sorted_in Tryz.sorted53 Fence.wide 5 trivial trivial trivial trivial rfl (by omega) (Tryz.sorts53 _) (enters_of Tryz.func76 (by kernel_rfl) rfl) 138 #[.pointer (some ⟨w.heap.size,0,none⟩)] trivial (enters_of Tryz.func138 (by kernel_rfl) rfl) _ _ hmax hbytes _ hseq
end Go.Proofs
namespace Go.Proofs.YtkhfdmelcpfgoaaGreat
open Go Go.W Go.Bd Go.Maps
open Go.WideElems (Fit rd rg)
theorem seen_owns {w:World} {b:Nat} {M:MemR} (h:MapM w b natV Value.bool i64ok M) :
  ∃ D0:DataW Unit,w.ownsMap Tryz.prog 3 (plainElem Tryz.prog 4) b M.length D0∧(intKeys D0).Perm ((keys M).map fun n:Nat=>(n:Int))∧Maps.size D0=M.length:=by
 obtain ⟨es',clock,hb,hsz,hes,hok,hnd,hst⟩:=h
 let g:Value × Value→Lit × DataW Unit:=fun q=>(((keyOf Tryz.prog 3 q.1).bind fun key=>(plainElem (H:=Unit) Tryz.prog 4 q.2).map fun y=>(key,y.1)).getD (.bool false,.nil))
 have hrg:∀ x:MapEntry,rg (H:=Unit) Tryz.prog 3 (plainElem Tryz.prog 4) x=g (x.key,x.val):=fun x=>rfl
 have hgl:es'.toList.map (rg (H:=Unit) Tryz.prog 3 (plainElem Tryz.prog 4))=M.map fun p=>g (natV p.1,.bool p.2):=by
  have:es'.toList.map (rg (H:=Unit) Tryz.prog 3 (plainElem Tryz.prog 4))=(es'.toList.map fun x=>(x.key,x.val)).map g:=by
   rw [List.map_map]; rfl
  rw [this,hes,List.map_map]; rfl
 have hk:∀ x:Nat,i64ok x→keyOf Tryz.prog 3 (natV x)=some (.int .i64 x):=fun x hx=>keyOf_int_mk Tryz.underlying3 (wf_nat hx)
 have hg:∀ p ∈ M,g (natV p.1,.bool p.2)=(.int .i64 p.1,.lit (.bool p.2)):=fun p hp=>by
  show (((keyOf Tryz.prog 3 (natV p.1)).bind fun key=>(plainElem (H:=Unit) Tryz.prog 4 (.bool p.2)).map fun y=>(key,y.1)).getD (.bool false,.nil))=_
  rw [hk _ (hok p hp),plainElem_bool Tryz.underlying4]
  rfl
 have hperm:=WideShapes.sorted_perm (es'.toList.map (rg (H:=Unit) Tryz.prog 3 (plainElem Tryz.prog 4)))
 have e1:es'.size=M.length:=by
  have:=congrArg List.length hes
  simpa using this
 refine ⟨_,⟨es',clock,hb,⟨hsz,hst,fun x hx=>?_⟩,by omega,rfl⟩,?_,?_⟩
 ·obtain ⟨j,hj⟩:=List.getElem?_of_mem hx
  have:=congrArg (·[j]?) hes
  simp only [List.getElem?_map,hj,Option.map_some] at this
  cases hp':M[j]? with
  | none=>rw [hp'] at this; cases this
  | some p =>
   rw [hp'] at this
   simp only [Option.map_some,Option.some.injEq,Prod.mk.injEq] at this
   have hm:=List.mem_of_getElem? hp'
   refine ⟨(.int .i64 p.1,.lit (.bool p.2)),?_⟩
   unfold rd
   rw [this.1,this.2,hk _ (hok p hm),plainElem_bool Tryz.underlying4]
   rfl
 ·have:((keys M).map fun n:Nat=>(n:Int))=(es'.toList.map (rg (H:=Unit) Tryz.prog 3 (plainElem Tryz.prog 4))).map (fun p=>Go.intOf p.1):=by
   rw [hgl,List.map_map,keys,List.map_map]
   refine List.map_congr_left fun p hp=>?_
   simp only [Function.comp]
   rw [hg p hp]; rfl
  rw [this]
  exact hperm.map _
 ·show (List.foldr DataW.insert [] _).length=_
  rw [hperm.length_eq,List.length_map]
  simpa using e1
theorem flat_iv (ss:List Int):ss.flatMap iv=ss.map encZ:=by
 induction ss with
 | nil=>rfl
 | cons a l ih=>simp only [List.map_cons,List.flatMap_cons,ih]; rfl
theorem own_of_row {w:World} {base:Nat} {v:Value} {ss:List Int} (h:w.ownsRow base 3 1 v ss.length (ss.map encZ)):Own w v 3 1 iv ss∧(∀ x ∈ v.own,base≤x):=by
 rcases h.2 with ⟨rfl,h0⟩ | ⟨g,cap,cur,rfl,hg,hb,h1,h2,h3,h4⟩
 ·have:ss=[]:=List.length_eq_zero_iff.1 h0
  subst this
  exact ⟨.inl ⟨rfl,rfl⟩,by simp⟩
 ·refine ⟨.inr ⟨g,cap,cur,cur.toList.drop ss.length,rfl,hb,?_,?_,by simpa using h1,h2⟩,by simpa using hg⟩
  ·rw [flat_iv,← h4,Nat.mul_one,List.take_append_drop]
  ·simp; omega
theorem kp_below {w w':World} (h:Go.RowKit.Below w.heap.size w w'):Kp [] w w':=⟨h.os,h.tape,h.output,h.size,fun b hb _=>h.block b hb⟩
structure SupI (n:Nat) (ns:Ns) (vis V:MemR):Prop where
 has:∀ x,x ∈ keys V↔∃ p ∈ vis,x=tv n ns p.1
 all:∀ q ∈ V,q.2=true
def SupP (n:Nat) (ns:Ns) (f:Nat) (L:List Int):Prop:=L.Pairwise (· < ·)∧∀ x:Int,x ∈ L↔∃ y,Rch n ns f y∧x=(tv n ns y:Nat)
set_option maxHeartbeats 1000000 in
theorem support_spec {w w1:World} {F:List Nat} {B:Asr} (m n lim:Nat) (ns:Ns) (f:Nat) (hB:Lcl B) (hA:At w F (Star (MgrA m n lim ns) B) w1) (hw:Wf n ns) (hb:Bnd n lim ns) (hf:Ref ns f) :
  Calls Tryz.prog 120 [.pointer (some ⟨m,0,none⟩),.int .i64 (f:Nat)].toArray w1 fun e w'=>∃ x,e=.returned x∧∃ (v:Value) (L:List Int),x=.tuple #[v,.nilIface]∧SupP n ns f L∧At w F (Star (OwnA v 3 1 iv L) (Star (MgrA m n lim ns) B)) w':=by
 have hbn:=hb.hn
 have hbl:=hb.hl
 have hbs:=hb.hs
 refine enter Tryz.func120 mixed low120 (Nat.le_of_ble_eq_true rfl) ?_
 simp only [L120]
 have hl:Lcl (Star (MgrA m n lim ns) B):=Lcl.mgr.star hB
 simp [rowOf]
 refine cl_of (check_lit [(f:Int)] (MgrA.rd hA) hb rfl (by simp) rfl) ?_
 rintro u w2 ⟨rfl,k2⟩
 have h2:=hA.kp0 hl k2
 have hr:[(f:Int)].all (refB ns)=true:=by
  unfold Ref at hf
  simp [refB]; omega
 rw [hr]
 simp [bchkV]
 have h3:=h2.newmap (ek:=natV) (ev:=Value.bool) (ok:=i64ok) hl
 have h4:=h3.newmap (ek:=natV) (ev:=Value.bool) (ok:=i64ok) (Lcl.map.star hl)
 obtain ⟨b1,hb1⟩:∃ b1,b1=w2.heap.size:=⟨_,rfl⟩
 obtain ⟨b2,hb2⟩:∃ b2,b2=(w2.alloc (.map #[] 0)).heap.size:=⟨_,rfl⟩
 rw [← hb2,← hb1] at h4
 rw [← hb1]
 have eb2:w2.heap.size+1=b2:=by rw [hb2]; simp
 try rw [eb2]
 refine cl_of (reach_aux m n lim b1 ns hw hb w F (Star (SeenB b2 []) B) (Lcl.map.star hB) f f [] _ hf (Nat.le_refl _) (fun q hq=>by cases hq) (fun q hq=>by cases hq) h4.rot.rot3) ?_
 rintro _ w4 ⟨M',o,hR,h5⟩
 have hLB:Lcl (Star (MgrA m n lim ns) (Star (SeenB b2 []) B)):=Lcl.mgr.star (Lcl.map.star hB)
 simp
 refine At.range hLB h5.rot Tryz.underlying97 fun w5 h6=>?_
 obtain ⟨r,hr1⟩:∃ r,r=w4.heap.size:=⟨_,rfl⟩
 rw [← hr1] at h6 ⊢
 simp
 refine loop_inv (fun q ρ w5=>∃ (vis V:MemR),ρ 0=.pointer (some ⟨m,0,none⟩)∧ρ 8=.map (some b2)∧ρ 24=.pointer (some ⟨r,0,none⟩)∧q=M'.length - vis.length∧SupI n ns vis V ∧
  At w F (Star (RngA b1 r natV Value.bool i64ok M' vis) (Star (MgrA m n lim ns) (Star (SeenB b2 V) B))) w5) _ ⟨[],[],by simp,by simp; omega,by simp,rfl,⟨by simp [keys],by simp⟩,h6⟩ ?_
 rintro q ρ w6 ⟨vis,V,g0,g8,g24,rfl,hI,h7⟩
 have hLV:∀ V,Lcl (Star (MgrA m n lim ns) (Star (SeenB b2 V) B)):=fun V=>Lcl.mgr.star (Lcl.map.star hB)
 simp [g24]
 refine At.next (hLV V) bkeyI h7 (fun hall h8=>?_) (fun p w7 hp hpv h8=>?_)
 ·simp [g8]
  have hV:=h8.drop.drop.map
  have hVn:=MapM.nodup hV
  have hvn:∀ x ∈ keys V,x≤n:=fun x hx=>by
   obtain ⟨p,hp,rfl⟩:=(hI.has x).1 hx
   exact hw.tv_le (hR p.1 (List.mem_map.2 ⟨p,h8.rng.sub p hp,rfl⟩))
  have hVl:V.length≤257:=by
   have:=nodup_len _ (List.range (n+1)) hVn (fun x hx=>List.mem_range.2 (by have:=hvn x hx; omega))
   simp at this; omega
  obtain ⟨D0,hown,hperm,hDs⟩:=seen_owns hV
  refine cl_of (R:=fun v w'=>v=.func (.func 138) #[] #[.pointer (some ⟨w6.heap.size,0,none⟩)]∧w'=w6.alloc (.cells #[.map (some b2)] 97))
   (Calls.mono (callsIn_wide.1 (Tryz.maps_Keys_135 (some b2) w6)) (by rintro e w' ⟨rfl,rfl⟩; exact ⟨_,rfl,rfl,rfl⟩)) ?_
  rintro _ _ ⟨rfl,rfl⟩
  simp
  refine cl_of (R:=fun v w'=>∃ ss:List Int,ss.Perm ((keys V).map fun n:Nat=>(n:Int))∧Own w' v 3 1 iv (ss.mergeSort leI)∧(∀ x ∈ v.own,w6.heap.size≤x)∧Kp [] w6 w')
   (Calls.mono (callsIn_wide.1 (Tryz.sorted_keys_135 b2 V.length D0 (plainElem Tryz.prog 4) w6 hown (by rw [hDs]; unfold maxLen; omega) (by rw [hDs]; omega))) ?_) ?_
  ·rintro e w' ⟨v,ss,rfl,hS,hrow,hnil,hb⟩
   have hml:ss.length=(ss.mergeSort (fun x y=>decide (x≤y))).length:=by simp
   rw [hml] at hrow
   obtain ⟨ho,hlow⟩:=own_of_row hrow
   exact ⟨v,rfl,ss,hS.trans hperm,ho,fun x hx=>by have:=hlow x hx; simp at this; omega,((Kp.refl [] w6).alloc _).trans0 (kp_below hb)⟩
  rintro v w9 ⟨ss,hS,ho,hlow,k9⟩
  have h9:At w F (Star (OwnA v 3 1 iv (ss.mergeSort leI)) _) w9:=h8.more (Lcl.rng.star (hLV V)) k9 ⟨v.own,⟨ho,rfl⟩,hlow⟩
  simp
  refine ⟨ss.mergeSort leI,?_,h9.by (Imp.un (Imp.dr.trans (Imp.un Imp.dr)))⟩
  have tr:∀ a b c:Int,leI a b=true→leI b c=true→leI a c=true:=fun a b c h1 h2=>by simp only [leI,decide_eq_true_eq] at *; exact Int.le_trans h1 h2
  have to:∀ a b:Int,(leI a b || leI b a)=true:=fun a b=>by simp only [leI,Bool.or_eq_true,decide_eq_true_eq]; exact Int.le_total a b
  have hpw:=List.pairwise_mergeSort tr to ss
  have hnd:(ss.mergeSort leI).Nodup:=by
   rw [(List.mergeSort_perm ss leI).nodup_iff,hS.nodup_iff,List.nodup_iff_pairwise_ne,List.pairwise_map]
   exact (List.nodup_iff_pairwise_ne.1 hVn).imp fun h e=>h (by omega)
  have hlt:(ss.mergeSort leI).Pairwise (· < ·):=by
   refine (hpw.and (List.nodup_iff_pairwise_ne.1 hnd)).imp ?_
   intro a b h
   obtain ⟨h1,h2⟩:=h
   simp only [leI,decide_eq_true_eq] at h1
   omega
  refine ⟨hlt,fun x=>?_⟩
  rw [(List.mergeSort_perm ss leI).mem_iff,hS.mem_iff,List.mem_map]
  constructor
  ·rintro ⟨y,hy,rfl⟩
   obtain ⟨p,hp,rfl⟩:=(hI.has y).1 hy
   exact ⟨p.1,(o.all_rch p.1).1 (List.mem_map.2 ⟨p,h8.rng.sub p hp,rfl⟩),rfl⟩
  ·rintro ⟨y,hy,rfl⟩
   obtain ⟨p,hp,rfl⟩:=List.mem_map.1 ((o.all_rch y).2 hy)
   exact ⟨_,(hI.has _).2 ⟨p,hall p hp,rfl⟩,rfl⟩
 ·simp [g24]
  refine At.entry h8 ?_
  have hrp:Ref ns p.1:=hR p.1 (List.mem_map.2 ⟨p,hp,rfl⟩)
  simp [g0,g8,natV]
  refine cl_of (at_spec m n lim p.1 ns w7 (MgrA.rd h8.drop) hb hrp) ?_
  rintro _ w8 ⟨rfl,k8⟩
  have h9:=(h8.kp0 (Lcl.rng.star (hLV V)) k8).rot3
  have hV:=h9.map
  have hVn:=MapM.nodup hV
  have hvn:∀ x ∈ keys V,x≤n:=fun x hx=>by
   obtain ⟨p,hp,rfl⟩:=(hI.has x).1 hx
   exact hw.tv_le (hR p.1 (List.mem_map.2 ⟨p,h7.rng.sub p hp,rfl⟩))
  have hVl:V.length≤257:=by
   have:=nodup_len _ (List.range (n+1)) hVn (fun x hx=>List.mem_range.2 (by have:=hvn x hx; omega))
   simp at this; omega
  have htv:=hw.tv_le hrp
  have etv:tv n ns p.1=(at_ n ns p.1).v:=rfl
  simp [ndV,en,ints,g8]
  refine At.put (x:=(at_ n ns p.1).v) (v:=true) (Lcl.rng.star (Lcl.mgr.star hB)) h9 bkeyI Tryz.underlying97 (by unfold i64ok; omega) (by unfold maxLen; omega) fun w10 h10=>?_
  have hlen:(vis ++ [p]).length≤M'.length:=nodup_len _ _ h8.rng.nd h8.rng.sub
  simp at hlen
  simp [g0,g8,g24]
  refine ⟨M'.length - (vis ++ [p]).length,by simp; omega,vis ++ [p],rfl,putM V (at_ n ns p.1).v true,⟨fun x=>?_,putM_all hI.all⟩,h10.tor3⟩
  ·rw [putM_keys,hI.has x]
   simp only [List.mem_append,List.mem_singleton]
   constructor
   ·rintro (⟨q,hq,rfl⟩ | rfl)
    ·exact ⟨q,.inl hq,rfl⟩
    ·exact ⟨p,.inr rfl,rfl⟩
   ·rintro ⟨q,hq | rfl,rfl⟩
    ·exact .inl ⟨q,hq,rfl⟩
    ·exact .inr rfl
end Go.Proofs.YtkhfdmelcpfgoaaGreat
end
section
set_option maxRecDepth 100000
set_option linter.unusedSimpArgs false
set_option linter.unusedVariables false
namespace Go.Proofs.YtkhfdmelcpfgoaaGreat
open Go Go.W Go.Bd Go.Maps
def tgt (xs:List Int) (v:Int):Int:=xs.getD v.toNat 0
def RenBad1 (n:Nat) (xs L:List Int):Prop:=xs.length≠n∨∃ v ∈ L,tgt xs v < 0∨(n:Int)≤tgt xs v
def RenBad2 (xs L:List Int):Prop:=∃ i a b,L[i]?=some a∧L[i+1]?=some b∧tgt xs b≤tgt xs a
def RenPost (m n lim:Nat) (xs:List Int) (ns:Ns) (f:Nat) (B:Asr) (w:World) (F:List Nat) (v:Value) (w':World):Prop :=
 ∃ L,SupP n ns f L∧((RenBad1 n xs L∧v=bnoV 1∧At w F (Star (MgrA m n lim ns) B) w')∨(¬ RenBad1 n xs L∧RenBad2 xs L∧v=bnoV 7∧At w F (Star (MgrA m n lim ns) B) w') ∨
  (¬ RenBad1 n xs L∧¬ RenBad2 xs L∧∃ r ns' M',v=optV r∧ChOk n lim (fun a i=>a (tgt xs i).toNat) ns f r ns' M'∧At w F (Star (MgrA m n lim ns') B) w'))
theorem asc_of {n:Nat} {xs L:List Int} (hL:L.Pairwise (· < ·)) (h1:¬ RenBad1 n xs L) (h2:¬ RenBad2 xs L):Asc n (fun i=>(i:Int) ∈ L) (fun i=>(tgt xs i).toNat):=by
 have rng:∀ v ∈ L,0≤tgt xs v∧tgt xs v < n:=fun v hv=>by
  refine ⟨?_,?_⟩
  ·rcases Decidable.em (tgt xs v < 0) with h | h
   ·exact absurd (.inr ⟨v,hv,.inl h⟩) h1
   ·omega
  ·rcases Decidable.em (tgt xs v < n) with h | h
   ·exact h
   ·exact absurd (.inr ⟨v,hv,.inr (by omega)⟩) h1
 have stp:∀ i a b,L[i]?=some a→L[i+1]?=some b→tgt xs a < tgt xs b:=fun i a b ha hb=>by
  rcases Decidable.em (tgt xs a < tgt xs b) with h | h
  ·exact h
  ·exact absurd ⟨i,a,b,ha,hb,by omega⟩ h2
 have far:∀ (d i:Nat) (a b:Int),L[i]?=some a→L[i+d+1]?=some b→tgt xs a < tgt xs b:=by
  intro d
  induction d with
  | zero=>intro i a b ha hb; exact stp i a b ha hb
  | succ d ih =>
   intro i a b ha hb
   have hl:=(List.getElem?_eq_some_iff.1 hb).1
   have hc:L[i+d+1]?=some (L[i+d+1]'(by omega)):=List.getElem?_eq_getElem _
   exact Int.lt_trans (ih i a _ ha hc) (stp (i+d+1) _ b hc (by rw [show i+d+1+1=i+(d+1)+1 by omega]; exact hb))
 refine ⟨fun u hu=>by have:=rng _ hu; show (tgt xs u).toNat < n; omega,fun u v hu hv huv=>?_⟩
 obtain ⟨i,hi⟩:=List.getElem?_of_mem hu
 obtain ⟨j,hj⟩:=List.getElem?_of_mem hv
 have hij:i < j:=by
  rcases Nat.lt_trichotomy i j with h | h | h
  ·exact h
  ·subst h; rw [hi] at hj; have:=Option.some.inj hj; omega
  ·exfalso
   obtain ⟨hil,hiv⟩:=List.getElem?_eq_some_iff.1 hi
   obtain ⟨hjl,hjv⟩:=List.getElem?_eq_some_iff.1 hj
   have:=List.pairwise_iff_getElem.1 hL j i hjl hil h
   rw [hiv,hjv] at this
   omega
 have:=far (j - i - 1) i _ _ hi (by rw [show i+(j - i - 1)+1=j by omega]; exact hj)
 have:=rng _ hu; have:=rng _ hv
 show (tgt xs u).toNat < (tgt xs v).toNat
 omega
set_option maxHeartbeats 1000000 in
theorem rename_spec {w w1:World} {F:List Nat} {B:Asr} (m n lim:Nat) (ns:Ns) (f:Nat) (tov:Value) (xs:List Int) (hB:Lcl B) (hA:At w F (Star (MgrA m n lim ns) B) w1) (hw:Wf n ns) (hb:Bnd n lim ns) (hf:Ref ns f)
  (hR:∀ w' F',B w' F'→Vw w' tov iv xs) (hx:xs.length≤1000000) :
  Calls Tryz.prog 101 [.pointer (some ⟨m,0,none⟩),.int .i64 (f:Nat),tov].toArray w1 fun e w'=>∃ x,e=.returned x∧RenPost m n lim xs ns f B w F x w':=by
 have hbn:=hb.hn
 have hbl:=hb.hl
 have hbs:=hb.hs
 refine enter Tryz.func101 mixed low101 (Nat.le_of_ble_eq_true rfl) ?_
 simp only [L101]
 have hl:Lcl (Star (MgrA m n lim ns) B):=Lcl.mgr.star hB
 have vw:∀ {w'},At w F (Star (MgrA m n lim ns) B) w'→Vw w' tov iv xs:=fun h=>by
  obtain ⟨_,hq,_⟩:=h.drop.ex
  exact hR _ _ hq
 simp
 refine cl_of (support_spec m n lim ns f hB hA hw hb hf) ?_
 rintro _ w2 ⟨v,L,rfl,hS,h2⟩
 have hLo:Lcl (Star (OwnA v 3 1 iv L) (Star (MgrA m n lim ns) B)):=Lcl.own.star hl
 have hmem:∀ x ∈ L,0≤x∧x < n:=fun x hx=>by
  obtain ⟨y,hy,rfl⟩:=(hS.2 x).1 hx
  have:=hw.tv_var hy.ge (hy.ref hw hf)
  omega
 have hLlen:L.length≤1000000:=by
  have hnd:(L.map Int.toNat).Nodup:=by
   rw [List.nodup_iff_pairwise_ne,List.pairwise_map]
   refine List.Pairwise.imp_of_mem ?_ hS.1
   intro a b ha hb hab
   have:=hmem a ha; have:=hmem b hb
   omega
  have:=nodup_len _ (List.range n) hnd (fun x hx=>by
   obtain ⟨y,hy,rfl⟩:=List.mem_map.1 hx
   have:=hmem y hy
   exact List.mem_range.2 (by omega))
  simp at this; omega
 obtain ⟨nv,b,ho,_,_⟩:=MgrA.rd h2.drop
 unfold mgrO at ho
 simp [(vw h2.drop).len,cell_blk ho]
 by_cases hlen:xs.length=n
 case neg =>
  have:((xs.length:Int) != n)=true:=by simp; omega
  simp [this]
  exact ⟨L,hS,.inl ⟨.inl hlen,rfl,h2.drop⟩⟩
 have:((xs.length:Int) != n)=false:=by simp; omega
 simp [this,h2.own.vw.len]
 refine range_loop (n:=L.length) (by omega) (fun k ρ w'=>ρ 0=.pointer (some ⟨m,0,none⟩)∧ρ 1=.int .i64 (f:Nat)∧ρ 2=tov∧ρ 8=v∧ρ 30=v∧(∀ j x,j < k→L[j]?=some x→0≤tgt xs x∧tgt xs x < n) ∧
   At w F (Star (OwnA v 3 1 iv L) (Star (MgrA m n lim ns) B)) w') (by simp) (by simp)
  ⟨by simp,by simp,by simp,by simp,by simp,by simp,h2⟩ (by decide) (fun _ _ _ _ h=>by simpa using h) (fun _ _ _ _ h=>by simpa using h) ?_ ?_
 ·rintro k ρ w3 hk hc hlim ⟨g0,g1,g2,g8,g30,hall,h3⟩
  have ek:L[k]?=some L[k]:=List.getElem?_eq_getElem hk
  obtain ⟨x,hxe⟩:∃ x,x=L[k]:=⟨_,rfl⟩
  rw [← hxe] at ek
  obtain ⟨x0,x1⟩:=hmem x (List.mem_of_getElem? ek)
  have hs:=h3.own.vw
  have ht:=vw h3.drop
  obtain ⟨nv,b,ho,_,_⟩:=MgrA.rd h3.drop
  unfold mgrO at ho
  have hxl:x.toNat < xs.length:=by omega
  have ex:xs[x.toNat]?=some (tgt xs x):=by simp [tgt,List.getD,List.getElem?_eq_getElem hxl]
  have h4:=h3.drew hLo
  simp (disch:=omega) [g0,g2,g30,hc,hs.idx,iv_cell hs ek,ht.idx,iv_cell ht ex,cell_blk ho]
  by_cases c1:tgt xs x < 0
  ·simp [c1]
   exact ⟨L,hS,.inl ⟨.inr ⟨x,List.mem_of_getElem? ek,.inl c1⟩,rfl,h4.drop⟩⟩
  by_cases c2:(n:Int)≤tgt xs x
  ·simp (disch:=omega) [c1,c2,g0,g2,ht.idx,iv_cell ht ex,cell_blk ho]
   exact ⟨L,hS,.inl ⟨.inr ⟨x,List.mem_of_getElem? ek,.inr c2⟩,rfl,h4.drop⟩⟩
  ·simp (disch:=omega) [c1,c2,ht.idx,iv_cell ht ex,cell_blk ho,g0,g1,g2,g8,g30,hc,hlim]
   refine ⟨fun j y hj hy=>?_,h4⟩
   rcases Nat.lt_or_ge j k with h5 | h5
   ·exact hall j y h5 hy
   ·have:j=k:=by omega
    subst this
    rw [ek] at hy
    rw [← Option.some.inj hy]; omega
 rintro ρ w3 ⟨g0,g1,g2,g8,g30,hall,h3⟩
 have nb1:¬ RenBad1 n xs L:=by
  rintro (h | ⟨v,hv,h⟩)
  ·exact h hlen
  ·obtain ⟨j,hj⟩:=List.getElem?_of_mem hv
   have:=hall j v (List.getElem?_eq_some_iff.1 hj).1 hj
   omega
 simp
 refine loop_inv (fun q ρ w'=>∃ k,q=L.length - k∧1≤k∧k≤L.length+1∧ρ 12=.int .i64 (k:Nat)∧ρ 0=.pointer (some ⟨m,0,none⟩)∧ρ 1=.int .i64 (f:Nat)∧ρ 2=tov∧ρ 8=v∧(∀ i a b,i+1 < k→L[i]?=some a→L[i+1]?=some b→tgt xs a < tgt xs b) ∧
   At w F (Star (OwnA v 3 1 iv L) (Star (MgrA m n lim ns) B)) w') (L.length - 1)
  ⟨1,rfl,Nat.le_refl _,by omega,by simp,by simp [g0],by simp [g1],by simp [g2],by simp [g8],by omega,h3⟩ ?_
 rintro q ρ w4 ⟨k,rfl,hk1,hkl,c12,g0,g1,g2,g8,hstp,h4⟩
 have hs:=h4.own.vw
 by_cases hk:k < L.length
 ·have hk':(k:Int) < L.length:=by omega
  have ek:L[k]?=some L[k]:=List.getElem?_eq_getElem hk
  have ej:L[k - 1]?=some (L[k - 1]'(by omega)):=List.getElem?_eq_getElem _
  obtain ⟨x,hxe⟩:∃ x,x=L[k]:=⟨_,rfl⟩
  obtain ⟨y,hye⟩:∃ y,y=L[k - 1]'(by omega):=⟨_,rfl⟩
  rw [← hxe] at ek
  rw [← hye] at ej
  obtain ⟨x0,x1⟩:=hmem x (List.mem_of_getElem? ek)
  obtain ⟨y0,y1⟩:=hmem y (List.mem_of_getElem? ej)
  have ht:=vw h4.drop
  have ex:xs[x.toNat]?=some (tgt xs x):=by simp [tgt,List.getD,List.getElem?_eq_getElem (show x.toNat < xs.length by omega)]
  have ey:xs[y.toNat]?=some (tgt xs y):=by simp [tgt,List.getD,List.getElem?_eq_getElem (show y.toNat < xs.length by omega)]
  have ekm:(k:Int) - 1=((k - 1:Nat):Int):=by omega
  have h5:=h4.drew hLo
  simp (disch:=omega) [c12,g2,g8,hs.len,hk',wrap_i64,ekm]
  simp (disch:=omega) [c12,g2,g8,hs.len,hk',wrap_i64,hs.idx,iv_cell hs ej,iv_cell hs ek,ht.idx,iv_cell ht ex,iv_cell ht ey]
  by_cases c1:tgt xs x≤tgt xs y
  ·simp [c1]
   exact ⟨L,hS,.inr (.inl ⟨nb1,⟨k - 1,y,x,ej,by rw [show k - 1+1=k by omega]; exact ek,c1⟩,rfl,h5.drop⟩)⟩
  ·simp (disch:=omega) [c1,c12,wrap_i64]
   refine ⟨L.length - (k+1),by omega,k+1,rfl,by omega,by omega,by simp,g0,g1,g2,g8,fun i a b hi ha hb=>?_,h5⟩
   rcases Nat.lt_or_ge (i+1) k with h6 | h6
   ·exact hstp i a b h6 ha hb
   ·have:i=k - 1:=by omega
    subst this
    rw [ej] at ha
    rw [show k - 1+1=k by omega,ek] at hb
    rw [← Option.some.inj ha,← Option.some.inj hb]; omega
 ·have hk':¬ (k:Int) < L.length:=by omega
  have nb2:¬ RenBad2 xs L:=by
   rintro ⟨i,a,b,ha,hb,h⟩
   have hl:=(List.getElem?_eq_some_iff.1 hb).1
   have:=hstp i a b (by omega) ha hb
   omega
  have hasc:=asc_of hS.1 nb1 nb2
  simp [c12,g8,hs.len,hk',g1]
  by_cases hf2:f < 2
  ·have hf2':(f:Int) < 2:=by omega
   simp [hf2',g1]
   exact ⟨L,hS,.inr (.inr ⟨nb1,nb2,some f,ns,[],rfl,c_const hw hbs (fun q hq=>by cases hq) hf hf2,h4.drop⟩)⟩
  ·have hf2':¬ (f:Int) < 2:=by omega
   have ht:=vw h4.drop
   have hn0:0 < n:=by have:=hw.tv_var (show 2≤f by omega) hf; omega
   have htov:∃ a k c,tov=.slice (some a) k c:=by
    rcases ht with ⟨_,h1⟩ | ⟨a,cap,h1,_⟩
    ·rw [h1] at hlen; simp at hlen; omega
    ·exact ⟨a,_,_,h1⟩
   have hto:∀ i:Nat,(i:Int) ∈ L→xs[i]?=some (((tgt xs i).toNat:Nat):Int):=fun i hi=>by
    have h6:=hmem _ hi
    have h7:¬ (tgt xs i < 0):=fun h=>nb1 (.inr ⟨_,hi,.inl h⟩)
    have e1:tgt xs i=xs.getD i 0:=by simp [tgt]
    rw [show (((tgt xs i).toNat:Nat):Int)=tgt xs i by omega,e1]
    simp [List.getD,List.getElem?_eq_getElem (show i < xs.length by omega)]
   simp [hf2',g0,g1,g2]
   have h6:=(h4.drop.newmap (ek:=natV) (ev:=natV) (ok:=i64ok) hl).rot
   refine cl_of (change_ren m n lim w4.heap.size 0 0 tov xs (fun i=>(i:Int) ∈ L) (fun i=>(tgt xs i).toNat) htov hto hasc w F f f ns [] B _ hB hw hb hf (Nat.le_refl _) (fun q hq=>by cases hq) (fun y hy=>(hS.2 _).2 ⟨y,hy,rfl⟩) hR h6) ?_
   rintro _ w5 ⟨r,ns',M',rfl,hc,h7⟩
   cases r with
   | none=>simp [optV,bnoV,berrV]; exact ⟨L,hS,.inr (.inr ⟨nb1,nb2,none,ns',M',rfl,hc,h7.by (Imp.un Imp.dr)⟩)⟩
   | some x=>simp [optV,okV]; exact ⟨L,hS,.inr (.inr ⟨nb1,nb2,some x,ns',M',rfl,hc,h7.by (Imp.un Imp.dr)⟩)⟩
end Go.Proofs.YtkhfdmelcpfgoaaGreat
end
