/-
  A part of the proof of this claim's statement (BdWC, BdWG, SyW1): plain theorems; no conditions beyond those each names.
-/
import Derived.Test.YtcoeknnghfajnaaGreatPk15
import Derived.Test.YtcoeknnghfajnaaGreatPk08
import Derived.Maps.OwnSet
import Derived.Test.YtcoeknnghfajnaaGreatPk13
set_option maxRecDepth 100000
set_option linter.unusedSimpArgs false
set_option linter.unusedVariables false
set_option linter.unusedSectionVars false
section
namespace Go.Proofs
open Go.RowKit Go.Maps Go.Sort Go.Shelf
theorem Tryz.sorts93 (m:Nat):AnyZI.SortsIn Tryz.prog Tryz.sorted93_ren Fence.wide m :=
 ⟨fun blk off cap ss W hH hblk hsz=>callsIn_wide.2 (AnyM.slices_Sort_int Tryz.sort99 blk off cap ss W hH hblk hsz),
  fun p cap W=>callsIn_wide.2 (AnyM.slices_Sort_int_none Tryz.sort99 p cap W)⟩
theorem Tryz.maps_Keys_94 (mb:Option Nat) (W:World):CallsIn Fence.wide 5 Tryz.prog 94 #[.map mb] W fun e w'=>e=.returned (.func (.func 100) #[] #[.pointer (some ⟨W.heap.size,0,none⟩)])∧w'=W.alloc (.cells #[.map mb] 72) :=
 AnyZI.keys_in Tryz.keys94 Fence.wide 5 trivial rfl mb W
theorem Tryz.sorted_keys_94 {H:Type} (b nn:Nat) (D0:DataW H) (R:Value→Option (DataW H × List MemPlace)) (w:World) (hown:w.ownsMap Tryz.prog 3 R b nn D0) (hmax:Maps.size D0≤maxLen) (hbytes:Maps.size D0 * 8≤140737488355328) :
  CallsIn Fence.wide 5 Tryz.prog 93 #[.func (.func 100) #[] #[.pointer (some ⟨w.heap.size,0,none⟩)]] (w.alloc (.cells #[.map (some b)] 72)) fun e w'=>∃(v:Value) (ss:List Int),e=.returned v∧ss.Perm (intKeys D0) ∧
   w'.ownsRow (w.alloc (.cells #[.map (some b)] 72)).heap.size 3 1 v ss.length ((ss.mergeSort (fun x y=>decide (x≤y))).map encZ)∧(v=.slice none 0 0↔ss=[])∧Below (w.alloc (.cells #[.map (some b)] 72)).heap.size (w.alloc (.cells #[.map (some b)] 72)) w':=by
 have hbl:=hown.lt
 have hseq:SeqGives Fence.wide 2 Tryz.prog 100 #[.pointer (some ⟨w.heap.size,0,none⟩)] encZ (fun ss=>ss.Perm (intKeys D0)) (Maps.size D0) (w.alloc (.cells #[.map (some b)] 72)) :=
  AnyZI.keys_gives (ρ:=Tryz.keys94_ren) { Tryz.keys94 with } Fence.wide _ trivial rfl (by omega) w.heap.size b nn D0 _ (by simp) (by simp) (by
   obtain ⟨es,clock,hb,Ft,hs,hD⟩:=hown
   exact ⟨es,clock,(Below.heap_alloc _ _ b hbl).trans hb,Ft,hs,hD⟩)
 exact AnyZI.sorted_in Tryz.sorted93 Fence.wide 5 trivial trivial trivial trivial rfl (by omega) (Tryz.sorts93 _) (enters_of Tryz.func99 (by kernel_rfl) rfl) 100 #[.pointer (some ⟨w.heap.size,0,none⟩)] trivial (enters_of Tryz.func100 (by kernel_rfl) rfl) _ _ hmax hbytes _ hseq
end Go.Proofs
namespace Go.Proofs.YtcoeknnghfajnaaGreat
open Go Go.W Go.Bd Go.Maps
open Go.WideElems (Fit rd rg)
theorem seen_owns {w:World} {b:Nat} {M:MemR} (h:MapM w b natV Value.bool i64ok M) :
  ∃D0:DataW Unit,w.ownsMap Tryz.prog 3 (plainElem Tryz.prog 4) b M.length D0∧(intKeys D0).Perm ((keys M).map fun n:Nat=>(n:Int))∧Maps.size D0=M.length:=by
 obtain ⟨es',clock,hb,hsz,hes,hok,hnd,hst⟩:=h
 let g:Value × Value→Lit × DataW Unit:=fun q=>(((keyOf Tryz.prog 3 q.1).bind fun key=>(plainElem (H:=Unit) Tryz.prog 4 q.2).map fun y=>(key,y.1)).getD (.bool false,.nil))
 have hrg:∀x:MapEntry,rg (H:=Unit) Tryz.prog 3 (plainElem Tryz.prog 4) x=g (x.key,x.val):=fun x=>rfl
 have hgl:es'.toList.map (rg (H:=Unit) Tryz.prog 3 (plainElem Tryz.prog 4))=M.map fun p=>g (natV p.1,.bool p.2):=by
  have:es'.toList.map (rg (H:=Unit) Tryz.prog 3 (plainElem Tryz.prog 4))=(es'.toList.map fun x=>(x.key,x.val)).map g:=by
   rw [List.map_map]; rfl
  rw [this,hes,List.map_map]; rfl
 have hk:∀x:Nat,i64ok x→keyOf Tryz.prog 3 (natV x)=some (.int .i64 x):=fun x hx=>keyOf_int_mk Tryz.underlying3 (wf_nat hx)
 have hg:∀p ∈ M,g (natV p.1,.bool p.2)=(.int .i64 p.1,.lit (.bool p.2)):=fun p hp=>by
  show (((keyOf Tryz.prog 3 (natV p.1)).bind fun key=>(plainElem (H:=Unit) Tryz.prog 4 (.bool p.2)).map fun y=>(key,y.1)).getD (.bool false,.nil))=_
  rw [hk _ (hok p hp),plainElem_bool Tryz.underlying4]
  rfl
 have hperm:=WideShapes.sorted_perm (es'.toList.map (rg (H:=Unit) Tryz.prog 3 (plainElem Tryz.prog 4)))
 have e1:es'.size=M.length:=by
  have:=congrArg List.length hes
  simpa using this
 refine ⟨_,⟨es',clock,hb,⟨hsz,hst,fun x hx=>?_⟩,by omega,rfl⟩,?_,?_⟩
 ·obtain ⟨j,hj⟩:=List.getElem?_of_mem hx
  have:=congrArg (·[j]?) hes
  simp only [List.getElem?_map,hj,Option.map_some] at this
  cases hp':M[j]? with
  | none=>rw [hp'] at this; cases this
  | some p =>
   rw [hp'] at this
   simp only [Option.map_some,Option.some.injEq,Prod.mk.injEq] at this
   have hm:=List.mem_of_getElem? hp'
   refine ⟨(.int .i64 p.1,.lit (.bool p.2)),?_⟩
   unfold rd
   rw [this.1,this.2,hk _ (hok p hm),plainElem_bool Tryz.underlying4]
   rfl
 ·have:((keys M).map fun n:Nat=>(n:Int))=(es'.toList.map (rg (H:=Unit) Tryz.prog 3 (plainElem Tryz.prog 4))).map (fun p=>Go.intOf p.1):=by
   rw [hgl,List.map_map,keys,List.map_map]
   refine List.map_congr_left fun p hp=>?_
   simp only [Function.comp]
   rw [hg p hp]; rfl
  rw [this]
  exact hperm.map _
 ·show (List.foldr DataW.insert [] _).length=_
  rw [hperm.length_eq,List.length_map]
  simpa using e1
theorem flat_iv (ss:List Int):ss.flatMap iv=ss.map encZ:=by
 induction ss with
 | nil=>rfl
 | cons a l ih=>simp only [List.map_cons,List.flatMap_cons,ih]; rfl
theorem own_of_row {w:World} {base:Nat} {v:Value} {ss:List Int} (h:w.ownsRow base 3 1 v ss.length (ss.map encZ)):Own w v 3 1 iv ss∧(∀x ∈ v.own,base≤x):=by
 rcases h.2 with ⟨rfl,h0⟩ | ⟨g,cap,cur,rfl,hg,hb,h1,h2,h3,h4⟩
 ·have:ss=[]:=List.length_eq_zero_iff.1 h0
  subst this
  exact ⟨.inl ⟨rfl,rfl⟩,by simp⟩
 ·refine ⟨.inr ⟨g,cap,cur,cur.toList.drop ss.length,rfl,hb,?_,?_,by simpa using h1,h2⟩,by simpa using hg⟩
  ·rw [flat_iv,←h4,Nat.mul_one,List.take_append_drop]
  ·simp; omega
theorem kp_below {w w':World} (h:Go.RowKit.Below w.heap.size w w'):Kp [] w w':=⟨h.os,h.tape,h.output,h.size,fun b hb _=>h.block b hb⟩
structure SupI (n:Nat) (ns:Ns) (vis V:MemR):Prop where
 has:∀x,x ∈ keys V↔∃p ∈ vis,x=tv n ns p.1
 all:∀q ∈ V,q.2=true
def SupP (n:Nat) (ns:Ns) (f:Nat) (L:List Int):Prop:=L.Pairwise (· < ·)∧∀x:Int,x ∈ L↔∃y,Rch n ns f y∧x=(tv n ns y:Nat)
set_option maxHeartbeats 1000000 in
theorem support_spec {w w1:World} {F:List Nat} {B:Asr} (m n lim:Nat) (ns:Ns) (f:Nat) (hB:Lcl B) (hA:At w F (Star (MgrA m n lim ns) B) w1) (hw:Wf n ns) (hb:Bnd n lim ns) (hf:Ref ns f) :
  Calls Tryz.prog 82 [.pointer (some ⟨m,0,none⟩),.int .i64 (f:Nat)].toArray w1 fun e w'=>∃x,e=.returned x∧∃(v:Value) (L:List Int),x=.tuple #[v,.nilIface]∧SupP n ns f L∧At w F (Star (OwnA v 3 1 iv L) (Star (MgrA m n lim ns) B)) w':=by
 have hbn:=hb.hn
 have hbl:=hb.hl
 have hbs:=hb.hs
 refine enter Tryz.func82 mixed low82 (Nat.le_of_ble_eq_true rfl) ?_
 simp only [L82]
 have hl:Lcl (Star (MgrA m n lim ns) B):=Lcl.mgr.star hB
 simp [rowOf]
 refine cl_of (check_lit [(f:Int)] (MgrA.rd hA) hb rfl (by simp) rfl) ?_
 rintro u w2 ⟨rfl,k2⟩
 have h2:=hA.kp0 hl k2
 have hr:[(f:Int)].all (refB ns)=true:=by
  unfold Ref at hf
  simp [refB]; omega
 rw [hr]
 simp [bchkV]
 have h3:=h2.newmap (ek:=natV) (ev:=Value.bool) (ok:=i64ok) hl
 have h4:=h3.newmap (ek:=natV) (ev:=Value.bool) (ok:=i64ok) (Lcl.map.star hl)
 obtain ⟨b1,hb1⟩:∃b1,b1=w2.heap.size:=⟨_,rfl⟩
 obtain ⟨b2,hb2⟩:∃b2,b2=(w2.alloc (.map #[] 0)).heap.size:=⟨_,rfl⟩
 rw [←hb2,←hb1] at h4
 rw [←hb1]
 have eb2:w2.heap.size+1=b2:=by rw [hb2]; simp
 try rw [eb2]
 refine cl_of (reach_aux m n lim b1 ns hw hb w F (Star (SeenB b2 []) B) (Lcl.map.star hB) f f [] _ hf (Nat.le_refl _) (fun q hq=>by cases hq) (fun q hq=>by cases hq) h4.rot.rot3) ?_
 rintro _ w4 ⟨M',o,hR,h5⟩
 have hLB:Lcl (Star (MgrA m n lim ns) (Star (SeenB b2 []) B)):=Lcl.mgr.star (Lcl.map.star hB)
 simp
 refine At.range hLB h5.rot Tryz.underlying72 fun w5 h6=>?_
 obtain ⟨r,hr1⟩:∃r,r=w4.heap.size:=⟨_,rfl⟩
 rw [←hr1] at h6 ⊢
 simp
 refine loop_inv (fun q ρ w5=>∃(vis V:MemR),ρ 0=.pointer (some ⟨m,0,none⟩)∧ρ 8=.map (some b2)∧ρ 24=.pointer (some ⟨r,0,none⟩)∧q=M'.length - vis.length∧SupI n ns vis V ∧
  At w F (Star (RngA b1 r natV Value.bool i64ok M' vis) (Star (MgrA m n lim ns) (Star (SeenB b2 V) B))) w5) _ ⟨[],[],by simp,by simp; omega,by simp,rfl,⟨by simp [keys],by simp⟩,h6⟩ ?_
 rintro q ρ w6 ⟨vis,V,g0,g8,g24,rfl,hI,h7⟩
 have hLV:∀V,Lcl (Star (MgrA m n lim ns) (Star (SeenB b2 V) B)):=fun V=>Lcl.mgr.star (Lcl.map.star hB)
 simp [g24]
 refine At.next (hLV V) bkeyI h7 (fun hall h8=>?_) (fun p w7 hp hpv h8=>?_)
 ·simp [g8]
  have hV:=h8.drop.drop.map
  have hVn:=MapM.nodup hV
  have hvn:∀x ∈ keys V,x≤n:=fun x hx=>by
   obtain ⟨p,hp,rfl⟩:=(hI.has x).1 hx
   exact hw.tv_le (hR p.1 (List.mem_map.2 ⟨p,h8.rng.sub p hp,rfl⟩))
  have hVl:V.length≤257:=by
   have:=nodup_len _ (List.range (n+1)) hVn (fun x hx=>List.mem_range.2 (by have:=hvn x hx; omega))
   simp at this; omega
  obtain ⟨D0,hown,hperm,hDs⟩:=seen_owns hV
  refine cl_of (R:=fun v w'=>v=.func (.func 100) #[] #[.pointer (some ⟨w6.heap.size,0,none⟩)]∧w'=w6.alloc (.cells #[.map (some b2)] 72))
   (Calls.mono (callsIn_wide.1 (Tryz.maps_Keys_94 (some b2) w6)) (by rintro e w' ⟨rfl,rfl⟩; exact ⟨_,rfl,rfl,rfl⟩)) ?_
  rintro _ _ ⟨rfl,rfl⟩
  simp
  refine cl_of (R:=fun v w'=>∃ss:List Int,ss.Perm ((keys V).map fun n:Nat=>(n:Int))∧Own w' v 3 1 iv (ss.mergeSort leI)∧(∀x ∈ v.own,w6.heap.size≤x)∧Kp [] w6 w')
   (Calls.mono (callsIn_wide.1 (Tryz.sorted_keys_94 b2 V.length D0 (plainElem Tryz.prog 4) w6 hown (by rw [hDs]; unfold maxLen; omega) (by rw [hDs]; omega))) ?_) ?_
  ·rintro e w' ⟨v,ss,rfl,hS,hrow,hnil,hb⟩
   have hml:ss.length=(ss.mergeSort (fun x y=>decide (x≤y))).length:=by simp
   rw [hml] at hrow
   obtain ⟨ho,hlow⟩:=own_of_row hrow
   exact ⟨v,rfl,ss,hS.trans hperm,ho,fun x hx=>by have:=hlow x hx; simp at this; omega,((Kp.refl [] w6).alloc _).trans0 (kp_below hb)⟩
  rintro v w9 ⟨ss,hS,ho,hlow,k9⟩
  have h9:At w F (Star (OwnA v 3 1 iv (ss.mergeSort leI)) _) w9:=h8.more (Lcl.rng.star (hLV V)) k9 ⟨v.own,⟨ho,rfl⟩,hlow⟩
  simp
  refine ⟨ss.mergeSort leI,?_,h9.by (Imp.un (Imp.dr.trans (Imp.un Imp.dr)))⟩
  have tr:∀a b c:Int,leI a b=true→leI b c=true→leI a c=true:=fun a b c h1 h2=>by simp only [leI,decide_eq_true_eq] at *; exact Int.le_trans h1 h2
  have to:∀a b:Int,(leI a b || leI b a)=true:=fun a b=>by simp only [leI,Bool.or_eq_true,decide_eq_true_eq]; exact Int.le_total a b
  have hpw:=List.pairwise_mergeSort tr to ss
  have hnd:(ss.mergeSort leI).Nodup:=by
   rw [(List.mergeSort_perm ss leI).nodup_iff,hS.nodup_iff,List.nodup_iff_pairwise_ne,List.pairwise_map]
   exact (List.nodup_iff_pairwise_ne.1 hVn).imp fun h e=>h (by omega)
  have hlt:(ss.mergeSort leI).Pairwise (· < ·):=by
   refine (hpw.and (List.nodup_iff_pairwise_ne.1 hnd)).imp ?_
   intro a b h
   obtain ⟨h1,h2⟩:=h
   simp only [leI,decide_eq_true_eq] at h1
   omega
  refine ⟨hlt,fun x=>?_⟩
  rw [(List.mergeSort_perm ss leI).mem_iff,hS.mem_iff,List.mem_map]
  constructor
  ·rintro ⟨y,hy,rfl⟩
   obtain ⟨p,hp,rfl⟩:=(hI.has y).1 hy
   exact ⟨p.1,(o.all_rch p.1).1 (List.mem_map.2 ⟨p,h8.rng.sub p hp,rfl⟩),rfl⟩
  ·rintro ⟨y,hy,rfl⟩
   obtain ⟨p,hp,rfl⟩:=List.mem_map.1 ((o.all_rch y).2 hy)
   exact ⟨_,(hI.has _).2 ⟨p,hall p hp,rfl⟩,rfl⟩
 ·simp [g24]
  refine At.entry h8 ?_
  have hrp:Ref ns p.1:=hR p.1 (List.mem_map.2 ⟨p,hp,rfl⟩)
  simp [g0,g8,natV]
  refine cl_of (at_spec m n lim p.1 ns w7 (MgrA.rd h8.drop) hb hrp) ?_
  rintro _ w8 ⟨rfl,k8⟩
  have h9:=(h8.kp0 (Lcl.rng.star (hLV V)) k8).rot3
  have hV:=h9.map
  have hVn:=MapM.nodup hV
  have hvn:∀x ∈ keys V,x≤n:=fun x hx=>by
   obtain ⟨p,hp,rfl⟩:=(hI.has x).1 hx
   exact hw.tv_le (hR p.1 (List.mem_map.2 ⟨p,h7.rng.sub p hp,rfl⟩))
  have hVl:V.length≤257:=by
   have:=nodup_len _ (List.range (n+1)) hVn (fun x hx=>List.mem_range.2 (by have:=hvn x hx; omega))
   simp at this; omega
  have htv:=hw.tv_le hrp
  have etv:tv n ns p.1=(at_ n ns p.1).v:=rfl
  simp [ndV,en,ints,g8]
  refine At.put (x:=(at_ n ns p.1).v) (v:=true) (Lcl.rng.star (Lcl.mgr.star hB)) h9 bkeyI Tryz.underlying72 (by unfold i64ok; omega) (by unfold maxLen; omega) fun w10 h10=>?_
  have hlen:(vis ++ [p]).length≤M'.length:=nodup_len _ _ h8.rng.nd h8.rng.sub
  simp at hlen
  simp [g0,g8,g24]
  refine ⟨M'.length - (vis ++ [p]).length,by simp; omega,vis ++ [p],rfl,putM V (at_ n ns p.1).v true,⟨fun x=>?_,putM_all hI.all⟩,h10.tor3⟩
  ·rw [putM_keys,hI.has x]
   simp only [List.mem_append,List.mem_singleton]
   constructor
   ·rintro (⟨q,hq,rfl⟩ | rfl)
    ·exact ⟨q,.inl hq,rfl⟩
    ·exact ⟨p,.inr rfl,rfl⟩
   ·rintro ⟨q,hq | rfl,rfl⟩
    ·exact .inl ⟨q,hq,rfl⟩
    ·exact .inr rfl
end Go.Proofs.YtcoeknnghfajnaaGreat
end
section
namespace Go.Proofs.YtcoeknnghfajnaaGreat
open Go Go.W Go.Bd Go.Maps
def tgt (xs:List Int) (v:Int):Int:=xs.getD v.toNat 0
def RenBad1 (n:Nat) (xs L:List Int):Prop:=xs.length≠n∨∃v ∈ L,tgt xs v < 0∨(n:Int)≤tgt xs v
def RenBad2 (xs L:List Int):Prop:=∃i a b,L[i]? = some a∧L[i+1]? = some b∧tgt xs b≤tgt xs a
def RenPost (m n lim:Nat) (xs:List Int) (ns:Ns) (f:Nat) (B:Asr) (w:World) (F:List Nat) (v:Value) (w':World):Prop :=
 ∃L,SupP n ns f L∧((RenBad1 n xs L∧v=bnoV 1∧At w F (Star (MgrA m n lim ns) B) w')∨(¬RenBad1 n xs L∧RenBad2 xs L∧v=bnoV 7∧At w F (Star (MgrA m n lim ns) B) w') ∨
  (¬RenBad1 n xs L∧¬RenBad2 xs L∧∃r ns' M',v=optV r∧ChOk n lim (fun a i=>a (tgt xs i).toNat) ns f r ns' M'∧At w F (Star (MgrA m n lim ns') B) w'))
theorem asc_of {n:Nat} {xs L:List Int} (hL:L.Pairwise (· < ·)) (h1:¬RenBad1 n xs L) (h2:¬RenBad2 xs L):Asc n (fun i=>(i:Int) ∈ L) (fun i=>(tgt xs i).toNat):=by
 have rng:∀v ∈ L,0≤tgt xs v∧tgt xs v < n:=fun v hv=>by
  refine ⟨?_,?_⟩
  ·rcases Decidable.em (tgt xs v < 0) with h | h
   ·exact absurd (.inr ⟨v,hv,.inl h⟩) h1
   ·omega
  ·rcases Decidable.em (tgt xs v < n) with h | h
   ·exact h
   ·exact absurd (.inr ⟨v,hv,.inr (by omega)⟩) h1
 have stp:∀i a b,L[i]? = some a→L[i+1]? = some b→tgt xs a < tgt xs b:=fun i a b ha hb=>by
  rcases Decidable.em (tgt xs a < tgt xs b) with h | h
  ·exact h
  ·exact absurd ⟨i,a,b,ha,hb,by omega⟩ h2
 have far:∀(d i:Nat) (a b:Int),L[i]? = some a→L[i+d+1]? = some b→tgt xs a < tgt xs b:=by
  intro d
  induction d with
  | zero=>intro i a b ha hb; exact stp i a b ha hb
  | succ d ih =>
   intro i a b ha hb
   have hl:=(List.getElem?_eq_some_iff.1 hb).1
   have hc:L[i+d+1]? = some (L[i+d+1]'(by omega)):=List.getElem?_eq_getElem _
   exact Int.lt_trans (ih i a _ ha hc) (stp (i+d+1) _ b hc (by rw [show i+d+1+1=i+(d+1)+1 by omega]; exact hb))
 refine ⟨fun u hu=>by have:=rng _ hu; show (tgt xs u).toNat < n; omega,fun u v hu hv huv=>?_⟩
 obtain ⟨i,hi⟩:=List.getElem?_of_mem hu
 obtain ⟨j,hj⟩:=List.getElem?_of_mem hv
 have hij:i < j:=by
  rcases Nat.lt_trichotomy i j with h | h | h
  ·exact h
  ·subst h; rw [hi] at hj; have:=Option.some.inj hj; omega
  ·exfalso
   obtain ⟨hil,hiv⟩:=List.getElem?_eq_some_iff.1 hi
   obtain ⟨hjl,hjv⟩:=List.getElem?_eq_some_iff.1 hj
   have:=List.pairwise_iff_getElem.1 hL j i hjl hil h
   rw [hiv,hjv] at this
   omega
 have:=far (j - i - 1) i _ _ hi (by rw [show i+(j - i - 1)+1=j by omega]; exact hj)
 have:=rng _ hu; have:=rng _ hv
 show (tgt xs u).toNat < (tgt xs v).toNat
 omega
set_option maxHeartbeats 1000000 in
theorem rename_spec {w w1:World} {F:List Nat} {B:Asr} (m n lim:Nat) (ns:Ns) (f:Nat) (tov:Value) (xs:List Int) (hB:Lcl B) (hA:At w F (Star (MgrA m n lim ns) B) w1) (hw:Wf n ns) (hb:Bnd n lim ns) (hf:Ref ns f)
  (hR:∀w' F',B w' F'→Vw w' tov iv xs) (hx:xs.length≤1000000) :
  Calls Tryz.prog 44 [.pointer (some ⟨m,0,none⟩),.int .i64 (f:Nat),tov].toArray w1 fun e w'=>∃x,e=.returned x∧RenPost m n lim xs ns f B w F x w':=by
 have hbn:=hb.hn
 have hbl:=hb.hl
 have hbs:=hb.hs
 refine enter Tryz.func44 mixed low44 (Nat.le_of_ble_eq_true rfl) ?_
 simp only [L44]
 have hl:Lcl (Star (MgrA m n lim ns) B):=Lcl.mgr.star hB
 have vw:∀{w'},At w F (Star (MgrA m n lim ns) B) w'→Vw w' tov iv xs:=fun h=>by
  obtain ⟨_,hq,_⟩:=h.drop.ex
  exact hR _ _ hq
 simp
 refine cl_of (support_spec m n lim ns f hB hA hw hb hf) ?_
 rintro _ w2 ⟨v,L,rfl,hS,h2⟩
 have hLo:Lcl (Star (OwnA v 3 1 iv L) (Star (MgrA m n lim ns) B)):=Lcl.own.star hl
 have hmem:∀x ∈ L,0≤x∧x < n:=fun x hx=>by
  obtain ⟨y,hy,rfl⟩:=(hS.2 x).1 hx
  have:=hw.tv_var hy.ge (hy.ref hw hf)
  omega
 have hLlen:L.length≤1000000:=by
  have hnd:(L.map Int.toNat).Nodup:=by
   rw [List.nodup_iff_pairwise_ne,List.pairwise_map]
   refine List.Pairwise.imp_of_mem ?_ hS.1
   intro a b ha hb hab
   have:=hmem a ha; have:=hmem b hb
   omega
  have:=nodup_len _ (List.range n) hnd (fun x hx=>by
   obtain ⟨y,hy,rfl⟩:=List.mem_map.1 hx
   have:=hmem y hy
   exact List.mem_range.2 (by omega))
  simp at this; omega
 obtain ⟨nv,b,ho,_,_⟩:=MgrA.rd h2.drop
 unfold mgrO at ho
 simp [(vw h2.drop).len,cell_blk ho]
 by_cases hlen:xs.length=n
 case neg =>
  have:((xs.length:Int) != n)=true:=by simp; omega
  simp [this]
  exact ⟨L,hS,.inl ⟨.inl hlen,rfl,h2.drop⟩⟩
 have:((xs.length:Int) != n)=false:=by simp; omega
 simp [this,h2.own.vw.len]
 refine range_loop (n:=L.length) (by omega) (fun k ρ w'=>ρ 0=.pointer (some ⟨m,0,none⟩)∧ρ 1=.int .i64 (f:Nat)∧ρ 2=tov∧ρ 8=v∧ρ 30=v∧(∀j x,j < k→L[j]? = some x→0≤tgt xs x∧tgt xs x < n) ∧
   At w F (Star (OwnA v 3 1 iv L) (Star (MgrA m n lim ns) B)) w') (by simp) (by simp)
  ⟨by simp,by simp,by simp,by simp,by simp,by simp,h2⟩ (by decide) (fun _ _ _ _ h=>by simpa using h) (fun _ _ _ _ h=>by simpa using h) ?_ ?_
 ·rintro k ρ w3 hk hc hlim ⟨g0,g1,g2,g8,g30,hall,h3⟩
  have ek:L[k]? = some L[k]:=List.getElem?_eq_getElem hk
  obtain ⟨x,hxe⟩:∃x,x=L[k]:=⟨_,rfl⟩
  rw [←hxe] at ek
  obtain ⟨x0,x1⟩:=hmem x (List.mem_of_getElem? ek)
  have hs:=h3.own.vw
  have ht:=vw h3.drop
  obtain ⟨nv,b,ho,_,_⟩:=MgrA.rd h3.drop
  unfold mgrO at ho
  have hxl:x.toNat < xs.length:=by omega
  have ex:xs[x.toNat]? = some (tgt xs x):=by simp [tgt,List.getD,List.getElem?_eq_getElem hxl]
  have h4:=h3.drew hLo
  simp (disch:=omega) [g0,g2,g30,hc,hs.idx,iv_cell hs ek,ht.idx,iv_cell ht ex,cell_blk ho]
  by_cases c1:tgt xs x < 0
  ·simp [c1]
   exact ⟨L,hS,.inl ⟨.inr ⟨x,List.mem_of_getElem? ek,.inl c1⟩,rfl,h4.drop⟩⟩
  by_cases c2:(n:Int)≤tgt xs x
  ·simp (disch:=omega) [c1,c2,g0,g2,ht.idx,iv_cell ht ex,cell_blk ho]
   exact ⟨L,hS,.inl ⟨.inr ⟨x,List.mem_of_getElem? ek,.inr c2⟩,rfl,h4.drop⟩⟩
  ·simp (disch:=omega) [c1,c2,ht.idx,iv_cell ht ex,cell_blk ho,g0,g1,g2,g8,g30,hc,hlim]
   refine ⟨fun j y hj hy=>?_,h4⟩
   rcases Nat.lt_or_ge j k with h5 | h5
   ·exact hall j y h5 hy
   ·have:j=k:=by omega
    subst this
    rw [ek] at hy
    rw [←Option.some.inj hy]; omega
 rintro ρ w3 ⟨g0,g1,g2,g8,g30,hall,h3⟩
 have nb1:¬RenBad1 n xs L:=by
  rintro (h | ⟨v,hv,h⟩)
  ·exact h hlen
  ·obtain ⟨j,hj⟩:=List.getElem?_of_mem hv
   have:=hall j v (List.getElem?_eq_some_iff.1 hj).1 hj
   omega
 simp
 refine loop_inv (fun q ρ w'=>∃k,q=L.length - k∧1≤k∧k≤L.length+1∧ρ 12=.int .i64 (k:Nat)∧ρ 0=.pointer (some ⟨m,0,none⟩)∧ρ 1=.int .i64 (f:Nat)∧ρ 2=tov∧ρ 8=v∧(∀i a b,i+1 < k→L[i]? = some a→L[i+1]? = some b→tgt xs a < tgt xs b) ∧
   At w F (Star (OwnA v 3 1 iv L) (Star (MgrA m n lim ns) B)) w') (L.length - 1)
  ⟨1,rfl,Nat.le_refl _,by omega,by simp,by simp [g0],by simp [g1],by simp [g2],by simp [g8],by omega,h3⟩ ?_
 rintro q ρ w4 ⟨k,rfl,hk1,hkl,c12,g0,g1,g2,g8,hstp,h4⟩
 have hs:=h4.own.vw
 by_cases hk:k < L.length
 ·have hk':(k:Int) < L.length:=by omega
  have ek:L[k]? = some L[k]:=List.getElem?_eq_getElem hk
  have ej:L[k - 1]? = some (L[k - 1]'(by omega)):=List.getElem?_eq_getElem _
  obtain ⟨x,hxe⟩:∃x,x=L[k]:=⟨_,rfl⟩
  obtain ⟨y,hye⟩:∃y,y=L[k - 1]'(by omega):=⟨_,rfl⟩
  rw [←hxe] at ek
  rw [←hye] at ej
  obtain ⟨x0,x1⟩:=hmem x (List.mem_of_getElem? ek)
  obtain ⟨y0,y1⟩:=hmem y (List.mem_of_getElem? ej)
  have ht:=vw h4.drop
  have ex:xs[x.toNat]? = some (tgt xs x):=by simp [tgt,List.getD,List.getElem?_eq_getElem (show x.toNat < xs.length by omega)]
  have ey:xs[y.toNat]? = some (tgt xs y):=by simp [tgt,List.getD,List.getElem?_eq_getElem (show y.toNat < xs.length by omega)]
  have ekm:(k:Int) - 1=((k - 1:Nat):Int):=by omega
  have h5:=h4.drew hLo
  simp (disch:=omega) [c12,g2,g8,hs.len,hk',wrap_i64,ekm]
  simp (disch:=omega) [c12,g2,g8,hs.len,hk',wrap_i64,hs.idx,iv_cell hs ej,iv_cell hs ek,ht.idx,iv_cell ht ex,iv_cell ht ey]
  by_cases c1:tgt xs x≤tgt xs y
  ·simp [c1]
   exact ⟨L,hS,.inr (.inl ⟨nb1,⟨k - 1,y,x,ej,by rw [show k - 1+1=k by omega]; exact ek,c1⟩,rfl,h5.drop⟩)⟩
  ·simp (disch:=omega) [c1,c12,wrap_i64]
   refine ⟨L.length - (k+1),by omega,k+1,rfl,by omega,by omega,by simp,g0,g1,g2,g8,fun i a b hi ha hb=>?_,h5⟩
   rcases Nat.lt_or_ge (i+1) k with h6 | h6
   ·exact hstp i a b h6 ha hb
   ·have:i=k - 1:=by omega
    subst this
    rw [ej] at ha
    rw [show k - 1+1=k by omega,ek] at hb
    rw [←Option.some.inj ha,←Option.some.inj hb]; omega
 ·have hk':¬(k:Int) < L.length:=by omega
  have nb2:¬RenBad2 xs L:=by
   rintro ⟨i,a,b,ha,hb,h⟩
   have hl:=(List.getElem?_eq_some_iff.1 hb).1
   have:=hstp i a b (by omega) ha hb
   omega
  have hasc:=asc_of hS.1 nb1 nb2
  simp [c12,g8,hs.len,hk',g1]
  by_cases hf2:f < 2
  ·have hf2':(f:Int) < 2:=by omega
   simp [hf2',g1]
   exact ⟨L,hS,.inr (.inr ⟨nb1,nb2,some f,ns,[],rfl,c_const hw hbs (fun q hq=>by cases hq) hf hf2,h4.drop⟩)⟩
  ·have hf2':¬(f:Int) < 2:=by omega
   have ht:=vw h4.drop
   have hn0:0 < n:=by have:=hw.tv_var (show 2≤f by omega) hf; omega
   have htov:∃a k c,tov=.slice (some a) k c:=by
    rcases ht with ⟨_,h1⟩ | ⟨a,cap,h1,_⟩
    ·rw [h1] at hlen; simp at hlen; omega
    ·exact ⟨a,_,_,h1⟩
   have hto:∀i:Nat,(i:Int) ∈ L→xs[i]? = some (((tgt xs i).toNat:Nat):Int):=fun i hi=>by
    have h6:=hmem _ hi
    have h7:¬(tgt xs i < 0):=fun h=>nb1 (.inr ⟨_,hi,.inl h⟩)
    have e1:tgt xs i=xs.getD i 0:=by simp [tgt]
    rw [show (((tgt xs i).toNat:Nat):Int)=tgt xs i by omega,e1]
    simp [List.getD,List.getElem?_eq_getElem (show i < xs.length by omega)]
   simp [hf2',g0,g1,g2]
   have h6:=(h4.drop.newmap (ek:=natV) (ev:=natV) (ok:=i64ok) hl).rot
   refine cl_of (change_ren m n lim w4.heap.size 0 0 tov xs (fun i=>(i:Int) ∈ L) (fun i=>(tgt xs i).toNat) htov hto hasc w F f f ns [] B _ hB hw hb hf (Nat.le_refl _) (fun q hq=>by cases hq) (fun y hy=>(hS.2 _).2 ⟨y,hy,rfl⟩) hR h6) ?_
   rintro _ w5 ⟨r,ns',M',rfl,hc,h7⟩
   cases r with
   | none=>simp [optV,bnoV,berrV]; exact ⟨L,hS,.inr (.inr ⟨nb1,nb2,none,ns',M',rfl,hc,h7.by (Imp.un Imp.dr)⟩)⟩
   | some x=>simp [optV,okV]; exact ⟨L,hS,.inr (.inr ⟨nb1,nb2,some x,ns',M',rfl,hc,h7.by (Imp.un Imp.dr)⟩)⟩
end Go.Proofs.YtcoeknnghfajnaaGreat
end
section
namespace Go.Proofs.YtcoeknnghfajnaaGreat
open Go Go.W Go.Tk Go.Rx Go.Bd Go.Sy Go.Maps
def eB (b:Bool):Value:=if b=true then berrV 10 else .nilIface
structure Stp (n lim:Nat) (W:((Nat→Bool)→Bool)→Prop) (e:Bool) (ns:Ns) (e':Bool) (ns':Ns):Prop where
 ext:Ext n ns ns'
 lm:ns'.length≤lim
 new:∀z,ns.length+2≤z→z < ns'.length+2→∃G,W G∧IsC G fun b=>eval ns' b z
 bad:e=true→e'=true∧ns'=ns
 full:e=false→e'=true→lim≤ns'.length
section
variable {n lim:Nat} {W W':((Nat→Bool)→Bool)→Prop} {e e1 e2:Bool} {ns ns1 ns2:Ns}
theorem Stp.refl (hw:Wf n ns) (hl:ns.length≤lim):Stp n lim W e ns e ns:=⟨Ext.refl hw,hl,fun z h1 h2=>by omega,fun h=>⟨h,rfl⟩,fun h h2=>by rw [h] at h2; cases h2⟩
theorem Stp.trans (h1:Stp n lim W e ns e1 ns1) (h2:Stp n lim W e1 ns1 e2 ns2):Stp n lim W e ns e2 ns2:=by
 refine ⟨h1.ext.trans h2.ext,h2.lm,fun z a b=>?_,fun h=>?_,fun h h3=>?_⟩
 ·by_cases hz:z < ns1.length+2
  ·obtain ⟨G,g1,g2⟩:=h1.new z a hz
   exact ⟨G,g1,g2.congr (fun _=>rfl) fun b=>(h2.ext.eval h1.ext.wf b hz).symm⟩
  ·exact h2.new z (by omega) b
 ·obtain ⟨a1,a2⟩:=h1.bad h
  obtain ⟨b1,b2⟩:=h2.bad a1
  exact ⟨b1,by rw [b2,a2]⟩
 ·cases he:e1 with
  | true =>
   have:=h1.full h he
   have:=(h2.bad he).2
   rw [this]
   omega
  | false=>exact h2.full he h3
theorem Stp.mono (h:Stp n lim W e ns e1 ns1) (hw:∀G,W G→W' G):Stp n lim W' e ns e1 ns1 :=
 ⟨h.ext,h.lm,fun z a b=>by
  obtain ⟨G,g1,g2⟩:=h.new z a b
  exact ⟨G,hw G g1,g2⟩,h.bad,h.full⟩
end
def Mn (ns:Ns) (e:Bool) (x:Nat) (F:(Nat→Bool)→Bool):Prop:=x≤2000000∧(e=false→Ref ns x∧∀a,eval ns a x=F a)
theorem Mn.ext {n:Nat} {ns ns':Ns} {x:Nat} {F:(Nat→Bool)→Bool} (h:Mn ns false x F) (hw:Wf n ns) (hx:Ext n ns ns'):Ref ns' x∧∀a,eval ns' a x=F a:=by
 obtain ⟨h1,h2⟩:=h.2 rfl
 exact ⟨hx.ref h1,fun a=>by rw [hx.eval hw a h1,h2]⟩
structure SpC where
 t0:Value
 t1:Value
 t2:Value
 t3:Value
 fv:Value
 wv:Value
 all:Nat
 km:Nat
 sm:Nat
def spO (m:Nat) (vars:List Nat) (q:SpC):Obj:=.cells #[q.t0,q.t1,q.t2,q.t3,.pointer (some ⟨m,0,none⟩),q.fv,q.wv,.int .i64 (nBits vars:Nat),.int .i64 (q.all:Nat),.map (some q.km),.map (some q.sm)] 76 (0,0)
def blO (s:Nat) (e:Bool):Obj:=.cells #[.pointer (some ⟨s,0,none⟩),eB e] 81 (0,0)
def firstL (vars:List Nat):List Nat:=(List.range vars.length).map (bP vars)
def widthL (vars:List Nat):List Nat:=vars.map wd
def BlA (b s m lim:Nat) (vars:List Nat) (q:SpC) (e:Bool) (ns:Ns) (B:Asr):Asr:=Star (MgrA m (2 * nBits vars) lim ns) (Star (ObjA b (blO s e)) (Star (ObjA s (spO m vars q)) (Star (OwnA q.fv 3 1 nE (firstL vars)) (Star (OwnA q.wv 3 1 nE (widthL vars)) B))))
theorem BlA.rest {b s m:Nat} {vars:List Nat} {q:SpC} {e:Bool} {B:Asr} (hB:Lcl B):Lcl (Star (ObjA b (blO s e)) (Star (ObjA s (spO m vars q)) (Star (OwnA q.fv 3 1 nE (firstL vars)) (Star (OwnA q.wv 3 1 nE (widthL vars)) B)))):=Lcl.obj.star (Lcl.obj.star (Lcl.own.star (Lcl.own.star hB)))
theorem BlA.lcl {b s m lim:Nat} {vars:List Nat} {q:SpC} {e:Bool} {ns:Ns} {B:Asr} (hB:Lcl B):Lcl (BlA b s m lim vars q e ns B):=Lcl.mgr.star (BlA.rest hB)
structure SpOk (vars:List Nat) (lim:Nat) (ns:Ns):Prop where
 bt:nBits vars≤100
 v64:∀n ∈ vars,1≤n∧n≤64
 len:vars.length≤64
 wf:Wf (2 * nBits vars) ns
 lim1:1≤lim
 lmx:lim≤1048576
 nl:ns.length≤lim
theorem SpOk.bnd {vars:List Nat} {lim:Nat} {ns:Ns} (h:SpOk vars lim ns):Bnd (2 * nBits vars) lim ns:=⟨by have:=h.bt; omega,h.lmx,h.nl⟩
theorem SpOk.stp {vars:List Nat} {lim:Nat} {W:((Nat→Bool)→Bool)→Prop} {ns ns':Ns} {e e':Bool} (h:SpOk vars lim ns) (hs:Stp (2 * nBits vars) lim W e ns e' ns'):SpOk vars lim ns':=⟨h.bt,h.v64,h.len,hs.ext.wf,h.lim1,h.lmx,hs.lm⟩
def BPost (b s m lim:Nat) (vars:List Nat) (q:SpC) (e:Bool) (ns:Ns) (B:Asr) (w:World) (F:List Nat) (W:((Nat→Bool)→Bool)→Prop) (G:(Nat→Bool)→Bool) (v:Value) (w':World):Prop :=
 ∃x e' ns',v=.int .i64 (x:Nat)∧Stp (2 * nBits vars) lim W e ns e' ns'∧Mn ns' e' x G∧At w F (BlA b s m lim vars q e' ns' B) w'
section
variable {w w1:World} {F:List Nat} {B:Asr} {b s m lim:Nat} {vars:List Nat} {q:SpC} {e:Bool} {ns:Ns} {W:((Nat→Bool)→Bool)→Prop}
theorem keep_spec (x:Nat) (r:Bool) (hB:Lcl B) (h:At w F (BlA b s m lim vars q false ns B) w1) :
  Calls Tryz.prog 71 [.pointer (some ⟨b,0,none⟩),.int .i64 (x:Nat),eB r].toArray w1 fun en w'=>∃v,en=.returned v∧v=.int .i64 ((if r=true then 0 else x:Nat):Nat)∧At w F (BlA b s m lim vars q r ns B) w':=by
 refine enter Tryz.func71 mixed low71 (Nat.le_of_ble_eq_true rfl) ?_
 simp only [L71]
 unfold BlA at h
 have h1:=h.by Imp.sw
 have ob:=h1.obj
 unfold blO eB at ob
 simp at ob
 cases r with
 | false =>
  simp [eB,cell_blk ob]
  have hL2:Lcl (Star (MgrA m (2 * nBits vars) lim ns) (Star (ObjA s (spO m vars q)) (Star (OwnA q.fv 3 1 nE (firstL vars)) (Star (OwnA q.wv 3 1 nE (widthL vars)) B)))):=Lcl.mgr.star (Lcl.obj.star (Lcl.own.star (Lcl.own.star hB)))
  unfold blO eB at h1
  refine h1.st hL2 (by simp) (by simp) fun w2 h2=>?_
  have ob2:=h2.obj
  simp at ob2
  simp [cell_blk ob2]
  unfold BlA blO eB
  exact (by simpa using h2:At w F _ w2).by Imp.sw
 | true =>
  simp [eB,berrV,cell_blk ob]
  have hL2:Lcl (Star (MgrA m (2 * nBits vars) lim ns) (Star (ObjA s (spO m vars q)) (Star (OwnA q.fv 3 1 nE (firstL vars)) (Star (OwnA q.wv 3 1 nE (widthL vars)) B)))):=Lcl.mgr.star (Lcl.obj.star (Lcl.own.star (Lcl.own.star hB)))
  unfold blO eB at h1
  refine h1.st hL2 (by simp) (by simp) fun w2 h2=>?_
  have ob2:=h2.obj
  simp at ob2
  simp [cell_blk ob2]
  unfold BlA blO eB berrV
  exact (by simpa using h2:At w F _ w2).by Imp.sw
theorem op_end {G:(Nat→Bool)→Bool} {r:Option Nat} {ns':Ns} {op:Nat} {f g:Nat} {S:Nat→Nat→Prop} (hk:SpOk vars lim ns) (hb:BinOk (2 * nBits vars) lim op S ns f g r ns') (hS:∀x y,S x y→PS (2 * nBits vars) ns f g x y) (hG:∀a,opB op (eval ns a f) (eval ns a g)=G a) (hW:W G) :
  Stp (2 * nBits vars) lim W false ns r.isNone ns'∧Mn ns' r.isNone (r.getD 0) G:=by
 refine ⟨⟨hb.ext,hb.lim,fun z h1 h2=>⟨G,hW,(hb.new hk.wf hS z h1 h2).congr hG fun _=>rfl⟩,fun h=>(by cases h),fun _ h=>hb.hit (by cases r <;> simp_all)⟩,?_,fun h=>?_⟩
 ·cases r with
  | none=>exact Nat.zero_le _
  | some x =>
   have h5:=(hb.ok x rfl).1
   have h6:=hb.lim
   have h7:=hk.lmx
   unfold Ref at h5
   show x≤2000000
   omega
 ·cases r with
  | none=>cases h
  | some x =>
   obtain ⟨a1,a2⟩:=hb.ok x rfl
   exact ⟨a1,fun a=>by rw [←hG a]; exact a2 a⟩
theorem optV_parts (r:Option Nat):optV r=.tuple #[.int .i64 ((r.getD 0:Nat):Int),eB r.isNone]:=by
 cases r with
 | none=>simp [optV,bnoV,eB]
 | some x=>simp [optV,okV,eB]
theorem bAnd_spec (f g:Nat) (P Q:(Nat→Bool)→Bool) (hk:SpOk vars lim ns) (hB:Lcl B) (h:At w F (BlA b s m lim vars q e ns B) w1) (hf:Mn ns e f P) (hg:Mn ns e g Q) (hW:W fun a=>P a && Q a) :
  Calls Tryz.prog 33 [.pointer (some ⟨b,0,none⟩),.int .i64 (f:Nat),.int .i64 (g:Nat)].toArray w1 fun en w'=>∃v,en=.returned v∧BPost b s m lim vars q e ns B w F W (fun a=>P a && Q a) v w':=by
 refine enter Tryz.func33 mixed low33 (Nat.le_of_ble_eq_true rfl) ?_
 simp only [L33]
 have h':=h
 unfold BlA at h'
 have ob:=h'.drop.obj
 have os:=h'.drop.drop.obj
 unfold blO at ob
 unfold spO at os
 cases e with
 | true =>
  simp [eB,berrV] at ob
  simp [cell_blk ob]
  exact ⟨0,true,ns,rfl,Stp.refl hk.wf hk.nl,⟨Nat.zero_le _,fun h=>by cases h⟩,h⟩
 | false =>
  simp [eB] at ob
  obtain ⟨rf,ef⟩:=hf.2 rfl
  obtain ⟨rg,eg⟩:=hg.2 rfl
  obtain ⟨p1,p2⟩:=ps_clo hk.wf 0 rf rg
  simp [cell_blk ob,cell_blk os]
  refine cl_of (and_of (binary_spec m (2 * nBits vars) lim ns 0 f g _ (by omega) (BlA.rest hB) h' hk.wf hk.bnd rf rg p2 p1) (by rintro v w' ⟨r,_,rfl,_⟩; exact optV_tup r)) ?_
  rintro _ w2 ⟨r,ns',rfl,hbin,h2⟩
  obtain ⟨s1,s2⟩:=op_end (W:=W) (G:=fun a=>P a && Q a) hk hbin (fun _ _ h=>h) (fun a=>by rw [ef,eg]; rfl) hW
  rw [optV_parts]
  simp
  refine cl_of (keep_spec (r.getD 0) r.isNone hB h2) ?_
  rintro _ w3 ⟨rfl,h3⟩
  simp
  refine ⟨_,_,ns',?_,s1,s2,h3⟩
  cases r <;> rfl
theorem bOr_spec (f g:Nat) (P Q:(Nat→Bool)→Bool) (hk:SpOk vars lim ns) (hB:Lcl B) (h:At w F (BlA b s m lim vars q e ns B) w1) (hf:Mn ns e f P) (hg:Mn ns e g Q) (hW:W fun a=>P a || Q a) :
  Calls Tryz.prog 31 [.pointer (some ⟨b,0,none⟩),.int .i64 (f:Nat),.int .i64 (g:Nat)].toArray w1 fun en w'=>∃v,en=.returned v∧BPost b s m lim vars q e ns B w F W (fun a=>P a || Q a) v w':=by
 refine enter Tryz.func31 mixed low31 (Nat.le_of_ble_eq_true rfl) ?_
 simp only [L31]
 have h':=h
 unfold BlA at h'
 have ob:=h'.drop.obj
 have os:=h'.drop.drop.obj
 unfold blO at ob
 unfold spO at os
 cases e with
 | true =>
  simp [eB,berrV] at ob
  simp [cell_blk ob]
  exact ⟨0,true,ns,rfl,Stp.refl hk.wf hk.nl,⟨Nat.zero_le _,fun h=>by cases h⟩,h⟩
 | false =>
  simp [eB] at ob
  obtain ⟨rf,ef⟩:=hf.2 rfl
  obtain ⟨rg,eg⟩:=hg.2 rfl
  obtain ⟨p1,p2⟩:=ps_clo hk.wf 1 rf rg
  simp [cell_blk ob,cell_blk os]
  refine cl_of (or_of (binary_spec m (2 * nBits vars) lim ns 1 f g _ (by omega) (BlA.rest hB) h' hk.wf hk.bnd rf rg p2 p1) (by rintro v w' ⟨r,_,rfl,_⟩; exact optV_tup r)) ?_
  rintro _ w2 ⟨r,ns',rfl,hbin,h2⟩
  obtain ⟨s1,s2⟩:=op_end (W:=W) (G:=fun a=>P a || Q a) hk hbin (fun _ _ h=>h) (fun a=>by rw [ef,eg]; rfl) hW
  rw [optV_parts]
  simp
  refine cl_of (keep_spec (r.getD 0) r.isNone hB h2) ?_
  rintro _ w3 ⟨rfl,h3⟩
  simp
  refine ⟨_,_,ns',?_,s1,s2,h3⟩
  cases r <;> rfl
theorem bNot_spec (f:Nat) (P:(Nat→Bool)→Bool) (hk:SpOk vars lim ns) (hB:Lcl B) (h:At w F (BlA b s m lim vars q e ns B) w1) (hf:Mn ns e f P) (hW:W fun a=>!P a) :
  Calls Tryz.prog 37 [.pointer (some ⟨b,0,none⟩),.int .i64 (f:Nat)].toArray w1 fun en w'=>∃v,en=.returned v∧BPost b s m lim vars q e ns B w F W (fun a=>!P a) v w':=by
 refine enter Tryz.func37 mixed low37 (Nat.le_of_ble_eq_true rfl) ?_
 simp only [L37]
 have h':=h
 unfold BlA at h'
 have ob:=h'.drop.obj
 have os:=h'.drop.drop.obj
 unfold blO at ob
 unfold spO at os
 cases e with
 | true =>
  simp [eB,berrV] at ob
  simp [cell_blk ob]
  exact ⟨0,true,ns,rfl,Stp.refl hk.wf hk.nl,⟨Nat.zero_le _,fun h=>by cases h⟩,h⟩
 | false =>
  simp [eB] at ob
  obtain ⟨rf,ef⟩:=hf.2 rfl
  obtain ⟨p1,p2⟩:=ps_clo hk.wf 2 rf (Ref.one ns)
  simp [cell_blk ob,cell_blk os]
  refine cl_of (not_of (binary_spec m (2 * nBits vars) lim ns 2 f 1 _ (by omega) (BlA.rest hB) h' hk.wf hk.bnd rf (Ref.one ns) p2 p1) (by rintro v w' ⟨r,_,rfl,_⟩; exact optV_tup r)) ?_
  rintro _ w2 ⟨r,ns',rfl,hbin,h2⟩
  obtain ⟨s1,s2⟩:=op_end (W:=W) (G:=fun a=>!P a) hk hbin (fun _ _ h=>h) (fun a=>by rw [ef,eval_one]; cases P a <;> rfl) hW
  rw [optV_parts]
  simp
  refine cl_of (keep_spec (r.getD 0) r.isNone hB h2) ?_
  rintro _ w3 ⟨rfl,h3⟩
  simp
  refine ⟨_,_,ns',?_,s1,s2,h3⟩
  cases r <;> rfl
theorem bBit_spec (i:Nat) (hk:SpOk vars lim ns) (hB:Lcl B) (h:At w F (BlA b s m lim vars q e ns B) w1) (hi:i < 2 * nBits vars) (hW:W fun a=>a i) :
  Calls Tryz.prog 38 [.pointer (some ⟨b,0,none⟩),.int .i64 (i:Nat)].toArray w1 fun en w'=>∃v,en=.returned v∧BPost b s m lim vars q e ns B w F W (fun a=>a i) v w':=by
 refine enter Tryz.func38 mixed low38 (Nat.le_of_ble_eq_true rfl) ?_
 simp only [L38]
 have h':=h
 unfold BlA at h'
 have ob:=h'.drop.obj
 have os:=h'.drop.drop.obj
 unfold blO at ob
 unfold spO at os
 cases e with
 | true =>
  simp [eB,berrV] at ob
  simp [cell_blk ob]
  exact ⟨0,true,ns,rfl,Stp.refl hk.wf hk.nl,⟨Nat.zero_le _,fun h=>by cases h⟩,h⟩
 | false =>
  simp [eB] at ob
  simp [cell_blk ob,cell_blk os]
  refine cl_of (var_spec m (2 * nBits vars) lim ns i (BlA.rest hB) h' hk.bnd hi) ?_
  rintro _ w2 ⟨rfl,h2⟩
  have mk:=mkF_ok (lim:=lim) hk.wf hi (Ref.zero ns) (Ref.one ns) (by rw [tv_lt (by omega)]; exact hi) (by rw [tv_lt (by omega)]; exact hi)
  obtain ⟨r,hr⟩:∃r,r=(mkF lim ns i 0 1).1:=⟨_,rfl⟩
  obtain ⟨ns',hns⟩:∃x,x=(mkF lim ns i 0 1).2:=⟨_,rfl⟩
  have hnw:∀x z,r=some x→ns.length+2≤z→z < ns'.length+2→z=x:=fun x z h0 h1 h2=>by
   rw [hr] at h0
   rw [hns] at h2
   exact mkF_new h0 h1 h2
  rw [←hr,←hns] at mk
  rw [←hns] at h2
  rw [←hr,optV_parts]
  simp
  refine cl_of (keep_spec (r.getD 0) r.isNone hB h2) ?_
  rintro _ w3 ⟨rfl,h3⟩
  simp
  refine ⟨r.getD 0,r.isNone,ns',?_,⟨mk.ext,mk.lim hk.nl,fun z h1 h2=>?_,fun h=>(by cases h),fun _ h=>?_⟩,⟨?_,fun h=>?_⟩,h3⟩
  ·cases r <;> rfl
  ·cases hrr:r with
   | none =>
    have:=(mk.full hrr).2
    rw [this] at h2
    omega
   | some x =>
    have e:=hnw x z hrr h1 h2
    subst e
    obtain ⟨_,_,a2⟩:=mk.ok z hrr
    refine ⟨_,hW,(IsC.refl _).congr (fun _=>rfl) fun a=>?_⟩
    rw [a2,eval_one,eval_zero]
    cases a i <;> rfl
  ·obtain ⟨a1,a2⟩:=mk.full (by cases r <;> simp_all)
   rw [a2]
   exact a1
  ·cases hrr:r with
   | none=>exact Nat.zero_le _
   | some x =>
    have h5:=(mk.ok x hrr).1
    have h6:=mk.lim hk.nl
    have h7:=hk.lmx
    unfold Ref at h5
    show x≤2000000
    omega
  ·cases hrr:r with
   | none=>rw [hrr] at h; cases h
   | some x =>
    obtain ⟨a1,_,a2⟩:=mk.ok x hrr
    refine ⟨a1,fun a=>?_⟩
    show eval ns' a x=a i
    rw [a2,eval_one,eval_zero]
    cases a i <;> rfl
end
end Go.Proofs.YtcoeknnghfajnaaGreat
end
