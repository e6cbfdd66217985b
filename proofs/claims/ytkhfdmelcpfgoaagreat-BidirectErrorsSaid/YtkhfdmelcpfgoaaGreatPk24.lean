/-
  A part of the proof of this claim's statement (BiH, BiI, BiJ, BiK): plain theorems; no conditions beyond those each names.
-/
import Derived.Test.YtkhfdmelcpfgoaaGreatPk23
import Derived.Test.YtkhfdmelcpfgoaaGreatPk15
section
set_option maxRecDepth 100000
set_option linter.unusedSimpArgs false
set_option linter.unusedVariables false
namespace Go.Proofs
open Go.RowKit Go.Maps Go.Sort Go.Shelf
theorem Tryz.maps_Keys_54 (mb:Option Nat) (W:World):CallsIn Fence.wide 5 Tryz.prog 54 #[.map mb] W fun e w'=>e=.returned (.func (.func 77) #[] #[.pointer (some ⟨W.heap.size,0,none⟩)])∧w'=W.alloc (.cells #[.map mb] 76) :=
 AnyZI.keys_in Tryz.keys54 Fence.wide 5 trivial rfl mb W
theorem Tryz.sorted_keys_54 {H:Type} (b nn:Nat) (D0:DataW H) (R:Value→Option (DataW H × List MemPlace)) (w:World) (hown:w.ownsMap Tryz.prog 3 R b nn D0) (hmax:Maps.size D0≤maxLen) (hbytes:Maps.size D0 * 8≤140737488355328) :
  CallsIn Fence.wide 5 Tryz.prog 53 #[.func (.func 77) #[] #[.pointer (some ⟨w.heap.size,0,none⟩)]] (w.alloc (.cells #[.map (some b)] 76)) fun e w'=>∃ (v:Value) (ss:List Int),e=.returned v∧ss.Perm (intKeys D0) ∧
   w'.ownsRow (w.alloc (.cells #[.map (some b)] 76)).heap.size 3 1 v ss.length ((ss.mergeSort (fun x y=>decide (x≤y))).map encZ)∧(v=.slice none 0 0↔ss=[])∧Below (w.alloc (.cells #[.map (some b)] 76)).heap.size (w.alloc (.cells #[.map (some b)] 76)) w':=by
 have hbl:=hown.lt
 have hseq:SeqGives Fence.wide 2 Tryz.prog 77 #[.pointer (some ⟨w.heap.size,0,none⟩)] encZ (fun ss=>ss.Perm (intKeys D0)) (Maps.size D0) (w.alloc (.cells #[.map (some b)] 76)) :=
  AnyZI.keys_gives (ρ:=Tryz.keys54_ren) { Tryz.keys54 with } Fence.wide _ trivial rfl (by omega) w.heap.size b nn D0 _ (by simp) (by simp) (by
   obtain ⟨es,clock,hb,Ft,hs,hD⟩:=hown
   exact ⟨es,clock,(Below.heap_alloc _ _ b hbl).trans hb,Ft,hs,hD⟩)
 exact AnyZI.sorted_in Tryz.sorted53 Fence.wide 5 trivial trivial trivial trivial rfl (by omega) (Tryz.sorts53 _) (enters_of Tryz.func76 (by kernel_rfl) rfl) 77 #[.pointer (some ⟨w.heap.size,0,none⟩)] trivial (enters_of Tryz.func77 (by kernel_rfl) rfl) _ _ hmax hbytes _ hseq
end Go.Proofs
namespace Go.Proofs.YtkhfdmelcpfgoaaGreat
open Go Go.W Go.Tk Go.Rx Go.Bd Go.Sy Go.Maps
open Go.WideElems (Fit rd rg)
theorem opn_owns {w:World} {b:Nat} {M:List (Nat × Kq)} (h:MapM w b natV kpV i64ok M) (hv:∀ p ∈ M,p.2.1≤2000000) :
  ∃ D0:DataW Unit,w.ownsMap Tryz.prog 3 (plainElem Tryz.prog 3) b M.length D0∧(intKeys D0).Perm ((M.map (·.1)).map fun n:Nat=>(n:Int))∧Maps.size D0=M.length:=by
 obtain ⟨es',clock,hb,hsz,hes,hok,hnd,hst⟩:=h
 let g:Value × Value→Lit × DataW Unit:=fun q=>(((keyOf Tryz.prog 3 q.1).bind fun key=>(plainElem (H:=Unit) Tryz.prog 3 q.2).map fun y=>(key,y.1)).getD (.bool false,.nil))
 have hgl:es'.toList.map (rg (H:=Unit) Tryz.prog 3 (plainElem Tryz.prog 3))=M.map fun p=>g (natV p.1,kpV p.2):=by
  have:es'.toList.map (rg (H:=Unit) Tryz.prog 3 (plainElem Tryz.prog 3))=(es'.toList.map fun x=>(x.key,x.val)).map g:=by
   rw [List.map_map]; rfl
  rw [this,hes,List.map_map]; rfl
 have hk:∀ x:Nat,i64ok x→keyOf Tryz.prog 3 (natV x)=some (.int .i64 x):=fun x hx=>keyOf_int_mk Tryz.underlying3 (wf_nat hx)
 have hpl:∀ p ∈ M,plainElem (H:=Unit) Tryz.prog 3 (kpV p.2)=some (.lit (.int .i64 (p.2.1:Nat)),[]):=fun p hp=>plainElem_int Tryz.underlying3 (wf_nat (by have:=hv p hp; unfold i64ok; omega))
 have hg:∀ p ∈ M,g (natV p.1,kpV p.2)=(.int .i64 p.1,.lit (.int .i64 (p.2.1:Nat))):=fun p hp=>by
  show (((keyOf Tryz.prog 3 (natV p.1)).bind fun key=>(plainElem (H:=Unit) Tryz.prog 3 (kpV p.2)).map fun y=>(key,y.1)).getD (.bool false,.nil))=_
  rw [hk _ (hok p hp),hpl p hp]
  rfl
 have hperm:=WideShapes.sorted_perm (es'.toList.map (rg (H:=Unit) Tryz.prog 3 (plainElem Tryz.prog 3)))
 have e1:es'.size=M.length:=by
  have:=congrArg List.length hes
  simpa using this
 refine ⟨_,⟨es',clock,hb,⟨hsz,hst,fun x hx=>?_⟩,by omega,rfl⟩,?_,?_⟩
 ·obtain ⟨j,hj⟩:=List.getElem?_of_mem hx
  have:=congrArg (·[j]?) hes
  simp only [List.getElem?_map,hj,Option.map_some] at this
  cases hp':M[j]? with
  | none=>rw [hp'] at this; cases this
  | some p =>
   rw [hp'] at this
   simp only [Option.map_some,Option.some.injEq,Prod.mk.injEq] at this
   have hm:=List.mem_of_getElem? hp'
   refine ⟨(.int .i64 p.1,.lit (.int .i64 (p.2.1:Nat))),?_⟩
   unfold rd
   rw [this.1,this.2,hk _ (hok p hm),hpl p hm]
   rfl
 ·have:((M.map (·.1)).map fun n:Nat=>(n:Int))=(es'.toList.map (rg (H:=Unit) Tryz.prog 3 (plainElem Tryz.prog 3))).map (fun p=>Go.intOf p.1):=by
   rw [hgl,List.map_map,List.map_map]
   refine List.map_congr_left fun p hp=>?_
   simp only [Function.comp]
   rw [hg p hp]; rfl
  rw [this]
  exact hperm.map _
 ·show (List.foldr DataW.insert [] _).length=_
  rw [hperm.length_eq,List.length_map]
  simpa using e1
theorem bkeys_call (b:Nat) (w:World):Calls Tryz.prog 54 [.map (some b)].toArray w fun e w'=>∃ v,e=.returned v∧v=.func (.func 77) #[] #[.pointer (some ⟨w.heap.size,0,none⟩)]∧w'=w.alloc (.cells #[.map (some b)] 76) :=
 Calls.mono (callsIn_wide.1 (Tryz.maps_Keys_54 (some b) w)) (by rintro e w' ⟨rfl,rfl⟩; exact ⟨_,rfl,rfl,rfl⟩)
def SrtK (M:List (Nat × Kq)) (L:List Nat):Prop:=L.Pairwise (· < ·)∧∀ x,x ∈ L↔x ∈ M.map (·.1)
theorem bsorted_call {w:World} {b:Nat} {M:List (Nat × Kq)} (h:MapM w b natV kpV i64ok M) (hv:∀ p ∈ M,p.2.1≤2000000) (hl:M.length≤2000000) :
  Calls Tryz.prog 53 [.func (.func 77) #[] #[.pointer (some ⟨w.heap.size,0,none⟩)]].toArray (w.alloc (.cells #[.map (some b)] 76)) fun e w'=>∃ v,e=.returned v∧∃ L,SrtK M L∧Own w' v 3 1 nE L∧(∀ x ∈ v.own,w.heap.size≤x)∧Kp [] w w':=by
 obtain ⟨D0,hown,hperm,hDs⟩:=opn_owns h hv
 have hnd:=MapM.nodup h
 refine Calls.mono (callsIn_wide.1 (Tryz.sorted_keys_54 b M.length D0 (plainElem Tryz.prog 3) w hown (by rw [hDs]; unfold maxLen; omega) (by rw [hDs]; omega))) ?_
 rintro e w' ⟨v,ss,rfl,hS,hrow,hnil,hb⟩
 have hml:ss.length=(ss.mergeSort (fun x y=>decide (x≤y))).length:=by simp
 rw [hml] at hrow
 obtain ⟨ho,hlow⟩:=own_of_row hrow
 have hS2:=hS.trans hperm
 have tr:∀ a b c:Int,leI a b=true→leI b c=true→leI a c=true:=fun a b c h1 h2=>by simp only [leI,decide_eq_true_eq] at *; exact Int.le_trans h1 h2
 have to:∀ a b:Int,(leI a b || leI b a)=true:=fun a b=>by simp only [leI,Bool.or_eq_true,decide_eq_true_eq]; exact Int.le_total a b
 have hpw:=List.pairwise_mergeSort tr to ss
 have hnd2:(ss.mergeSort leI).Nodup:=by
  rw [(List.mergeSort_perm ss leI).nodup_iff,hS2.nodup_iff,List.nodup_iff_pairwise_ne,List.pairwise_map]
  exact (List.nodup_iff_pairwise_ne.1 hnd).imp fun h e=>h (by omega)
 have hlt:(ss.mergeSort leI).Pairwise (· < ·):=by
  refine (hpw.and (List.nodup_iff_pairwise_ne.1 hnd2)).imp ?_
  intro a b h
  obtain ⟨h1,h2⟩:=h
  simp only [leI,decide_eq_true_eq] at h1
  omega
 have hmem:∀ x:Int,x ∈ ss.mergeSort leI↔∃ y ∈ M.map (·.1),((y:Nat):Int)=x:=fun x=>by
  rw [(List.mergeSort_perm ss leI).mem_iff,hS2.mem_iff,List.mem_map]
 have hcast:ss.mergeSort leI=((ss.mergeSort leI).map Int.toNat).map fun n:Nat=>(n:Int):=by
  rw [List.map_map]
  conv=>lhs; rw [← List.map_id (ss.mergeSort leI)]
  refine List.map_congr_left fun x hx=>?_
  obtain ⟨y,_,rfl⟩:=(hmem x).1 hx
  simp
 refine ⟨v,rfl,(ss.mergeSort leI).map Int.toNat,⟨?_,fun x=>?_⟩,?_,fun x hx=>by have:=hlow x hx; simp at this; omega,((Kp.refl [] w).alloc _).trans0 (kp_below hb)⟩
 ·rw [List.pairwise_map]
  refine (hlt.imp_of_mem ?_)
  intro a b ha hb h
  obtain ⟨y,_,rfl⟩:=(hmem a).1 ha
  obtain ⟨z,_,rfl⟩:=(hmem b).1 hb
  simp
  omega
 ·rw [List.mem_map]
  constructor
  ·rintro ⟨a,ha,rfl⟩
   obtain ⟨y,hy,rfl⟩:=(hmem a).1 ha
   simpa using hy
  ·intro hx
   exact ⟨(x:Int),(hmem _).2 ⟨x,hx,rfl⟩,by simp⟩
 ·have ho2:Own w' v 3 1 iv (ss.mergeSort leI):=ho
  rw [hcast] at ho2
  revert ho2
  generalize (ss.mergeSort leI).map Int.toNat=L
  intro ho2
  have hf:(L.map fun n:Nat=>(n:Int)).flatMap iv=L.flatMap nE:=by
   rw [List.flatMap_map]
   rfl
  unfold Own at ho2 ⊢
  rw [hf] at ho2
  simpa using ho2
end Go.Proofs.YtkhfdmelcpfgoaaGreat
end
section
set_option maxRecDepth 100000
set_option linter.unusedSimpArgs false
set_option linter.unusedVariables false
namespace Go.Proofs.YtkhfdmelcpfgoaaGreat
open Go Go.W Go.Tk Go.Rx Go.Bd Go.Sy Go.Maps
theorem mem_putM {α:Type} {l:List (Nat × α)} {c:Nat} {v:α} {p:Nat × α}:p ∈ putM l c v↔p=(c,v)∨(p ∈ l∧p.1≠c):=by
 unfold putM
 split
 ·rename_i h
  rw [List.mem_map]
  constructor
  ·rintro ⟨a,ha,rfl⟩
   by_cases e:a.1=c
   ·rw [if_pos e]; exact .inl rfl
   ·rw [if_neg e]; exact .inr ⟨ha,e⟩
  ·rintro (rfl | ⟨h1,h2⟩)
   ·rw [List.any_eq_true] at h
    obtain ⟨a,ha,e⟩:=h
    exact ⟨a,ha,by rw [if_pos (of_decide_eq_true e)]⟩
   ·exact ⟨p,h1,by rw [if_neg h2]⟩
 ·rename_i h
  rw [List.mem_append,List.mem_singleton]
  constructor
  ·rintro (h1 | h1)
   ·refine .inr ⟨h1,fun e=>h (List.any_eq_true.2 ⟨p,h1,decide_eq_true e⟩)⟩
   ·exact .inl h1
  ·rintro (h1 | ⟨h1,_⟩)
   ·exact .inr h1
   ·exact .inl h1
theorem getM_kv {α:Type} {l:List (Nat × α)} (hn:(l.map (·.1)).Nodup) {c:Nat} {v:α}:getM l c=some v↔(c,v) ∈ l:=by
 unfold getM
 constructor
 ·intro h
  cases hf:l.find? (fun p=>decide (p.1=c)) with
  | none=>rw [hf] at h; cases h
  | some p =>
   rw [hf] at h
   have h1:=List.find?_some hf
   have h2:=List.mem_of_find?_eq_some hf
   simp at h h1
   rw [← h1,← h]
   exact h2
 ·intro h
  induction l with
  | nil=>cases h
  | cons a l ih =>
   simp only [List.map_cons,List.nodup_cons,List.mem_map,not_exists,not_and] at hn
   rcases List.mem_cons.1 h with rfl | h1
   ·simp
   ·have:a.1≠c:=fun e=>hn.1 _ h1 e.symm
    rw [List.find?_cons_of_neg (by simpa using this)]
    exact ih hn.2 h1
section
variable {w w1 w2:World} {F:List Nat} {A B B':Asr} {s m lim:Nat} {T T':Nt} {q:SpC} {ps:List Kq} {x:Nat} {d:Sd}
theorem FsA.more (hB:Lcl B) (h:FsA s m lim T' q ps B w F w1) (hk:Kp [] w1 w2) (ha:∃ F1,A w2 F1∧∀ x ∈ F1,w1.heap.size≤x):FsA s m lim T' q ps (Star A B) w F w2:=by
 obtain ⟨ns,ks,ss,hG,hk1,hA⟩:=h
 exact ⟨ns,ks,ss,hG,hk1,SpcA.into (hA.more (SpcA.lcl hB) hk ha)⟩
theorem SdA.into:Imp (Star A (SdA x T s d B)) (SdA x T s d (Star A B)):=Imp.bk5
theorem SdA.out:Imp (SdA x T s d (Star A B)) (Star A (SdA x T s d B)):=Imp.fr5
theorem SdA.fr (hi:Imp B B'):Imp (SdA x T s d B) (SdA x T s d B'):=Imp.un (Imp.un (Imp.un (Imp.un hi)))
theorem FsA.le (h:FsA s m lim T' q ps B w F w1) {p:Kq} (hp:p ∈ ps):p.1≤2000000:=by
 obtain ⟨ns,ks,ss,hG,hk1,hA⟩:=h
 exact (hk1 p hp).le hG
theorem FsA.putM {KW:Kont World} {c:Nat} {p:Kq} (hB:Lcl B) (h:FsA s m lim T' q ps (SdA x T s d B) w F w1) (hc:i64ok c) (hl:d.opn.length≤2000000)
  (H:∀ w2,FsA s m lim T' q ps (SdA x T s { d with opn:=putM d.opn c p } B) w F w2→KW.run w2):@efuH Tryz.prog (Instr.mapUpdate 76 (.map (some d.om)) (natV c) (kpV p)) w1 KW:=by
 obtain ⟨ns,ks,ss,hG,hk1,hA⟩:=h
 have h1:At w F (Star (MapA d.om natV kpV i64ok d.opn) (SpcA s m lim T' q ns ks ss (Star (ObjA x (sdO T s d)) (Star (OwnA d.wv 74 3 wmE d.wl) (Star (VwsA nE (d.wl.map wmP)) B))))) w1:=by
  refine SpcA.out ?_
  unfold SpcA SdA at hA
  unfold SpcA
  exact hA.by (Imp.un (Imp.un (Imp.un (Imp.un (Imp.un (Imp.un (Imp.un Imp.fr4)))))))
 refine At.put (x:=c) (v:=p) (SpcA.lcl (Lcl.obj.star (Lcl.own.star (Lcl.vws.star hB)))) h1 bkeyI Tryz.underlying76 hc (by unfold maxLen; omega) fun w2 h2=>H w2 ⟨ns,ks,ss,hG,hk1,?_⟩
 have h3:=SpcA.into h2
 unfold SpcA SdA at *
 exact h3.by (Imp.un (Imp.un (Imp.un (Imp.un (Imp.un (Imp.un (Imp.un Imp.bk4)))))))
theorem del_mk {args:Array Operand} {tys:Array TypeId} {ty:Nat} {ρ:Env} {w:World} {K:Value→World→Prop} (h:@efH Tryz.prog (Builtin.delete_ tys ty (args.toList.map ρ.ev).toArray) w ⟨fun p=>K p.1 p.2⟩):opS Tryz.prog 2 (.call ⟨.builtin .delete,args,tys⟩) ty ρ w K:=⟨rfl,h⟩
theorem FsA.delM {KV:Kont (Value × World)} {c ty:Nat} (hB:Lcl B) (h:FsA s m lim T' q ps (SdA x T s d B) w F w1) (hc:i64ok c)
  (H:∀ w2,FsA s m lim T' q ps (SdA x T s { d with opn:=delM d.opn c } B) w F w2→KV.run (.tuple #[],w2)):@efH Tryz.prog (Builtin.delete_ #[76,3] ty #[.map (some d.om),natV c]) w1 KV:=by
 obtain ⟨ns,ks,ss,hG,hk1,hA⟩:=h
 have h1:At w F (Star (MapA d.om natV kpV i64ok d.opn) (SpcA s m lim T' q ns ks ss (Star (ObjA x (sdO T s d)) (Star (OwnA d.wv 74 3 wmE d.wl) (Star (VwsA nE (d.wl.map wmP)) B))))) w1:=by
  refine SpcA.out ?_
  unfold SpcA SdA at hA
  unfold SpcA
  exact hA.by (Imp.un (Imp.un (Imp.un (Imp.un (Imp.un (Imp.un (Imp.un Imp.fr4)))))))
 refine At.del (x:=c) (SpcA.lcl (Lcl.obj.star (Lcl.own.star (Lcl.vws.star hB)))) h1 bkeyI Tryz.underlying76 hc fun w2 h2=>H w2 ⟨ns,ks,ss,hG,hk1,?_⟩
 have h3:=SpcA.into h2
 unfold SpcA SdA at *
 exact h3.by (Imp.un (Imp.un (Imp.un (Imp.un (Imp.un (Imp.un (Imp.un Imp.bk4)))))))
end
structure NxOk (vars:List Nat) (d:Sd) (c:Nat) (op':List (Nat × Kq)):Prop where
 mem:∃ r R,(c,((r,R):Kq)) ∈ op'∧r≠0∧∀ z,R z=true→d.cl z=false
 min:∀ p ∈ op',p.1≠c→c < p.1
 h1:∀ p ∈ op',∃ S:Kq,(p.1,S) ∈ d.opn∧∀ z,StN vars z→p.2.2 z=true→S.2 z=true
 h2:∀ p ∈ d.opn,∀ z,StN vars z→p.2.2 z=true→d.cl z=true∨∃ S:Kq,(p.1,S) ∈ op'∧S.2 z=true
 nd:(op'.map (·.1)).Nodup
theorem NxOk.ok {T:Nt} {S0:List Nat→Prop} {d:Sd} {c:Nat} {op':List (Nat × Kq)} (h:NxOk T.vars d c op') (hd:SdG T S0 d):SdG T S0 { d with opn:=op' }:=by
 refine hd.less (fun p hp=>?_) (fun p hp z hz e=>?_) ?_
 ·obtain ⟨a,ha,rfl⟩:=List.mem_map.1 hp
  obtain ⟨S,hS,hi⟩:=h.h1 a ha
  exact ⟨S.2,List.mem_map.2 ⟨_,hS,rfl⟩,hi⟩
 ·obtain ⟨a,ha,rfl⟩:=List.mem_map.1 hp
  rcases h.h2 a ha z hz e with e1 | ⟨S,hS,e1⟩
  ·exact .inl e1
  ·exact .inr ⟨S.2,List.mem_map.2 ⟨_,hS,rfl⟩,e1⟩
 ·rw [List.map_map]
  exact h.nd
def NoneOk (vars:List Nat) (d:Sd):Prop:=∀ p ∈ d.opn,∀ z,StN vars z→p.2.2 z=true→d.cl z=true
theorem NoneOk.ok {T:Nt} {S0:List Nat→Prop} {d:Sd} (h:NoneOk T.vars d) (hd:SdG T S0 d):SdG T S0 { d with opn:=[] }:=by
 refine hd.less (fun p hp=>by cases hp) (fun p hp z hz e=>?_) (by simp)
 obtain ⟨a,ha,rfl⟩:=List.mem_map.1 hp
 exact .inl (h a ha z hz e)
section
variable {w w1:World} {F:List Nat} {A B B':Asr} {s m lim:Nat} {T T':Nt} {q:SpC} {ps:List Kq}
def NextR (s m lim:Nat) (T T':Nt) (q:SpC) (ps:List Kq) (B:Asr) (w:World) (F:List Nat) (x:Nat) (d:Sd) (v:Value) (w':World):Prop :=
 (∃ c op' ps',v=.tuple #[.int .i64 (c:Nat),.bool true,.nilIface]∧NxOk T.vars d c op'∧(∀ p ∈ ps,p ∈ ps')∧SdK ps' { d with opn:=op' }∧FsA s m lim T' q ps' (SdA x T s { d with opn:=op' } B) w F w') ∨
 (v=.tuple #[.int .i64 0,.bool false,.nilIface]∧NoneOk T.vars d∧FsX s m lim T' q ps (SdA x T s { d with opn:=[] } B) w F w') ∨
 (v=.tuple #[.int .i64 0,.bool false,berrV 10]∧Full T' lim∧∃ op',At w F (SdA x T s { d with opn:=op' } B) w')
def NxI (s m lim:Nat) (T T':Nt) (q:SpC) (ps:List Kq) (B:Asr) (w:World) (F:List Nat) (x:Nat) (d:Sd) (lv:Value) (L:List Nat) (k:Nat) (ρ:Env) (w':World):Prop :=
 ρ 0=.pointer (some ⟨x,0,none⟩)∧ρ 14=lv∧∃ opk ps',(∀ p,p ∈ opk↔p ∈ d.opn∧p.1 ∉ L.take k)∧(∀ p ∈ d.opn,p.1 ∈ L.take k→∀ z,StN T.vars z→p.2.2 z=true→d.cl z=true)∧(∀ p ∈ ps,p ∈ ps') ∧
  FsA s m lim T' q ps' (SdA x T s { d with opn:=opk } (Star (OwnA lv 3 1 nE L) B)) w F w'
set_option maxHeartbeats 2000000 in
theorem bnext_spec (x:Nat) (d:Sd) (hC:BC T T' lim) (hB:Lcl B) (h:FsA s m lim T' q ps (SdA x T s d B) w F w1) (hk:SdK ps d) (h0:(0,fun _=>false) ∈ ps) (hl:d.opn.length≤1000000) :
  Calls Tryz.prog 30 [.pointer (some ⟨x,0,none⟩)].toArray w1 fun en w'=>∃ v,en=.returned v∧NextR s m lim T T' q ps B w F x d v w':=by
 refine enter Tryz.func30 mixed low30 (Nat.le_of_ble_eq_true rfl) ?_
 simp only [L30]
 have hm:=h.frame SdA.map
 have ox:=h.frame SdA.obj
 unfold sdO at ox
 have hnd0:=MapM.nodup hm
 have hLS:Lcl (SdA x T s d B):=SdA.lcl hB
 simp [cell_blk ox]
 refine cl_of (bkeys_call d.om w1) ?_
 rintro _ _ ⟨rfl,rfl⟩
 simp
 refine cl_of (bsorted_call hm (fun p hp=>h.le (hk.opn p hp)) (by omega)) ?_
 rintro lv w2 ⟨L,hL,ho,hlow,k2⟩
 have h2:FsA s m lim T' q ps (Star (OwnA lv 3 1 nE L) (SdA x T s d B)) w F w2:=h.more hLS k2 ⟨lv.own,⟨ho,rfl⟩,hlow⟩
 have h3:=h2.by SdA.into
 have hLl:L.length≤1000000:=by
  have:=nodup_len L (d.opn.map (·.1)) (List.nodup_iff_pairwise_ne.2 (hL.1.imp fun h=>Nat.ne_of_lt h)) fun x hx=>(hL.2 x).1 hx
  simp at this
  omega
 have rL:∀ opk:List (Nat × Kq),Rds (SdA x T s { d with opn:=opk } (Star (OwnA lv 3 1 nE L) B)) fun w'=>Vw w' lv nE L:=fun opk=>SdA.rds Rds.own
 simp [(h3.frame (rL d.opn)).len]
 refine range_loop (n:=L.length) (by omega) (NxI s m lim T T' q ps B w F x d lv L) (by simp) (by simp)
  ⟨by simp,by simp,d.opn,ps,fun p=>by simp,fun p hp hx=>by simp at hx,fun _ h=>h,h3⟩ (by decide) (fun _ _ _ _ h=>by simpa [NxI] using h) (fun _ _ _ _ h=>by simpa [NxI] using h) ?_ ?_
 ·rintro k ρ w3 hk3 hc hlm ⟨g0,g14,opk,ps3,hopk,hcl,hps3,h4⟩
  obtain ⟨c,hLc⟩:∃ c,L[k]?=some c:=⟨_,List.getElem?_eq_getElem hk3⟩
  have hlv:=h4.frame (rL opk)
  have ec:=nE_cell hlv hLc
  have hki:(k:Int) < L.length:=by omega
  have hm4:=h4.frame SdA.map
  have hnd4:=MapM.nodup hm4
  have ox4:=h4.frame SdA.obj
  unfold sdO at ox4
  obtain ⟨pc,hpc,hpc1⟩:=List.mem_map.1 ((hL.2 c).1 (List.mem_of_getElem? hLc))
  obtain ⟨c',a,P⟩:=pc
  have hpc1:c'=c:=hpc1
  subst hpc1
  have hltL:∀ j y,j < k→L[j]?=some y→y < c':=fun j y hj hy=>by
   have h1:=List.pairwise_iff_getElem.1 hL.1 j k (List.getElem?_eq_some_iff.1 hy).1 hk3 hj
   rw [(List.getElem?_eq_some_iff.1 hy).2,(List.getElem?_eq_some_iff.1 hLc).2] at h1
   exact h1
  have hnt:c' ∉ L.take k:=fun hm=>by
   obtain ⟨j,hj⟩:=List.getElem?_of_mem hm
   have hjk:j < k:=by
    have:=(List.getElem?_eq_some_iff.1 hj).1
    simp at this; omega
   rw [List.getElem?_take_of_lt hjk] at hj
   have:=hltL j c' hjk hj
   omega
  have hin:(c',((a,P):Kq)) ∈ opk:=(hopk _).2 ⟨hpc,hnt⟩
  have hget:getM opk c'=some (a,P):=(getM_kv hnd4).2 hin
  have hca:i64ok c':=by
   obtain ⟨es,clock,_,_,_,hok,_⟩:=hm4
   exact hok _ hin
  have hBl:Lcl (Star (OwnA lv 3 1 nE L) B):=Lcl.own.star hB
  have hLk:Lcl (SdA x T s { d with opn:=opk } (Star (OwnA lv 3 1 nE L) B)):=SdA.lcl hBl
  have hopl:opk.length≤1000000:=by
   have:=nodup_len (opk.map (·.1)) (d.opn.map (·.1)) hnd4 fun y hy=>by
    obtain ⟨p,hp,rfl⟩:=List.mem_map.1 hy
    exact List.mem_map.2 ⟨p,((hopk p).1 hp).1,rfl⟩
   simp at this
   omega
  simp (disch:=omega) [g0,g14,hc,hlm,hlv.idx,ec,cell_blk ox4]
  refine MapM.look1 (x:=c') hm4 bkeyI Tryz.underlying76 zint hca ?_
  simp [hget,kpV,g0,g14,hc,hlm,cell_blk ox4]
  have h4d:=h4.drew hLk
  refine cl_of (f_minus a d.ci P d.cl hC.cap hLk h4d (hps3 _ (hk.opn _ hpc)) (hps3 _ hk.cl)) ?_
  rintro _ w4 (⟨r,rfl,h5⟩ | ⟨rfl,hf,h5⟩)
  rotate_left
  ·simp [berrV]
   exact .inr (.inr ⟨rfl,hf,opk,h5.by (SdA.fr Imp.dr)⟩)
  have ox5:=h5.frame SdA.obj
  unfold sdO at ox5
  simp [g0,g14,hc,hlm,cell_blk ox5]
  refine FsA.putM (d:={ d with opn:=opk }) (c:=c') (p:=(r,fun z=>P z && !d.cl z)) hBl h5 hca (by show opk.length≤_; omega) fun w5 h6=>?_
  have hpm:∀ p,p ∈ putM opk c' ((r,fun z=>P z && !d.cl z):Kq)↔p=(c',(r,fun z=>P z && !d.cl z))∨(p ∈ opk∧p.1≠c'):=fun p=>mem_putM
  have hsnd:∀ p ∈ opk,p.1=c'→p=(c',(a,P)):=fun p hp e=>by
   have h1:=(getM_kv hnd4).2 (show (p.1,p.2) ∈ opk from hp)
   rw [e,hget] at h1
   obtain ⟨p1,p2⟩:=p
   simp at h1 e
   rw [e,h1]
  have htk:∀ y,y ∈ L.take (k+1)↔y ∈ L.take k∨y=c':=fun y=>by
   rw [take_snoc hLc,List.mem_append,List.mem_singleton]
  by_cases hr:r=0
  ·have hr0:(((r:Nat):Int) != 0)=false:=by rw [hr]; rfl
   have hz:=(h6.zero (.head _)).1 hr
   have ox6:=h6.frame SdA.obj
   unfold sdO at ox6
   simp [hr0,g0,g14,hc,hlm,cell_blk ox6]
   refine del_mk ?_
   simp
   refine FsA.delM (d:={ d with opn:=putM opk c' ((r,fun z=>P z && !d.cl z):Kq) }) (c:=c') hBl h6 hca fun w6 h7=>?_
   simp [hr0,g0,g14,hc,hlm]
   refine ⟨by simp [g0],by simp [g14],_,_,fun p=>?_,fun p hp hx z hz1 hz2=>?_,fun p hp=>.tail _ (hps3 p hp),h7⟩
   ·rw [mem_delM,hpm p,htk p.1]
    constructor
    ·rintro ⟨h1 | ⟨h1,_⟩,h2⟩
     ·exact absurd (by rw [h1]) h2
     ·obtain ⟨h3,h4⟩:=(hopk p).1 h1
      exact ⟨h3,fun h=>h.elim h4 h2⟩
    ·rintro ⟨h1,h2⟩
     have h3:p.1≠c':=fun e=>h2 (.inr e)
     exact ⟨.inr ⟨(hopk p).2 ⟨h1,fun h=>h2 (.inl h)⟩,h3⟩,h3⟩
   ·rcases (htk p.1).1 hx with hx | hx
    ·exact hcl p hp hx z hz1 hz2
    ·have hp4:p ∈ opk:=(hopk p).2 ⟨hp,by rw [hx]; exact hnt⟩
     have:=hsnd p hp4 hx
     subst this
     have h8:=hz z (by rw [hC.alk.vars]; exact hz1)
     simp at h8
     exact h8 hz2
  ·have hr0:(((r:Nat):Int) != 0)=true:=by
    rw [bne,Bool.not_eq_true']
    exact beq_eq_false_iff_ne.2 (by omega)
   simp [hr0,g0,g14,hc,hlm]
   refine .inl ⟨c',_,_,rfl,⟨⟨r,_,(hpm _).2 (.inl rfl),hr,fun z e=>?_⟩,fun p hp hne=>?_,fun p hp=>?_,fun p hp z hz1 hz2=>?_,MapM.nodup (h6.frame SdA.map)⟩,fun p hp=>.tail _ (hps3 p hp),⟨.tail _ (hps3 _ hk.cl),fun y hy=>⟨.tail _ (hps3 _ (hk.all y hy).1),fun p hp=>.tail _ (hps3 _ ((hk.all y hy).2 p hp))⟩,fun p hp=>?_⟩,h6.by (SdA.fr Imp.dr)⟩
   ·simp at e
    exact e.2
   ·rcases (hpm p).1 hp with h1 | ⟨h1,_⟩
    ·exact absurd (by rw [h1]) hne
    ·obtain ⟨h2,h3⟩:=(hopk p).1 h1
     obtain ⟨j,hj⟩:=List.getElem?_of_mem ((hL.2 p.1).2 (List.mem_map.2 ⟨p,h2,rfl⟩))
     rcases Nat.lt_trichotomy j k with h4 | h4 | h4
     ·refine absurd ?_ h3
      have:(L.take k)[j]?=some p.1:=by rw [List.getElem?_take_of_lt h4]; exact hj
      exact List.mem_of_getElem? this
     ·rw [h4,hLc] at hj
      simp at hj
      exact absurd hj.symm hne
     ·have h5:=List.pairwise_iff_getElem.1 hL.1 k j hk3 (List.getElem?_eq_some_iff.1 hj).1 h4
      rw [(List.getElem?_eq_some_iff.1 hj).2,(List.getElem?_eq_some_iff.1 hLc).2] at h5
      exact h5
   ·rcases (hpm p).1 hp with rfl | ⟨h1,_⟩
    ·refine ⟨(a,P),hpc,fun z _ e=>?_⟩
     simp at e
     exact e.1
    ·exact ⟨p.2,((hopk p).1 h1).1,fun z _ e=>e⟩
   ·by_cases hx:p.1 ∈ L.take k
    ·exact .inl (hcl p hp hx z hz1 hz2)
    ·have hp4:p ∈ opk:=(hopk p).2 ⟨hp,hx⟩
     by_cases e:p.1=c'
     ·have:=hsnd p hp4 e
      subst this
      cases ecl:d.cl z with
      | true=>exact .inl rfl
      | false=>exact .inr ⟨_,(hpm _).2 (.inl rfl),by simp [ecl]; exact hz2⟩
     ·exact .inr ⟨p.2,(hpm _).2 (.inr ⟨hp4,e⟩),hz2⟩
   ·rcases (hpm p).1 hp with rfl | ⟨h1,_⟩
    ·exact .head _
    ·exact .tail _ (hps3 _ (hk.opn p ((hopk p).1 h1).1))
 ·rintro ρ w3 ⟨g0,g14,opk,ps3,hopk,hcl,hps3,h4⟩
  rw [List.take_length] at hopk hcl
  have e0:opk=[]:=by
   refine List.eq_nil_iff_forall_not_mem.2 fun p hp=>?_
   obtain ⟨h1,h2⟩:=(hopk p).1 hp
   exact h2 ((hL.2 _).2 (List.mem_map.2 ⟨p,h1,rfl⟩))
  subst e0
  simp
  exact .inr (.inl ⟨rfl,fun p hp=>hcl p hp ((hL.2 _).2 (List.mem_map.2 ⟨p,hp,rfl⟩)),ps3,hps3,h4.by (SdA.fr Imp.dr)⟩)
end
end Go.Proofs.YtkhfdmelcpfgoaaGreat
end
section
set_option maxRecDepth 100000
set_option linter.unusedSimpArgs false
set_option linter.unusedVariables false
namespace Go.Proofs.YtkhfdmelcpfgoaaGreat
open Go Go.W Go.Tk Go.Rx Go.Bd Go.Sy Go.Maps
def zrP (T:Nt) (d:Sd) (P A:List Nat→Bool) (k:Nat) (z:List Nat):Bool:=(List.range k).any fun op=>match T.ops[op]? with | some o=>decide (o.cost=0) && ((stpP T o d.bw P z && !A z) && !d.cl z) | none=>false
theorem zrP_succ {T:Nt} {d:Sd} {P A:List Nat→Bool} {k:Nat} {o:No} (ho:T.ops[k]?=some o):zrP T d P A (k+1)=fun z=>zrP T d P A k z || (decide (o.cost=0) && ((stpP T o d.bw P z && !A z) && !d.cl z)):=funext fun z=>by
 unfold zrP
 rw [List.range_succ,List.any_append]
 simp [ho]
theorem zrP_iff {T:Nt} {d:Sd} {P A:List Nat→Bool} {z:List Nat} (hg:NtG T) (hz:StN T.vars z):zrP T d P A T.ops.length z=true↔(∃ op x,kB T op=0∧P x=true∧EB T d.bw op x z)∧A z=false∧d.cl z=false:=by
 unfold zrP
 rw [List.any_eq_true]
 constructor
 ·rintro ⟨op,hop,h⟩
  cases ho:T.ops[op]? with
  | none=>rw [ho] at h; simp at h
  | some o =>
   rw [ho] at h
   simp only [Bool.and_eq_true,decide_eq_true_eq,Bool.not_eq_true'] at h
   obtain ⟨x,h1,h2⟩:=(stpP_iff hg ho hz).1 h.2.1.1
   exact ⟨⟨op,x,by rw [kB_at ho]; exact h.1,h1,h2⟩,h.2.1.2,h.2.2⟩
 ·rintro ⟨⟨op,x,hk,h1,h2⟩,h3,h4⟩
  obtain ⟨o,ho,hok⟩:=kB_eb h2
  refine ⟨op,List.mem_range.2 (List.getElem?_eq_some_iff.1 ho).1,?_⟩
  rw [ho]
  simp only [Bool.and_eq_true,decide_eq_true_eq,Bool.not_eq_true']
  exact ⟨by omega,⟨(stpP_iff hg ho hz).2 ⟨x,h1,h2⟩,h3⟩,h4⟩
section
variable {w w1:World} {F:List Nat} {A B B':Asr} {s m lim:Nat} {T T':Nt} {q:SpC} {ps:List Kq}
def OpX (s m lim:Nat) (T':Nt) (q:SpC) (ps:List Kq) (B:Asr) (w:World) (F:List Nat) (P:List Nat→Bool) (v:Value) (w':World):Prop :=
 (∃ x:Nat,v=.tuple #[.int .i64 (x:Nat),.nilIface]∧∃ ps',(∀ p ∈ ps,p ∈ ps')∧(x,P) ∈ ps'∧FsA s m lim T' q ps' B w F w')∨(v=.tuple #[.int .i64 0,berrV 10]∧Full T' lim∧At w F B w')
def ZrI (s m lim:Nat) (T T':Nt) (q:SpC) (ps:List Kq) (B:Asr) (w:World) (F:List Nat) (x a b:Nat) (d:Sd) (P Q:List Nat→Bool) (k:Nat) (ρ:Env) (w':World):Prop :=
 ρ 0=.pointer (some ⟨x,0,none⟩)∧ρ 1=.int .i64 (a:Nat)∧ρ 2=.int .i64 (b:Nat)∧ρ 17=T.ov.1∧∃ y ps',ρ 8=.int .i64 (y:Nat)∧(∀ p ∈ ps,p ∈ ps')∧(y,zrP T d P Q k) ∈ ps'∧FsA s m lim T' q ps' B w F w'
set_option maxHeartbeats 2000000 in
theorem bzero_spec (x a b:Nat) (d:Sd) (P Q:List Nat→Bool) (hC:BC T T' lim) (hB:Lcl B) (h:FsA s m lim T' q ps B w F w1) (hx:Rds B fun w'=>SdR w' x T s d) (hT:Rds B fun w'=>NtR w' T) (hk:SdK ps d) (h0:(0,fun _=>false) ∈ ps) (ha:(a,P) ∈ ps) (hb:(b,Q) ∈ ps) :
  Calls Tryz.prog 56 [.pointer (some ⟨x,0,none⟩),.int .i64 (a:Nat),.int .i64 (b:Nat)].toArray w1 fun en w'=>∃ v,en=.returned v∧OpX s m lim T' q ps B w F (zrP T d P Q T.ops.length) v w':=by
 refine enter Tryz.func56 mixed low56 (Nat.le_of_ble_eq_true rfl) ?_
 simp only [L56]
 have ox:=(h.frame hx).obj
 unfold sdO at ox
 have hol:=hC.g.olen
 simp [cell_blk ox,(h.frame hT).ops.len]
 have hz0:zrP T d P Q 0=fun _=>false:=funext fun z=>by simp [zrP]
 refine range_loop (n:=T.ops.length) (by omega) (ZrI s m lim T T' q ps B w F x a b d P Q) (by simp) (by simp)
  ⟨by simp,by simp,by simp,by simp,0,ps,by simp,fun _ h=>h,by rw [hz0]; exact h0,h⟩ (by decide) (fun _ _ _ _ h=>by simpa [ZrI] using h) (fun _ _ _ _ h=>by simpa [ZrI] using h) ?_ ?_
 ·rintro k ρ w3 hk3 hc hlm ⟨g0,g1,g2,g17,y,ps3,g8,hps3,hy3,h3⟩
  obtain ⟨o,ho⟩:∃ o,T.ops[k]?=some o:=⟨_,List.getElem?_eq_getElem hk3⟩
  have hT3:=h3.frame hT
  have ec:=hT3.ops.cells noE_len ho
  simp only [noE] at ec
  have hki:(k:Int) < T.ops.length:=by omega
  obtain ⟨ob,hob⟩:∃ ob,ob=w3.heap.size:=⟨_,rfl⟩
  have h4:=h3.alloc opZ hB
  rw [← hob] at h4
  simp (disch:=omega) [g0,g1,g2,g17,g8,hc,hlm,hT3.ops.idx,ec]
  rw [← hob]
  refine h4.st hB (by simp) (by simp [o.pv.2,o.ev.2]) fun w4 h5=>?_
  replace h5:FsA s m lim T' q ps3 (Star (ObjA ob (opO o)) B) w F w4:=by simpa [opZ,opO] using h5
  have hB5:Lcl (Star (ObjA ob (opO o)) B):=Lcl.obj.star hB
  have oo:=h5.obj
  unfold opO at oo
  have hx5:Rds (Star (ObjA ob (opO o)) B) fun w'=>SdR w' x T s d:=Rds.star hx
  by_cases hoc:o.cost=0
  ·have hb0:(((o.cost:Nat):Int) != 0)=false:=by rw [hoc]; rfl
   simp [g0,g1,g2,g17,g8,hc,hlm,cell_blk oo,hb0]
   refine cl_of (bstep_spec x a k d o P hC hB5 h5 hx5 (hps3 _ ha) ho) ?_
   rintro _ w5 (⟨r1,rfl,h6⟩ | ⟨rfl,hf,h6⟩)
   rotate_left
   ·simp [berrV]
    exact .inr ⟨rfl,hf,h6.drop⟩
   have ox6:=(h6.frame hx5).obj
   unfold sdO at ox6
   simp [g0,g1,g2,g17,g8,hc,hlm,cell_blk ox6]
   refine cl_of (f_minus r1 b _ Q hC.cap hB5 h6 (.head _) (.tail _ (hps3 _ hb))) ?_
   rintro _ w6 (⟨r2,rfl,h7⟩ | ⟨rfl,hf,h7⟩)
   rotate_left
   ·simp [berrV]
    exact .inr ⟨rfl,hf,h7.drop⟩
   have ox7:=(h7.frame hx5).obj
   unfold sdO at ox7
   have h7d:=h7.drew hB5
   simp [g0,g1,g2,g17,g8,hc,hlm,cell_blk ox7]
   refine cl_of (f_minus r2 d.ci _ d.cl hC.cap hB5 h7d (.head _) (.tail _ (.tail _ (hps3 _ hk.cl)))) ?_
   rintro _ w7 (⟨r3,rfl,h8⟩ | ⟨rfl,hf,h8⟩)
   rotate_left
   ·simp [berrV]
    exact .inr ⟨rfl,hf,h8.drop⟩
   have ox8:=(h8.frame hx5).obj
   unfold sdO at ox8
   simp [g0,g1,g2,g17,g8,hc,hlm,cell_blk ox8]
   refine cl_of (f_union y r3 _ _ hC.cap hB5 h8 (.tail _ (.tail _ (.tail _ hy3))) (.head _)) ?_
   rintro _ w8 (⟨r4,rfl,h9⟩ | ⟨rfl,hf,h9⟩)
   rotate_left
   ·simp [berrV]
    exact .inr ⟨rfl,hf,h9.drop⟩
   simp [g0,g1,g2,g17,g8,hc,hlm]
   refine ⟨by simp [g0],by simp [g1],by simp [g2],by simp [g17],r4,_,by simp,fun p hp=>.tail _ (.tail _ (.tail _ (.tail _ (hps3 p hp)))),?_,h9.less⟩
   rw [zrP_succ ho]
   simp only [hoc,decide_true,Bool.true_and]
   exact .head _
  ·have hb0:(((o.cost:Nat):Int) != 0)=true:=by
    rw [bne,Bool.not_eq_true']
    exact beq_eq_false_iff_ne.2 (by omega)
   simp [g0,g1,g2,g17,g8,hc,hlm,cell_blk oo,hb0]
   refine ⟨by simp [g0],by simp [g1],by simp [g2],by simp [g17],y,ps3,by simp [g8],hps3,?_,h5.less⟩
   rw [zrP_succ ho]
   simp only [hoc,decide_false,Bool.false_and,Bool.or_false]
   exact hy3
 ·rintro ρ w3 ⟨g0,g1,g2,g17,y,ps3,g8,hps3,hy3,h3⟩
  simp [g8]
  exact .inl ⟨y,rfl,ps3,hps3,hy3,h3⟩
end
end Go.Proofs.YtkhfdmelcpfgoaaGreat
end
section
set_option maxRecDepth 100000
set_option linter.unusedSimpArgs false
set_option linter.unusedVariables false
namespace Go.Proofs.YtkhfdmelcpfgoaaGreat
open Go Go.W Go.Tk Go.Rx Go.Bd Go.Sy Go.Maps
structure PtsOk (T:Nt) (d:Sd) (A:List Nat→Bool) (pl:List Kq) (Pp Al:List Nat→Bool):Prop where
 al:∀ z,StN T.vars z→(Al z=true↔(∃ p ∈ pl,p.2 z=true)∨Pp z=true)
 hd:(pl.map (·.2) ++ [Pp])[0]?=some A
 ch:∀ i (p p':List Nat→Bool),(pl.map (·.2) ++ [Pp])[i]?=some p→(pl.map (·.2) ++ [Pp])[i+1]?=some p'→∀ z,StN T.vars z→p' z=true→∃ op,kB T op=0∧∃ x,p x=true∧EB T d.bw op x z
 cz:∀ p ∈ pl,∀ x op z,p.2 x=true→StN T.vars z→kB T op=0→EB T d.bw op x z→Al z=true∨d.cl z=true
 dc:∀ z,StN T.vars z→Al z=true→d.cl z=false
 dj:∀ z,StN T.vars z→Pp z=true→∀ p ∈ pl,p.2 z=false
theorem PtsOk.begin {T:Nt} {d:Sd} {A:List Nat→Bool} (h:∀ z,A z=true→d.cl z=false):PtsOk T d A [] A A :=
 ⟨fun z _=>by simp,rfl,fun i p p' h1 h2=>by simp at h2,fun p hp=>(by cases hp),fun z _ e=>h z e,fun z _ _ p hp=>by cases hp⟩
theorem PtsOk.step {T:Nt} {d:Sd} {A:List Nat→Bool} {pl:List Kq} {Pp Al:List Nat→Bool} {pi:Nat} (hg:NtG T) (h:PtsOk T d A pl Pp Al):PtsOk T d A (pl ++ [(pi,Pp)]) (zrP T d Pp Al T.ops.length) (fun z=>Al z || zrP T d Pp Al T.ops.length z):={
 al:=fun z hz=>by
  rw [Bool.or_eq_true,h.al z hz]
  constructor
  ·rintro ((⟨p,hp,e⟩ | e) | e)
   ·exact .inl ⟨p,List.mem_append.2 (.inl hp),e⟩
   ·exact .inl ⟨(pi,Pp),List.mem_append.2 (.inr (List.mem_singleton.2 rfl)),e⟩
   ·exact .inr e
  ·rintro (⟨p,hp,e⟩ | e)
   ·rcases List.mem_append.1 hp with hp | hp
    ·exact .inl (.inl ⟨p,hp,e⟩)
    ·rcases List.mem_singleton.1 hp with rfl
     exact .inl (.inr e)
   ·exact .inr e
 hd:=by
  have h1:=h.hd
  rw [List.map_append,List.map_cons,List.map_nil]
  rw [List.getElem?_append_left (by simp)]
  exact h1
 ch:=fun i p p' h1 h2 z hz e=>by
  rw [List.map_append,List.map_cons,List.map_nil] at h1 h2
  have hlen:(pl.map (·.2) ++ [Pp]).length=pl.length+1:=by simp
  rcases Nat.lt_trichotomy (i+1) (pl.length+1) with hi | hi | hi
  ·rw [List.getElem?_append_left (by rw [hlen]; omega)] at h1
   rw [List.getElem?_append_left (by rw [hlen]; exact hi)] at h2
   exact h.ch i p p' h1 h2 z hz e
  ·have hil:i=pl.length:=by omega
   rw [List.getElem?_append_left (by rw [hlen]; omega),hil,List.getElem?_append_right (by simp)] at h1
   rw [List.getElem?_append_right (by rw [hlen]; omega),hlen,hi] at h2
   simp at h1 h2
   subst h1 h2
   obtain ⟨⟨op,x,h3,h4,h5⟩,_⟩:=(zrP_iff hg hz).1 e
   exact ⟨op,h3,x,h4,h5⟩
  ·have:=(List.getElem?_eq_some_iff.1 h2).1
   simp at this
   omega
 cz:=fun p hp x op z hx hz hk he=>by
  rw [Bool.or_eq_true]
  rcases List.mem_append.1 hp with hp | hp
  ·rcases h.cz p hp x op z hx hz hk he with e | e
   ·exact .inl (.inl e)
   ·exact .inr e
  ·rcases List.mem_singleton.1 hp with rfl
   cases ea:Al z with
   | true=>exact .inl (.inl rfl)
   | false =>
    cases ec:d.cl z with
    | true=>exact .inr rfl
    | false=>exact .inl (.inr ((zrP_iff hg hz).2 ⟨⟨op,x,hk,hx,he⟩,ea,ec⟩))
 dc:=fun z hz e=>by
  rw [Bool.or_eq_true] at e
  rcases e with e | e
  ·exact h.dc z hz e
  ·exact ((zrP_iff hg hz).1 e).2.2
 dj:=fun z hz e p hp=>by
  have ha:=((zrP_iff hg hz).1 e).2.1
  cases e2:p.2 z with
  | false=>rfl
  | true =>
   have:Al z=true:=by
    rw [h.al z hz]
    rcases List.mem_append.1 hp with hp | hp
    ·exact .inl ⟨p,hp,e2⟩
    ·rcases List.mem_singleton.1 hp with rfl
     exact .inr e2
   rw [ha] at this
   cases this }
theorem countP_lt {α:Type} {p q:α→Bool}:∀ {l:List α},(∀ z ∈ l,q z=true→p z=true)→(∃ z ∈ l,p z=true∧q z=false)→l.countP q < l.countP p
 | [],_,h=>by obtain ⟨z,hz,_⟩:=h; cases hz
 | a :: l,h,⟨z,hz,h1,h2⟩=>by
  have hle:l.countP q≤l.countP p:=List.countP_mono_left fun y hy e=>h y (List.mem_cons_of_mem _ hy) e
  rw [List.countP_cons,List.countP_cons]
  rcases List.mem_cons.1 hz with rfl | hz
  ·rw [h1,h2]
   simp
   omega
  ·have ih:=countP_lt (fun y hy e=>h y (List.mem_cons_of_mem _ hy) e) ⟨z,hz,h1,h2⟩
   have:=h a (List.mem_cons_self ..)
   cases eq:q a with
   | false=>simp; omega
   | true=>rw [this eq]; simp; omega
def cntC (T:Nt) (cl:List Nat→Bool):Nat:=(stsK T.vars T.vars.length).countP fun z=>!cl z
def cntR (T:Nt) (cl:List Nat→Bool) (pl:List Kq):Nat:=(stsK T.vars T.vars.length).countP fun z=>!cl z && !(pl.any fun p=>p.2 z)
theorem cntR_nil {T:Nt} {cl:List Nat→Bool}:cntR T cl []=cntC T cl:=by
 unfold cntR cntC
 simp
theorem cntR_step {T:Nt} {d:Sd} {A:List Nat→Bool} {pl:List Kq} {Pp Al:List Nat→Bool} {pi:Nat} (h:PtsOk T d A pl Pp Al) (hn:∃ z,StN T.vars z∧Pp z=true):cntR T d.cl (pl ++ [(pi,Pp)]) < cntR T d.cl pl:=by
 obtain ⟨z,hz,hp⟩:=hn
 refine countP_lt (fun y _ e=>?_) ⟨z,sts_mem.2 hz,?_,?_⟩
 ·simp only [List.any_append,Bool.and_eq_true,Bool.not_eq_true',Bool.or_eq_false_iff] at e ⊢
  exact ⟨e.1,e.2.1⟩
 ·have h1:=h.dc z hz ((h.al z hz).2 (.inr hp))
  have h2:(pl.any fun p=>p.2 z)=false:=by
   rw [List.any_eq_false]
   intro p hp'
   rw [h.dj z hz hp p hp']
   exact Bool.false_ne_true
  simp [h1,h2]
 ·simp [hp]
theorem cntR_last {T:Nt} {d:Sd} {A:List Nat→Bool} {pl:List Kq} {Pp Al:List Nat→Bool} {cl':List Nat→Bool} (h:PtsOk T d A pl Pp Al) (hn:∀ z,StN T.vars z→Pp z=false) (hc:∀ z,cl' z=(d.cl z || Al z)):cntC T cl'=cntR T d.cl pl:=by
 unfold cntC cntR
 refine List.countP_congr fun z hz=>?_
 have hs:=sts_st hz
 have ha:=h.al z hs
 rw [hn z hs] at ha
 rw [hc z,Bool.not_or]
 have:Al z=pl.any fun p=>p.2 z:=by
  rw [Bool.eq_iff_iff,ha,List.any_eq_true]
  simp
 rw [this]
def nSt (T:Nt):Nat:=(stsK T.vars T.vars.length).length
structure SdBd (T:Nt) (d:Sd):Prop where
 ol:T.ops.length≤20
 nN:nSt T≤512
 sum:(d.wl.map fun y=>y.pl.length).sum+cntC T d.cl≤nSt T
 wl:d.wl.length+cntC T d.cl≤nSt T
 oc:∀ p ∈ d.opn,p.1≤d.wl.length * 1048576
 wc:∀ y ∈ d.wl,y.cost≤d.wl.length * 1048576
 on:d.opn.length≤1+d.wl.length * 20
theorem SdBd.l {T:Nt} {d:Sd} (h:SdBd T d):SdL d:=⟨by have:=h.wl; have:=h.nN; omega,fun y hy=>by have:=sum_le hy; have:=h.sum; have:=h.nN; omega,by have:=h.sum; have:=h.nN; omega⟩
theorem SdBd.next {T:Nt} {d:Sd} {op':List (Nat × Kq)} (h:SdBd T d) (hs:∀ p ∈ op',∃ S,(p.1,S) ∈ d.opn) (hn:(op'.map (·.1)).Nodup):SdBd T { d with opn:=op' } :=
 ⟨h.ol,h.nN,h.sum,h.wl,fun p hp=>by obtain ⟨S,hS⟩:=hs p hp; exact h.oc (p.1,S) hS,h.wc,by
  have:=nodup_len (op'.map (·.1)) (d.opn.map (·.1)) hn fun x hx=>by
   obtain ⟨p,hp,rfl⟩:=List.mem_map.1 hx
   obtain ⟨S,hS⟩:=hs p hp
   exact List.mem_map.2 ⟨_,hS,rfl⟩
  simp at this
  exact Nat.le_trans this h.on⟩
structure OpnI (T:Nt) (bw:Bool) (c:Nat) (Al cl':List Nat→Bool) (op0:List (Nat × Kq)) (k:Nat) (opk:List (Nat × Kq)):Prop where
 old:∀ p ∈ op0,∃ S:Kq,(p.1,S) ∈ opk∧∀ z,StN T.vars z→p.2.2 z=true→S.2 z=true
 new:∀ p ∈ opk,c < p.1∧∀ z,StN T.vars z→p.2.2 z=true→(∃ S:Kq,(p.1,S) ∈ op0∧S.2 z=true)∨∃ op,0 < kB T op∧c+kB T op=p.1∧∃ x,Al x=true∧EB T bw op x z
 out:∀ op x z,op < k→Al x=true→StN T.vars z→0 < kB T op→EB T bw op x z→cl' z=true∨∃ p ∈ opk,p.2.2 z=true∧p.1=c+kB T op
 len:opk.length≤op0.length+k
 key:∀ p ∈ opk,(∃ S,(p.1,S) ∈ op0)∨p.1≤c+1048576
theorem OpnI.begin {T:Nt} {bw:Bool} {c:Nat} {Al cl':List Nat→Bool} {op0:List (Nat × Kq)} (h:∀ p ∈ op0,c < p.1):OpnI T bw c Al cl' op0 0 op0 :=
 ⟨fun p hp=>⟨p.2,hp,fun _ _ e=>e⟩,fun p hp=>⟨h p hp,fun z _ e=>.inl ⟨p.2,hp,e⟩⟩,fun op x z hop=>by omega,by omega,fun p hp=>.inl ⟨p.2,hp⟩⟩
theorem OpnI.put {T:Nt} {bw:Bool} {c k r:Nat} {Al cl' R:List Nat→Bool} {op0 opk:List (Nat × Kq)} {o:No} (hg:NtG T) (h:OpnI T bw c Al cl' op0 k opk) (hn:(opk.map (·.1)).Nodup) (ho:T.ops[k]?=some o) (hc:o.cost≠0)
  (hR:∀ z,StN T.vars z→(R z=true↔((∃ x,Al x=true∧EB T bw k x z)∧cl' z=false)∨∃ S:Kq,(c+o.cost,S) ∈ opk∧S.2 z=true)):OpnI T bw c Al cl' op0 (k+1) (putM opk (c+o.cost) ((r,R):Kq)):=by
 have hkb:=kB_at ho
 have hsame:∀ S S':Kq,(c+o.cost,S) ∈ opk→(c+o.cost,S') ∈ opk→S=S':=fun S S' h1 h2=>by
  have e1:=(getM_kv hn).2 h1
  have e2:=(getM_kv hn).2 h2
  rw [e1] at e2
  exact Option.some.inj e2
 exact {
  old:=fun p hp=>by
   obtain ⟨S,hS,hi⟩:=h.old p hp
   by_cases e:p.1=c+o.cost
   ·refine ⟨(r,R),mem_putM.2 (.inl (by rw [e])),fun z hz hz2=>(hR z hz).2 (.inr ⟨S,by rw [← e]; exact hS,hi z hz hz2⟩)⟩
   ·exact ⟨S,mem_putM.2 (.inr ⟨hS,e⟩),hi⟩
  new:=fun p hp=>by
   rcases mem_putM.1 hp with rfl | ⟨hp,_⟩
   ·refine ⟨by show c < c+o.cost; omega,fun z hz e=>?_⟩
    rcases (hR z hz).1 e with ⟨⟨x,hx,he⟩,_⟩ | ⟨S,hS,e2⟩
    ·exact .inr ⟨k,by omega,by show c+kB T k=c+o.cost; omega,x,hx,he⟩
    ·exact (h.new _ hS).2 z hz e2
   ·exact h.new p hp
  out:=fun op x z hop hx hz hk he=>by
   rcases Nat.lt_succ_iff_lt_or_eq.1 hop with hop | rfl
   ·rcases h.out op x z hop hx hz hk he with e | ⟨p,hp,e1,e2⟩
    ·exact .inl e
    ·by_cases ek:p.1=c+o.cost
     ·refine .inr ⟨_,mem_putM.2 (.inl rfl),(hR z hz).2 (.inr ⟨p.2,by rw [← ek]; exact hp,e1⟩),by rw [← e2,ek]⟩
     ·exact .inr ⟨p,mem_putM.2 (.inr ⟨hp,ek⟩),e1,e2⟩
   ·cases ecl:cl' z with
    | true=>exact .inl rfl
    | false=>exact .inr ⟨_,mem_putM.2 (.inl rfl),(hR z hz).2 (.inl ⟨⟨x,hx,he⟩,ecl⟩),by rw [hkb]⟩
  len:=by have:=h.len; have h2:(putM opk (c+o.cost) ((r,R):Kq)).length≤opk.length+1:=putM_len_le; omega
  key:=fun p hp=>by
   rcases mem_putM.1 hp with rfl | ⟨hp,_⟩
   ·have:=(hg.ops o (List.mem_of_getElem? ho)).cost
    exact .inr (by show c+o.cost≤_; omega)
   ·exact h.key p hp }
theorem OpnI.skip {T:Nt} {bw:Bool} {c k:Nat} {Al cl':List Nat→Bool} {op0 opk:List (Nat × Kq)} {o:No} (h:OpnI T bw c Al cl' op0 k opk) (ho:T.ops[k]?=some o) (hc:o.cost≠0→∀ z,StN T.vars z→(∃ x,Al x=true∧EB T bw k x z)→cl' z=true):OpnI T bw c Al cl' op0 (k+1) opk:={
 old:=h.old
 new:=h.new
 out:=fun op x z hop hx hz hk he=>by
  rcases Nat.lt_succ_iff_lt_or_eq.1 hop with hop | rfl
  ·exact h.out op x z hop hx hz hk he
  ·rw [kB_at ho] at hk
   exact .inl (hc (by omega) z hz ⟨x,hx,he⟩)
 len:=by have:=h.len; omega
 key:=h.key }
theorem comp_ok {T:Nt} {S0:List Nat→Prop} {d:Sd} {c a0 r:Nat} {P0 Pp Al cl':List Nat→Bool} {pl:List Kq} {opk:List (Nat × Kq)} {y:Wm} {wv':Value} (hg:NtG T) (hd:SdG T S0 d) (hb:SdBd T d) (hin:(c,((a0,P0):Kq)) ∈ d.opn) (hmin:∀ p ∈ d.opn,p.1≠c→c < p.1)
  (hP:PtsOk T { d with opn:=delM d.opn c } P0 pl Pp Al) (hPno:∀ z,StN T.vars z→Pp z=false) (hplne:pl≠[]) (hO:OpnI T d.bw c Al cl' (delM d.opn c) T.ops.length opk) (hcl':cl'=fun z=>d.cl z || Al z) (hnd:(opk.map (·.1)).Nodup)
  (hyc:y.cost=c) (hyp:y.pl=pl) (hya:y.all=Al) (hn:pl.length+cntR T d.cl pl≤cntC T d.cl) :
  SdG T S0 ⟨d.bw,wv',d.wl ++ [y],r,cl',d.om,opk⟩∧SdBd T ⟨d.bw,wv',d.wl ++ [y],r,cl',d.om,opk⟩∧cntC T cl' < cntC T d.cl:=by
 have hl0:0 < pl.length:=by
  cases pl with
  | nil=>exact absurd rfl hplne
  | cons _ _=>simp
 have hcnt:cntC T cl'=cntR T d.cl pl:=cntR_last (d:={ d with opn:=delM d.opn c }) hP hPno fun z=>by rw [hcl']
 have hal:∀ z,StN T.vars z→(Al z=true↔∃ p ∈ pl,p.2 z=true):=fun z hz=>by
  rw [hP.al z hz,hPno z hz]
  simp
 have hlm:(pl.map (·.2)).length=pl.length:=List.length_map _
 refine ⟨?_,⟨hb.ol,hb.nN,?_,?_,fun p hp=>?_,fun u hu=>?_,?_⟩,by omega⟩
 ·have e:(d.wl ++ [y]).map wmW=d.wl.map wmW ++ [wmW y]:=by simp
  show Go.Bi.SdOk (StN T.vars) (EB T d.bw) (kB T) S0 ((d.wl ++ [y]).map wmW) cl' (opk.map fun p=>(p.1,p.2.2))
  rw [e]
  have hdm:∀ p:Nat × Kq,p ∈ d.opn→p.1≠c→p ∈ delM d.opn c:=fun p hp h=>mem_delM.2 ⟨hp,h⟩
  refine Go.Bi.SdOk.wave (c:=c) (A:=P0) hd (List.mem_map.2 ⟨_,hin,rfl⟩) hyc (fun z hz e1 e2=>?_) (fun p hp h=>?_) ?_ (fun z hz=>?_) (fun i p p' h1 h2 z hz e=>?_) (fun x op z hx hz hk he=>?_) (fun z hz=>?_) (fun p hp h=>?_) (fun p hp=>?_) (fun x op z hx hz hk he=>?_) ?_
  ·have e1:Al z=true:=by rw [← hya]; exact e1
   have:=hP.dc z hz e1
   have this:d.cl z=false:=this
   rw [this] at e2
   cases e2
  ·obtain ⟨a,ha,rfl⟩:=List.mem_map.1 hp
   exact hmin a ha h
  ·show (y.pl.map (·.2))[0]?=_
   rw [hyp]
   have h1:=hP.hd
   rwa [List.getElem?_append_left (by omega)] at h1
  ·show y.all z=true↔∃ p,p ∈ y.pl.map (·.2)∧p z=true
   rw [hya,hyp,hal z hz]
   constructor
   ·rintro ⟨p,hp,e⟩
    exact ⟨p.2,List.mem_map.2 ⟨p,hp,rfl⟩,e⟩
   ·rintro ⟨_,hp,e⟩
    obtain ⟨p1,hp1,rfl⟩:=List.mem_map.1 hp
    exact ⟨p1,hp1,e⟩
  ·have h1:(y.pl.map (·.2))[i]?=some p:=h1
   have h2:(y.pl.map (·.2))[i+1]?=some p':=h2
   rw [hyp] at h1 h2
   have l1:=(List.getElem?_eq_some_iff.1 h1).1
   have l2:=(List.getElem?_eq_some_iff.1 h2).1
   exact hP.ch i p p' (by rw [List.getElem?_append_left l1]; exact h1) (by rw [List.getElem?_append_left l2]; exact h2) z hz e
  ·have hx:Al x=true:=by rw [← hya]; exact hx
   obtain ⟨p,hp,e⟩:=(hal x he.1).1 hx
   rcases hP.cz p hp x op z e hz hk he with e1 | e1
   ·exact .inl (by show y.all z=true; rw [hya]; exact e1)
   ·exact .inr e1
  ·rw [hcl']
   show (d.cl z || Al z)=true↔_∨y.all z=true
   rw [Bool.or_eq_true,hya]
  ·obtain ⟨a,ha,rfl⟩:=List.mem_map.1 hp
   obtain ⟨S,hS,hi⟩:=hO.old a (hdm a ha h)
   exact ⟨S.2,List.mem_map.2 ⟨_,hS,rfl⟩,hi⟩
  ·obtain ⟨a,ha,rfl⟩:=List.mem_map.1 hp
   obtain ⟨h1,h2⟩:=hO.new a ha
   refine ⟨h1,fun z hz e=>?_⟩
   rcases h2 z hz e with ⟨S,hS,e1⟩ | ⟨op,h3,h4,x,h5,h6⟩
   ·exact .inl ⟨S.2,List.mem_map.2 ⟨_,(mem_delM.1 hS).1,rfl⟩,e1⟩
   ·exact .inr ⟨op,h3,h4,x,by show y.all x=true; rw [hya]; exact h5,h6⟩
  ·have hx:Al x=true:=by rw [← hya]; exact hx
   obtain ⟨o,ho,_⟩:=kB_eb he
   rcases hO.out op x z (List.getElem?_eq_some_iff.1 ho).1 hx hz hk he with e1 | ⟨p,hp,e1,e2⟩
   ·exact .inl e1
   ·exact .inr ⟨_,List.mem_map.2 ⟨p,hp,rfl⟩,e1,e2⟩
  ·rw [List.map_map]
   exact hnd
 ·show ((d.wl ++ [y]).map fun y=>y.pl.length).sum+cntC T cl'≤_
  rw [List.map_append,List.sum_append]
  have:=hb.sum
  simp [hyp]
  omega
 ·show (d.wl ++ [y]).length+cntC T cl'≤_
  have:=hb.wl
  simp
  omega
 ·show p.1≤(d.wl ++ [y]).length * 1048576
  have hc:c≤d.wl.length * 1048576:=hb.oc _ hin
  have hp:p ∈ opk:=hp
  rw [List.length_append,List.length_singleton,Nat.add_mul,Nat.one_mul]
  revert hc
  generalize hN:d.wl.length * 1048576=N
  intro hc
  rcases hO.key p hp with ⟨S,hS⟩ | h1
  ·have:p.1≤d.wl.length * 1048576:=hb.oc (p.1,S) (mem_delM.1 hS).1
   rw [hN] at this
   omega
  ·omega
 ·show u.cost≤(d.wl ++ [y]).length * 1048576
  have hc:c≤d.wl.length * 1048576:=hb.oc _ hin
  rw [List.length_append,List.length_singleton,Nat.add_mul,Nat.one_mul]
  revert hc
  generalize hN:d.wl.length * 1048576=N
  intro hc
  rcases List.mem_append.1 hu with hu | hu
  ·have:=hb.wc u hu
   rw [hN] at this
   omega
  ·rcases List.mem_singleton.1 hu with rfl
   omega
 ·show opk.length≤1+(d.wl ++ [y]).length * 20
  have h1:=hO.len
  have h2:(delM d.opn c).length≤d.opn.length:=List.length_filter_le _ _
  have h3:=hb.on
  have h4:=hb.ol
  rw [List.length_append,List.length_singleton]
  omega
end Go.Proofs.YtkhfdmelcpfgoaaGreat
end
