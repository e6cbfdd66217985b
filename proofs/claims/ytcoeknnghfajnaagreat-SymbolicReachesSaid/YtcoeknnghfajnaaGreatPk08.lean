/-
  A part of the proof of this claim's statement (LibI, LibJ, LibK, LibL, TkPlain, TkW1, TkW2, TkW3): plain theorems; no conditions beyond those each names.
-/
import Derived.Test.YtcoeknnghfajnaaGreatPk06
import Derived.Maps.RangeRun
import Derived.Test.YtcoeknnghfajnaaGreatPk07
set_option maxRecDepth 100000
set_option linter.unusedSimpArgs false
set_option linter.unusedVariables false
set_option linter.unusedSectionVars false
section
namespace Go.W
open Go Go.Maps
section
variable {κ α:Type} [DecidableEq κ] {ek:κ→Value} {ev:α→Value} {ok:κ→Prop} {P:Program} {k e t:TypeId} {l vis:List (κ × α)} {b r:Nat} {B:Asr} {w w1:World} {F:List Nat}
structure RngM (w:World) (b r:Nat) (ek:κ→Value) (ev:α→Value) (ok:κ→Prop) (l vis:List (κ × α)):Prop where
 map:MapM w b ek ev ok l
 ne:b≠r
 it:∃(es:Array MapEntry) (clock since:Nat) (seen:Array Nat) (c0:Nat) (vs:List MapEntry),w.heap[b]? = some (.map es clock)∧es.toList.map (fun x=>(x.key,x.val))=l.map (fun p=>(ek p.1,ev p.2))∧MapKept.Stamped es clock∧w.heap[r]? = some (.mapIter (some b) since seen c0)∧(∀x ∈ es.toList,x.born < since)∧(since≤c0∧since≤clock∧(vis≠[]→c0=clock)) ∧
  seen.toList=vs.map (fun x:MapEntry=>x.born)∧(∀x ∈ vs,x ∈ es.toList)∧vs.map (fun x=>(x.key,x.val))=vis.map (fun p=>(ek p.1,ev p.2))
 sub:∀p ∈ vis,p ∈ l
 nd:vis.Nodup
def RngA (b r:Nat) (ek:κ→Value) (ev:α→Value) (ok:κ→Prop) (l vis:List (κ × α)):Asr:=fun w F=>RngM w b r ek ev ok l vis∧F=[b,r]
theorem RngM.lt (h:RngM w b r ek ev ok l vis):r < w.heap.size:=by
 obtain ⟨es,clock,since,seen,c0,vs,_,_,_,h4,_⟩:=h.it
 exact lt_of_blk h4
theorem RngM.kp {S:List Nat} {w':World} (h:RngM w b r ek ev ok l vis) (hk:Kp S w w') (hb:b ∉ S) (hr:r ∉ S):RngM w' b r ek ev ok l vis:=by
 obtain ⟨es,clock,since,seen,c0,vs,h1,h2,h3,h4,h5⟩:=h.it
 exact ⟨h.map.kp hk hb,h.ne,⟨es,clock,since,seen,c0,vs,hk.blk h1 hb,h2,h3,hk.blk h4 hr,h5⟩,h.sub,h.nd⟩
theorem Lcl.rng:Lcl (RngA b r ek ev ok l vis):=by
 refine ⟨?_,?_⟩
 ·rintro w F ⟨h,rfl⟩ x hx
  simp at hx
  rcases hx with rfl | rfl
  ·exact h.map.lt
  ·exact h.lt
 ·rintro w F G w' ⟨h,rfl⟩ hk hd
  exact ⟨h.kp hk (hd b (by simp)) (hd r (by simp)),rfl⟩
theorem At.rng (h:At w F (Star (RngA b r ek ev ok l vis) B) w1):RngM w1 b r ek ev ok l vis:=by
 obtain ⟨F1,h1,_⟩:=h.get
 exact h1
theorem At.range {KV:Kont (Value × World)} (hB:Lcl B) (h:At w F (Star (MapA b ek ev ok l) B) w1) (ht:P.underlying t=some (.map k e))
  (H:∀w2,At w F (Star (RngA b w1.heap.size ek ev ok l []) B) w2→KV.run (.pointer (some ⟨w1.heap.size,0,none⟩),w2)):@efH P (Instr.range t (.map (some b))) w1 KV:=by
 have hm:=h.map
 obtain ⟨es,clock,hb,hsz,hes,hok,hnd,hst⟩:=hm
 have hbl:=lt_of_blk hb
 refine ef_mk (run_range_map w1 t k e b es clock ht hb) (H _ ?_)
 have kp:Kp [] w1 (w1.alloc (.mapIter (some b) clock #[] clock)):=(Kp.refl _ _).alloc _
 refine h.step Lcl.map hB ?_
 rintro Fa ⟨h1,rfl⟩
 refine ⟨[b,w1.heap.size],⟨⟨h1.kp kp (by simp),by omega,⟨es,clock,clock,#[],clock,[],kp.blk hb (by simp),hes,hst,alloc_new,hst.1,⟨Nat.le_refl _,Nat.le_refl _,fun _=>rfl⟩,rfl,by simp,rfl⟩,by simp,by simp⟩,rfl⟩,(Kp.refl _ _).alloc _,fun x hx=>?_⟩
 simp at hx
 rcases hx with rfl | rfl
 ·exact .inl (by simp)
 ·exact .inr (Nat.le_refl _)
theorem born_inj {es:List MapEntry} (h:(es.map (·.born)).Nodup) {x y:MapEntry} (hx:x ∈ es) (hy:y ∈ es) (e:x.born=y.born):x=y:=by
 obtain ⟨i,hi,rfl⟩:=List.mem_iff_getElem.1 hx
 obtain ⟨j,hj,rfl⟩:=List.mem_iff_getElem.1 hy
 have:(es.map (·.born))[i]'(by simpa using hi)=(es.map (·.born))[j]'(by simpa using hj):=by simpa using e
 have:=(List.getElem_inj h).1 this
 subst this; rfl
theorem key_inj {es:List MapEntry} (h:(es.map (·.key)).Nodup) {x y:MapEntry} (hx:x ∈ es) (hy:y ∈ es) (e:x.key=y.key):x=y:=by
 obtain ⟨i,hi,rfl⟩:=List.mem_iff_getElem.1 hx
 obtain ⟨j,hj,rfl⟩:=List.mem_iff_getElem.1 hy
 have:(es.map (·.key))[i]'(by simpa using hi)=(es.map (·.key))[j]'(by simpa using hj):=by simpa using e
 have:=(List.getElem_inj h).1 this
 subst this; rfl
theorem At.next {KV:Kont (Value × World)} {ty:Nat} (hB:Lcl B) (hk:KeyEnc P k ek ok) (h:At w F (Star (RngA b r ek ev ok l vis) B) w1)
  (hDone:(∀p ∈ l,p ∈ vis)→At w F (Star (RngA b r ek ev ok l vis) B) w1→KV.run (.tuple #[.bool false],w1))
  (hMore:∀p w2,p ∈ l→p ∉ vis→At w F (Star (RngA b r ek ev ok l (vis ++ [p])) B) w2→KV.run (.tuple #[.bool true,ek p.1,ev p.2],w2)):@efH P (Instr.next (.pointer (some ⟨r,0,none⟩)) false ty) w1 KV:=by
 have hr:=h.rng
 obtain ⟨es,clock,since,seen,c0,vs,h1,h2,h3,h4,h5,h6,h7,h8,h9⟩:=hr.it
 have of_entry:∀x ∈ es.toList,∃p ∈ l,x.key=ek p.1∧x.val=ev p.2:=fun x hx=>by
  have:(x.key,x.val) ∈ es.toList.map (fun x=>(x.key,x.val)):=List.mem_map.2 ⟨x,hx,rfl⟩
  rw [h2] at this
  obtain ⟨p,hp,e⟩:=List.mem_map.1 this
  simp only [Prod.mk.injEq] at e
  exact ⟨p,hp,e.1.symm,e.2.symm⟩
 have of_pair:∀p ∈ l,∃x ∈ es.toList,x.key=ek p.1∧x.val=ev p.2:=fun p hp=>by
  have:(ek p.1,ev p.2) ∈ l.map (fun p=>(ek p.1,ev p.2)):=List.mem_map.2 ⟨p,hp,rfl⟩
  rw [←h2] at this
  obtain ⟨x,hx,e⟩:=List.mem_map.1 this
  simp only [Prod.mk.injEq] at e
  exact ⟨x,hx,e.1,e.2⟩
 have pair_inj:∀p ∈ l,∀q ∈ l,p.1=q.1→p=q:=fun p hp q hq e=>by
  have hnd:(l.map (·.1)).Nodup:=by
   obtain ⟨_,_,_,_,_,_,hnd,_⟩:=hr.map
   exact hnd
  obtain ⟨i,hi,rfl⟩:=List.mem_iff_getElem.1 hp
  obtain ⟨j,hj,rfl⟩:=List.mem_iff_getElem.1 hq
  have:(l.map (·.1))[i]'(by simpa using hi)=(l.map (·.1))[j]'(by simpa using hj):=by simpa using e
  have:=(List.getElem_inj hnd).1 this
  subst this; rfl
 rcases run_next_at w1 ty r b since c0 seen es clock h4 h1 h5 h6.1 with ⟨hz,hrun⟩ | ⟨x,hx,w2,hw2,hrun⟩
 ·refine ef_mk hrun (hDone (fun p hp=>?_) h)
  obtain ⟨x,hx,ex1,ex2⟩:=of_pair p hp
  have hin:x.born ∈ seen.toList:=by
   rcases Classical.em (x.born ∈ seen.toList) with hs | hs
   ·exact hs
   ·exfalso
    have:x ∈ (leftOf es seen).toList:=by
     unfold leftOf
     rw [Array.toList_filter,List.mem_filter]
     refine ⟨hx,?_⟩
     simp
     exact fun hc=>hs (Array.mem_toList_iff.2 hc)
    have h0:(leftOf es seen).toList.length=0:=by simpa using hz
    rw [List.length_eq_zero_iff] at h0
    rw [h0] at this; cases this
  rw [h7] at hin
  obtain ⟨y,hy,ey⟩:=List.mem_map.1 hin
  have:=born_inj h3.2.1 (h8 y hy) hx ey
  subst this
  have hv:(y.key,y.val) ∈ vis.map (fun p=>(ek p.1,ev p.2)):=by rw [←h9]; exact List.mem_map.2 ⟨y,hy,rfl⟩
  obtain ⟨q,hq,eq⟩:=List.mem_map.1 hv
  simp only [Prod.mk.injEq] at eq
  have hqp:q=p:=pair_inj q (hr.sub q hq) p hp (hk.inj _ _ (by rw [eq.1,ex1]))
  rw [←hqp]; exact hq
 ·have hxl:x ∈ es.toList∧x.born ∉ seen.toList:=by
   unfold leftOf at hx
   rw [Array.toList_filter,List.mem_filter] at hx
   have h2:=hx.2
   simp at h2
   exact ⟨hx.1,fun hc=>h2 (Array.mem_toList_iff.1 hc)⟩
  obtain ⟨p,hp,ep1,ep2⟩:=of_entry x hxl.1
  have hpv:p ∉ vis:=fun hv=>by
   have:(ek p.1,ev p.2) ∈ vis.map (fun p=>(ek p.1,ev p.2)):=List.mem_map.2 ⟨p,hv,rfl⟩
   rw [←h9] at this
   obtain ⟨y,hy,ey⟩:=List.mem_map.1 this
   simp only [Prod.mk.injEq] at ey
   have hyx:=key_inj h3.2.2 (h8 y hy) hxl.1 (by rw [ey.1,ep1])
   subst hyx
   exact hxl.2 (by rw [h7]; exact List.mem_map.2 ⟨y,hy,rfl⟩)
  have kd:Kp [] w1 w2:=by
   rcases hw2 with rfl | rfl
   ·exact Kp.refl _ _
   ·exact (Kp.refl _ _).drew
  have h':=h.kp0 (Lcl.rng.star hB) kd
  rw [ep1,ep2] at hrun
  refine ef_mk hrun (hMore p _ hp hpv (h'.step Lcl.rng hB ?_))
  rintro Fa ⟨h1',rfl⟩
  have hne:=hr.ne
  have hr2:w2.heap[r]? = some (.mapIter (some b) since seen c0):=kd.blk h4 (by simp)
  have hb2:w2.heap[b]? = some (.map es clock):=kd.blk h1 (by simp)
  have ks:Kp [r] w2 (w2.setB r (.mapIter (some b) since (seen.push x.born) clock)):=(Kp.refl _ _).setB (.inl (by simp)) _
  refine ⟨[b,r],⟨⟨h1'.map.kp ks (by simpa using hne),hne,⟨es,clock,since,seen.push x.born,clock,vs ++ [x],ks.blk hb2 (by simpa using hne),h2,h3,setB_new (lt_of_blk hr2),h5,⟨h6.2.1,h6.2.1,fun _=>rfl⟩,by simp [h7],fun y hy=>?_,?_⟩,fun q hq=>?_,?_⟩,rfl⟩,(Kp.refl _ _).setB (.inl (by simp)) _,fun x hx=>.inl hx⟩
  ·rcases List.mem_append.1 hy with h | h
   ·exact h8 y h
   ·simp at h; subst h; exact hxl.1
  ·simp [h9,ep1,ep2]
  ·rcases List.mem_append.1 hq with h | h
   ·exact hr.sub q h
   ·simp at h; subst h; exact hp
  ·rw [List.nodup_append]
   refine ⟨hr.nd,by simp,fun a ha c hc=>?_⟩
   simp at hc
   subst hc
   exact fun e=>hpv (e ▸ ha)
theorem At.entry {KV:Kont (Value × World)} {p:κ × α} (h:At w F (Star (RngA b r ek ev ok l (vis ++ [p])) B) w1) (H:KV.run (.tuple #[ek p.1,ev p.2],w1)):@efH P (Instr.entry (.pointer (some ⟨r,0,none⟩))) w1 KV:=by
 have hr:=h.rng
 obtain ⟨es,clock,since,seen,c0,vs,h1,h2,h3,h4,h5,h6,h7,h8,h9⟩:=hr.it
 rw [List.map_append] at h9
 obtain ⟨v0,v1,rfl,e0,e1⟩:=List.map_eq_append_iff.1 h9
 obtain ⟨x,rfl,ex⟩:∃x,v1=[x]∧(x.key,x.val)=(ek p.1,ev p.2):=by
  obtain ⟨x,l1,rfl,h1,h2⟩:=List.map_eq_cons_iff.1 e1
  have:=List.map_eq_nil_iff.1 h2
  subst this
  exact ⟨x,rfl,h1⟩
 simp only [Prod.mk.injEq] at ex
 have hs:seen=(v0.map (fun x:MapEntry=>x.born)).toArray.push x.born:=by
  apply Array.toList_inj.1
  rw [h7]
  simp
 rw [hs,h6.2.2 (by simp)] at h4
 have:=run_entry_at (P:=P) w1 r b since (v0.map (fun x:MapEntry=>x.born)).toArray es clock x (by simpa using h4) h1 (h8 x (by simp)) h3.2.1
 rw [ex.1,ex.2] at this
 exact ef_mk this H
end
end Go.W
end
section
namespace Go.W
open Go Go.Maps
section
variable {P:Program} {ρ:Env} {w:World} {K:Env→World→Prop}
@[simp ↓] theorem wpAlts_more {a b:List LO} {l:List (List LO)}:wpAlts P ρ w K (a :: b :: l)=(wpT P a ρ w K∧wpAlts P ρ w K (b :: l)):=propext Iff.rfl
end
end Go.W
namespace Go.W
open Go Go.Maps
section
variable {α:Type} {enc:α→List Value} {sz E:Nat} {l:List α} {v:Value} {w:World}
end
section
variable {α:Type} {enc:α→List Value} {sz E:Nat} {l:List α} {v:Value} {w:World}
end
abbrev Cell1:={v:Value // oneC v=true}
section
variable {α:Type} {enc:α→List Value} {w w1:World} {F:List Nat} {B:Asr} {E:Nat}
def sv1 (p:Cell1 × List α):List Value:=[p.1.1]
theorem sv1_len (p:Cell1 × List α):(sv1 p).length=1:=rfl
theorem sv1_one (p:Cell1 × List α):(sv1 p).all oneC=true:=by simp [sv1,p.1.2]
def VwsA (enc:α→List Value) (ps:List (Cell1 × List α)):Asr:=fun w F=>(∀p ∈ ps,Vw w p.1.1 enc p.2)∧(∀x ∈ F,x < w.heap.size)∧F=ps.flatMap fun p=>p.1.1.own
theorem Lcl.vws {ps:List (Cell1 × List α)}:Lcl (VwsA enc ps):=by
 refine ⟨?_,?_⟩
 ·rintro w F ⟨_,h,_⟩; exact h
 ·rintro w F G w' ⟨h1,h2,rfl⟩ hk hd
  refine ⟨fun p hp=>(h1 p hp).kp hk fun x hx=>hd x (List.mem_flatMap.2 ⟨p,hp,hx⟩),fun x hx=>?_,rfl⟩
  have:=h2 x hx; have:=hk.size; omega
theorem At.vws {ps:List (Cell1 × List α)} (h:At w F (Star (VwsA enc ps) B) w1) {p:Cell1 × List α} (hp:p ∈ ps):Vw w1 p.1.1 enc p.2:=by
 obtain ⟨F1,h1,_⟩:=h.get
 exact h1 p hp
theorem VwsA.add {ps:List (Cell1 × List α)} {v:Value} {l:List α} {X:Asr} (ho:oneC v=true):Imp (Star (VwA v enc l) (Star (VwsA enc ps) X)) (Star (VwsA enc (ps ++ [(⟨v,ho⟩,l)])) X):=by
 rintro w F ⟨Fa,Fx,⟨h1,rfl,h1'⟩,⟨Fb,Fc,⟨h2,h2',rfl⟩,h3,d1,rfl⟩,d2,rfl⟩
 refine ⟨_,⟨_,Fc,⟨fun p hp=>?_,fun x hx=>?_,rfl⟩,h3,fun x hx hc=>?_,rfl⟩,fun x hx=>?_⟩
 ·rcases List.mem_append.1 hp with h | h
  ·exact h2 p h
  ·simp at h; subst h; exact h1
 ·simp only [List.flatMap_append,List.flatMap_cons,List.flatMap_nil,List.append_nil] at hx
  rcases List.mem_append.1 hx with h | h
  ·exact h2' x h
  ·exact h1' x h
 ·simp only [List.flatMap_append,List.flatMap_cons,List.flatMap_nil,List.append_nil] at hx
  rcases List.mem_append.1 hx with h | h
  ·exact d1 x h hc
  ·exact d2 x h (by simp [hc])
 ·simp only [List.flatMap_append,List.flatMap_cons,List.flatMap_nil,List.append_nil] at hx
  simp only [List.mem_append] at hx ⊢
  rcases hx with (h | h) | h
  ·exact .inr (.inl h)
  ·exact .inl h
  ·exact .inr (.inr h)
theorem VwsA.nil {X:Asr} (hX:Lcl X) (h:At w F X w1):At w F (Star (VwsA enc []) X) w1 :=
 h.more hX (Kp.refl _ _) ⟨[],⟨by simp,by simp,by simp⟩,by simp⟩
def LLA (v:Value) (E:Nat) (enc:α→List Value) (ls:List (List α)):Asr:=ExA fun ps:{ps:List (Cell1 × List α) // ps.map (·.2)=ls}=>Star (OwnA v E 1 sv1 ps.1) (VwsA enc ps.1)
theorem Lcl.ll {v:Value} {ls:List (List α)}:Lcl (LLA v E enc ls):=Lcl.ex fun _=>Lcl.own.star Lcl.vws
theorem LLA.opn {v:Value} {ls:List (List α)} (h:At w F (Star (LLA v E enc ls) B) w1):∃ps:List (Cell1 × List α),ps.map (·.2)=ls∧At w F (Star (OwnA v E 1 sv1 ps) (Star (VwsA enc ps) B)) w1:=by
 obtain ⟨⟨ps,hp⟩,h⟩:=h.ex_open
 exact ⟨ps,hp,h.assoc⟩
theorem LLA.cls {v:Value} {ls:List (List α)} {ps:List (Cell1 × List α)} (hp:ps.map (·.2)=ls) (h:At w F (Star (OwnA v E 1 sv1 ps) (Star (VwsA enc ps) B)) w1):At w F (Star (LLA v E enc ls) B) w1 :=
 At.ex_close (x:=(⟨ps,hp⟩:{ps:List (Cell1 × List α) // ps.map (·.2)=ls})) h.assoc'
theorem LLA.nil (hB:Lcl B) (h:At w F B w1):At w F (Star (LLA (.slice none 0 0) E enc []) B) w1 :=
 LLA.cls (ps:=[]) rfl (At.nil (Lcl.vws.star hB) (VwsA.nil hB h))
end
end Go.W
namespace Go.W
end Go.W
namespace Go.W
open Go
end Go.W
namespace Go.W
theorem Imp.un2 {A B X Y:Asr} (h:Imp X Y):Imp (Star A (Star B X)) (Star A (Star B Y)):=Imp.un (Imp.un h)
theorem Imp.un3 {A B C X Y:Asr} (h:Imp X Y):Imp (Star A (Star B (Star C X))) (Star A (Star B (Star C Y))):=Imp.un (Imp.un2 h)
theorem Imp.un4 {A B C D X Y:Asr} (h:Imp X Y):Imp (Star A (Star B (Star C (Star D X)))) (Star A (Star B (Star C (Star D Y)))):=Imp.un (Imp.un3 h)
end Go.W
end
section
namespace Go.W
open Go
section
variable {P:Program} {los:List LO} {deps:List Nat} {ρ:Env} {w:World} {Q:Ex→Env→World→Prop} {outs:List Nat}
theorem wpX_of_one {o:LO} {l:List LO} {K:Env→World→Prop} (h:wpT P [o] ρ w fun ρ' w'=>wpX P l ρ' w' K):wpX P (o :: l) ρ w K:=by
 obtain ⟨c,d,op,ty,g⟩:=o
 cases g with
 | none =>
  simp only [wpT] at h
  simp only [wpX]
  exact opS_sound h
 | some gb =>
  obtain ⟨g,b⟩:=gb
  simp only [wpT,gd] at h
  simp only [wpX,gd]
  exact ⟨fun e=>opS_sound (h.1 e),h.2⟩
theorem any_inv (T:List Nat→Env→World→Prop) (h0:T [] ρ w.drew)
  (hs:∀X i ρ' w',i < los.length→i ∉ X→(∀j ∈ X,j < los.length)→X.Nodup→(∀j,j < los.length→(deps.getD i 0).testBit j=true→j ∈ X)→(∀j ∈ X,(deps.getD j 0).testBit i=false)→T X ρ' w'→wpT P [los.getD i LO.dfl] ρ' w' (T (X ++ [i])))
  (he:∀l ρ' w',l.Perm (List.range los.length)→T l ρ' w'→Q .nrm (ρ.merge ρ' outs) w'):wpL P (.anyR los deps outs) Q ρ w:=by
 intro l hl hD
 have hlt:∀i ∈ l,i < los.length:=fun i hi=>List.mem_range.1 (hl.subset hi)
 have hlnd:l.Nodup:=hl.symm.nodup List.nodup_range
 have key:∀(l2 l1:List Nat) (ρ':Env) (w':World),l=l1 ++ l2→T l1 ρ' w'→wpX P (inOrder los l2) ρ' w' fun ρ' w''=>Q .nrm (ρ.merge ρ' outs) w'':=by
  intro l2
  induction l2 with
  | nil =>
   intro l1 ρ' w' e hT
   rw [List.append_nil] at e
   subst e
   exact he _ _ _ hl hT
  | cons i l2 ih =>
   intro l1 ρ' w' e hT
   have hi:i < los.length:=hlt i (by rw [e]; simp)
   have hnd:=hlnd
   rw [e,List.nodup_append] at hnd
   have hin:i ∉ l1:=fun hm=>hnd.2.2 i hm i (by simp) rfl
   refine wpX_of_one (wpT_mono (fun ρ'' w'' hT'=>ih (l1 ++ [i]) ρ'' w'' (by rw [e]; simp) hT') _ _ _ (hs l1 i ρ' w' hi hin (fun j hj=>hlt j (by rw [e]; simp [hj])) hnd.1 (fun j hj hb=>?_) (fun j hj=>?_) hT))
   ·obtain ⟨r1,r2,e1,e2⟩:=hD i hi j hj hb
    have hlnd':=hlnd
    rw [e] at e1 hlnd'
    rw [(split_unique hlnd' e1).1]; exact e2
   ·cases hb:(deps.getD j 0).testBit i with
    | false=>rfl
    | true =>
     exfalso
     obtain ⟨r1,r2,e1,e2⟩:=hD j (hlt j (by rw [e]; simp [hj])) i hi hb
     obtain ⟨m1,m2,e3⟩:=List.append_of_mem hj
     have e4:l=m1 ++ j :: (m2 ++ i :: l2):=by rw [e,e3]; simp
     have hlnd':=hlnd
     rw [e4] at e1 hlnd'
     have:=(split_unique hlnd' e1).1
     rw [←this] at e2
     rw [List.nodup_append] at hlnd'
     exact hlnd'.2.2 i e2 i (by simp) rfl
 exact key l [] ρ _ rfl h0
end
end Go.W
namespace Go.W
open Go
section
variable {α:Type} {enc:α→List Value} {w w1:World} {F:List Nat} {B X:Asr}
end
end Go.W
namespace Go.W
open Go
section
variable {P:Program} {los:List LO} {deps:List Nat} {ρ:Env} {w:World} {Q:Ex→Env→World→Prop} {outs:List Nat}
end
end Go.W
namespace Go.W
open Go
section
variable {A B C D E G I X:Asr}
end
end Go.W
end
section
namespace Go.W
open Go
def ivH (P:Program) (w:World) (v:Value) (name:String) (args:List Value) [k:Kont (Value × World)]:Prop:=upon2 P (fun v w'=>k.run (v,w')) ((callMethod v name args.toArray).run P w)
section
variable {P:Program} {ρ:Env} {w:World} {KW:Value→World→Prop} {KV:Kont (Value × World)} {ty:Nat} {args:List Value} {name:String} {v:Value}
@[simp ↓] theorem opS_invoke {r:Operand} {m:String} {args:Array Operand} {tys:Array Nat}:opS P 2 (.call ⟨.invoke r m,args,tys⟩) ty ρ w KW=@ivH P w (ρ.ev r) m (args.toList.map ρ.ev) ⟨fun q=>KW q.1 q.2⟩:=by
 show upon2 P KW _=upon2 P KW _
 congr 1
 have e:(#[ρ.ev r] ++ args.map ρ.ev).extract 1 (#[ρ.ev r] ++ args.map ρ.ev).size=(args.toList.map ρ.ev).toArray:=by
  apply Array.ext'
  simp
  exact List.take_of_length_le (by simp)
 have h0:(#[ρ.ev r] ++ args.map ρ.ev)[0]? = some (ρ.ev r):=by
  rw [Array.getElem?_append_left (by simp)]; rfl
 simp only [LO.exec,execOp,resolve,Sem.run_bind,Sem.run_pure,Result.andThen_ok,invoke,h0,e]
end
end Go.W
end
section
namespace Go.Tk
open Go Go.W
abbrev Fa:=Int × Int
structure Ef where
 wv:Cell1
 cnd:List Fa
 v:Int
 x:Int
structure Oq where
 name:ByteArray
 cost:Int
 pv:Cell1
 pre:List Fa
 ev:Cell1
 effs:List Ef
structure Tk where
 vv:Cell1
 nv:Cell1
 gv:Cell1
 ov:Cell1
 vars:List Int
 init:List Int
 goal:List Fa
 ops:List Oq
def iE (i:Int):List Value:=[.int .i64 i]
theorem iE_len (i:Int):(iE i).length=1:=rfl
def faE (f:Fa):List Value:=[.int .i64 f.1,.int .i64 f.2]
theorem faE_len (f:Fa):(faE f).length=2:=rfl
def efE (e:Ef):List Value:=[e.wv.1,.int .i64 e.v,.int .i64 e.x]
theorem efE_len (e:Ef):(efE e).length=3:=rfl
def oqE (o:Oq):List Value:=[.string o.name,.int .i64 o.cost,o.pv.1,o.ev.1]
theorem oqE_len (o:Oq):(oqE o).length=4:=rfl
def tkV (t:Tk):Value:=.agg #[t.vv.1,t.nv.1,t.gv.1,t.ov.1]
structure OqR (w:World) (o:Oq):Prop where
 pre:Vw w o.pv.1 faE o.pre
 effs:Vw w o.ev.1 efE o.effs
 cnd:∀e ∈ o.effs,Vw w e.wv.1 faE e.cnd
theorem OqR.kp {w w':World} {o:Oq} (h:OqR w o) (k:Kp [] w w'):OqR w' o:=⟨h.pre.kp0 k,h.effs.kp0 k,fun e he=>(h.cnd e he).kp0 k⟩
structure TkR (w:World) (t:Tk):Prop where
 vars:Vw w t.vv.1 iE t.vars
 init:Vw w t.nv.1 iE t.init
 goal:Vw w t.gv.1 faE t.goal
 ops:Vw w t.ov.1 oqE t.ops
 op:∀o ∈ t.ops,OqR w o
theorem TkR.kp {w w':World} {t:Tk} (h:TkR w t) (k:Kp [] w w'):TkR w' t:=⟨h.vars.kp0 k,h.init.kp0 k,h.goal.kp0 k,h.ops.kp0 k,fun o ho=>(h.op o ho).kp k⟩
def inR (vars:List Int) (f:Fa):Bool:=decide (0≤f.1) && decide (f.1 < vars.length) && decide (0≤f.2) && decide (f.2 < vars.getD f.1.toNat 0)
def allR (n:Nat) (p:Nat→Bool):Bool:=(List.range n).all p
theorem allR_true {n:Nat} {p:Nat→Bool} (h:∀j,j < n→p j=true):allR n p=true:=by
 unfold allR; rw [List.all_eq_true]; exact fun j hj=>h j (List.mem_range.1 hj)
theorem allR_false {n k:Nat} {p:Nat→Bool} (hk:k < n) (h:p k=false):allR n p=false:=by
 unfold allR; rw [List.all_eq_false]; exact ⟨k,List.mem_range.2 hk,by simp [h]⟩
theorem allR_at {n k:Nat} {p:Nat→Bool} (h:allR n p=true) (hk:k < n):p k=true:=by
 unfold allR at h; rw [List.all_eq_true] at h; exact h k (List.mem_range.2 hk)
theorem all_false {α:Type} {l:List α} {p:α→Bool} {x:α} (hx:x ∈ l) (h:p x=false):l.all p=false:=by
 rw [List.all_eq_false]; exact ⟨x,hx,by simp [h]⟩
def prAt (vars:List Int) (l:List Fa) (i:Nat):Bool:=inR vars (l.getD i (0,0)) && (decide (i=0) || decide ((l.getD (i - 1) (0,0)).1 < (l.getD i (0,0)).1))
def propF (vars:List Int) (l:List Fa):Bool:=allR l.length (prAt vars l)
def stAt (vars s:List Int) (i:Nat):Bool:=decide (0≤s.getD i 0) && decide (s.getD i 0 < vars.getD i 0)
def stateB (vars s:List Int):Bool:=decide (s.length=vars.length) && allR s.length (stAt vars s)
def chB (b:ByteArray) (i:Nat):Bool:=decide (32≤(b[i]?.getD 0).toNat) && decide ((b[i]?.getD 0).toNat≤126)
def nameB (b:ByteArray):Bool:=decide (b.size≤256) && allR b.size (chB b)
def effB (vars:List Int) (e:Ef):Bool:=propF vars e.cnd && inR vars (e.v,e.x)
def opB (vars:List Int) (o:Oq):Bool:=decide (0≤o.cost) && decide (o.cost≤1048576) && decide (o.effs.length≤64) && nameB o.name && propF vars o.pre && o.effs.all (effB vars)
def varB (n:Int):Bool:=decide (1≤n) && decide (n≤64)
def goodB (t:Tk):Bool:=decide (t.vars.length≤64) && decide (t.ops.length≤4096) && t.vars.all varB && stateB t.vars t.init && propF t.vars t.goal && t.ops.all (opB t.vars)
def manyF (most:Nat):Nat→List Int→Nat
 | n,[]=>n
 | n,k :: l=>if most < n * min k.toNat (most+1) then most+1 else manyF most (n * min k.toNat (most+1)) l
def smallB (t:Tk):Bool:=decide (t.vars.length≤12) && decide (t.ops.length≤20) && (t.ops.all fun o=>decide (o.effs.length≤8)) && goodB t && decide (manyF 512 1 t.vars≤512)
structure TkL (t:Tk):Prop where
 init:t.init.length≤9223372036854775807
 goal:t.goal.length≤9223372036854775807
 ops:t.ops.length≤9223372036854775807
 vars:t.vars.length≤9223372036854775807
 op:∀o ∈ t.ops,o.name.size≤9223372036854775807∧o.pre.length≤9223372036854775807∧o.effs.length≤9223372036854775807∧∀e ∈ o.effs,e.cnd.length≤9223372036854775807
def condsO (o:Oq):List (Cell1 × List Fa):=(o.pv,o.pre) :: o.effs.map fun e=>(e.wv,e.cnd)
def condsL (t:Tk):List (Cell1 × List Fa):=(t.gv,t.goal) :: t.ops.flatMap condsO
def largeB (t:Tk):Bool:=!(decide (t.vars.length≤64) && decide (t.ops.length≤4096) && (t.ops.all fun o=>decide (o.effs.length≤64)) && (condsL t).all fun p=>decide (p.2.length≤64))
def chkC (t:Tk):Option Int :=
 if largeB t=true then some 5
 else if (t.vars.all varB)=false then some 1
 else if (t.ops.all fun o=>decide (0≤o.cost) && decide (o.cost≤1048576))=false then some 1
 else if stateB t.vars t.init=false then some 2
 else if ((condsL t).all fun p=>propF t.vars p.2)=false then some 2
 else if (t.ops.all fun o=>o.effs.all fun e=>inR t.vars (e.v,e.x))=false then some 2
 else if (t.ops.all fun o=>nameB o.name)=false then some 8
 else none
end Go.Tk
end
section
namespace Go.Proofs.YtcoeknnghfajnaaGreat
open Go Go.W Go.Tk
def faO (f:Fa):Obj:=.cells #[.int .i64 f.1,.int .i64 f.2] 85 (0,0)
section
variable {w wa:World} {F:List Nat} {X:Asr} {KW:Kont World}
theorem st_fa {f:Fa} {b:Nat} (hX:Lcl X) (h:At w F X wa) (hb:b=wa.heap.size) (H:∀w2,At w F (Star (ObjA b (faO f)) X) w2→KW.run w2) :
  @stJ (wa.alloc (.cells #[.int .i64 0,.int .i64 0] 85 (0,0))) ⟨b,0,none⟩ [.int .i64 f.1,.int .i64 f.2] KW:=by
 have h1:At w F (Star (ObjA b (.cells #[.int .i64 0,.int .i64 0] 85 (0,0))) X) (wa.alloc (.cells #[.int .i64 0,.int .i64 0] 85 (0,0))):=by rw [hb]; exact h.alloc _ hX
 exact h1.st hX (by simp) (by simp) fun w2 h2=>H w2 (by simpa [faO] using h2)
end
theorem iE_cell {w:World} {v:Value} {l:List Int} {k:Nat} {x:Int} (h:Vw w v iE l) (hx:l[k]? = some x):w.cell? (v.adr.add k)=some (.int .i64 x):=by
 simpa using h.at_ iE_len hx (o:=0) (u:=.int .i64 x) rfl
theorem getD_at {α:Type} {l:List α} {k:Nat} {x d:α} (h:l[k]? = some x):l.getD k d=x:=by simp [List.getD,h]
set_option maxHeartbeats 1000000 in
theorem proper_spec {w:World} (vv fv:Value) (vars:List Int) (l:List Fa) (hv:Vw w vv iE vars) (hf:Vw w fv faE l) (hl:l.length≤9223372036854775807) :
  Calls Tryz.prog 53 [vv,fv].toArray w fun e w'=>∃x,e=.returned x∧x=.bool (propF vars l)∧Kp [] w w':=by
 refine enter Tryz.func53 mixed low53 (Nat.le_of_ble_eq_true rfl) ?_
 simp only [L53]
 simp [hf.len]
 refine range_loop (n:=l.length) (by omega) (fun k ρ w'=>ρ 0=vv∧ρ 1=fv∧ρ 7=fv∧(∀j,j < k→prAt vars l j=true)∧Kp [] w w') (by simp) (by simp)
  ⟨by simp,by simp,by simp,by omega,Kp.refl _ _⟩ (by decide) (fun _ _ _ _ h=>by simpa using h) (fun _ _ _ _ h=>by simpa using h) ?_ ?_
 rotate_left
 ·rintro ρ w4 ⟨g0,g1,g7,hall,k4⟩
  have:propF vars l=true:=allR_true hall
  simp [this]
  exact k4
 rintro k ρ w4 hk hc hlm ⟨g0,g1,g7,hall,k4⟩
 obtain ⟨f,hfk⟩:∃f,l[k]? = some f:=⟨_,List.getElem?_eq_getElem hk⟩
 have hf4:=hf.kp0 k4
 have hv4:=hv.kp0 k4
 have ec:=hf4.cells faE_len hfk
 simp only [faE] at ec
 obtain ⟨b,hb⟩:∃b,b=w4.heap.size:=⟨_,rfl⟩
 refine seq_cut (fun ρ w'=>ρ 0=vv∧ρ 1=fv∧ρ 7=fv∧ρ 8=.int .i64 (l.length:Nat)∧ρ 9=.int .i64 (k:Nat)∧ρ 5=.int .i64 (k:Nat)∧ρ 6=.pointer (some ⟨b,0,none⟩)∧At w4 [] (Star (ObjA b (faO f)) Emp) w') ?_ ?_
 ·simp (disch:=omega) [g7,hc,hlm,hf4.idx,ec,←hb]
  refine st_fa (f:=f) .emp (At.start rfl:At w4 [] Emp w4) hb fun w5 h5=>?_
  simp [g0,g1,g7,hc,hlm,←hb]
  exact h5
 clear g0 g1 g7 hc hlm
 rintro ρ w5 ⟨g0,g1,g7,g8,g9,g5,g6,h5⟩
 have ho:=h5.obj
 unfold faO at ho
 have hv5:=hv4.kp0 h5.kp
 have hf5:=hf4.kp0 h5.kp
 have eg:l.getD k (0,0)=f:=getD_at hfk
 have bad:(inR vars f && (decide (k=0) || decide ((l.getD (k - 1) (0,0)).1 < f.1)))=false→propF vars l=false:=fun h=>allR_false hk (by unfold prAt; rw [eg]; exact h)
 have ok:(inR vars f && (decide (k=0) || decide ((l.getD (k - 1) (0,0)).1 < f.1)))=true→∀j,j < k+1→prAt vars l j=true:=fun h j hj=>by
  rcases (show j < k∨j=k by omega) with h1 | h1
  ·exact hall j h1
  ·subst h1; unfold prAt; rw [eg]; exact h
 have k5:Kp [] w w5.drew:=(k4.trans0 h5.kp).drew
 by_cases t1:f.1 < 0
 ·have e:=bad (by simp [inR]; omega)
  simp [g6,cell_blk ho,t1,e]
  exact k5
 by_cases t2:(vars.length:Int)≤f.1
 ·have e:=bad (by simp [inR]; omega)
  simp [g6,g0,cell_blk ho,t1,hv5.len,t2,e]
  exact k5
 by_cases t3:f.2 < 0
 ·have e:=bad (by simp [inR]; omega)
  simp [g6,g0,cell_blk ho,t1,hv5.len,t2,t3,e]
  exact k5
 obtain ⟨y,hy⟩:∃y,vars[f.1.toNat]? = some y:=⟨_,List.getElem?_eq_getElem (by omega)⟩
 have ey:vars.getD f.1.toNat 0=y:=getD_at hy
 by_cases t4:y≤f.2
 ·have e:=bad (by unfold inR; rw [ey]; simp; omega)
  simp (disch:=omega) [g6,g0,cell_blk ho,t1,hv5.len,t2,t3,hv5.idx,iE_cell hv5 hy,t4,e]
  exact k5
 have hin:inR vars f=true:=by unfold inR; rw [ey]; simp; omega
 by_cases t5:k=0
 ·subst t5
  simp (disch:=omega) [g6,g0,g1,g7,g8,g9,g5,cell_blk ho,t1,hv5.len,t2,t3,hv5.idx,iE_cell hv5 hy,t4]
  exact ⟨ok (by simp [hin]) 0 (by omega),k5⟩
 have t5':(0:Int) < k:=by omega
 obtain ⟨p,hp⟩:∃p,l[k - 1]? = some p:=⟨_,List.getElem?_eq_getElem (by omega)⟩
 have ep:l.getD (k - 1) (0,0)=p:=getD_at hp
 have ek:((k - 1:Nat):Int)=(k:Int) - 1:=by omega
 have ecp:w5.cell? ((fv.adr.add ((k - 1) * 2)).add 0)=some (.int .i64 p.1):=hf5.fld faE_len hp rfl
 have t5'':0 < k:=by omega
 have ek':=ek.symm
 by_cases t6:f.1≤p.1
 ·have e:=bad (by rw [ep]; simp [t5]; omega)
  simp (disch:=omega) [g6,g0,g1,g7,g8,g9,g5,cell_blk ho,t1,hv5.len,t2,t3,hv5.idx,iE_cell hv5 hy,t4,t5',t5'',ek',wrap_i64,hf5.idx,ecp,t6,e]
  exact k5
 simp (disch:=omega) [g6,g0,g1,g7,g8,g9,g5,cell_blk ho,t1,hv5.len,t2,t3,hv5.idx,iE_cell hv5 hy,t4,t5',t5'',ek',wrap_i64,hf5.idx,ecp,t6]
 exact ⟨fun j hj=>ok (by rw [ep]; simp [hin]; omega) j hj,k5⟩
end Go.Proofs.YtcoeknnghfajnaaGreat
end
section
namespace Go.Proofs.YtcoeknnghfajnaaGreat
open Go Go.W Go.Tk
def efO (e:Ef):Obj:=.cells #[e.wv.1,.int .i64 e.v,.int .i64 e.x] 111 (0,0)
def oqO (o:Oq):Obj:=.cells #[.string o.name,.int .i64 o.cost,o.pv.1,o.ev.1] 66 (0,0)
def tkO (t:Tk):Obj:=.cells #[t.vv.1,t.nv.1,t.gv.1,t.ov.1] 26 (0,0)
def oqV (o:Oq):Value:=.agg #[.string o.name,.int .i64 o.cost,o.pv.1,o.ev.1]
section
variable {w wa:World} {F:List Nat} {X:Asr} {KW:Kont World}
theorem st_ef {e:Ef} {b:Nat} (hX:Lcl X) (h:At w F X wa) (hb:b=wa.heap.size) (H:∀w2,At w F (Star (ObjA b (efO e)) X) w2→KW.run w2) :
  @stJ (wa.alloc (.cells #[.slice none 0 0,.int .i64 0,.int .i64 0] 111 (0,0))) ⟨b,0,none⟩ [e.wv.1,.int .i64 e.v,.int .i64 e.x] KW:=by
 have h1:At w F (Star (ObjA b (.cells #[.slice none 0 0,.int .i64 0,.int .i64 0] 111 (0,0))) X) (wa.alloc (.cells #[.slice none 0 0,.int .i64 0,.int .i64 0] 111 (0,0))):=by rw [hb]; exact h.alloc _ hX
 exact h1.st hX (by simp) (by simp [e.wv.2]) fun w2 h2=>H w2 (by simpa [efO] using h2)
theorem st_oq {o:Oq} {b:Nat} {es:ByteArray} (hX:Lcl X) (h:At w F X wa) (hb:b=wa.heap.size) (H:∀w2,At w F (Star (ObjA b (oqO o)) X) w2→KW.run w2) :
  @stJ (wa.alloc (.cells #[.string es,.int .i64 0,.slice none 0 0,.slice none 0 0] 66 (0,0))) ⟨b,0,none⟩ [.string o.name,.int .i64 o.cost,o.pv.1,o.ev.1] KW:=by
 have h1:At w F (Star (ObjA b (.cells #[.string es,.int .i64 0,.slice none 0 0,.slice none 0 0] 66 (0,0))) X) (wa.alloc (.cells #[.string es,.int .i64 0,.slice none 0 0,.slice none 0 0] 66 (0,0))):=by rw [hb]; exact h.alloc _ hX
 exact h1.st hX (by simp) (by simp [o.pv.2,o.ev.2]) fun w2 h2=>H w2 (by simpa [oqO] using h2)
theorem rd_tk {w:World} {b:Nat} {t:Tk} (h:w.heap[b]? = some (tkO t)):cellsAt w ⟨b,0,none⟩ 0 4=some [t.vv.1,t.nv.1,t.gv.1,t.ov.1]:=by
 unfold tkO at h
 simp [cellsAt,Addr.add,cell_blk h]
theorem rd_oq {w:World} {b:Nat} {o:Oq} (h:w.heap[b]? = some (oqO o)):cellsAt w ⟨b,0,none⟩ 0 4=some [.string o.name,.int .i64 o.cost,o.pv.1,o.ev.1]:=by
 unfold oqO at h
 simp [cellsAt,Addr.add,cell_blk h]
end
theorem state_spec {w:World} (vv sv:Value) (vars s:List Int) (hv:Vw w vv iE vars) (hs:Vw w sv iE s) (hl:s.length≤9223372036854775807) :
  Calls Tryz.prog 63 [vv,sv].toArray w fun e w'=>∃x,e=.returned x∧x=.bool (stateB vars s)∧Kp [] w w':=by
 refine enter Tryz.func63 mixed low63 (Nat.le_of_ble_eq_true rfl) ?_
 simp only [L63]
 by_cases hle:s.length=vars.length
 case neg =>
  have hne:((s.length:Int) != vars.length)=true:=by simp; omega
  have e:stateB vars s=false:=by simp [stateB,hle]
  simp [hv.len,hs.len,hne,e]
  exact Kp.refl _ _
 have hne:((s.length:Int) != vars.length)=false:=by simp; omega
 simp [hv.len,hs.len,hne]
 refine range_loop (n:=s.length) (by omega) (fun k ρ w'=>ρ 0=vv∧ρ 1=sv∧(∀j,j < k→stAt vars s j=true)∧Kp [] w w') (by simp) (by simp)
  ⟨by simp,by simp,by omega,Kp.refl _ _⟩ (by decide) (fun _ _ _ _ h=>by simpa using h) (fun _ _ _ _ h=>by simpa using h) ?_ ?_
 rotate_left
 ·rintro ρ w4 ⟨g0,g1,hall,k4⟩
  have:stateB vars s=true:=by unfold stateB; rw [allR_true hall]; simp [hle]
  simp [this]
  exact k4
 rintro k ρ w4 hk hc hlm ⟨g0,g1,hall,k4⟩
 have hs4:=hs.kp0 k4
 have hv4:=hv.kp0 k4
 obtain ⟨x,hx⟩:∃x,s[k]? = some x:=⟨_,List.getElem?_eq_getElem hk⟩
 obtain ⟨y,hy⟩:∃y,vars[k]? = some y:=⟨_,List.getElem?_eq_getElem (by omega)⟩
 have ex:stAt vars s k=(decide (0≤x) && decide (x < y)):=by unfold stAt; rw [getD_at hx,getD_at hy]
 have bad:(decide (0≤x) && decide (x < y))=false→stateB vars s=false:=fun h=>by
  unfold stateB; rw [allR_false hk (ex.trans h)]; simp
 by_cases t1:x < 0
 ·have e:=bad (by simp; omega)
  simp (disch:=omega) [g0,g1,hc,hlm,hs4.idx,iE_cell hs4 hx,t1,e]
  exact k4.drew
 by_cases t2:y≤x
 ·have e:=bad (by simp; omega)
  simp (disch:=omega) [g0,g1,hc,hlm,hs4.idx,iE_cell hs4 hx,hv4.idx,iE_cell hv4 hy,t1,t2,e]
  exact k4.drew
 simp (disch:=omega) [g0,g1,hc,hlm,hs4.idx,iE_cell hs4 hx,hv4.idx,iE_cell hv4 hy,t1,t2]
 refine ⟨fun j hj=>?_,k4.drew⟩
 rcases (show j < k∨j=k by omega) with h1 | h1
 ·exact hall j h1
 ·subst h1; rw [ex]; simp; omega
theorem many_spec {w:World} (vv:Value) (vars:List Int) (hv:Vw w vv iE vars) (hl:vars.length≤9223372036854775807) :
  Calls Tryz.prog 25 [vv,.int .i64 512].toArray w fun e w'=>∃x,e=.returned x∧x=.int .i64 (manyF 512 1 vars:Nat)∧Kp [] w w':=by
 refine enter Tryz.func25 mixed low25 (Nat.le_of_ble_eq_true rfl) ?_
 simp only [L25]
 simp [hv.len]
 refine range_loop (n:=vars.length) (by omega) (fun k ρ w'=>ρ 1=.int .i64 512∧ρ 8=vv∧(∃n:Nat,ρ 5=.int .i64 (n:Nat)∧n≤512∧manyF 512 1 vars=manyF 512 n (vars.drop k))∧Kp [] w w') (by simp) (by simp)
  ⟨by simp,by simp,⟨1,by simp,by omega,by simp⟩,Kp.refl _ _⟩ (by decide) (fun _ _ _ _ h=>by simpa using h) (fun _ _ _ _ h=>by simpa using h) ?_ ?_
 rotate_left
 ·rintro ρ w4 ⟨g1,g8,⟨n,g5,hn,hm⟩,k4⟩
  rw [List.drop_of_length_le (Nat.le_refl _),manyF] at hm
  simp [g5,hm]
  exact k4
 rintro k ρ w4 hk hc hlm ⟨g1,g8,⟨n,g5,hn,hm⟩,k4⟩
 have hv4:=hv.kp0 k4
 obtain ⟨x,hx⟩:∃x,vars[k]? = some x:=⟨_,List.getElem?_eq_getElem hk⟩
 rw [List.drop_eq_getElem_cons hk,(List.getElem?_eq_some_iff.1 hx).2,manyF] at hm
 obtain ⟨y,hy⟩:∃y,y=min x.toNat 513:=⟨_,rfl⟩
 have hy2:min (max x 0) 513=((y:Nat):Int):=by omega
 have hyl:y≤513:=by omega
 have hny:n * y≤512 * 513:=Nat.mul_le_mul hn hyl
 have em:((n:Int) * (y:Nat))=((n * y:Nat):Int):=by simp
 obtain ⟨p,hp⟩:∃p,p=n * y:=⟨_,rfl⟩
 have e1:min x.toNat (512+1)=y:=hy.symm
 rw [e1,←hp] at hm
 rw [←hp] at em hny
 have w1:IntKind.i64.wrap (513:Int)=513:=wrap_i64 (by omega) (by omega)
 by_cases t:512 < p
 ·have t':(512:Int) < (p:Nat):=by omega
  rw [if_pos t] at hm
  simp (disch:=omega) [g1,g8,g5,hc,hlm,hv4.idx,iE_cell hv4 hx,hy2,em,wrap_i64,t,t',w1,hm]
  exact k4
 ·have t':¬(512:Int) < (p:Nat):=by omega
  rw [if_neg t] at hm
  simp (disch:=omega) [g1,g8,g5,hc,hlm,hv4.idx,iE_cell hv4 hx,hy2,em,wrap_i64,t,t',w1]
  exact ⟨⟨p,rfl,by omega,hm⟩,k4⟩
end Go.Proofs.YtcoeknnghfajnaaGreat
end
section
namespace Go.Proofs.YtcoeknnghfajnaaGreat
open Go Go.W Go.Tk
theorem propF_one (vars:List Int) (f:Fa):propF vars [f]=inR vars f:=by
 unfold propF allR prAt
 simp [List.range_succ]
theorem chB_at {b:ByteArray} {k:Nat} {c:UInt8} (h:b[k]? = some c):chB b k=(decide (32≤c.toNat) && decide (c.toNat≤126)):=by
 unfold chB; rw [h]; rfl
set_option maxHeartbeats 1000000 in
theorem operator_spec {w:World} (vv:Value) (vars:List Int) (o:Oq) (hv:Vw w vv iE vars) (ho:OqR w o)
  (hn:o.name.size≤9223372036854775807) (hp:o.pre.length≤9223372036854775807) (he:o.effs.length≤9223372036854775807) (hc:∀e ∈ o.effs,e.cnd.length≤9223372036854775807) :
  Calls Tryz.prog 64 [vv,oqV o].toArray w fun e w'=>∃x,e=.returned x∧x=.bool (opB vars o)∧Kp [] w w':=by
 refine enter Tryz.func64 mixed low64 (Nat.le_of_ble_eq_true rfl) ?_
 simp only [L64]
 have h0:At w [] Emp w:=At.start rfl
 have h1:At w [] (Star (ObjA w.heap.size (oqO o)) Emp) _:=h0.alloc (oqO o) Lcl.emp
 obtain ⟨b,hb⟩:∃b,b=w.heap.size:=⟨_,rfl⟩
 rw [←hb] at h1
 have hLB:Lcl (Star (ObjA b (oqO o)) Emp):=.star .obj .emp
 obtain ⟨w1,hw1⟩:∃w1,w1=w.alloc (oqO o):=⟨_,rfl⟩
 rw [←hw1] at h1
 have hw1':w.alloc (.cells #[.string o.name,.int .i64 o.cost,o.pv.1,o.ev.1] 66 (0,0))=w1:=by rw [hw1]; rfl
 have hob:=h1.obj
 unfold oqO at hob
 have hv1:=hv.kp0 h1.kp
 have ho1:=ho.kp h1.kp
 have k1:=h1.kp
 by_cases t1:o.cost < 0
 ·have e:opB vars o=false:=by simp [opB]; omega
  simp [oqV,←hb,hw1',cell_blk hob,t1,e]
  exact k1
 by_cases t2:1048576 < o.cost
 ·have e:opB vars o=false:=by simp [opB]; omega
  simp [oqV,←hb,hw1',cell_blk hob,t1,t2,e]
  exact k1
 by_cases t3:64 < o.effs.length
 ·have t3':(64:Int) < (o.effs.length:Nat):=by omega
  have e:opB vars o=false:=by simp [opB]; omega
  simp [oqV,←hb,hw1',cell_blk hob,t1,t2,ho1.effs.len,t3,t3',e]
  exact k1
 have t3':¬(64:Int) < (o.effs.length:Nat):=by omega
 by_cases t4:256 < o.name.size
 ·have t4':(256:Int) < (o.name.size:Nat):=by omega
  have e:opB vars o=false:=by simp [opB,nameB]; omega
  simp [oqV,←hb,hw1',cell_blk hob,t1,t2,ho1.effs.len,t3,t3',t4,t4',e]
  exact k1
 have t4':¬(256:Int) < (o.name.size:Nat):=by omega
 simp [oqV,←hb,hw1',cell_blk hob,t1,t2,ho1.effs.len,t3,t3',t4,t4']
 refine cl_of (proper_spec vv o.pv.1 vars o.pre hv1 ho1.pre hp) ?_
 rintro _ w2 ⟨rfl,k2⟩
 have h2:=h1.kp0 hLB k2
 cases t5:propF vars o.pre with
 | false =>
  have e:opB vars o=false:=by simp [opB,t5]
  simp [e]
  exact h2.kp
 | true =>
 have hob2:=h2.obj
 unfold oqO at hob2
 simp [cell_blk hob2]
 refine range_loop (n:=o.name.size) (by omega) (fun k ρ w'=>ρ 0=vv∧ρ 3=.pointer (some ⟨b,0,none⟩)∧(∀j,j < k→chB o.name j=true)∧w'=w2) (by simp) (by simp)
  ⟨by simp,by simp,by omega,rfl⟩ (by decide) (fun _ _ _ _ h=>by simpa using h) (fun _ _ _ _ h=>by simpa using h) ?_ ?_
 ·rintro k ρ w4 hk hcc hlm ⟨g0,g3,hall,rfl⟩
  obtain ⟨c,hc1⟩:∃c,o.name[k]? = some c:=⟨_,getElem?_pos o.name k hk⟩
  have ech:=chB_at hc1
  have bad:(decide (32≤c.toNat) && decide (c.toNat≤126))=false→opB vars o=false:=fun h=>by
   have:nameB o.name=false:=by unfold nameB; rw [allR_false hk (ech.trans h)]; simp
   simp [opB,this]
  by_cases s1:c.toNat < 32
  ·have s1':((c.toNat:Nat):Int) < 32:=by omega
   have e:=bad (by simp; omega)
   simp [g0,g3,hcc,hlm,cell_blk hob2,hc1,s1,s1',e]
   exact h2.kp
  have s1':¬((c.toNat:Nat):Int) < 32:=by omega
  by_cases s2:126 < c.toNat
  ·have s2':(126:Int) < ((c.toNat:Nat):Int):=by omega
   have e:=bad (by simp; omega)
   simp [g0,g3,hcc,hlm,cell_blk hob2,hc1,s1,s1',s2,s2',e]
   exact h2.kp
  have s2':¬(126:Int) < ((c.toNat:Nat):Int):=by omega
  simp [g0,g3,hcc,hlm,cell_blk hob2,hc1,s1,s1',s2,s2']
  intro j hj
  rcases (show j < k∨j=k by omega) with h | h
  ·exact hall j h
  ·subst h; rw [ech]; simp; omega
 rintro ρ w4 ⟨g0,g3,hall,rfl⟩
 have hname:nameB o.name=true:=by unfold nameB; rw [allR_true hall]; simp; omega
 have ho2:=ho1.kp k2
 simp [g3,cell_blk hob2,ho2.effs.len]
 refine range_loop (n:=o.effs.length) (by omega) (fun k ρ w'=>ρ 0=vv∧ρ 55=o.ev.1∧(∀j e,j < k→o.effs[j]? = some e→effB vars e=true)∧Kp [] w4 w') (by simp) (by simp)
  ⟨by simp [g0],by simp,by omega,Kp.refl _ _⟩ (by decide) (fun _ _ _ _ h=>by simpa using h) (fun _ _ _ _ h=>by simpa using h) ?_ ?_
 rotate_left
 ·rintro ρ w5 ⟨g0,g55,hall2,k5⟩
  have e:opB vars o=true:=by
   have:o.effs.all (effB vars)=true:=by
    rw [List.all_eq_true]
    intro e he2
    obtain ⟨j,hj,rfl⟩:=List.getElem_of_mem he2
    exact hall2 j _ hj (List.getElem?_eq_getElem hj)
   simp only [opB,this,hname,t5,Bool.and_true,Bool.and_eq_true,decide_eq_true_eq]
   omega
  simp [e]
  exact h2.kp.trans0 k5
 rintro k ρ w5 hk hcc hlm ⟨g0,g55,hall2,k5⟩
 obtain ⟨e,hek⟩:∃e,o.effs[k]? = some e:=⟨_,List.getElem?_eq_getElem hk⟩
 have hem:=List.mem_of_getElem? hek
 have ho5:=ho2.kp k5
 have hv5:=(hv1.kp0 k2).kp0 k5
 have ec:=ho5.effs.cells efE_len hek
 simp only [efE] at ec
 obtain ⟨eb,heb⟩:∃eb,eb=w5.heap.size:=⟨_,rfl⟩
 have bad:effB vars e=false→opB vars o=false:=fun h=>by
  have:o.effs.all (effB vars)=false:=all_false hem h
  simp [opB,this]
 refine seq_cut (fun ρ w'=>ρ 0=vv∧ρ 55=o.ev.1∧ρ 56=.int .i64 (o.effs.length:Nat)∧ρ 57=.int .i64 (k:Nat)∧ρ 7=.pointer (some ⟨eb,0,none⟩)∧At w5 [] (Star (ObjA eb (efO e)) Emp) w') ?_ ?_
 ·simp (disch:=omega) [g55,hcc,hlm,ho5.effs.idx,ec,←heb]
  refine st_ef (e:=e) .emp (At.start rfl:At w5 [] Emp w5) heb fun w6 h6=>?_
  simp [g0,g55,hcc,hlm,←heb]
  exact h6
 clear g0 g55 hcc hlm
 rintro ρ w6 ⟨g0,g55,g56,g57,g7,h6⟩
 have hoe:=h6.obj
 unfold efO at hoe
 simp [g0,g7,cell_blk hoe]
 refine cl_of (proper_spec vv e.wv.1 vars e.cnd (hv5.kp0 h6.kp) ((ho5.kp h6.kp).cnd e hem) (hc e hem)) ?_
 rintro _ w7 ⟨rfl,k7⟩
 have h7:=h6.kp0 (.star .obj .emp) k7
 cases s1:propF vars e.cnd with
 | false =>
  have e:=bad (by simp [effB,s1])
  simp [e]
  exact (h2.kp.trans0 k5).trans0 h7.kp
 | true =>
 have hoe7:=h7.obj
 unfold efO at hoe7
 simp [g0,g7,cell_blk hoe7,rowOf]
 have h8:=h7.lit (xs:=[((e.v,e.x):Fa)]) (enc:=faE) (E:=85) (sz:=2) (cs:=#[.int .i64 e.v,.int .i64 e.x]) (m:=1) (.star .obj .emp) (by simp [faE]) faE_len (by simp [maxLen]) rfl
 refine cl_of (proper_spec vv _ vars [((e.v,e.x):Fa)] (hv5.kp0 h8.kp) h8.own.vw (by simp)) ?_
 rintro _ w8 ⟨rfl,k8⟩
 rw [propF_one]
 have kk:=((h2.kp.trans0 k5).trans0 h8.kp).trans0 k8
 cases s2:inR vars (e.v,e.x) with
 | false =>
  have e:=bad (by simp [effB,s2])
  simp [e]
  exact kk
 | true =>
 simp [g0,g55,g56,g57]
 refine ⟨fun j e' hj hj'=>?_,(k5.trans0 h8.kp).trans0 k8⟩
 rcases (show j < k∨j=k by omega) with h | h
 ·exact hall2 j e' h hj'
 ·subst h
  rw [hek] at hj'
  cases hj'
  simp [effB,s1,s2]
end Go.Proofs.YtcoeknnghfajnaaGreat
end
