/-
  A part of the proof of this claim's statement (BdWG, SyW1, SyW2, SyW3): plain theorems; no conditions beyond those each names.
-/
import Derived.Test.YtcoeknnghfajnaaGreatPk15
import Derived.Test.YtcoeknnghfajnaaGreatPk13
set_option maxRecDepth 100000
set_option linter.unusedSimpArgs false
set_option linter.unusedVariables false
set_option linter.unusedSectionVars false
section
namespace Go.Proofs.YtcoeknnghfajnaaGreat
open Go Go.W Go.Bd Go.Maps
def tgt (xs:List Int) (v:Int):Int:=xs.getD v.toNat 0
def RenBad1 (n:Nat) (xs L:List Int):Prop:=xs.length≠n∨∃v ∈ L,tgt xs v < 0∨(n:Int)≤tgt xs v
def RenBad2 (xs L:List Int):Prop:=∃i a b,L[i]? = some a∧L[i+1]? = some b∧tgt xs b≤tgt xs a
def RenPost (m n lim:Nat) (xs:List Int) (ns:Ns) (f:Nat) (B:Asr) (w:World) (F:List Nat) (v:Value) (w':World):Prop :=
 ∃L,SupP n ns f L∧((RenBad1 n xs L∧v=bnoV 1∧At w F (Star (MgrA m n lim ns) B) w')∨(¬RenBad1 n xs L∧RenBad2 xs L∧v=bnoV 7∧At w F (Star (MgrA m n lim ns) B) w') ∨
  (¬RenBad1 n xs L∧¬RenBad2 xs L∧∃r ns' M',v=optV r∧ChOk n lim (fun a i=>a (tgt xs i).toNat) ns f r ns' M'∧At w F (Star (MgrA m n lim ns') B) w'))
theorem asc_of {n:Nat} {xs L:List Int} (hL:L.Pairwise (· < ·)) (h1:¬RenBad1 n xs L) (h2:¬RenBad2 xs L):Asc n (fun i=>(i:Int) ∈ L) (fun i=>(tgt xs i).toNat):=by
 have rng:∀v ∈ L,0≤tgt xs v∧tgt xs v < n:=fun v hv=>by
  refine ⟨?_,?_⟩
  ·rcases Decidable.em (tgt xs v < 0) with h | h
   ·exact absurd (.inr ⟨v,hv,.inl h⟩) h1
   ·omega
  ·rcases Decidable.em (tgt xs v < n) with h | h
   ·exact h
   ·exact absurd (.inr ⟨v,hv,.inr (by omega)⟩) h1
 have stp:∀i a b,L[i]? = some a→L[i+1]? = some b→tgt xs a < tgt xs b:=fun i a b ha hb=>by
  rcases Decidable.em (tgt xs a < tgt xs b) with h | h
  ·exact h
  ·exact absurd ⟨i,a,b,ha,hb,by omega⟩ h2
 have far:∀(d i:Nat) (a b:Int),L[i]? = some a→L[i+d+1]? = some b→tgt xs a < tgt xs b:=by
  intro d
  induction d with
  | zero=>intro i a b ha hb; exact stp i a b ha hb
  | succ d ih =>
   intro i a b ha hb
   have hl:=(List.getElem?_eq_some_iff.1 hb).1
   have hc:L[i+d+1]? = some (L[i+d+1]'(by omega)):=List.getElem?_eq_getElem _
   exact Int.lt_trans (ih i a _ ha hc) (stp (i+d+1) _ b hc (by rw [show i+d+1+1=i+(d+1)+1 by omega]; exact hb))
 refine ⟨fun u hu=>by have:=rng _ hu; show (tgt xs u).toNat < n; omega,fun u v hu hv huv=>?_⟩
 obtain ⟨i,hi⟩:=List.getElem?_of_mem hu
 obtain ⟨j,hj⟩:=List.getElem?_of_mem hv
 have hij:i < j:=by
  rcases Nat.lt_trichotomy i j with h | h | h
  ·exact h
  ·subst h; rw [hi] at hj; have:=Option.some.inj hj; omega
  ·exfalso
   obtain ⟨hil,hiv⟩:=List.getElem?_eq_some_iff.1 hi
   obtain ⟨hjl,hjv⟩:=List.getElem?_eq_some_iff.1 hj
   have:=List.pairwise_iff_getElem.1 hL j i hjl hil h
   rw [hiv,hjv] at this
   omega
 have:=far (j - i - 1) i _ _ hi (by rw [show i+(j - i - 1)+1=j by omega]; exact hj)
 have:=rng _ hu; have:=rng _ hv
 show (tgt xs u).toNat < (tgt xs v).toNat
 omega
set_option maxHeartbeats 1000000 in
theorem rename_spec {w w1:World} {F:List Nat} {B:Asr} (m n lim:Nat) (ns:Ns) (f:Nat) (tov:Value) (xs:List Int) (hB:Lcl B) (hA:At w F (Star (MgrA m n lim ns) B) w1) (hw:Wf n ns) (hb:Bnd n lim ns) (hf:Ref ns f)
  (hR:∀w' F',B w' F'→Vw w' tov iv xs) (hx:xs.length≤1000000) :
  Calls Tryz.prog 44 [.pointer (some ⟨m,0,none⟩),.int .i64 (f:Nat),tov].toArray w1 fun e w'=>∃x,e=.returned x∧RenPost m n lim xs ns f B w F x w':=by
 have hbn:=hb.hn
 have hbl:=hb.hl
 have hbs:=hb.hs
 refine enter Tryz.func44 mixed low44 (Nat.le_of_ble_eq_true rfl) ?_
 simp only [L44]
 have hl:Lcl (Star (MgrA m n lim ns) B):=Lcl.mgr.star hB
 have vw:∀{w'},At w F (Star (MgrA m n lim ns) B) w'→Vw w' tov iv xs:=fun h=>by
  obtain ⟨_,hq,_⟩:=h.drop.ex
  exact hR _ _ hq
 simp
 refine cl_of (support_spec m n lim ns f hB hA hw hb hf) ?_
 rintro _ w2 ⟨v,L,rfl,hS,h2⟩
 have hLo:Lcl (Star (OwnA v 3 1 iv L) (Star (MgrA m n lim ns) B)):=Lcl.own.star hl
 have hmem:∀x ∈ L,0≤x∧x < n:=fun x hx=>by
  obtain ⟨y,hy,rfl⟩:=(hS.2 x).1 hx
  have:=hw.tv_var hy.ge (hy.ref hw hf)
  omega
 have hLlen:L.length≤1000000:=by
  have hnd:(L.map Int.toNat).Nodup:=by
   rw [List.nodup_iff_pairwise_ne,List.pairwise_map]
   refine List.Pairwise.imp_of_mem ?_ hS.1
   intro a b ha hb hab
   have:=hmem a ha; have:=hmem b hb
   omega
  have:=nodup_len _ (List.range n) hnd (fun x hx=>by
   obtain ⟨y,hy,rfl⟩:=List.mem_map.1 hx
   have:=hmem y hy
   exact List.mem_range.2 (by omega))
  simp at this; omega
 obtain ⟨nv,b,ho,_,_⟩:=MgrA.rd h2.drop
 unfold mgrO at ho
 simp [(vw h2.drop).len,cell_blk ho]
 by_cases hlen:xs.length=n
 case neg =>
  have:((xs.length:Int) != n)=true:=by simp; omega
  simp [this]
  exact ⟨L,hS,.inl ⟨.inl hlen,rfl,h2.drop⟩⟩
 have:((xs.length:Int) != n)=false:=by simp; omega
 simp [this,h2.own.vw.len]
 refine range_loop (n:=L.length) (by omega) (fun k ρ w'=>ρ 0=.pointer (some ⟨m,0,none⟩)∧ρ 1=.int .i64 (f:Nat)∧ρ 2=tov∧ρ 8=v∧ρ 30=v∧(∀j x,j < k→L[j]? = some x→0≤tgt xs x∧tgt xs x < n) ∧
   At w F (Star (OwnA v 3 1 iv L) (Star (MgrA m n lim ns) B)) w') (by simp) (by simp)
  ⟨by simp,by simp,by simp,by simp,by simp,by simp,h2⟩ (by decide) (fun _ _ _ _ h=>by simpa using h) (fun _ _ _ _ h=>by simpa using h) ?_ ?_
 ·rintro k ρ w3 hk hc hlim ⟨g0,g1,g2,g8,g30,hall,h3⟩
  have ek:L[k]? = some L[k]:=List.getElem?_eq_getElem hk
  obtain ⟨x,hxe⟩:∃x,x=L[k]:=⟨_,rfl⟩
  rw [←hxe] at ek
  obtain ⟨x0,x1⟩:=hmem x (List.mem_of_getElem? ek)
  have hs:=h3.own.vw
  have ht:=vw h3.drop
  obtain ⟨nv,b,ho,_,_⟩:=MgrA.rd h3.drop
  unfold mgrO at ho
  have hxl:x.toNat < xs.length:=by omega
  have ex:xs[x.toNat]? = some (tgt xs x):=by simp [tgt,List.getD,List.getElem?_eq_getElem hxl]
  have h4:=h3.drew hLo
  simp (disch:=omega) [g0,g2,g30,hc,hs.idx,iv_cell hs ek,ht.idx,iv_cell ht ex,cell_blk ho]
  by_cases c1:tgt xs x < 0
  ·simp [c1]
   exact ⟨L,hS,.inl ⟨.inr ⟨x,List.mem_of_getElem? ek,.inl c1⟩,rfl,h4.drop⟩⟩
  by_cases c2:(n:Int)≤tgt xs x
  ·simp (disch:=omega) [c1,c2,g0,g2,ht.idx,iv_cell ht ex,cell_blk ho]
   exact ⟨L,hS,.inl ⟨.inr ⟨x,List.mem_of_getElem? ek,.inr c2⟩,rfl,h4.drop⟩⟩
  ·simp (disch:=omega) [c1,c2,ht.idx,iv_cell ht ex,cell_blk ho,g0,g1,g2,g8,g30,hc,hlim]
   refine ⟨fun j y hj hy=>?_,h4⟩
   rcases Nat.lt_or_ge j k with h5 | h5
   ·exact hall j y h5 hy
   ·have:j=k:=by omega
    subst this
    rw [ek] at hy
    rw [←Option.some.inj hy]; omega
 rintro ρ w3 ⟨g0,g1,g2,g8,g30,hall,h3⟩
 have nb1:¬RenBad1 n xs L:=by
  rintro (h | ⟨v,hv,h⟩)
  ·exact h hlen
  ·obtain ⟨j,hj⟩:=List.getElem?_of_mem hv
   have:=hall j v (List.getElem?_eq_some_iff.1 hj).1 hj
   omega
 simp
 refine loop_inv (fun q ρ w'=>∃k,q=L.length - k∧1≤k∧k≤L.length+1∧ρ 12=.int .i64 (k:Nat)∧ρ 0=.pointer (some ⟨m,0,none⟩)∧ρ 1=.int .i64 (f:Nat)∧ρ 2=tov∧ρ 8=v∧(∀i a b,i+1 < k→L[i]? = some a→L[i+1]? = some b→tgt xs a < tgt xs b) ∧
   At w F (Star (OwnA v 3 1 iv L) (Star (MgrA m n lim ns) B)) w') (L.length - 1)
  ⟨1,rfl,Nat.le_refl _,by omega,by simp,by simp [g0],by simp [g1],by simp [g2],by simp [g8],by omega,h3⟩ ?_
 rintro q ρ w4 ⟨k,rfl,hk1,hkl,c12,g0,g1,g2,g8,hstp,h4⟩
 have hs:=h4.own.vw
 by_cases hk:k < L.length
 ·have hk':(k:Int) < L.length:=by omega
  have ek:L[k]? = some L[k]:=List.getElem?_eq_getElem hk
  have ej:L[k - 1]? = some (L[k - 1]'(by omega)):=List.getElem?_eq_getElem _
  obtain ⟨x,hxe⟩:∃x,x=L[k]:=⟨_,rfl⟩
  obtain ⟨y,hye⟩:∃y,y=L[k - 1]'(by omega):=⟨_,rfl⟩
  rw [←hxe] at ek
  rw [←hye] at ej
  obtain ⟨x0,x1⟩:=hmem x (List.mem_of_getElem? ek)
  obtain ⟨y0,y1⟩:=hmem y (List.mem_of_getElem? ej)
  have ht:=vw h4.drop
  have ex:xs[x.toNat]? = some (tgt xs x):=by simp [tgt,List.getD,List.getElem?_eq_getElem (show x.toNat < xs.length by omega)]
  have ey:xs[y.toNat]? = some (tgt xs y):=by simp [tgt,List.getD,List.getElem?_eq_getElem (show y.toNat < xs.length by omega)]
  have ekm:(k:Int) - 1=((k - 1:Nat):Int):=by omega
  have h5:=h4.drew hLo
  simp (disch:=omega) [c12,g2,g8,hs.len,hk',wrap_i64,ekm]
  simp (disch:=omega) [c12,g2,g8,hs.len,hk',wrap_i64,hs.idx,iv_cell hs ej,iv_cell hs ek,ht.idx,iv_cell ht ex,iv_cell ht ey]
  by_cases c1:tgt xs x≤tgt xs y
  ·simp [c1]
   exact ⟨L,hS,.inr (.inl ⟨nb1,⟨k - 1,y,x,ej,by rw [show k - 1+1=k by omega]; exact ek,c1⟩,rfl,h5.drop⟩)⟩
  ·simp (disch:=omega) [c1,c12,wrap_i64]
   refine ⟨L.length - (k+1),by omega,k+1,rfl,by omega,by omega,by simp,g0,g1,g2,g8,fun i a b hi ha hb=>?_,h5⟩
   rcases Nat.lt_or_ge (i+1) k with h6 | h6
   ·exact hstp i a b h6 ha hb
   ·have:i=k - 1:=by omega
    subst this
    rw [ej] at ha
    rw [show k - 1+1=k by omega,ek] at hb
    rw [←Option.some.inj ha,←Option.some.inj hb]; omega
 ·have hk':¬(k:Int) < L.length:=by omega
  have nb2:¬RenBad2 xs L:=by
   rintro ⟨i,a,b,ha,hb,h⟩
   have hl:=(List.getElem?_eq_some_iff.1 hb).1
   have:=hstp i a b (by omega) ha hb
   omega
  have hasc:=asc_of hS.1 nb1 nb2
  simp [c12,g8,hs.len,hk',g1]
  by_cases hf2:f < 2
  ·have hf2':(f:Int) < 2:=by omega
   simp [hf2',g1]
   exact ⟨L,hS,.inr (.inr ⟨nb1,nb2,some f,ns,[],rfl,c_const hw hbs (fun q hq=>by cases hq) hf hf2,h4.drop⟩)⟩
  ·have hf2':¬(f:Int) < 2:=by omega
   have ht:=vw h4.drop
   have hn0:0 < n:=by have:=hw.tv_var (show 2≤f by omega) hf; omega
   have htov:∃a k c,tov=.slice (some a) k c:=by
    rcases ht with ⟨_,h1⟩ | ⟨a,cap,h1,_⟩
    ·rw [h1] at hlen; simp at hlen; omega
    ·exact ⟨a,_,_,h1⟩
   have hto:∀i:Nat,(i:Int) ∈ L→xs[i]? = some (((tgt xs i).toNat:Nat):Int):=fun i hi=>by
    have h6:=hmem _ hi
    have h7:¬(tgt xs i < 0):=fun h=>nb1 (.inr ⟨_,hi,.inl h⟩)
    have e1:tgt xs i=xs.getD i 0:=by simp [tgt]
    rw [show (((tgt xs i).toNat:Nat):Int)=tgt xs i by omega,e1]
    simp [List.getD,List.getElem?_eq_getElem (show i < xs.length by omega)]
   simp [hf2',g0,g1,g2]
   have h6:=(h4.drop.newmap (ek:=natV) (ev:=natV) (ok:=i64ok) hl).rot
   refine cl_of (change_ren m n lim w4.heap.size 0 0 tov xs (fun i=>(i:Int) ∈ L) (fun i=>(tgt xs i).toNat) htov hto hasc w F f f ns [] B _ hB hw hb hf (Nat.le_refl _) (fun q hq=>by cases hq) (fun y hy=>(hS.2 _).2 ⟨y,hy,rfl⟩) hR h6) ?_
   rintro _ w5 ⟨r,ns',M',rfl,hc,h7⟩
   cases r with
   | none=>simp [optV,bnoV,berrV]; exact ⟨L,hS,.inr (.inr ⟨nb1,nb2,none,ns',M',rfl,hc,h7.by (Imp.un Imp.dr)⟩)⟩
   | some x=>simp [optV,okV]; exact ⟨L,hS,.inr (.inr ⟨nb1,nb2,some x,ns',M',rfl,hc,h7.by (Imp.un Imp.dr)⟩)⟩
end Go.Proofs.YtcoeknnghfajnaaGreat
end
section
namespace Go.Proofs.YtcoeknnghfajnaaGreat
open Go Go.W Go.Tk Go.Rx Go.Bd Go.Sy Go.Maps
def eB (b:Bool):Value:=if b=true then berrV 10 else .nilIface
structure Stp (n lim:Nat) (W:((Nat→Bool)→Bool)→Prop) (e:Bool) (ns:Ns) (e':Bool) (ns':Ns):Prop where
 ext:Ext n ns ns'
 lm:ns'.length≤lim
 new:∀z,ns.length+2≤z→z < ns'.length+2→∃G,W G∧IsC G fun b=>eval ns' b z
 bad:e=true→e'=true∧ns'=ns
 full:e=false→e'=true→lim≤ns'.length
section
variable {n lim:Nat} {W W':((Nat→Bool)→Bool)→Prop} {e e1 e2:Bool} {ns ns1 ns2:Ns}
theorem Stp.refl (hw:Wf n ns) (hl:ns.length≤lim):Stp n lim W e ns e ns:=⟨Ext.refl hw,hl,fun z h1 h2=>by omega,fun h=>⟨h,rfl⟩,fun h h2=>by rw [h] at h2; cases h2⟩
theorem Stp.trans (h1:Stp n lim W e ns e1 ns1) (h2:Stp n lim W e1 ns1 e2 ns2):Stp n lim W e ns e2 ns2:=by
 refine ⟨h1.ext.trans h2.ext,h2.lm,fun z a b=>?_,fun h=>?_,fun h h3=>?_⟩
 ·by_cases hz:z < ns1.length+2
  ·obtain ⟨G,g1,g2⟩:=h1.new z a hz
   exact ⟨G,g1,g2.congr (fun _=>rfl) fun b=>(h2.ext.eval h1.ext.wf b hz).symm⟩
  ·exact h2.new z (by omega) b
 ·obtain ⟨a1,a2⟩:=h1.bad h
  obtain ⟨b1,b2⟩:=h2.bad a1
  exact ⟨b1,by rw [b2,a2]⟩
 ·cases he:e1 with
  | true =>
   have:=h1.full h he
   have:=(h2.bad he).2
   rw [this]
   omega
  | false=>exact h2.full he h3
theorem Stp.mono (h:Stp n lim W e ns e1 ns1) (hw:∀G,W G→W' G):Stp n lim W' e ns e1 ns1 :=
 ⟨h.ext,h.lm,fun z a b=>by
  obtain ⟨G,g1,g2⟩:=h.new z a b
  exact ⟨G,hw G g1,g2⟩,h.bad,h.full⟩
end
def Mn (ns:Ns) (e:Bool) (x:Nat) (F:(Nat→Bool)→Bool):Prop:=x≤2000000∧(e=false→Ref ns x∧∀a,eval ns a x=F a)
theorem Mn.ext {n:Nat} {ns ns':Ns} {x:Nat} {F:(Nat→Bool)→Bool} (h:Mn ns false x F) (hw:Wf n ns) (hx:Ext n ns ns'):Ref ns' x∧∀a,eval ns' a x=F a:=by
 obtain ⟨h1,h2⟩:=h.2 rfl
 exact ⟨hx.ref h1,fun a=>by rw [hx.eval hw a h1,h2]⟩
structure SpC where
 t0:Value
 t1:Value
 t2:Value
 t3:Value
 fv:Value
 wv:Value
 all:Nat
 km:Nat
 sm:Nat
def spO (m:Nat) (vars:List Nat) (q:SpC):Obj:=.cells #[q.t0,q.t1,q.t2,q.t3,.pointer (some ⟨m,0,none⟩),q.fv,q.wv,.int .i64 (nBits vars:Nat),.int .i64 (q.all:Nat),.map (some q.km),.map (some q.sm)] 76 (0,0)
def blO (s:Nat) (e:Bool):Obj:=.cells #[.pointer (some ⟨s,0,none⟩),eB e] 81 (0,0)
def firstL (vars:List Nat):List Nat:=(List.range vars.length).map (bP vars)
def widthL (vars:List Nat):List Nat:=vars.map wd
def BlA (b s m lim:Nat) (vars:List Nat) (q:SpC) (e:Bool) (ns:Ns) (B:Asr):Asr:=Star (MgrA m (2 * nBits vars) lim ns) (Star (ObjA b (blO s e)) (Star (ObjA s (spO m vars q)) (Star (OwnA q.fv 3 1 nE (firstL vars)) (Star (OwnA q.wv 3 1 nE (widthL vars)) B))))
theorem BlA.rest {b s m:Nat} {vars:List Nat} {q:SpC} {e:Bool} {B:Asr} (hB:Lcl B):Lcl (Star (ObjA b (blO s e)) (Star (ObjA s (spO m vars q)) (Star (OwnA q.fv 3 1 nE (firstL vars)) (Star (OwnA q.wv 3 1 nE (widthL vars)) B)))):=Lcl.obj.star (Lcl.obj.star (Lcl.own.star (Lcl.own.star hB)))
theorem BlA.lcl {b s m lim:Nat} {vars:List Nat} {q:SpC} {e:Bool} {ns:Ns} {B:Asr} (hB:Lcl B):Lcl (BlA b s m lim vars q e ns B):=Lcl.mgr.star (BlA.rest hB)
structure SpOk (vars:List Nat) (lim:Nat) (ns:Ns):Prop where
 bt:nBits vars≤100
 v64:∀n ∈ vars,1≤n∧n≤64
 len:vars.length≤64
 wf:Wf (2 * nBits vars) ns
 lim1:1≤lim
 lmx:lim≤1048576
 nl:ns.length≤lim
theorem SpOk.bnd {vars:List Nat} {lim:Nat} {ns:Ns} (h:SpOk vars lim ns):Bnd (2 * nBits vars) lim ns:=⟨by have:=h.bt; omega,h.lmx,h.nl⟩
theorem SpOk.stp {vars:List Nat} {lim:Nat} {W:((Nat→Bool)→Bool)→Prop} {ns ns':Ns} {e e':Bool} (h:SpOk vars lim ns) (hs:Stp (2 * nBits vars) lim W e ns e' ns'):SpOk vars lim ns':=⟨h.bt,h.v64,h.len,hs.ext.wf,h.lim1,h.lmx,hs.lm⟩
def BPost (b s m lim:Nat) (vars:List Nat) (q:SpC) (e:Bool) (ns:Ns) (B:Asr) (w:World) (F:List Nat) (W:((Nat→Bool)→Bool)→Prop) (G:(Nat→Bool)→Bool) (v:Value) (w':World):Prop :=
 ∃x e' ns',v=.int .i64 (x:Nat)∧Stp (2 * nBits vars) lim W e ns e' ns'∧Mn ns' e' x G∧At w F (BlA b s m lim vars q e' ns' B) w'
section
variable {w w1:World} {F:List Nat} {B:Asr} {b s m lim:Nat} {vars:List Nat} {q:SpC} {e:Bool} {ns:Ns} {W:((Nat→Bool)→Bool)→Prop}
theorem keep_spec (x:Nat) (r:Bool) (hB:Lcl B) (h:At w F (BlA b s m lim vars q false ns B) w1) :
  Calls Tryz.prog 71 [.pointer (some ⟨b,0,none⟩),.int .i64 (x:Nat),eB r].toArray w1 fun en w'=>∃v,en=.returned v∧v=.int .i64 ((if r=true then 0 else x:Nat):Nat)∧At w F (BlA b s m lim vars q r ns B) w':=by
 refine enter Tryz.func71 mixed low71 (Nat.le_of_ble_eq_true rfl) ?_
 simp only [L71]
 unfold BlA at h
 have h1:=h.by Imp.sw
 have ob:=h1.obj
 unfold blO eB at ob
 simp at ob
 cases r with
 | false =>
  simp [eB,cell_blk ob]
  have hL2:Lcl (Star (MgrA m (2 * nBits vars) lim ns) (Star (ObjA s (spO m vars q)) (Star (OwnA q.fv 3 1 nE (firstL vars)) (Star (OwnA q.wv 3 1 nE (widthL vars)) B)))):=Lcl.mgr.star (Lcl.obj.star (Lcl.own.star (Lcl.own.star hB)))
  unfold blO eB at h1
  refine h1.st hL2 (by simp) (by simp) fun w2 h2=>?_
  have ob2:=h2.obj
  simp at ob2
  simp [cell_blk ob2]
  unfold BlA blO eB
  exact (by simpa using h2:At w F _ w2).by Imp.sw
 | true =>
  simp [eB,berrV,cell_blk ob]
  have hL2:Lcl (Star (MgrA m (2 * nBits vars) lim ns) (Star (ObjA s (spO m vars q)) (Star (OwnA q.fv 3 1 nE (firstL vars)) (Star (OwnA q.wv 3 1 nE (widthL vars)) B)))):=Lcl.mgr.star (Lcl.obj.star (Lcl.own.star (Lcl.own.star hB)))
  unfold blO eB at h1
  refine h1.st hL2 (by simp) (by simp) fun w2 h2=>?_
  have ob2:=h2.obj
  simp at ob2
  simp [cell_blk ob2]
  unfold BlA blO eB berrV
  exact (by simpa using h2:At w F _ w2).by Imp.sw
theorem op_end {G:(Nat→Bool)→Bool} {r:Option Nat} {ns':Ns} {op:Nat} {f g:Nat} {S:Nat→Nat→Prop} (hk:SpOk vars lim ns) (hb:BinOk (2 * nBits vars) lim op S ns f g r ns') (hS:∀x y,S x y→PS (2 * nBits vars) ns f g x y) (hG:∀a,opB op (eval ns a f) (eval ns a g)=G a) (hW:W G) :
  Stp (2 * nBits vars) lim W false ns r.isNone ns'∧Mn ns' r.isNone (r.getD 0) G:=by
 refine ⟨⟨hb.ext,hb.lim,fun z h1 h2=>⟨G,hW,(hb.new hk.wf hS z h1 h2).congr hG fun _=>rfl⟩,fun h=>(by cases h),fun _ h=>hb.hit (by cases r <;> simp_all)⟩,?_,fun h=>?_⟩
 ·cases r with
  | none=>exact Nat.zero_le _
  | some x =>
   have h5:=(hb.ok x rfl).1
   have h6:=hb.lim
   have h7:=hk.lmx
   unfold Ref at h5
   show x≤2000000
   omega
 ·cases r with
  | none=>cases h
  | some x =>
   obtain ⟨a1,a2⟩:=hb.ok x rfl
   exact ⟨a1,fun a=>by rw [←hG a]; exact a2 a⟩
theorem optV_parts (r:Option Nat):optV r=.tuple #[.int .i64 ((r.getD 0:Nat):Int),eB r.isNone]:=by
 cases r with
 | none=>simp [optV,bnoV,eB]
 | some x=>simp [optV,okV,eB]
theorem bAnd_spec (f g:Nat) (P Q:(Nat→Bool)→Bool) (hk:SpOk vars lim ns) (hB:Lcl B) (h:At w F (BlA b s m lim vars q e ns B) w1) (hf:Mn ns e f P) (hg:Mn ns e g Q) (hW:W fun a=>P a && Q a) :
  Calls Tryz.prog 33 [.pointer (some ⟨b,0,none⟩),.int .i64 (f:Nat),.int .i64 (g:Nat)].toArray w1 fun en w'=>∃v,en=.returned v∧BPost b s m lim vars q e ns B w F W (fun a=>P a && Q a) v w':=by
 refine enter Tryz.func33 mixed low33 (Nat.le_of_ble_eq_true rfl) ?_
 simp only [L33]
 have h':=h
 unfold BlA at h'
 have ob:=h'.drop.obj
 have os:=h'.drop.drop.obj
 unfold blO at ob
 unfold spO at os
 cases e with
 | true =>
  simp [eB,berrV] at ob
  simp [cell_blk ob]
  exact ⟨0,true,ns,rfl,Stp.refl hk.wf hk.nl,⟨Nat.zero_le _,fun h=>by cases h⟩,h⟩
 | false =>
  simp [eB] at ob
  obtain ⟨rf,ef⟩:=hf.2 rfl
  obtain ⟨rg,eg⟩:=hg.2 rfl
  obtain ⟨p1,p2⟩:=ps_clo hk.wf 0 rf rg
  simp [cell_blk ob,cell_blk os]
  refine cl_of (and_of (binary_spec m (2 * nBits vars) lim ns 0 f g _ (by omega) (BlA.rest hB) h' hk.wf hk.bnd rf rg p2 p1) (by rintro v w' ⟨r,_,rfl,_⟩; exact optV_tup r)) ?_
  rintro _ w2 ⟨r,ns',rfl,hbin,h2⟩
  obtain ⟨s1,s2⟩:=op_end (W:=W) (G:=fun a=>P a && Q a) hk hbin (fun _ _ h=>h) (fun a=>by rw [ef,eg]; rfl) hW
  rw [optV_parts]
  simp
  refine cl_of (keep_spec (r.getD 0) r.isNone hB h2) ?_
  rintro _ w3 ⟨rfl,h3⟩
  simp
  refine ⟨_,_,ns',?_,s1,s2,h3⟩
  cases r <;> rfl
theorem bOr_spec (f g:Nat) (P Q:(Nat→Bool)→Bool) (hk:SpOk vars lim ns) (hB:Lcl B) (h:At w F (BlA b s m lim vars q e ns B) w1) (hf:Mn ns e f P) (hg:Mn ns e g Q) (hW:W fun a=>P a || Q a) :
  Calls Tryz.prog 31 [.pointer (some ⟨b,0,none⟩),.int .i64 (f:Nat),.int .i64 (g:Nat)].toArray w1 fun en w'=>∃v,en=.returned v∧BPost b s m lim vars q e ns B w F W (fun a=>P a || Q a) v w':=by
 refine enter Tryz.func31 mixed low31 (Nat.le_of_ble_eq_true rfl) ?_
 simp only [L31]
 have h':=h
 unfold BlA at h'
 have ob:=h'.drop.obj
 have os:=h'.drop.drop.obj
 unfold blO at ob
 unfold spO at os
 cases e with
 | true =>
  simp [eB,berrV] at ob
  simp [cell_blk ob]
  exact ⟨0,true,ns,rfl,Stp.refl hk.wf hk.nl,⟨Nat.zero_le _,fun h=>by cases h⟩,h⟩
 | false =>
  simp [eB] at ob
  obtain ⟨rf,ef⟩:=hf.2 rfl
  obtain ⟨rg,eg⟩:=hg.2 rfl
  obtain ⟨p1,p2⟩:=ps_clo hk.wf 1 rf rg
  simp [cell_blk ob,cell_blk os]
  refine cl_of (or_of (binary_spec m (2 * nBits vars) lim ns 1 f g _ (by omega) (BlA.rest hB) h' hk.wf hk.bnd rf rg p2 p1) (by rintro v w' ⟨r,_,rfl,_⟩; exact optV_tup r)) ?_
  rintro _ w2 ⟨r,ns',rfl,hbin,h2⟩
  obtain ⟨s1,s2⟩:=op_end (W:=W) (G:=fun a=>P a || Q a) hk hbin (fun _ _ h=>h) (fun a=>by rw [ef,eg]; rfl) hW
  rw [optV_parts]
  simp
  refine cl_of (keep_spec (r.getD 0) r.isNone hB h2) ?_
  rintro _ w3 ⟨rfl,h3⟩
  simp
  refine ⟨_,_,ns',?_,s1,s2,h3⟩
  cases r <;> rfl
theorem bNot_spec (f:Nat) (P:(Nat→Bool)→Bool) (hk:SpOk vars lim ns) (hB:Lcl B) (h:At w F (BlA b s m lim vars q e ns B) w1) (hf:Mn ns e f P) (hW:W fun a=>!P a) :
  Calls Tryz.prog 37 [.pointer (some ⟨b,0,none⟩),.int .i64 (f:Nat)].toArray w1 fun en w'=>∃v,en=.returned v∧BPost b s m lim vars q e ns B w F W (fun a=>!P a) v w':=by
 refine enter Tryz.func37 mixed low37 (Nat.le_of_ble_eq_true rfl) ?_
 simp only [L37]
 have h':=h
 unfold BlA at h'
 have ob:=h'.drop.obj
 have os:=h'.drop.drop.obj
 unfold blO at ob
 unfold spO at os
 cases e with
 | true =>
  simp [eB,berrV] at ob
  simp [cell_blk ob]
  exact ⟨0,true,ns,rfl,Stp.refl hk.wf hk.nl,⟨Nat.zero_le _,fun h=>by cases h⟩,h⟩
 | false =>
  simp [eB] at ob
  obtain ⟨rf,ef⟩:=hf.2 rfl
  obtain ⟨p1,p2⟩:=ps_clo hk.wf 2 rf (Ref.one ns)
  simp [cell_blk ob,cell_blk os]
  refine cl_of (not_of (binary_spec m (2 * nBits vars) lim ns 2 f 1 _ (by omega) (BlA.rest hB) h' hk.wf hk.bnd rf (Ref.one ns) p2 p1) (by rintro v w' ⟨r,_,rfl,_⟩; exact optV_tup r)) ?_
  rintro _ w2 ⟨r,ns',rfl,hbin,h2⟩
  obtain ⟨s1,s2⟩:=op_end (W:=W) (G:=fun a=>!P a) hk hbin (fun _ _ h=>h) (fun a=>by rw [ef,eval_one]; cases P a <;> rfl) hW
  rw [optV_parts]
  simp
  refine cl_of (keep_spec (r.getD 0) r.isNone hB h2) ?_
  rintro _ w3 ⟨rfl,h3⟩
  simp
  refine ⟨_,_,ns',?_,s1,s2,h3⟩
  cases r <;> rfl
theorem bBit_spec (i:Nat) (hk:SpOk vars lim ns) (hB:Lcl B) (h:At w F (BlA b s m lim vars q e ns B) w1) (hi:i < 2 * nBits vars) (hW:W fun a=>a i) :
  Calls Tryz.prog 38 [.pointer (some ⟨b,0,none⟩),.int .i64 (i:Nat)].toArray w1 fun en w'=>∃v,en=.returned v∧BPost b s m lim vars q e ns B w F W (fun a=>a i) v w':=by
 refine enter Tryz.func38 mixed low38 (Nat.le_of_ble_eq_true rfl) ?_
 simp only [L38]
 have h':=h
 unfold BlA at h'
 have ob:=h'.drop.obj
 have os:=h'.drop.drop.obj
 unfold blO at ob
 unfold spO at os
 cases e with
 | true =>
  simp [eB,berrV] at ob
  simp [cell_blk ob]
  exact ⟨0,true,ns,rfl,Stp.refl hk.wf hk.nl,⟨Nat.zero_le _,fun h=>by cases h⟩,h⟩
 | false =>
  simp [eB] at ob
  simp [cell_blk ob,cell_blk os]
  refine cl_of (var_spec m (2 * nBits vars) lim ns i (BlA.rest hB) h' hk.bnd hi) ?_
  rintro _ w2 ⟨rfl,h2⟩
  have mk:=mkF_ok (lim:=lim) hk.wf hi (Ref.zero ns) (Ref.one ns) (by rw [tv_lt (by omega)]; exact hi) (by rw [tv_lt (by omega)]; exact hi)
  obtain ⟨r,hr⟩:∃r,r=(mkF lim ns i 0 1).1:=⟨_,rfl⟩
  obtain ⟨ns',hns⟩:∃x,x=(mkF lim ns i 0 1).2:=⟨_,rfl⟩
  have hnw:∀x z,r=some x→ns.length+2≤z→z < ns'.length+2→z=x:=fun x z h0 h1 h2=>by
   rw [hr] at h0
   rw [hns] at h2
   exact mkF_new h0 h1 h2
  rw [←hr,←hns] at mk
  rw [←hns] at h2
  rw [←hr,optV_parts]
  simp
  refine cl_of (keep_spec (r.getD 0) r.isNone hB h2) ?_
  rintro _ w3 ⟨rfl,h3⟩
  simp
  refine ⟨r.getD 0,r.isNone,ns',?_,⟨mk.ext,mk.lim hk.nl,fun z h1 h2=>?_,fun h=>(by cases h),fun _ h=>?_⟩,⟨?_,fun h=>?_⟩,h3⟩
  ·cases r <;> rfl
  ·cases hrr:r with
   | none =>
    have:=(mk.full hrr).2
    rw [this] at h2
    omega
   | some x =>
    have e:=hnw x z hrr h1 h2
    subst e
    obtain ⟨_,_,a2⟩:=mk.ok z hrr
    refine ⟨_,hW,(IsC.refl _).congr (fun _=>rfl) fun a=>?_⟩
    rw [a2,eval_one,eval_zero]
    cases a i <;> rfl
  ·obtain ⟨a1,a2⟩:=mk.full (by cases r <;> simp_all)
   rw [a2]
   exact a1
  ·cases hrr:r with
   | none=>exact Nat.zero_le _
   | some x =>
    have h5:=(mk.ok x hrr).1
    have h6:=mk.lim hk.nl
    have h7:=hk.lmx
    unfold Ref at h5
    show x≤2000000
    omega
  ·cases hrr:r with
   | none=>rw [hrr] at h; cases h
   | some x =>
    obtain ⟨a1,_,a2⟩:=mk.ok x hrr
    refine ⟨a1,fun a=>?_⟩
    show eval ns' a x=a i
    rw [a2,eval_one,eval_zero]
    cases a i <;> rfl
end
end Go.Proofs.YtcoeknnghfajnaaGreat
end
section
namespace Go.Proofs.YtcoeknnghfajnaaGreat
open Go Go.W Go.Tk Go.Rx Go.Bd Go.Sy Go.Maps
theorem firstL_at {vars:List Nat} {v:Nat} (h:v < vars.length):(firstL vars)[v]? = some (bP vars v):=by simp [firstL,h]
theorem widthL_at {vars:List Nat} {v n:Nat} (h:vars[v]? = some n):(widthL vars)[v]? = some (wd n):=by simp [widthL,h]
def vlB (vars:List Nat) (v x nx k:Nat) (a:Nat→Bool):Bool:=(List.range (wd (vars.getD v 0) - k)).all fun j=>decide (a (2 * (bP vars v+(k+j))+nx)=x.testBit (wd (vars.getD v 0) - 1 - (k+j)))
theorem vlB_all {vars:List Nat} {v x nx:Nat} {a:Nat→Bool} (hx:x < 2 ^ wd (vars.getD v 0)):vlB vars v x nx 0 a=decide (rv vars a nx v=x):=by
 rw [Bool.eq_iff_iff,decide_eq_true_iff]
 unfold vlB rv
 rw [←valK_eq _ _ hx,List.all_eq_true]
 constructor
 ·intro h k hk
  have:=h k (List.mem_range.2 (by omega))
  simpa using this
 ·intro h k hk
  have:=h k (by have:=List.mem_range.1 hk; omega)
  simpa using this
theorem vlB_end {vars:List Nat} {v x nx:Nat} {a:Nat→Bool}:vlB vars v x nx (wd (vars.getD v 0)) a=true:=by unfold vlB; simp
theorem vlB_step {vars:List Nat} {v x nx k:Nat} {a:Nat→Bool} (hk:k < wd (vars.getD v 0)):vlB vars v x nx k a=(decide (a (2 * (bP vars v+k)+nx)=x.testBit (wd (vars.getD v 0) - 1 - k)) && vlB vars v x nx (k+1) a):=by
 unfold vlB
 rw [show wd (vars.getD v 0) - k=(wd (vars.getD v 0) - (k+1))+1 by omega,List.range_succ_eq_map,List.all_cons,List.all_map]
 congr 1
 refine congrArg (fun f=>(List.range (wd (vars.getD v 0) - (k+1))).all f) ?_
 funext j
 simp only [Function.comp]
 rw [show k+j.succ=k+1+j by omega]
def LitW (vars:List Nat) (W:((Nat→Bool)→Bool)→Prop):Prop:=∀i,i < 2 * nBits vars→W (fun a=>a i)∧W fun a=>!a i
def VlW (vars:List Nat) (v x nx:Nat) (W:((Nat→Bool)→Bool)→Prop):Prop:=∀j,j < wd (vars.getD v 0)→W (vlB vars v x nx j)
def VlI (b s m lim:Nat) (vars:List Nat) (q:SpC) (e:Bool) (ns:Ns) (B:Asr) (w:World) (F:List Nat) (W:((Nat→Bool)→Bool)→Prop) (v x nx n:Nat) (ρ:Env) (w':World):Prop :=
 ρ 0=.pointer (some ⟨b,0,none⟩)∧ρ 1=.int .i64 (v:Nat)∧ρ 2=.int .i64 (x:Nat)∧ρ 3=.int .i64 (nx:Nat)∧ρ 10=.int .i64 (wd (vars.getD v 0):Nat)∧ρ 11=.int .i64 ((n:Int) - 1)∧n≤wd (vars.getD v 0) ∧
  ∃f e' ns',ρ 9=.int .i64 (f:Nat)∧Stp (2 * nBits vars) lim W e ns e' ns'∧Mn ns' e' f (vlB vars v x nx n)∧At w F (BlA b s m lim vars q e' ns' B) w'
theorem shr_and {x d:Nat} (hx:x < 4294967296) (hd:d < 64):IntKind.i64.wrap (((((x:Int).fdiv (2 ^ min d IntKind.i64.bits)) % 2 ^ IntKind.i64.bits).toNat &&& 1 % 2 ^ IntKind.i64.bits:Nat):Int)=if x.testBit d=true then 1 else 0:=by
 have hb:IntKind.i64.bits=64:=rfl
 have e1:(x:Int).fdiv (2 ^ d)=((x / 2 ^ d:Nat):Int):=by
  have:((2:Int) ^ d)=((2 ^ d:Nat):Int):=by simp
  rw [this]
  exact (Int.ofNat_fdiv x (2 ^ d)).symm
 rw [hb,Nat.min_eq_left (by omega),e1]
 have hy:x / 2 ^ d≤x:=Nat.div_le_self _ _
 obtain ⟨y,hy2⟩:∃y,y=x / 2 ^ d:=⟨_,rfl⟩
 rw [←hy2] at hy ⊢
 have e2:((y:Int) % 2 ^ 64).toNat=y:=by omega
 have e4:(1 % 2 ^ 64:Nat)=1:=by decide
 rw [e2,e4,Nat.and_one_is_mod]
 have e3:x.testBit d=decide (y % 2=1):=by rw [hy2,Nat.testBit_eq_decide_div_mod_eq]
 rw [e3]
 by_cases h:y % 2=1
 ·rw [h]; decide
 ·have:y % 2=0:=by omega
  rw [this]; decide
section
variable {w w1:World} {F:List Nat} {B:Asr} {b s m lim:Nat} {vars:List Nat} {q:SpC} {e:Bool} {ns:Ns} {W:((Nat→Bool)→Bool)→Prop}
theorem one_mn (hw:Wf (2 * nBits vars) ns) (e:Bool) (G:(Nat→Bool)→Bool) (hG:∀a,G a=true):Mn ns e 1 G:=⟨by omega,fun _=>⟨Ref.one ns,fun a=>by rw [eval_one,hG]⟩⟩
theorem Mn.keep {n lim:Nat} {W:((Nat→Bool)→Bool)→Prop} {ns ns':Ns} {e e':Bool} {x:Nat} {G:(Nat→Bool)→Bool} (h:Mn ns e x G) (hw:Wf n ns) (hs:Stp n lim W e ns e' ns'):Mn ns' e' x G:=by
 refine ⟨h.1,fun he=>?_⟩
 cases e with
 | true =>
  rw [(hs.bad rfl).1] at he
  cases he
 | false=>exact h.ext hw hs.ext
set_option maxHeartbeats 1000000 in
theorem bValue_spec (v x nx:Nat) (hk:SpOk vars lim ns) (hB:Lcl B) (h:At w F (BlA b s m lim vars q e ns B) w1) (hv:v < vars.length) (hx:x < 2 ^ wd (vars.getD v 0)) (hn:nx < 2) (hL:LitW vars W) (hV:VlW vars v x nx W) :
  Calls Tryz.prog 32 [.pointer (some ⟨b,0,none⟩),.int .i64 (v:Nat),.int .i64 (x:Nat),.int .i64 (nx:Nat)].toArray w1 fun en w'=>∃u,en=.returned u∧BPost b s m lim vars q e ns B w F W (fun a=>decide (rv vars a nx v=x)) u w':=by
 refine enter Tryz.func32 mixed low32 (Nat.le_of_ble_eq_true rfl) ?_
 simp only [L32]
 have h':=h
 unfold BlA at h'
 have ob:=h'.drop.obj
 have os:=h'.drop.drop.obj
 have hwv:=h'.drop.drop.drop.drop.own.vw
 unfold blO at ob
 unfold spO at os
 obtain ⟨n,hvn⟩:∃n,vars[v]? = some n:=⟨_,List.getElem?_eq_getElem hv⟩
 have hnd:vars.getD v 0=n:=by simp [List.getD,hvn]
 have hw6:=wd_le n
 obtain ⟨Wn,hW⟩:∃Wn,Wn=wd (vars.getD v 0):=⟨_,rfl⟩
 have hWn:wd n=Wn:=by rw [hW,hnd]
 have hvi:(v:Int) < (widthL vars).length:=by simp [widthL]; omega
 have hwc:=nE_cell hwv (widthL_at hvn)
 rw [hWn] at hwc
 simp (disch:=omega) [cell_blk ob,cell_blk os,hwv.idx,hwc,wrap_i64]
 refine loop_inv (VlI b s m lim vars q e ns B w F W v x nx) Wn ⟨by simp,by simp,by simp,by simp,by simp [hW],by simp,by rw [hW]; exact Nat.le_refl _,1,e,ns,by simp,Stp.refl hk.wf hk.nl,one_mn hk.wf _ _ fun a=>by rw [hW]; exact vlB_end,h⟩ ?_
 clear h h' ob os hwv hwc
 rintro k ρ w2 ⟨g0,g1,g2,g3,g10,g11,hkW,f,e2,ns2,g9,hs,hm,h2⟩
 rw [←hW] at g10 hkW
 by_cases hk0:k=0
 ·subst hk0
  simp [g11,g9]
  refine ⟨f,e2,ns2,rfl,hs,?_,h2⟩
  exact ⟨hm.1,fun he=>⟨(hm.2 he).1,fun a=>by rw [(hm.2 he).2 a,vlB_all hx]⟩⟩
 obtain ⟨j,rfl⟩:∃j,k=j+1:=⟨k - 1,by omega⟩
 have hj11:((j+1:Nat):Int) - 1=(j:Int):=by omega
 rw [hj11] at g11
 have hk2:=hk.stp hs
 have h2':=h2
 unfold BlA at h2'
 have ob:=h2'.drop.obj
 have os:=h2'.drop.drop.obj
 have hfv:=h2'.drop.drop.drop.own.vw
 unfold blO at ob
 unfold spO at os
 have hfc:=nE_cell hfv (firstL_at hv)
 have hvf:(v:Int) < (firstL vars).length:=by simp [firstL]; omega
 have hbp:=bP_in hvn (show j < wd n by omega)
 have hbt:=hk.bt
 obtain ⟨i,hi⟩:∃i,i=2 * (bP vars v+j)+nx:=⟨_,rfl⟩
 have ei1:(bP vars v:Int)+(j:Int)=((bP vars v+j:Nat):Int):=by omega
 obtain ⟨p2,hp2⟩:∃p,p=bP vars v+j:=⟨_,rfl⟩
 rw [←hp2] at hi ei1 hbp
 have ei2:2 * (p2:Int)=((2 * p2:Nat):Int):=by omega
 obtain ⟨p3,hp3⟩:∃p,p=2 * p2:=⟨_,rfl⟩
 rw [←hp3] at hi ei2
 have ei3:(p3:Int)+(nx:Int)=(i:Int):=by omega
 simp (disch:=omega) [g11,g0,g1,g3,cell_blk ob,cell_blk os,hfv.idx,hfc,ei1,ei2,ei3,wrap_i64]
 refine cl_of (bBit_spec i hk2 hB h2 (by omega) (hL i (by omega)).1) ?_
 rintro _ w3 ⟨y,e3,ns3,rfl,hs3,hm3,h3⟩
 have hk3:=hk2.stp hs3
 have hxW:x < 64:=by
  have h64:2 ^ Wn≤2 ^ 6:=Nat.pow_le_pow_right (by omega) (by omega)
  rw [←hW] at hx
  omega
 obtain ⟨d,hd⟩:∃d,d=Wn - 1 - j:=⟨_,rfl⟩
 have ed1:(Wn:Int) - 1=((Wn - 1:Nat):Int):=by omega
 have ed:((Wn - 1:Nat):Int) - (j:Int)=(d:Int):=by omega
 have hsa:=shr_and (x:=x) (d:=d) (by omega) (by omega)
 have hf3:=hm.keep hk2.wf hs3
 have hstep:∀a,vlB vars v x nx j a=(decide (a i=x.testBit d) && vlB vars v x nx (j+1) a):=fun a=>by
  rw [vlB_step (by rw [←hW]; omega),←hW,←hp2,←hp3,←hi,←hd]
 have hand:W fun a=>decide (a i=x.testBit d) && vlB vars v x nx (j+1) a:=by
  rw [←show vlB vars v x nx j=fun a=>decide (a i=x.testBit d) && vlB vars v x nx (j+1) a from funext hstep]
  exact hV j (by rw [←hW]; omega)
 have fin:∀(e5:Bool) (ns5:Ns),Stp (2 * nBits vars) lim W e2 ns2 e5 ns5→∀(u:Nat) (e6:Bool) (ns6:Ns),Stp (2 * nBits vars) lim W e5 ns5 e6 ns6→Mn ns6 e6 u (fun a=>decide (a i=x.testBit d) && vlB vars v x nx (j+1) a)→Stp (2 * nBits vars) lim W e ns e6 ns6∧Mn ns6 e6 u (vlB vars v x nx j):=fun e5 ns5 a1 u e6 ns6 a4 a5 =>
  ⟨(hs.trans a1).trans a4,a5.1,fun he=>⟨(a5.2 he).1,fun a=>by rw [(a5.2 he).2 a,hstep a]⟩⟩
 by_cases hbit:x.testBit d=true
 ·rw [if_pos hbit] at hsa
  simp (disch:=omega) [g0,g2,g9,g10,g11,ed1,ed,wrap_i64,hsa]
  have hm3b:Mn ns3 e3 y (fun a=>decide (a i=x.testBit d)):=⟨hm3.1,fun he=>⟨(hm3.2 he).1,fun a=>by rw [(hm3.2 he).2 a,hbit]; show a i=decide (a i=true); cases a i <;> rfl⟩⟩
  refine cl_of (bAnd_spec y f _ _ hk3 hB h3 hm3b hf3 hand) ?_
  rintro _ w4 ⟨u,e4,ns4,rfl,hs4,hm4,h4⟩
  obtain ⟨r1,r2⟩:=fin e3 ns3 hs3 u e4 ns4 hs4 hm4
  simp (disch:=omega) [g11,wrap_i64]
  refine ⟨j,by omega,by simp [g0],by simp [g1],by simp [g2],by simp [g3],by simp [g10,hW],by simp,by rw [←hW]; omega,u,e4,ns4,by simp,r1,r2,h4⟩
 ·rw [if_neg hbit] at hsa
  have hbit2:x.testBit d=false:=by simpa using hbit
  simp (disch:=omega) [g0,g2,g9,g10,g11,ed1,ed,wrap_i64,hsa]
  refine cl_of (bNot_spec y _ hk3 hB h3 hm3 (hL i (by omega)).2) ?_
  rintro _ w5 ⟨z,e5,ns5,rfl,hs5,hm5,h5⟩
  have hk5:=hk3.stp hs5
  have hf5:=hf3.keep hk3.wf hs5
  have hm5b:Mn ns5 e5 z (fun a=>decide (a i=x.testBit d)):=⟨hm5.1,fun he=>⟨(hm5.2 he).1,fun a=>by rw [(hm5.2 he).2 a,hbit2]; show (!a i)=decide (a i=false); cases a i <;> rfl⟩⟩
  simp [g0,g9]
  refine cl_of (bAnd_spec z f _ _ hk5 hB h5 hm5b hf5 hand) ?_
  rintro _ w4 ⟨u,e4,ns4,rfl,hs4,hm4,h4⟩
  obtain ⟨r1,r2⟩:=fin e5 ns5 (hs3.trans hs5) u e4 ns4 hs4 hm4
  simp (disch:=omega) [g11,wrap_i64]
  refine ⟨j,by omega,by simp [g0],by simp [g1],by simp [g2],by simp [g3],by simp [g10,hW],by simp,by rw [←hW]; omega,u,e4,ns4,by simp,r1,r2,h4⟩
end
end Go.Proofs.YtcoeknnghfajnaaGreat
end
section
namespace Go.Proofs.YtcoeknnghfajnaaGreat
open Go Go.W Go.Tk Go.Rx Go.Bd Go.Sy Go.Maps
def fcB (vars:List Nat) (l:List Go.Tk.Fc) (k:Nat) (a:Nat→Bool):Bool:=(l.drop k).all fun f=>decide (rv vars a 0 f.1=f.2)
theorem fcB_step {vars:List Nat} {l:List Go.Tk.Fc} {k:Nat} {f:Go.Tk.Fc} {a:Nat→Bool} (h:l[k]? = some f):fcB vars l k a=(decide (rv vars a 0 f.1=f.2) && fcB vars l (k+1) a):=by
 obtain ⟨hk,rfl⟩:=List.getElem?_eq_some_iff.1 h
 unfold fcB
 rw [List.drop_eq_getElem_cons hk,List.all_cons]
theorem fcB_end {vars:List Nat} {l:List Go.Tk.Fc} {a:Nat→Bool}:fcB vars l l.length a=true:=by unfold fcB; simp
theorem fcB_all {vars:List Nat} {l:List Go.Tk.Fc} {a:Nat→Bool} (h:∀f ∈ l,f.1 < vars.length):fcB vars l 0 a=hdB (rs vars a 0) l:=by
 unfold fcB hdB
 rw [List.drop_zero,Bool.eq_iff_iff,List.all_eq_true,List.all_eq_true]
 constructor
 ·intro h1 f hf
  have:=h1 f hf
  rw [rs_at (h f hf)]
  exact this
 ·intro h1 f hf
  have:=h1 f hf
  rw [rs_at (h f hf)] at this
  exact this
def FcI (b s m lim:Nat) (vars:List Nat) (q:SpC) (e:Bool) (ns:Ns) (B:Asr) (w:World) (F:List Nat) (W:((Nat→Bool)→Bool)→Prop) (lv:Value) (l:List Go.Tk.Fc) (n:Nat) (ρ:Env) (w':World):Prop :=
 ρ 0=.pointer (some ⟨b,0,none⟩)∧ρ 1=lv∧ρ 6=.int .i64 ((n:Int) - 1)∧n≤l.length ∧
  ∃f e' ns',ρ 5=.int .i64 (f:Nat)∧Stp (2 * nBits vars) lim W e ns e' ns'∧Mn ns' e' f (fcB vars l n)∧At w F (BlA b s m lim vars q e' ns' B) w'
def FcW (vars:List Nat) (l:List Go.Tk.Fc) (W:((Nat→Bool)→Bool)→Prop):Prop:=(∀f ∈ l,VlW vars f.1 f.2 0 W)∧∀j,j < l.length→W (fcB vars l j)
def Rds (B:Asr) (P:World→Prop):Prop:=∀w' F',B w' F'→P w'
theorem BlA.frame {w w1:World} {F:List Nat} {B:Asr} {b s m lim:Nat} {vars:List Nat} {q:SpC} {e:Bool} {ns:Ns} {P:World→Prop} (h:At w F (BlA b s m lim vars q e ns B) w1) (hP:Rds B P):P w1:=by
 unfold BlA at h
 obtain ⟨_,hq,_⟩:=h.drop.drop.drop.drop.drop.ex
 exact hP _ _ hq
section
variable {w w1:World} {F:List Nat} {B:Asr} {b s m lim:Nat} {vars:List Nat} {q:SpC} {e:Bool} {ns:Ns} {W:((Nat→Bool)→Bool)→Prop}
set_option maxHeartbeats 1000000 in
theorem bFacts_spec (lv:Value) (l:List Go.Tk.Fc) (hk:SpOk vars lim ns) (hB:Lcl B) (h:At w F (BlA b s m lim vars q e ns B) w1) (hl:Rds B fun w'=>Vw w' lv fcE l) (hr:FcRng vars l) (hll:l.length≤1000) (hL:LitW vars W) (hF:FcW vars l W) :
  Calls Tryz.prog 35 [.pointer (some ⟨b,0,none⟩),lv].toArray w1 fun en w'=>∃u,en=.returned u∧BPost b s m lim vars q e ns B w F W (fun a=>hdB (rs vars a 0) l) u w':=by
 refine enter Tryz.func35 mixed low35 (Nat.le_of_ble_eq_true rfl) ?_
 simp only [L35]
 have hv1:=BlA.frame h hl
 simp (disch:=omega) [hv1.len,wrap_i64]
 refine loop_inv (FcI b s m lim vars q e ns B w F W lv l) l.length ⟨by simp,by simp,by simp,Nat.le_refl _,1,e,ns,by simp,Stp.refl hk.wf hk.nl,one_mn hk.wf _ _ fun a=>fcB_end,h⟩ ?_
 clear h hv1
 rintro n ρ w2 ⟨g0,g1,g6,hnl,f,e2,ns2,g5,hs,hm,h2⟩
 by_cases hn0:n=0
 ·subst hn0
  simp [g6,g5]
  refine ⟨f,e2,ns2,rfl,hs,?_,h2⟩
  exact ⟨hm.1,fun he=>⟨(hm.2 he).1,fun a=>by rw [(hm.2 he).2 a,fcB_all fun f hf=>(hr f hf).1]⟩⟩
 obtain ⟨j,rfl⟩:∃j,n=j+1:=⟨n - 1,by omega⟩
 have hj6:((j+1:Nat):Int) - 1=(j:Int):=by omega
 rw [hj6] at g6
 have hk2:=hk.stp hs
 obtain ⟨x,hx⟩:∃x,l[j]? = some x:=⟨_,List.getElem?_eq_getElem (by omega)⟩
 obtain ⟨r1,r2⟩:=hr x (List.mem_of_getElem? hx)
 have hd:=(Kp.refl [] w2).drew
 have hv2:=BlA.frame h2 hl
 have c1:=hv2.fld fcE_len hx (o:=0) rfl
 have c2:=hv2.fld fcE_len hx (o:=1) rfl
 have hji:(j:Int) < l.length:=by omega
 have h2d:=h2.drew (BlA.lcl hB)
 have h64:=hk.v64 (vars.getD x.1 0) (by simp [List.getD,List.getElem?_eq_getElem r1])
 have hx2:x.2 < 2 ^ wd (vars.getD x.1 0):=Nat.lt_of_lt_of_le r2 (wd_ge h64.2)
 simp (disch:=omega) [g6,g0,g1,g5,hv2.idx,c1,c2]
 have hand:W fun a=>decide (rv vars a 0 x.1=x.2) && fcB vars l (j+1) a:=by
  have:=hF.2 j (by omega)
  rwa [show fcB vars l j=fun a=>decide (rv vars a 0 x.1=x.2) && fcB vars l (j+1) a from funext fun a=>fcB_step hx] at this
 refine cl_of (bValue_spec x.1 x.2 0 hk2 hB h2d r1 hx2 (by omega) hL (hF.1 x (List.mem_of_getElem? hx))) ?_
 rintro _ w3 ⟨y,e3,ns3,rfl,hs3,hm3,h3⟩
 have hk3:=hk2.stp hs3
 simp [g0,g5]
 refine cl_of (bAnd_spec y f _ _ hk3 hB h3 hm3 (hm.keep hk2.wf hs3) hand) ?_
 rintro _ w4 ⟨u,e4,ns4,rfl,hs4,hm4,h4⟩
 simp (disch:=omega) [g6,wrap_i64]
 refine ⟨j,by omega,by simp [g0],by simp [g1],by simp,by omega,u,e4,ns4,by simp,(hs.trans hs3).trans hs4,⟨hm4.1,fun he=>⟨(hm4.2 he).1,fun a=>by rw [(hm4.2 he).2 a,fcB_step hx]⟩⟩,h4⟩
def saB (vars:List Nat) (v k:Nat) (a:Nat→Bool):Bool:=(List.range (wd (vars.getD v 0) - k)).all fun j=>decide (a (2 * (bP vars v+(k+j)))=a (2 * (bP vars v+(k+j))+1))
theorem saB_end {vars:List Nat} {v:Nat} {a:Nat→Bool}:saB vars v (wd (vars.getD v 0)) a=true:=by unfold saB; simp
theorem saB_step {vars:List Nat} {v k:Nat} {a:Nat→Bool} (hk:k < wd (vars.getD v 0)):saB vars v k a=(decide (a (2 * (bP vars v+k))=a (2 * (bP vars v+k)+1)) && saB vars v (k+1) a):=by
 unfold saB
 rw [show wd (vars.getD v 0) - k=(wd (vars.getD v 0) - (k+1))+1 by omega,List.range_succ_eq_map,List.all_cons,List.all_map]
 congr 1
 refine congrArg (fun f=>(List.range (wd (vars.getD v 0) - (k+1))).all f) ?_
 funext j
 simp only [Function.comp]
 rw [show k+j.succ=k+1+j by omega]
theorem saB_all {vars:List Nat} {v:Nat} {a:Nat→Bool}:saB vars v 0 a=decide (rv vars a 0 v=rv vars a 1 v):=by
 rw [Bool.eq_iff_iff,decide_eq_true_iff]
 unfold saB
 rw [List.all_eq_true]
 constructor
 ·intro h
  unfold rv
  refine valK_congr _ fun k hk=>?_
  have:=h k (List.mem_range.2 (by omega))
  simpa using this
 ·intro h k hk
  have hk:=List.mem_range.1 hk
  have h1:=(valK_eq (g:=fun k=>a (2 * (bP vars v+k)+0)) _ _ (rv_lt vars a 0 v)).2 rfl k (by omega)
  have h2:=(valK_eq (g:=fun k=>a (2 * (bP vars v+k)+1)) _ _ (rv_lt vars a 1 v)).2 rfl k (by omega)
  rw [←h] at h2
  have:=h1.trans h2.symm
  simpa using this
def SaW (vars:List Nat) (v:Nat) (W:((Nat→Bool)→Bool)→Prop):Prop:=∀j,j < wd (vars.getD v 0)→W (fun a=>a (2 * (bP vars v+j)) && a (2 * (bP vars v+j)+1))∧W (fun a=>!a (2 * (bP vars v+j)) && !a (2 * (bP vars v+j)+1)) ∧
 W (fun a=>(a (2 * (bP vars v+j)) && a (2 * (bP vars v+j)+1)) || (!a (2 * (bP vars v+j)) && !a (2 * (bP vars v+j)+1)))∧W (saB vars v j)
def SaI (b s m lim:Nat) (vars:List Nat) (q:SpC) (e:Bool) (ns:Ns) (B:Asr) (w:World) (F:List Nat) (W:((Nat→Bool)→Bool)→Prop) (v n:Nat) (ρ:Env) (w':World):Prop :=
 ρ 0=.pointer (some ⟨b,0,none⟩)∧ρ 1=.int .i64 (v:Nat)∧ρ 6=.int .i64 ((n:Int) - 1)∧n≤wd (vars.getD v 0) ∧
  ∃f e' ns',ρ 5=.int .i64 (f:Nat)∧Stp (2 * nBits vars) lim W e ns e' ns'∧Mn ns' e' f (saB vars v n)∧At w F (BlA b s m lim vars q e' ns' B) w'
set_option maxHeartbeats 2000000 in
theorem bSame_spec (v:Nat) (hk:SpOk vars lim ns) (hB:Lcl B) (h:At w F (BlA b s m lim vars q e ns B) w1) (hv:v < vars.length) (hL:LitW vars W) (hS:SaW vars v W) :
  Calls Tryz.prog 90 [.pointer (some ⟨b,0,none⟩),.int .i64 (v:Nat)].toArray w1 fun en w'=>∃u,en=.returned u∧BPost b s m lim vars q e ns B w F W (fun a=>decide (rv vars a 0 v=rv vars a 1 v)) u w':=by
 refine enter Tryz.func90 mixed low90 (Nat.le_of_ble_eq_true rfl) ?_
 simp only [L90]
 have h':=h
 unfold BlA at h'
 have ob:=h'.drop.obj
 have os:=h'.drop.drop.obj
 have hwv:=h'.drop.drop.drop.drop.own.vw
 unfold blO at ob
 unfold spO at os
 obtain ⟨n,hvn⟩:∃n,vars[v]? = some n:=⟨_,List.getElem?_eq_getElem hv⟩
 have hnd:vars.getD v 0=n:=by simp [List.getD,hvn]
 have hw6:=wd_le n
 obtain ⟨Wn,hW⟩:∃Wn,Wn=wd (vars.getD v 0):=⟨_,rfl⟩
 have hWn:wd n=Wn:=by rw [hW,hnd]
 have hvi:(v:Int) < (widthL vars).length:=by simp [widthL]; omega
 have hwc:=nE_cell hwv (widthL_at hvn)
 rw [hWn] at hwc
 simp (disch:=omega) [cell_blk ob,cell_blk os,hwv.idx,hwc,wrap_i64]
 refine loop_inv (SaI b s m lim vars q e ns B w F W v) Wn ⟨by simp,by simp,by simp,by rw [hW]; exact Nat.le_refl _,1,e,ns,by simp,Stp.refl hk.wf hk.nl,one_mn hk.wf _ _ fun a=>by rw [hW]; exact saB_end,h⟩ ?_
 clear h h' ob os hwv hwc
 rintro k ρ w2 ⟨g0,g1,g6,hkW,f,e2,ns2,g5,hs,hm,h2⟩
 rw [←hW] at hkW
 by_cases hk0:k=0
 ·subst hk0
  simp [g6,g5]
  refine ⟨f,e2,ns2,rfl,hs,?_,h2⟩
  exact ⟨hm.1,fun he=>⟨(hm.2 he).1,fun a=>by rw [(hm.2 he).2 a,saB_all]⟩⟩
 obtain ⟨j,rfl⟩:∃j,k=j+1:=⟨k - 1,by omega⟩
 have hj6:((j+1:Nat):Int) - 1=(j:Int):=by omega
 rw [hj6] at g6
 have hk2:=hk.stp hs
 have h2':=h2
 unfold BlA at h2'
 have ob:=h2'.drop.obj
 have os:=h2'.drop.drop.obj
 have hfv:=h2'.drop.drop.drop.own.vw
 unfold blO at ob
 unfold spO at os
 have hfc:=nE_cell hfv (firstL_at hv)
 have hvf:(v:Int) < (firstL vars).length:=by simp [firstL]; omega
 have hbp:=bP_in hvn (show j < wd n by omega)
 have hbt:=hk.bt
 have ei1:(bP vars v:Int)+(j:Int)=((bP vars v+j:Nat):Int):=by omega
 obtain ⟨p2,hp2⟩:∃p,p=bP vars v+j:=⟨_,rfl⟩
 rw [←hp2] at ei1 hbp
 have ei2:2 * (p2:Int)=((2 * p2:Nat):Int):=by omega
 obtain ⟨i,hi⟩:∃i,i=2 * p2:=⟨_,rfl⟩
 rw [←hi] at ei2
 obtain ⟨i1,hi1⟩:∃i1,i1=i+1:=⟨_,rfl⟩
 have ei3:(i:Int)+1=(i1:Int):=by omega
 have hstep:∀a,saB vars v j a=(decide (a i=a i1) && saB vars v (j+1) a):=fun a=>by
  rw [saB_step (by rw [←hW]; omega),←hp2,←hi,←hi1]
 obtain ⟨w1,w2',w3',w4'⟩:=hS j (by rw [←hW]; omega)
 rw [←hp2,←hi,←hi1] at w1 w2' w3'
 have hst2:saB vars v j=fun a=>saB vars v (j+1) a && ((a i && a i1) || (!a i && !a i1)):=funext fun a=>by
  rw [hstep a]
  cases a i <;> cases a i1 <;> simp
 rw [hst2] at w4'
 simp (disch:=omega) [g6,g0,g1,cell_blk ob,cell_blk os,hfv.idx,hfc,ei1,ei2,wrap_i64]
 refine cl_of (bBit_spec i hk2 hB h2 (by omega) (hL i (by omega)).1) ?_
 rintro _ w3 ⟨y1,e3,ns3,rfl,hs3,hm3,h3⟩
 have hk3:=hk2.stp hs3
 simp (disch:=omega) [g0,ei3,wrap_i64]
 refine cl_of (bBit_spec i1 hk3 hB h3 (by omega) (hL i1 (by omega)).1) ?_
 rintro _ w4 ⟨y2,e4,ns4,rfl,hs4,hm4,h4⟩
 have hk4:=hk3.stp hs4
 have hm34:=hm3.keep hk3.wf hs4
 simp [g0,g5]
 refine cl_of (bAnd_spec y1 y2 _ _ hk4 hB h4 hm34 hm4 w1) ?_
 rintro _ w5 ⟨y3,e5,ns5,rfl,hs5,hm5,h5⟩
 have hk5:=hk4.stp hs5
 simp [g0]
 refine cl_of (bNot_spec y1 _ hk5 hB h5 (hm34.keep hk4.wf hs5) (hL i (by omega)).2) ?_
 rintro _ w6 ⟨y4,e6,ns6,rfl,hs6,hm6,h6⟩
 have hk6:=hk5.stp hs6
 simp [g0]
 refine cl_of (bNot_spec y2 _ hk6 hB h6 ((hm4.keep hk4.wf hs5).keep hk5.wf hs6) (hL i1 (by omega)).2) ?_
 rintro _ w7 ⟨y5,e7,ns7,rfl,hs7,hm7,h7⟩
 have hk7:=hk6.stp hs7
 simp [g0]
 refine cl_of (bAnd_spec y4 y5 _ _ hk7 hB h7 (hm6.keep hk6.wf hs7) hm7 w2') ?_
 rintro _ w8 ⟨y6,e8,ns8,rfl,hs8,hm8,h8⟩
 have hk8:=hk7.stp hs8
 simp [g0]
 refine cl_of (bOr_spec y3 y6 _ _ hk8 hB h8 (((hm5.keep hk5.wf hs6).keep hk6.wf hs7).keep hk7.wf hs8) hm8 w3') ?_
 rintro _ w9 ⟨y7,e9,ns9,rfl,hs9,hm9,h9⟩
 have hk9:=hk8.stp hs9
 have hf9:=((((((hm.keep hk2.wf hs3).keep hk3.wf hs4).keep hk4.wf hs5).keep hk5.wf hs6).keep hk6.wf hs7).keep hk7.wf hs8).keep hk8.wf hs9
 simp [g0,g5]
 refine cl_of (bAnd_spec f y7 _ _ hk9 hB h9 hf9 hm9 w4') ?_
 rintro _ w10 ⟨u,e10,ns10,rfl,hs10,hm10,h10⟩
 simp (disch:=omega) [g6,wrap_i64]
 refine ⟨j,by omega,by simp [g0],by simp [g1],by simp,by rw [←hW]; omega,u,e10,ns10,by simp,?_,⟨hm10.1,fun he=>⟨(hm10.2 he).1,fun a=>?_⟩⟩,h10⟩
 ·exact (((((((hs.trans hs3).trans hs4).trans hs5).trans hs6).trans hs7).trans hs8).trans hs9).trans hs10
 ·rw [(hm10.2 he).2 a,hstep a]
  show (saB vars v (j+1) a && ((a i && a i1) || (!a i && !a i1)))=_
  cases a i <;> cases a i1 <;> simp
end
end Go.Proofs.YtcoeknnghfajnaaGreat
end
