/-
  A part of the proof of this claim's statement (RxXI, RxXJ, RxAw, RxYA, RxYB, RxYC, RxYK, BdPlain, BdOps): plain theorems; no conditions beyond those each names.
-/
import Derived.Test.YtcoeknnghfajnaaGreatPk10
set_option maxRecDepth 100000
set_option linter.unusedSimpArgs false
set_option linter.unusedVariables false
set_option linter.unusedSectionVars false
section
namespace Go.Proofs.YtcoeknnghfajnaaGreat
open Go Go.W Go.Tk Go.Rx Go.Maps
def apK (o:No) (s:List Nat) (k:Nat):List Nat:=(o.effs.take k).foldl (fun t e=>if hdB s e.cnd then t.set e.v e.x else t) s
def apS (o:No) (s:List Nat):List Nat:=apK o s o.effs.length
theorem apK_succ {o:No} {s:List Nat} {k:Nat} {e:Nf} (h:o.effs[k]? = some e):apK o s (k+1)=if hdB s e.cnd then (apK o s k).set e.v e.x else apK o s k:=by
 unfold apK; rw [take_snoc h,List.foldl_append]; rfl
theorem apK_len (o:No) (s:List Nat):∀k,(apK o s k).length=s.length
 | 0=>by simp [apK]
 | k+1=>by
  cases h:o.effs[k]? with
  | none =>
   have:=List.getElem?_eq_none_iff.1 h
   have h2:=apK_len o s k
   unfold apK at h2 ⊢
   rw [List.take_of_length_le (by omega)] at h2 ⊢
   exact h2
  | some e =>
   rw [apK_succ h]
   have:=apK_len o s k
   split
   ·rw [List.length_set]; exact this
   ·exact this
def apV (T:Nt) (o:No) (s:List Nat) (w:World) (x:Value) (w':World):Prop :=
 if hdB s o.pre=true then ∃u,x=.tuple #[u,.bool true]∧Nw w w' u 3 1 nE (apS o s) else x=.tuple #[.slice none 0 0,.bool false]∧Kp [] w w'
set_option maxHeartbeats 1000000 in
theorem apply_spec {w:World} (T:Nt) (sv:Value) (s:List Nat) (i:Nat) (o:No) (hr:NtR w T) (hg:NtG T) (ho:T.ops[i]? = some o) (hs:Vw w sv nE s) (hst:StN T.vars s) :
  Calls Tryz.prog 85 [ntV T,sv,.int .i64 (i:Nat)].toArray w fun e w'=>∃x,e=.returned x∧apV T o s w x w':=by
 refine enter Tryz.func85 mixed low85 (Nat.le_of_ble_eq_true rfl) ?_
 simp only [L85]
 have hlen:=hst.len
 have hvl:=hg.vlen
 have hol:=hg.olen
 have hom:=List.mem_of_getElem? ho
 have hgo:=hg.ops o hom
 have hi:i < T.ops.length:=(List.getElem?_eq_some_iff.1 ho).1
 have hii:(i:Int) < T.ops.length:=by omega
 obtain ⟨b,hb⟩:∃b,b=w.heap.size:=⟨_,rfl⟩
 have h1:At w [] (Star (ObjA b (ntO T)) Emp) (w.alloc (ntO T)):=by rw [hb]; exact (At.start rfl).alloc _ .emp
 obtain ⟨w1,hw1⟩:∃w1,w1=w.alloc (ntO T):=⟨_,rfl⟩
 rw [←hw1] at h1
 have hw1':w.alloc (.cells #[T.vv.1,T.nv.1,T.gv.1,T.ov.1] 26 (0,0))=w1:=by rw [hw1]; rfl
 have hr1:=hr.kp h1.kp
 have hob:=h1.obj
 unfold ntO at hob
 have c2:=hr1.ops.fld noE_len ho (o:=2) (u:=o.pv.1) rfl
 have n1:¬(i:Int) < 0:=by omega
 have n2:¬T.ops.length≤i:=by omega
 simp (disch:=omega) [ntV,←hb,hw1',cell_blk hob,n1,n2,hr1.ops.len,hr1.ops.idx,c2]
 have hgp:=hgo.pre
 have hpl:=hgp.len
 refine cl_of (holds_spec o.pv.1 sv o.pre s (hr1.op o hom).pre (hs.kp0 h1.kp) (by omega) (fun f hf=>by rw [hlen]; exact (hgp.rng f hf).1)) ?_
 rintro _ w2 ⟨rfl,k2⟩
 have h2:=h1.kp0 (Lcl.obj.star .emp) k2
 cases hp:hdB s o.pre with
 | false =>
  simp
  unfold apV
  rw [if_neg (by rw [hp]; simp)]
  exact ⟨rfl,h2.kp⟩
 | true =>
  simp [rowOf]
  have h3:=h2.lit (xs:=([]:List Nat)) (enc:=nE) (E:=3) (sz:=1) (cs:=#[]) (m:=0) (Lcl.obj.star .emp) (by simp) nE_len (by simp [maxLen]) rfl
  refine At.appendV (xs:=s) (Lcl.obj.star .emp) h3 (hs.kp0 h3.kp) nE_len nE_one sl_22 (by simp; omega) (by simp; unfold maxLen; omega) fun ov w4 h4=>?_
  have hob4:=h4.drop.obj
  unfold ntO at hob4
  have hr4:=hr.kp h4.kp
  have c3:=hr4.ops.fld noE_len ho (o:=3) (u:=o.ev.1) rfl
  have hro4:=hr4.op o hom
  have helen:=hgo.elen
  have h4:At w [] (Star (OwnA ov 3 1 nE (apK o s 0)) (Star (ObjA b (ntO T)) Emp)) w4:=by simpa [apK] using h4
  simp (disch:=omega) [←hb,cell_blk hob4,hr4.ops.idx,c3,hro4.effs.len]
  refine range_loop (n:=o.effs.length) (by omega) (fun k ρ w'=>ρ 1=sv∧ρ 8=ov∧ρ 39=o.ev.1∧At w [] (Star (OwnA ov 3 1 nE (apK o s k)) (Star (ObjA b (ntO T)) Emp)) w') (by simp) (by simp)
   ⟨by simp,by simp,by simp,h4⟩ (by decide) (fun _ _ _ _ h=>by simpa using h) (fun _ _ _ _ h=>by simpa using h) ?_ ?_
  rotate_left
  ·rintro ρ w5 ⟨g1,g8,g39,h5⟩
   simp [g8]
   unfold apV
   rw [if_pos hp]
   exact ⟨_,rfl,Nw.of h5⟩
  clear h3 h4 hob4 hr4 c3 hro4
  rintro k ρ w5 hk hck hlk ⟨g1,g8,g39,h5⟩
  have hro5:=(hr.kp h5.kp).op o hom
  obtain ⟨e,he⟩:∃e,o.effs[k]? = some e:=⟨_,List.getElem?_eq_getElem hk⟩
  have hem:=List.mem_of_getElem? he
  have ece:=hro5.effs.cells nfE_len he
  simp only [nfE] at ece
  have hki:(k:Int) < o.effs.length:=by omega
  obtain ⟨fb,hfb⟩:∃fb,fb=w5.heap.size:=⟨_,rfl⟩
  have hL:∀l,Lcl (Star (OwnA ov 3 1 nE l) (Star (ObjA b (ntO T)) Emp)):=fun _=>Lcl.own.star (Lcl.obj.star .emp)
  simp (disch:=omega) [g39,hck,hlk,hro5.effs.idx,ece,←hfb]
  refine st_ef (e:=e.raw) (hL _) h5 hfb fun w6 h6=>?_
  have oe6:=h6.obj
  unfold efO Nf.raw at oe6
  rw [hfb] at oe6
  have hgc:=hgo.cnd e hem
  have hcl:=hgc.len
  obtain ⟨f1,f2⟩:=hgo.eff e hem
  simp (disch:=omega) [cell_blk oe6,g1]
  refine cl_of (holds_spec e.wv.1 sv e.cnd s (((hr.kp h6.kp).op o hom).cnd e hem) (hs.kp0 h6.kp) (by omega) (fun f hf=>by rw [hlen]; exact (hgc.rng f hf).1)) ?_
  rintro _ w7 ⟨rfl,k7⟩
  have h7:=h6.kp0 (Lcl.obj.star (hL _)) k7
  have hsuc:=apK_succ (s:=s) he
  cases hh:hdB s e.cnd with
  | false =>
   rw [hh] at hsuc
   simp [g1,g8,g39,hck,hlk]
   rw [hsuc]
   exact h7.drop
  | true =>
   rw [hh] at hsuc
   have oe7:=h7.obj
   unfold efO Nf.raw at oe7
   rw [hfb] at oe7
   have h8:=h7.drop
   have hO:=h8.own
   have hal:=apK_len o s k
   have hvi:(e.v:Int) < (apK o s k).length:=by omega
   simp (disch:=omega) [g8,cell_blk oe7,hO.idx]
   refine h8.store1 (Lcl.obj.star .emp) nE_len nE_one (k:=e.v) (by omega) (x:=e.x) rfl fun w9 h9=>?_
   simp [g1,g8,g39,hck,hlk]
   rw [hsuc]
   exact h9
end Go.Proofs.YtcoeknnghfajnaaGreat
end
section
namespace Go.Proofs.YtcoeknnghfajnaaGreat
open Go Go.W Go.Tk Go.Rx Go.Maps
theorem sts_ok {vars:List Nat}:∀k,k≤vars.length→∀s ∈ stsK vars k,s.length=k∧∀v,v < k→s.getD v 0 < vars.getD v 0
 | 0,_,s,hs=>by
  simp [stsK] at hs; subst hs
  exact ⟨rfl,fun v hv=>by omega⟩
 | k+1,hk,s,hs=>by
  unfold stsK at hs
  obtain ⟨t,ht,h2⟩:=List.mem_flatMap.1 hs
  unfold extS at h2
  obtain ⟨x,hx,rfl⟩:=List.mem_map.1 h2
  obtain ⟨e,hv⟩:=sts_ok k (by omega) t ht
  refine ⟨by simp [e],fun v hvk=>?_⟩
  by_cases h3:v < k
  ·have:=hv v h3
   simpa [List.getD,List.getElem?_append_left (show v < t.length by omega)] using this
  ·have:v=k:=by omega
   subst this
   simpa [List.getD,←e] using List.mem_range.1 hx
theorem sts_st {vars:List Nat} {s:List Nat} (h:s ∈ stsK vars vars.length):StN vars s:=by
 obtain ⟨h1,h2⟩:=sts_ok _ (Nat.le_refl _) s h
 exact ⟨h1,h2⟩
end Go.Proofs.YtcoeknnghfajnaaGreat
end
section
namespace Go.Rx
def LA (f:Nat):Int:=if f < 4 then (f:Int) else -1
end Go.Rx
end
section
namespace Go.Rx
open Go Go.W Go.Tk
def prL:List Nat→Nat
 | []=>1
 | x :: l=>x * prL l
theorem prL_snoc:∀(l:List Nat) (x:Nat),prL (l ++ [x])=prL l * x
 | [],x=>by simp [prL]
 | y :: l,x=>by simp only [List.cons_append,prL,prL_snoc l x,Nat.mul_assoc]
theorem many_le:∀(vars:List Nat) (n:Nat),(∀v ∈ vars,1≤v)→manyF 512 n (vars.map iN)≤512→∀k,n * prL (vars.take k)≤512
 | [],n,_,h,k=>by simpa [manyF,prL] using h
 | x :: l,n,hx,h,k=>by
  have h1:=hx x (by simp)
  simp only [List.map_cons,manyF] at h
  split at h
  ·omega
  ·rename_i hle
   have e:(iN x).toNat=x:=by simp [iN]
   rw [e] at hle h
   have hle:n * min x (512+1)≤512:=by omega
   cases k with
   | zero =>
    have:=Nat.mul_le_mul_left n (show 1≤min x (512+1) by omega)
    simp [prL]; omega
   | succ k =>
    rcases Nat.eq_zero_or_pos n with rfl | hn
    ·simp
    have hm:min x (512+1)=x:=by
     rcases Nat.le_total x 513 with h2 | h2
     ·omega
     ·have:min x (512+1)=513:=by omega
      rw [this] at hle
      omega
    rw [hm] at h
    have:=many_le l (n * x) (fun v hv=>hx v (by simp [hv])) h k
    simpa [List.take_succ_cons,prL,Nat.mul_assoc] using this
structure SmT (T:Nt):Prop where
 g:NtG T
 good:goodB T.raw=true
 vl:T.vars.length≤12
 ol:T.ops.length≤20
 el:∀o ∈ T.ops,o.effs.length≤8
 pr:∀k,prL (T.vars.take k)≤512
 nm:∀o ∈ T.ops,o.name.size≤9223372036854775807
theorem small_nat {t:Tk} (hl:TkL t) (h:smallB t=true):∃T:Nt,T.raw=t∧SmT T:=by
 unfold smallB at h
 simp only [Bool.and_eq_true,decide_eq_true_eq] at h
 obtain ⟨⟨⟨⟨h1,h2⟩,h3⟩,h4⟩,h5⟩:=h
 obtain ⟨T,rfl,hg⟩:=good_nat h4
 rw [List.all_eq_true] at h3
 refine ⟨T,rfl,hg,h4,by simpa [Nt.raw] using h1,by simpa [Nt.raw] using h2,fun o ho=>?_,fun k=>?_,fun o ho=>?_⟩
 ·have:=h3 o.raw (List.mem_map.2 ⟨o,ho,rfl⟩)
  simpa [No.raw] using this
 ·have:=many_le T.vars 1 (fun v hv=>(hg.vars v hv).1) h5 k
  simpa using this
 ·exact (hl.op o.raw (List.mem_map.2 ⟨o,ho,rfl⟩)).1
end Go.Rx
namespace Go.Proofs.YtcoeknnghfajnaaGreat
open Go Go.W Go.Tk Go.Rx Go.Maps
theorem stsK_len {vars:List Nat}:∀k,k≤vars.length→(stsK vars k).length=prL (vars.take k)
 | 0,_=>by simp [stsK,prL]
 | k+1,hk=>by
  obtain ⟨n,hn⟩:∃n,vars[k]? = some n:=⟨_,List.getElem?_eq_getElem (by omega)⟩
  have key:∀(l:List (List Nat)),(l.flatMap (extS (vars.getD k 0))).length=l.length * vars.getD k 0:=by
   intro l
   induction l with
   | nil=>simp
   | cons a l ih=>rw [List.flatMap_cons,List.length_append,ih,extS_len,List.length_cons,Nat.add_mul]; omega
  have e:stsK vars (k+1)=(stsK vars k).flatMap (extS (vars.getD k 0)):=rfl
  rw [take_snoc hn,prL_snoc,←stsK_len k (by omega),e,key]
  simp [List.getD,hn]
theorem SmT.sts {T:Nt} (h:SmT T):∀k,k≤T.vars.length→(stsK T.vars k).length≤10000:=fun k hk=>by
 rw [stsK_len k hk]
 have:=h.pr k
 omega
end Go.Proofs.YtcoeknnghfajnaaGreat
end
section
namespace Go.Proofs.YtcoeknnghfajnaaGreat
open Go Go.W Go.Tk Go.Rx Go.Maps
section
variable {w:World} {b:Nat} {T:Nt} {U:List Un}
end
theorem lone {α:Type} {enc:α→List Value} {v:Value} {l:List α} {X:Asr} (ho:oneC v=true):Imp (Star (VwA v enc l) X) (Star (VwsA enc [((⟨v,ho⟩,l):Cell1 × List α)]) X):=by
 rintro w F ⟨Fa,Fb,⟨h1,e1,h2⟩,h3,hd,rfl⟩
 exact ⟨_,⟨Fa,Fb,⟨fun p hp=>by simp at hp; subst hp; exact h1,fun x hx=>h2 x (by rw [←e1]; exact hx),by simpa using e1⟩,h3,hd,rfl⟩,fun x hx=>hx⟩
end Go.Proofs.YtcoeknnghfajnaaGreat
end
section
namespace Go.Proofs.YtcoeknnghfajnaaGreat
open Go Go.W Go.Tk Go.Rx Go.Maps
theorem raw_vv (T:Nt):T.raw.vv=T.vv:=rfl
theorem raw_nv (T:Nt):T.raw.nv=T.nv:=rfl
theorem raw_gv (T:Nt):T.raw.gv=T.gv:=rfl
theorem raw_ov (T:Nt):T.raw.ov=T.ov:=rfl
end Go.Proofs.YtcoeknnghfajnaaGreat
end
section
namespace Go.Proofs.YtcoeknnghfajnaaGreat
open Go Go.W Go.Tk Go.Rx Go.Maps
abbrev Ed:=Nat × Nat × Nat
def edE (e:Ed):List Value:=[.int .i64 (e.1:Nat),.int .i64 (e.2.1:Nat),.int .i64 (e.2.2:Nat)]
theorem edE_len (e:Ed):(edE e).length=3:=rfl
theorem edE_one (e:Ed):(edE e).all oneC=true:=rfl
theorem apK_st {vars:List Nat} {o:No} {s:List Nat} (hs:StN vars s) (ho:NoG vars o):∀k,k≤o.effs.length→StN vars (apK o s k)
 | 0,_=>by simpa [apK] using hs
 | k+1,hk=>by
  obtain ⟨e,he⟩:∃e,o.effs[k]? = some e:=⟨_,List.getElem?_eq_getElem (by omega)⟩
  have ih:=apK_st hs ho k (by omega)
  rw [apK_succ he]
  split
  ·obtain ⟨e1,e2⟩:=ho.eff e (List.mem_of_getElem? he)
   refine ⟨by rw [List.length_set]; exact ih.len,fun v hv=>?_⟩
   by_cases h:v=e.v
   ·subst h
    simp only [List.getD,List.getElem?_set_self (show e.v < (apK o s k).length by rw [ih.len]; exact e1),Option.getD_some]
    exact e2
   ·have:=ih.rng v hv
    simpa only [List.getD,List.getElem?_set_ne (Ne.symm h)] using this
  ·exact ih
theorem apS_st {vars:List Nat} {o:No} {s:List Nat} (hs:StN vars s) (ho:NoG vars o):StN vars (apS o s):=apK_st hs ho _ (Nat.le_refl _)
theorem flat_at {α β:Type} {f:α→List β} {n:Nat} (hf:∀a,(f a).length=n):∀(l:List α) (i x:Nat) (a:α),l[i]? = some a→x < n→(l.flatMap f)[i * n+x]? = (f a)[x]?
 | [],i,x,a,h,_=>by simp at h
 | b :: l,0,x,a,h,hx=>by
  simp at h; subst h
  rw [List.flatMap_cons,Nat.zero_mul,Nat.zero_add,List.getElem?_append_left (by rw [hf]; exact hx)]
 | b :: l,i+1,x,a,h,hx=>by
  rw [List.flatMap_cons,List.getElem?_append_right (by rw [hf,Nat.add_mul]; omega),hf]
  have:(i+1) * n+x - n=i * n+x:=by rw [Nat.add_mul]; omega
  rw [this]
  exact flat_at hf l i x a (by simpa using h) hx
theorem rk_at {vars s:List Nat} (hs:StN vars s):∀k,k≤vars.length→(stsK vars k)[rkK vars s k]? = some (s.take k)
 | 0,_=>by simp [stsK,rkK]
 | k+1,hk=>by
  have ih:=rk_at hs k (by omega)
  have hr:=hs.rng k (by omega)
  have e:stsK vars (k+1)=(stsK vars k).flatMap (extS (vars.getD k 0)):=rfl
  have hsk:s[k]? = some (s.getD k 0):=by
   have:k < s.length:=by rw [hs.len]; omega
   simp [List.getD,List.getElem?_eq_getElem this]
  rw [e]
  show (List.flatMap _ _)[rkK vars s k * vars.getD k 0+s.getD k 0]? = _
  rw [flat_at (fun a=>extS_len _ a) _ _ _ _ ih hr]
  unfold extS
  rw [List.getElem?_map,List.getElem?_range hr,take_snoc hsk]
  rfl
theorem rk_all {vars s:List Nat} (hs:StN vars s):(stsK vars vars.length)[rkK vars s vars.length]? = some s:=by
 have:=rk_at hs vars.length (Nat.le_refl _)
 rwa [List.take_of_length_le (by rw [hs.len]; exact Nat.le_refl _)] at this
theorem rk_sm {T:Nt} {s:List Nat} (hT:SmT T) (hs:StN T.vars s) (k:Nat) (hk:k≤T.vars.length):rkK T.vars s k < 512:=by
 have h1:=(List.getElem?_eq_some_iff.1 (rk_at hs k hk)).1
 rw [stsK_len k hk] at h1
 have:=hT.pr k
 omega
theorem sts512 {T:Nt} (hT:SmT T):(stsK T.vars T.vars.length).length≤512:=by rw [stsK_len _ (Nat.le_refl _)]; exact hT.pr _
def edS (T:Nt) (i:Nat) (s:List Nat):Nat→List Ed
 | 0=>[]
 | q+1=>edS T i s q ++ match T.ops[q]? with | some o=>if hdB s o.pre then [(i,q,rkK T.vars (apS o s) T.vars.length)] else [] | none=>[]
def edK (T:Nt):Nat→List Ed
 | 0=>[]
 | i+1=>edK T i ++ match (stsK T.vars T.vars.length)[i]? with | some s=>edS T i s T.ops.length | none=>[]
theorem edS_len (T:Nt) (i:Nat) (s:List Nat):∀q,(edS T i s q).length≤q
 | 0=>by simp [edS]
 | q+1=>by
  have:=edS_len T i s q
  unfold edS
  rw [List.length_append]
  split
  ·split <;> simp <;> omega
  ·simp; omega
theorem edK_len (T:Nt):∀i,(edK T i).length≤i * T.ops.length
 | 0=>by simp [edK]
 | i+1=>by
  have:=edK_len T i
  unfold edK
  rw [List.length_append,Nat.add_mul,Nat.one_mul]
  split
  ·rename_i s _
   have:=edS_len T i s T.ops.length
   omega
  ·simp; omega
theorem edS_mem {T:Nt} {i:Nat} {s:List Nat} {e:Ed}:∀{q},e ∈ edS T i s q→e.1=i∧∃o,T.ops[e.2.1]? = some o∧hdB s o.pre=true∧e.2.2=rkK T.vars (apS o s) T.vars.length
 | 0,h=>by simp [edS] at h
 | q+1,h=>by
  unfold edS at h
  rcases List.mem_append.1 h with h | h
  ·exact edS_mem h
  ·split at h
   ·rename_i o ho
    split at h
    ·rename_i hp
     simp at h; subst h
     exact ⟨rfl,o,ho,hp,rfl⟩
    ·simp at h
   ·simp at h
theorem edK_mem {T:Nt} {e:Ed}:∀{n},e ∈ edK T n→∃s o,(stsK T.vars T.vars.length)[e.1]? = some s∧T.ops[e.2.1]? = some o∧hdB s o.pre=true∧e.2.2=rkK T.vars (apS o s) T.vars.length
 | 0,h=>by simp [edK] at h
 | n+1,h=>by
  unfold edK at h
  rcases List.mem_append.1 h with h | h
  ·exact edK_mem h
  ·split at h
   ·rename_i s hs
    obtain ⟨h1,o,h2,h3,h4⟩:=edS_mem h
    exact ⟨s,o,by rw [h1]; exact hs,h2,h3,h4⟩
   ·simp at h
def edA (T:Nt):List Ed:=edK T (stsK T.vars T.vars.length).length
theorem ed_append {w w1:World} {F:List Nat} {B:Asr} {ov:Value} {l:List Ed} {x:Ed} {KV:Kont (Value × World)} (hB:Lcl B) (h:At w F (Star (OwnA ov 99 3 edE l) B) w1) (hl:l.length≤1000000)
  (H:∀v' w2,At w F (Star (OwnA v' 99 3 edE (l ++ [x])) B) w2→KV.run (v',w2)) :
  @efH Tryz.prog (Builtin.append_ #[96,96] 96 [ov,.slice (some ⟨w1.heap.size,0,none⟩) 1 1].toArray) (w1.alloc (.cells #[.int .i64 (x.1:Nat),.int .i64 (x.2.1:Nat),.int .i64 (x.2.2:Nat)] 99)) KV:=by
 have h4:=h.kp0 (Lcl.own.star hB) ((Kp.refl [] w1).alloc (.cells #[.int .i64 (x.1:Nat),.int .i64 (x.2.1:Nat),.int .i64 (x.2.2:Nat)] 99))
 refine At.append (xs:=[x]) hB h4 edE_len edE_one sl_96 rfl (fun j u hj=>?_) (by omega) (by unfold maxLen; omega) fun v' w5 h5=>H v' w5 h5
 rw [add_none,cell_blk alloc_new]
 simpa [edE] using hj
set_option maxHeartbeats 1000000 in
theorem edges_spec {w:World} (T:Nt) (hr:NtR w T) (hT:SmT T) :
  Calls Tryz.prog 49 [ntV T].toArray w fun e w'=>∃u,e=.returned u∧At w [] (Star (OwnA u 99 3 edE (edA T)) Emp) w':=by
 refine enter Tryz.func49 mixed low49 (Nat.le_of_ble_eq_true rfl) ?_
 simp only [L49]
 have hg:=hT.g
 have hol:=hT.ol
 have hvl:=hT.vl
 obtain ⟨b,hb⟩:∃b,b=w.heap.size:=⟨_,rfl⟩
 have h1:At w [] (Star (ObjA b (ntO T)) Emp) (w.alloc (ntO T)):=by rw [hb]; exact (At.start rfl).alloc _ .emp
 obtain ⟨w1,hw1⟩:∃w1,w1=w.alloc (ntO T):=⟨_,rfl⟩
 rw [←hw1] at h1
 have hw1':w.alloc (.cells #[T.vv.1,T.nv.1,T.gv.1,T.ov.1] 26 (0,0))=w1:=by rw [hw1]; rfl
 have hob:=h1.obj
 unfold ntO at hob
 have hr1:=hr.kp h1.kp
 simp [ntV,←hb,hw1',cell_blk hob]
 refine cl_of (states_spec T.vv.1 T.vars hr1.vars (by omega) (fun n hn=>by have:=hg.vars n hn; omega) (SmT.sts hT) (fun k hk s hs=>by have:=(sts_ok k hk s hs).1; omega)) ?_
 rintro all w2 h2
 have hls:=LLA.vw h2
 have h3:=At.nil (E:=99) (sz:=3) (enc:=edE) .emp (At.start rfl:At w2 [] Emp w2)
 have k2:=h1.kp.trans0 h2.kp
 have ob2:=h2.kp.blk hob (by simp)
 have hr2:=hr.kp k2
 obtain ⟨ps,hpl,hpv,hpr⟩:=hls.spread
 have h512:=sts512 hT
 simp [hpv.len]
 refine range_loop (n:=ps.length) (by omega) (fun i ρ w'=>ρ 1=.pointer (some ⟨b,0,none⟩)∧ρ 11=all∧At w2 [] (Star (OwnA (ρ 3) 99 3 edE (edK T i)) Emp) w') (by simp) (by simp)
  ⟨by simp,by simp,by simpa [edK] using h3⟩ (by decide) (fun _ _ _ _ h=>by simpa using h) (fun _ _ _ _ h=>by simpa using h) ?_ ?_
 rotate_left
 ·rintro ρ w4 ⟨g1,g11,h4⟩
  rw [hpl] at h4
  simp
  obtain ⟨⟨F,hF,hs⟩,k⟩:=h4
  refine ⟨⟨F,hF,fun x hx=>?_⟩,k2.trans0 k⟩
  rcases hs x hx with h | h
  ·cases h
  ·have:=k2.size; exact .inr (by omega)
 rintro i ρ w4 hi hci hli ⟨g1,g11,h4⟩
 obtain ⟨p,hp⟩:∃p,ps[i]? = some p:=⟨_,List.getElem?_eq_getElem hi⟩
 obtain ⟨s,hsk,hsv⟩:=hpr i p hp
 have hst:=sts_st (List.mem_of_getElem? hsk)
 have hpv4:=hpv.kp0 h4.kp
 have ep:w4.cell? (all.adr.add i)=some p.1.1:=by simpa using hpv4.at_ sv1_len hp (o:=0) (u:=p.1.1) rfl
 have hki:(i:Int) < ps.length:=by omega
 have ob4:=h4.kp.blk ob2 (by simp)
 simp (disch:=omega) [g1,g11,hci,hli,hpv4.idx,ep,cell_blk ob4,(hr2.kp h4.kp).ops.len]
 refine range_loop (n:=T.ops.length) (by omega) (fun q ρ w'=>ρ 1=.pointer (some ⟨b,0,none⟩)∧ρ 11=all∧ρ 12=.int .i64 (ps.length:Nat)∧ρ 13=.int .i64 (i:Nat)∧ρ 4=.int .i64 (i:Nat)∧ρ 5=p.1.1∧At w2 [] (Star (OwnA (ρ 3) 99 3 edE (edK T i ++ edS T i s q)) Emp) w') (by simp) (by simp)
  ⟨by simp [g1],by simp [g11],by simp [hli],by simp [hci],by simp,by simp,by simpa [edS] using h4⟩ (by decide) (fun _ _ _ _ h=>by simpa using h) (fun _ _ _ _ h=>by simpa using h) ?_ ?_
 rotate_left
 ·clear g1 g11 hci hli h4
  rintro ρ w5 ⟨g1,g11,g12,g13,g4,g5,h5⟩
  have e:edK T (i+1)=edK T i ++ edS T i s T.ops.length:=by
   show edK T i ++ _=_
   rw [hsk]
  simp [g1,g11,g12,g13]
  rw [e]
  exact h5
 clear g1 g11 hci hli h4 hpv4 ep ob4
 rintro q ρ w5 hq hcq hlq ⟨g1,g11,g12,g13,g4,g5,h5⟩
 obtain ⟨o,ho⟩:∃o,T.ops[q]? = some o:=⟨_,List.getElem?_eq_getElem hq⟩
 have hog:=hg.ops o (List.mem_of_getElem? ho)
 have ob5:=h5.kp.blk ob2 (by simp)
 have rt:cellsAt w5 ⟨b,0,none⟩ 0 4=some [T.vv.1,T.nv.1,T.gv.1,T.ov.1]:=by simp [cellsAt,Addr.add,cell_blk ob5]
 have hl1:=edK_len T i
 have hl2:=edS_len T i s q
 have hl3:i * T.ops.length≤512 * 20:=Nat.mul_le_mul (by omega) hol
 simp [g1,g5,hcq,rt]
 refine cl_of (apply_spec T p.1.1 s q o (hr2.kp h5.kp) hg ho (hsv.kp0 h5.kp) hst) ?_
 rintro x w6 hx
 unfold apV at hx
 by_cases hh:hdB s o.pre=true
 ·rw [if_pos hh] at hx
  obtain ⟨u,rfl,n6⟩:=hx
  have h6:=h5.kp0 (Lcl.own.star .emp) n6.kp
  have ob6:=h6.kp.blk ob2 (by simp)
  have hst2:=apS_st hst hog
  have hlen2:=hst2.len
  simp [g1,g4,cell_blk ob6]
  refine cl_of (rank_spec T.vv.1 u T.vars (apS o s) (hr2.kp h6.kp).vars n6.own.vw hlen2 (by omega) (fun k hk=>by have:=rk_sm hT hst2 k (by omega); omega)) ?_
  rintro _ w7 ⟨rfl,k7⟩
  rw [hlen2]
  have h7:=h6.kp0 (Lcl.own.star .emp) k7
  obtain ⟨rk,hrk⟩:∃rk,rk=rkK T.vars (apS o s) T.vars.length:=⟨_,rfl⟩
  rw [←hrk]
  have e:edS T i s (q+1)=edS T i s q ++ [(i,q,rk)]:=by
   show edS T i s q ++ _=_
   rw [ho]
   simp only [if_pos hh,hrk]
  simp [g4,hcq,rowOf]
  refine ed_append (x:=(i,q,rk)) .emp h7 (by rw [List.length_append]; omega) fun v' w8 h8=>?_
  simp [g1,g11,g12,g13,g4,g5,hcq,hlq]
  rw [e,←List.append_assoc]
  exact h8
 ·rw [if_neg hh] at hx
  obtain ⟨rfl,k6⟩:=hx
  have e:edS T i s (q+1)=edS T i s q:=by
   show edS T i s q ++ _=_
   rw [ho]
   simp only [if_neg hh,List.append_nil]
  simp [g1,g11,g12,g13,g4,g5,hcq,hlq]
  rw [e]
  exact h5.kp0 (Lcl.own.star .emp) k6
end Go.Proofs.YtcoeknnghfajnaaGreat
end
section
namespace Go.Bd
structure Nd where
 v:Nat
 low:Nat
 high:Nat
 deriving DecidableEq,Inhabited
abbrev Ns:=List Nd
def at_ (n:Nat) (ns:Ns) (f:Nat):Nd:=if f < 2 then ⟨n,f,f⟩ else ns.getD (f - 2) default
def tv (n:Nat) (ns:Ns) (f:Nat):Nat:=(at_ n ns f).v
def Ref (ns:Ns) (f:Nat):Prop:=f < ns.length+2
structure Wf (n:Nat) (ns:Ns):Prop where
 var:∀k (h:k < ns.length),ns[k].v < n
 ne:∀k (h:k < ns.length),ns[k].low≠ns[k].high
 low:∀k (h:k < ns.length),ns[k].low < k+2
 high:∀k (h:k < ns.length),ns[k].high < k+2
 ordl:∀k (h:k < ns.length),ns[k].v < tv n ns ns[k].low
 ordh:∀k (h:k < ns.length),ns[k].v < tv n ns ns[k].high
 nodup:ns.Nodup
theorem Wf.nil (n:Nat):Wf n []:=⟨by simp,by simp,by simp,by simp,by simp,by simp,by simp⟩
theorem at_lt {n:Nat} {ns:Ns} {f:Nat} (h:f < 2):at_ n ns f=⟨n,f,f⟩:=by simp [at_,h]
theorem at_ge {n:Nat} {ns:Ns} {f:Nat} (h:2≤f) (hf:Ref ns f):at_ n ns f=ns[f - 2]'(by unfold Ref at hf; omega):=by
 have h2:¬f < 2:=by omega
 simp only [at_,h2,if_false]
 unfold Ref at hf
 have:f - 2 < ns.length:=by omega
 simp [List.getD,List.getElem?_eq_getElem this]
def eval (ns:Ns) (a:Nat→Bool) (f:Nat):Bool :=
 if h:f < 2 then decide (f=1) else
  let d:=ns.getD (f - 2) default
  if hl:d.low < f∧d.high < f then (if a d.v then eval ns a d.high else eval ns a d.low) else false
 termination_by f
 decreasing_by
 ·exact hl.2
 ·exact hl.1
theorem eval_zero (ns:Ns) (a:Nat→Bool):eval ns a 0=false:=by unfold eval; simp
theorem eval_one (ns:Ns) (a:Nat→Bool):eval ns a 1=true:=by unfold eval; simp
section
variable {n:Nat} {ns:Ns}
theorem Wf.lt_low (w:Wf n ns) {f:Nat} (h:2≤f) (hf:Ref ns f):(at_ n ns f).low < f:=by
 have hk:f - 2 < ns.length:=by unfold Ref at hf; omega
 rw [at_ge h hf]
 have:=w.low (f - 2) hk; omega
theorem Wf.lt_high (w:Wf n ns) {f:Nat} (h:2≤f) (hf:Ref ns f):(at_ n ns f).high < f:=by
 have hk:f - 2 < ns.length:=by unfold Ref at hf; omega
 rw [at_ge h hf]
 have:=w.high (f - 2) hk; omega
theorem eval_node (w:Wf n ns) (a:Nat→Bool) {f:Nat} (h:2≤f) (hf:Ref ns f):eval ns a f=if a (at_ n ns f).v then eval ns a (at_ n ns f).high else eval ns a (at_ n ns f).low:=by
 have h1:=w.lt_low h hf
 have h2:=w.lt_high h hf
 have hk:¬f < 2:=by omega
 have e:at_ n ns f=ns.getD (f - 2) default:=by simp [at_,hk]
 rw [e] at h1 h2 ⊢
 conv=>lhs; unfold eval
 rw [dif_neg hk]
 simp only
 rw [dif_pos ⟨h1,h2⟩]
theorem Wf.ref_low (w:Wf n ns) {f:Nat} (hf:Ref ns f):Ref ns (at_ n ns f).low:=by
 rcases Nat.lt_or_ge f 2 with h | h
 ·rw [at_lt h]; exact hf
 ·have:=w.lt_low h hf; unfold Ref at *; omega
theorem Wf.ref_high (w:Wf n ns) {f:Nat} (hf:Ref ns f):Ref ns (at_ n ns f).high:=by
 rcases Nat.lt_or_ge f 2 with h | h
 ·rw [at_lt h]; exact hf
 ·have:=w.lt_high h hf; unfold Ref at *; omega
theorem tv_lt {f:Nat} (h:f < 2):tv n ns f=n:=by simp [tv,at_lt h]
theorem Wf.tv_var (w:Wf n ns) {f:Nat} (h:2≤f) (hf:Ref ns f):tv n ns f < n:=by
 rw [tv,at_ge h hf]; exact w.var _ _
theorem Wf.tv_le (w:Wf n ns) {f:Nat} (hf:Ref ns f):tv n ns f≤n:=by
 rcases Nat.lt_or_ge f 2 with h | h
 ·rw [tv_lt h]; exact Nat.le_refl _
 ·exact Nat.le_of_lt (w.tv_var h hf)
theorem Wf.tv_low (w:Wf n ns) {f:Nat} (h:2≤f) (hf:Ref ns f):tv n ns f < tv n ns (at_ n ns f).low:=by
 rw [tv,at_ge h hf]; exact w.ordl _ _
theorem Wf.tv_high (w:Wf n ns) {f:Nat} (h:2≤f) (hf:Ref ns f):tv n ns f < tv n ns (at_ n ns f).high:=by
 rw [tv,at_ge h hf]; exact w.ordh _ _
theorem eval_congr (w:Wf n ns) {a b:Nat→Bool}:∀{f:Nat},Ref ns f→(∀i,tv n ns f≤i→a i=b i)→eval ns a f=eval ns b f:=by
 intro f
 induction f using Nat.strongRecOn with
 | ind f ih =>
  intro hf hab
  rcases Nat.lt_or_ge f 2 with h | h
  ·have:f=0∨f=1:=by omega
   rcases this with rfl | rfl
   ·rw [eval_zero,eval_zero]
   ·rw [eval_one,eval_one]
  ·rw [eval_node w a h hf,eval_node w b h hf,hab (at_ n ns f).v (Nat.le_refl _)]
   have hl:=w.tv_low h hf
   have hh:=w.tv_high h hf
   rw [ih _ (w.lt_high h hf) (w.ref_high hf) (fun i hi=>hab i (by omega)),ih _ (w.lt_low h hf) (w.ref_low hf) (fun i hi=>hab i (by omega))]
def upd (a:Nat→Bool) (v:Nat) (x:Bool):Nat→Bool:=fun i=>if i=v then x else a i
@[simp] theorem upd_same (a:Nat→Bool) (v:Nat) (x:Bool):upd a v x v=x:=by simp [upd]
theorem upd_ne {a:Nat→Bool} {v i:Nat} {x:Bool} (h:i≠v):upd a v x i=a i:=by simp [upd,h]
theorem eval_upd (w:Wf n ns) {a:Nat→Bool} {f v:Nat} {x:Bool} (hf:Ref ns f) (h:v < tv n ns f):eval ns (upd a v x) f=eval ns a f :=
 eval_congr w hf fun i hi=>upd_ne (by omega)
theorem eval_low (w:Wf n ns) {a:Nat→Bool} {f:Nat} (h:2≤f) (hf:Ref ns f):eval ns (upd a (tv n ns f) false) f=eval ns a (at_ n ns f).low:=by
 rw [eval_node w _ h hf]
 rw [show (at_ n ns f).v=tv n ns f from rfl,upd_same]
 simp only [Bool.false_eq_true,if_false]
 exact eval_upd w (w.ref_low hf) (w.tv_low h hf)
theorem eval_high (w:Wf n ns) {a:Nat→Bool} {f:Nat} (h:2≤f) (hf:Ref ns f):eval ns (upd a (tv n ns f) true) f=eval ns a (at_ n ns f).high:=by
 rw [eval_node w _ h hf]
 rw [show (at_ n ns f).v=tv n ns f from rfl,upd_same]
 simp only [if_true]
 exact eval_upd w (w.ref_high hf) (w.tv_high h hf)
theorem canon_aux (w:Wf n ns):∀(s f g:Nat),f < s→g < s→Ref ns f→Ref ns g→(∀a,eval ns a f=eval ns a g)→f=g:=by
 intro s
 induction s with
 | zero=>intro f g h; omega
 | succ s ih =>
  have key:∀f g,f < s+1→Ref ns f→Ref ns g→(∀a,eval ns a f=eval ns a g)→2≤f→tv n ns f < tv n ns g→False:=by
   intro f g hs hf hg he h hlt
   have hne:(at_ n ns f).low≠(at_ n ns f).high:=by rw [at_ge h hf]; exact w.ne _ _
   apply hne
   have h1:=w.lt_low h hf
   have h2:=w.lt_high h hf
   refine ih _ _ (by omega) (by omega) (w.ref_low hf) (w.ref_high hf) fun a=>?_
   rw [←eval_low w h hf,←eval_high w h hf,he,he,eval_upd w hg hlt,eval_upd w hg hlt]
  intro f g hfs hgs hf hg he
  rcases Nat.lt_or_ge f 2 with h | h
  ·rcases Nat.lt_or_ge g 2 with h' | h'
   ·have e:=he (fun _=>false)
    have h1:f=0∨f=1:=by omega
    have h2:g=0∨g=1:=by omega
    rcases h1 with rfl | rfl <;> rcases h2 with rfl | rfl <;> simp [eval_zero,eval_one] at e ⊢
   ·exact absurd (key g f hgs hg hf (fun a=>(he a).symm) h' (by rw [tv_lt h]; exact w.tv_var h' hg)) id
  ·rcases Nat.lt_or_ge g 2 with h' | h'
   ·exact absurd (key f g hfs hf hg he h (by rw [tv_lt h']; exact w.tv_var h hf)) id
   ·rcases Nat.lt_trichotomy (tv n ns f) (tv n ns g) with h3 | h3 | h3
    ·exact absurd (key f g hfs hf hg he h h3) id
    ·have h1:=w.lt_low h hf
     have h2:=w.lt_high h hf
     have h1':=w.lt_low h' hg
     have h2':=w.lt_high h' hg
     have el:(at_ n ns f).low=(at_ n ns g).low:=ih _ _ (by omega) (by omega) (w.ref_low hf) (w.ref_low hg) fun a=>by
      rw [←eval_low w h hf,←eval_low w h' hg,he,h3]
     have eh:(at_ n ns f).high=(at_ n ns g).high:=ih _ _ (by omega) (by omega) (w.ref_high hf) (w.ref_high hg) fun a=>by
      rw [←eval_high w h hf,←eval_high w h' hg,he,h3]
     have ev:(at_ n ns f).v=(at_ n ns g).v:=h3
     have e:at_ n ns f=at_ n ns g:=by
      cases hx:at_ n ns f; cases hy:at_ n ns g
      rw [hx,hy] at el eh ev
      simp at el eh ev
      simp [el,eh,ev]
     rw [at_ge h hf,at_ge h' hg] at e
     have:=(List.getElem_inj w.nodup).1 e
     omega
    ·exact absurd (key g f hgs hg hf (fun a=>(he a).symm) h' h3) id
theorem canon (w:Wf n ns) {f g:Nat} (hf:Ref ns f) (hg:Ref ns g) (he:∀a,eval ns a f=eval ns a g):f=g :=
 canon_aux w (f+g+1) f g (by omega) (by omega) hf hg he
theorem dep_top (w:Wf n ns) {f:Nat} (h:2≤f) (hf:Ref ns f):∃a,eval ns (upd a (tv n ns f) false) f≠eval ns (upd a (tv n ns f) true) f:=by
 rcases Classical.em (∃a,eval ns (upd a (tv n ns f) false) f≠eval ns (upd a (tv n ns f) true) f) with h1 | h1
 ·exact h1
 exfalso
 have hne:(at_ n ns f).low≠(at_ n ns f).high:=by rw [at_ge h hf]; exact w.ne _ _
 refine hne (canon w (w.ref_low hf) (w.ref_high hf) fun a=>?_)
 rw [←eval_low w h hf,←eval_high w h hf]
 rcases Classical.em (eval ns (upd a (tv n ns f) false) f=eval ns (upd a (tv n ns f) true) f) with h2 | h2
 ·exact h2
 ·exact absurd ⟨a,h2⟩ h1
theorem tv_ge (w:Wf n ns) {f v:Nat} (hf:Ref ns f) (hv:v≤n) (hd:∀a b:Nat→Bool,(∀i,v≤i→a i=b i)→eval ns a f=eval ns b f):v≤tv n ns f:=by
 rcases Nat.lt_or_ge f 2 with h | h
 ·rw [tv_lt h]; exact hv
 rcases Nat.lt_or_ge (tv n ns f) v with h1 | h1
 ·obtain ⟨a,ha⟩:=dep_top w h hf
  exact absurd (hd _ _ fun i hi=>by rw [upd_ne (by omega),upd_ne (by omega)]) ha
 ·exact h1
theorem at_app {ms:Ns} {f:Nat} (hf:Ref ns f):at_ n (ns ++ ms) f=at_ n ns f:=by
 rcases Nat.lt_or_ge f 2 with h | h
 ·rw [at_lt h,at_lt h]
 ·have hf':Ref (ns ++ ms) f:=by unfold Ref at *; simp; omega
  rw [at_ge h hf,at_ge h hf',List.getElem_append_left]
theorem tv_app {ms:Ns} {f:Nat} (hf:Ref ns f):tv n (ns ++ ms) f=tv n ns f:=by rw [tv,tv,at_app hf]
theorem Ref.app {ms:Ns} {f:Nat} (hf:Ref ns f):Ref (ns ++ ms) f:=by unfold Ref at *; simp; omega
theorem eval_app {ms:Ns} (w:Wf n ns) (w':Wf n (ns ++ ms)) (a:Nat→Bool):∀{f:Nat},Ref ns f→eval (ns ++ ms) a f=eval ns a f:=by
 intro f
 induction f using Nat.strongRecOn with
 | ind f ih =>
  intro hf
  rcases Nat.lt_or_ge f 2 with h | h
  ·have:f=0∨f=1:=by omega
   rcases this with rfl | rfl
   ·rw [eval_zero,eval_zero]
   ·rw [eval_one,eval_one]
  ·rw [eval_node w a h hf,eval_node w' a h hf.app,at_app hf,ih _ (w.lt_high h hf) (w.ref_high hf),ih _ (w.lt_low h hf) (w.ref_low hf)]
end
structure Ext (n:Nat) (ns ns':Ns):Prop where
 pre:∃ms,ns'=ns ++ ms
 wf:Wf n ns'
section
variable {n:Nat} {ns ns' ns2:Ns}
theorem Ext.refl (w:Wf n ns):Ext n ns ns:=⟨⟨[],by simp⟩,w⟩
theorem Ext.trans (h:Ext n ns ns') (k:Ext n ns' ns2):Ext n ns ns2:=by
 obtain ⟨⟨ms,rfl⟩,_⟩:=h
 obtain ⟨⟨ms',rfl⟩,w⟩:=k
 exact ⟨⟨ms ++ ms',by simp⟩,w⟩
theorem Ext.ref (h:Ext n ns ns') {f:Nat} (hf:Ref ns f):Ref ns' f:=by
 obtain ⟨⟨ms,rfl⟩,_⟩:=h; exact hf.app
theorem Ext.eval (h:Ext n ns ns') (w:Wf n ns) (a:Nat→Bool) {f:Nat} (hf:Ref ns f):Bd.eval ns' a f=Bd.eval ns a f:=by
 obtain ⟨⟨ms,rfl⟩,w'⟩:=h; exact eval_app w w' a hf
theorem Ext.at (h:Ext n ns ns') {f:Nat} (hf:Ref ns f):at_ n ns' f=at_ n ns f:=by
 obtain ⟨⟨ms,rfl⟩,_⟩:=h; exact at_app hf
theorem Ext.tv (h:Ext n ns ns') {f:Nat} (hf:Ref ns f):Bd.tv n ns' f=Bd.tv n ns f:=by
 obtain ⟨⟨ms,rfl⟩,_⟩:=h; exact tv_app hf
theorem Wf.snoc (w:Wf n ns) {v l h:Nat} (hv:v < n) (hne:l≠h) (hl:Ref ns l) (hh:Ref ns h) (ol:v < Bd.tv n ns l) (oh:v < Bd.tv n ns h) (hx:(⟨v,l,h⟩:Nd) ∉ ns):Wf n (ns ++ [⟨v,l,h⟩]):=by
 have split:∀k (hk:k < (ns ++ [(⟨v,l,h⟩:Nd)]).length),(∃hk':k < ns.length,(ns ++ [(⟨v,l,h⟩:Nd)])[k]=ns[k])∨(k=ns.length∧(ns ++ [(⟨v,l,h⟩:Nd)])[k]=⟨v,l,h⟩):=by
  intro k hk
  rcases Nat.lt_or_ge k ns.length with h1 | h1
  ·exact .inl ⟨h1,by rw [List.getElem_append_left]⟩
  ·have:k=ns.length:=by simp at hk; omega
   subst this
   exact .inr ⟨rfl,by simp⟩
 have rl:∀k (hk:k < ns.length),Ref ns ns[k].low:=fun k hk=>by have:=w.low k hk; unfold Ref; omega
 have rh:∀k (hk:k < ns.length),Ref ns ns[k].high:=fun k hk=>by have:=w.high k hk; unfold Ref; omega
 refine ⟨?_,?_,?_,?_,?_,?_,?_⟩
 ·intro k hk
  rcases split k hk with ⟨hk',e⟩ | ⟨_,e⟩ <;> rw [e]
  ·exact w.var k hk'
  ·exact hv
 ·intro k hk
  rcases split k hk with ⟨hk',e⟩ | ⟨_,e⟩ <;> rw [e]
  ·exact w.ne k hk'
  ·exact hne
 ·intro k hk
  rcases split k hk with ⟨hk',e⟩ | ⟨rfl,e⟩ <;> rw [e]
  ·exact w.low k hk'
  ·exact hl
 ·intro k hk
  rcases split k hk with ⟨hk',e⟩ | ⟨rfl,e⟩ <;> rw [e]
  ·exact w.high k hk'
  ·exact hh
 ·intro k hk
  rcases split k hk with ⟨hk',e⟩ | ⟨_,e⟩ <;> rw [e]
  ·rw [tv_app (rl k hk')]; exact w.ordl k hk'
  ·rw [tv_app hl]; exact ol
 ·intro k hk
  rcases split k hk with ⟨hk',e⟩ | ⟨_,e⟩ <;> rw [e]
  ·rw [tv_app (rh k hk')]; exact w.ordh k hk'
  ·rw [tv_app hh]; exact oh
 ·rw [List.nodup_append]
  refine ⟨w.nodup,by simp,fun a ha b hb=>?_⟩
  simp at hb
  subst hb
  exact fun e=>hx (e ▸ ha)
end
end Go.Bd
end
section
namespace Go.Bd
def opB (op:Nat) (x y:Bool):Bool:=if op=0 then x && y else if op=1 then x || y else x != y
theorem opB_comm (op:Nat) (x y:Bool):opB op x y=opB op y x:=by
 unfold opB; split
 ·cases x <;> cases y <;> rfl
 ·split <;> cases x <;> cases y <;> rfl
def sh (op f g:Nat):Nat × Bool :=
 if op=0 then (if f=0∨g=0 then (0,true) else if f=1∨f=g then (g,true) else (f,decide (g=1)))
 else if op=1 then (if f=1∨g=1 then (1,true) else if f=0∨f=g then (g,true) else (f,decide (g=0)))
 else if f=g then (0,true) else if f=0 then (g,true) else (f,decide (g=0))
def lo (n:Nat) (ns:Ns) (v x:Nat):Nat:=if v < tv n ns x then x else (at_ n ns x).low
def hi (n:Nat) (ns:Ns) (v x:Nat):Nat:=if v < tv n ns x then x else (at_ n ns x).high
theorem Ref.zero (ns:Ns):Ref ns 0:=by unfold Ref; omega
theorem Ref.one (ns:Ns):Ref ns 1:=by unfold Ref; omega
section
variable {n:Nat} {ns:Ns}
theorem sh_ok {op f g r:Nat} (h:sh op f g=(r,true)) (hf:Ref ns f) (hg:Ref ns g):Ref ns r∧∀a,eval ns a r=opB op (eval ns a f) (eval ns a g):=by
 unfold sh at h
 unfold opB
 split at h
 ·rename_i h0
  simp only [h0,if_true]
  split at h
  ·rename_i h1
   cases h
   refine ⟨Ref.zero ns,fun a=>?_⟩
   rcases h1 with rfl | rfl <;> simp [eval_zero]
  ·split at h
   ·rename_i h1
    cases h
    refine ⟨hg,fun a=>?_⟩
    rcases h1 with rfl | rfl <;> simp [eval_one]
   ·simp only [Prod.mk.injEq,decide_eq_true_eq] at h
    obtain ⟨rfl,rfl⟩:=h
    exact ⟨hf,fun a=>by simp [eval_one]⟩
 ·rename_i h0
  simp only [h0,if_false]
  split at h
  ·rename_i h1
   simp only [h1,if_true]
   split at h
   ·rename_i h1
    cases h
    refine ⟨Ref.one ns,fun a=>?_⟩
    rcases h1 with rfl | rfl <;> simp [eval_one]
   ·split at h
    ·rename_i h1
     cases h
     refine ⟨hg,fun a=>?_⟩
     rcases h1 with rfl | rfl <;> simp [eval_zero]
    ·simp only [Prod.mk.injEq,decide_eq_true_eq] at h
     obtain ⟨rfl,rfl⟩:=h
     exact ⟨hf,fun a=>by simp [eval_zero]⟩
  ·rename_i h1
   simp only [h1,if_false]
   split at h
   ·rename_i h1
    cases h
    subst h1
    exact ⟨Ref.zero ns,fun a=>by simp [eval_zero]⟩
   ·split at h
    ·rename_i h1
     cases h
     subst h1
     exact ⟨hg,fun a=>by simp [eval_zero]⟩
    ·simp only [Prod.mk.injEq,decide_eq_true_eq] at h
     obtain ⟨rfl,rfl⟩:=h
     exact ⟨hf,fun a=>by simp [eval_zero]⟩
theorem sh_no {op f g r:Nat} (h:sh op f g=(r,false)) (hfg:f≤g):2≤g:=by
 unfold sh at h
 split at h
 ·split at h
  ·cases h
  ·split at h
   ·cases h
   ·have:¬g=1:=by simpa using congrArg Prod.snd h
    omega
 ·split at h
  ·split at h
   ·cases h
   ·split at h
    ·cases h
    ·have:¬g=0:=by simpa using congrArg Prod.snd h
     omega
  ·split at h
   ·cases h
   ·split at h
    ·cases h
    ·have:¬g=0:=by simpa using congrArg Prod.snd h
     omega
theorem const_of_top (w:Wf n ns) {f:Nat} (hf:Ref ns f) (h:n≤tv n ns f):f < 2:=by
 rcases Nat.lt_or_ge f 2 with h1 | h1
 ·exact h1
 ·have:=w.tv_var h1 hf; omega
structure Cof (n:Nat) (ns:Ns) (v x l h:Nat):Prop where
 rl:Ref ns l
 rh:Ref ns h
 tl:v < tv n ns l
 th:v < tv n ns h
 ev:∀a,eval ns a x=if a v then eval ns a h else eval ns a l
theorem cof_of (w:Wf n ns) {v x:Nat} (hx:Ref ns x) (hv:v≤tv n ns x) (hn:v < n):Cof n ns v x (lo n ns v x) (hi n ns v x):=by
 unfold lo hi
 by_cases h:v < tv n ns x
 ·simp only [h,if_true]
  exact ⟨hx,hx,h,h,fun a=>by split <;> rfl⟩
 ·simp only [h,if_false]
  have e:v=tv n ns x:=by omega
  have h2:2≤x:=by
   rcases Nat.lt_or_ge x 2 with h1 | h1
   ·rw [tv_lt h1] at e; omega
   ·exact h1
  exact ⟨w.ref_low hx,w.ref_high hx,by rw [e]; exact w.tv_low h2 hx,by rw [e]; exact w.tv_high h2 hx,fun a=>by rw [e]; exact eval_node w a h2 hx⟩
end
def mkF (lim:Nat) (ns:Ns) (v l h:Nat):Option Nat × Ns :=
 if l=h then (some l,ns) else
 match ns.findIdx? fun d=>decide (d=⟨v,l,h⟩) with
 | some k=>(some (k+2),ns)
 | none=>if lim≤ns.length then (none,ns) else (some (ns.length+2),ns ++ [⟨v,l,h⟩])
structure MkOk (n cap:Nat) (ns:Ns) (v l h:Nat) (r:Option Nat) (ns':Ns):Prop where
 ext:Ext n ns ns'
 len:ns'.length≤ns.length+1
 lim:ns.length≤cap→ns'.length≤cap
 ok:∀x,r=some x→Ref ns' x∧v≤tv n ns' x∧∀a,eval ns' a x=if a v then eval ns' a h else eval ns' a l
 full:r=none→cap≤ns.length∧ns'=ns
theorem mkF_new {lim:Nat} {ns:Ns} {v l h x z:Nat} (hx:(mkF lim ns v l h).1=some x) (h1:ns.length+2≤z) (h2:z < (mkF lim ns v l h).2.length+2):z=x:=by
 unfold mkF at hx h2
 by_cases hlh:l=h
 ·simp only [hlh,if_true] at h2
  omega
 ·simp only [hlh,if_false] at hx h2
  cases hf:ns.findIdx? fun d=>decide (d=⟨v,l,h⟩) with
  | some k=>rw [hf] at h2; simp only at h2; omega
  | none =>
   rw [hf] at hx h2
   simp only at hx h2
   by_cases hc:lim≤ns.length
   ·rw [if_pos hc] at hx; cases hx
   ·rw [if_neg hc] at hx h2
    simp at hx h2
    omega
theorem mkF_ok {n lim:Nat} {ns:Ns} (w:Wf n ns) {v l h:Nat} (hv:v < n) (hl:Ref ns l) (hh:Ref ns h) (tl:v < tv n ns l) (th:v < tv n ns h):MkOk n lim ns v l h (mkF lim ns v l h).1 (mkF lim ns v l h).2:=by
 unfold mkF
 by_cases hlh:l=h
 ·simp only [hlh,if_true]
  refine ⟨Ext.refl w,by omega,fun h=>h,fun x hx=>?_,by simp⟩
  simp only [Option.some.injEq] at hx
  subst hx
  exact ⟨hh,by omega,fun a=>by split <;> rfl⟩
 ·simp only [hlh,if_false]
  cases hf:ns.findIdx? fun d=>decide (d=⟨v,l,h⟩) with
  | some k =>
   rw [List.findIdx?_eq_some_iff_getElem] at hf
   obtain ⟨hk,he,_⟩:=hf
   have he:ns[k]=⟨v,l,h⟩:=by simpa using he
   refine ⟨Ext.refl w,by simp,fun h=>h,fun x hx=>?_,by simp⟩
   simp only [Option.some.injEq] at hx
   subst hx
   have hr:Ref ns (k+2):=by unfold Ref; omega
   have hat:at_ n ns (k+2)=⟨v,l,h⟩:=by rw [at_ge (by omega) hr]; simpa using he
   refine ⟨hr,by rw [tv,hat]; exact Nat.le_refl _,fun a=>?_⟩
   rw [eval_node w a (by omega) hr,hat]
  | none =>
   rw [List.findIdx?_eq_none_iff] at hf
   have hx:(⟨v,l,h⟩:Nd) ∉ ns:=fun hm=>by simpa using hf _ hm
   by_cases hlim:lim≤ns.length
   ·simp only [hlim,if_true]
    exact ⟨Ext.refl w,by omega,fun h=>h,fun x hx=>by simp at hx,fun _=>⟨hlim,rfl⟩⟩
   ·simp only [hlim,if_false]
    have w':=w.snoc hv hlh hl hh tl th hx
    refine ⟨⟨⟨_,rfl⟩,w'⟩,by simp,fun _=>by simp; omega,fun x hx=>?_,by simp⟩
    simp only [Option.some.injEq] at hx
    subst hx
    have hr:Ref (ns ++ [(⟨v,l,h⟩:Nd)]) (ns.length+2):=by unfold Ref; simp
    have hat:at_ n (ns ++ [(⟨v,l,h⟩:Nd)]) (ns.length+2)=⟨v,l,h⟩:=by rw [at_ge (by omega) hr]; simp
    refine ⟨hr,by rw [tv,hat]; exact Nat.le_refl _,fun a=>?_⟩
    rw [eval_node w' a (by omega) hr,hat]
theorem nodup_len {α:Type} [DecidableEq α]:∀(xs ys:List α),xs.Nodup→(∀x ∈ xs,x ∈ ys)→xs.length≤ys.length
 | [],ys,_,_=>by simp
 | x :: xs,ys,hn,hs=>by
  rw [List.nodup_cons] at hn
  have hx:x ∈ ys:=hs x (by simp)
  have:=nodup_len xs (ys.erase x) hn.2 (fun y hy=>by
   have hne:y≠x:=fun e=>hn.1 (e ▸ hy)
   exact (List.mem_erase_of_ne hne).2 (hs y (by simp [hy])))
  rw [List.length_erase_of_mem hx] at this
  have:0 < ys.length:=List.length_pos_of_mem hx
  simp; omega
abbrev Mem2:=List ((Nat × Nat) × Nat)
def MemOk (op:Nat) (ns:Ns) (M:Mem2):Prop:=∀q ∈ M,Ref ns q.1.1∧Ref ns q.1.2∧Ref ns q.2∧∀a,eval ns a q.2=opB op (eval ns a q.1.1) (eval ns a q.1.2)
theorem MemOk.ext {n op:Nat} {ns ns':Ns} {M:Mem2} (h:MemOk op ns M) (w:Wf n ns) (hx:Ext n ns ns'):MemOk op ns' M:=fun q hq=>by
 obtain ⟨h1,h2,h3,h4⟩:=h q hq
 exact ⟨hx.ref h1,hx.ref h2,hx.ref h3,fun a=>by rw [hx.eval w a h1,hx.eval w a h2,hx.eval w a h3,h4]⟩
theorem mem_small {ns:Ns} {M:Mem2} {N:Nat} (hN:ns.length+2≤N) (hr:∀q ∈ M,Ref ns q.1.1∧Ref ns q.1.2) (hn:(M.map (·.1)).Nodup):M.length≤N * N:=by
 have h1:((M.map (·.1)).map fun p=>p.1 * N+p.2).Nodup:=by
  rw [List.nodup_iff_pairwise_ne,List.pairwise_map]
  refine List.Pairwise.imp_of_mem ?_ (List.nodup_iff_pairwise_ne.1 hn)
  intro a b ha hb hab he
  obtain ⟨q,hq,rfl⟩:=List.mem_map.1 ha
  obtain ⟨q',hq',rfl⟩:=List.mem_map.1 hb
  obtain ⟨r1,r2⟩:=hr q hq
  obtain ⟨r3,r4⟩:=hr q' hq'
  unfold Ref at *
  apply hab
  have e2:q.1.2=q'.1.2:=by
   have:=congrArg (· % N) he
   simp only [Nat.mul_add_mod_self_right] at this
   rwa [Nat.mod_eq_of_lt (by omega),Nat.mod_eq_of_lt (by omega)] at this
  have e1:q.1.1=q'.1.1:=by
   rw [e2] at he
   have h3:q.1.1 * N=q'.1.1 * N:=Nat.add_right_cancel he
   exact Nat.eq_of_mul_eq_mul_right (by omega) h3
  exact Prod.ext e1 e2
 have h2:=nodup_len _ (List.range (N * N)) h1 (fun x hx=>by
  obtain ⟨p,hp,rfl⟩:=List.mem_map.1 hx
  obtain ⟨q,hq,rfl⟩:=List.mem_map.1 hp
  obtain ⟨r1,r2⟩:=hr q hq
  unfold Ref at *
  rw [List.mem_range]
  calc q.1.1 * N+q.1.2 < q.1.1 * N+N:=by omega
   _=(q.1.1+1) * N:=by rw [Nat.add_mul]; omega
   _≤N * N:=Nat.mul_le_mul_right _ (by omega))
 simpa using h2
def Sn (op:Nat) (S:Nat→Nat→Prop) (x y:Nat):Prop:=(sh op (min x y) (max x y)).2=true∨S (min x y) (max x y)
def Clo (n op:Nat) (ns:Ns) (S:Nat→Nat→Prop):Prop:=∀f g,S f g→Ref ns f∧Ref ns g ∧
 Sn op S (lo n ns (min (tv n ns f) (tv n ns g)) f) (lo n ns (min (tv n ns f) (tv n ns g)) g)∧Sn op S (hi n ns (min (tv n ns f) (tv n ns g)) f) (hi n ns (min (tv n ns f) (tv n ns g)) g)
theorem lo_ext {n:Nat} {ns ns':Ns} (hx:Ext n ns ns') {v x:Nat} (h:Ref ns x):lo n ns' v x=lo n ns v x:=by unfold lo; rw [hx.tv h,hx.at h]
theorem hi_ext {n:Nat} {ns ns':Ns} (hx:Ext n ns ns') {v x:Nat} (h:Ref ns x):hi n ns' v x=hi n ns v x:=by unfold hi; rw [hx.tv h,hx.at h]
theorem Clo.ext {n op:Nat} {ns ns':Ns} {S:Nat→Nat→Prop} (h:Clo n op ns S) (hx:Ext n ns ns'):Clo n op ns' S:=fun f g hS=>by
 obtain ⟨h1,h2,h3,h4⟩:=h f g hS
 rw [hx.tv h1,hx.tv h2,lo_ext hx h1,lo_ext hx h2,hi_ext hx h1,hi_ext hx h2]
 exact ⟨hx.ref h1,hx.ref h2,h3,h4⟩
structure ApOk (n cap op:Nat) (S:Nat→Nat→Prop) (ns:Ns) (M:Mem2) (f g:Nat) (r:Option Nat) (ns':Ns) (M':Mem2):Prop where
 ext:Ext n ns ns'
 lim:ns'.length≤cap
 mem:MemOk op ns' M'
 ok:∀x,r=some x→Ref ns' x∧∀a,eval ns' a x=opB op (eval ns a f) (eval ns a g)
 grow:ns'.length+M.length≤ns.length+M'.length
 sub:∀q ∈ M',(∃q' ∈ M,q'.1=q.1)∨(S q.1.1 q.1.2∧min (tv n ns f) (tv n ns g)≤min (tv n ns' q.1.1) (tv n ns' q.1.2))
 full:r=none→cap≤ns'.length∧∃x y,S x y∧∀q ∈ M',q.1≠(x,y)
 mono:∀q ∈ M,q ∈ M'
 fr:∀z,ns.length+2≤z→z < ns'.length+2→∃q ∈ M',q.2=z∧S q.1.1 q.1.2
theorem ApOk.swap {n cap op:Nat} {S:Nat→Nat→Prop} {ns ns':Ns} {M M':Mem2} {f g:Nat} {r:Option Nat} (h:ApOk n cap op S ns M f g r ns' M'):ApOk n cap op S ns M g f r ns' M' :=
 ⟨h.ext,h.lim,h.mem,fun x hx=>⟨(h.ok x hx).1,fun a=>by rw [(h.ok x hx).2 a,opB_comm]⟩,h.grow,fun q hq=>by
  rcases h.sub q hq with h1 | ⟨h1,h2⟩
  ·exact .inl h1
  ·exact .inr ⟨h1,by omega⟩,h.full,h.mono,h.fr⟩
end Go.Bd
end
