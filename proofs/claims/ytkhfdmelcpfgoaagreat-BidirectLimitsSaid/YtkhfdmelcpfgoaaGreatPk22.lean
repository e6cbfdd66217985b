/-
  A part of the proof of this claim's statement (SyWM, RxAw, RxXL, RxYA, RxYB, RxYC, RxYK, SyCt, SyCu, SyWJ, SyWK, BdWH): plain theorems; no conditions beyond those each names.
-/
import Derived.Test.YtkhfdmelcpfgoaaGreatPk21
import Derived.Test.YtkhfdmelcpfgoaaGreatPk13
import Derived.Test.YtkhfdmelcpfgoaaGreatPk12
import Derived.Test.YtkhfdmelcpfgoaaGreatPk19
import Derived.Test.YtkhfdmelcpfgoaaGreatPk16
section
set_option maxRecDepth 100000
set_option linter.unusedSimpArgs false
set_option linter.unusedVariables false
namespace Go.Proofs.YtkhfdmelcpfgoaaGreat
open Go Go.W Go.Tk Go.Rx Go.Bd Go.Sy Go.Maps
def LitS (vars:List Nat) (G:BFn):Prop:=∃ i,i < 2 * nBits vars∧(G=(fun a=>a i)∨G=fun a=>!a i)
def VlS (vars:List Nat) (v x nx:Nat) (G:BFn):Prop:=∃ j,j < wd (vars.getD v 0)∧G=vlB vars v x nx j
def FacS (vars:List Nat) (l:List Go.Tk.Fc) (G:BFn):Prop:=(∃ i,i < l.length∧VlS vars (l.getD i (0,0)).1 (l.getD i (0,0)).2 0 G)∨∃ j,j < l.length∧G=fcB vars l j
def SaS (vars:List Nat) (v:Nat) (G:BFn):Prop:=∃ j,j < wd (vars.getD v 0)∧(G=(fun a=>a (2 * (bP vars v+j)) && a (2 * (bP vars v+j)+1))∨G=(fun a=>!a (2 * (bP vars v+j)) && !a (2 * (bP vars v+j)+1)) ∨
 G=(fun a=>(a (2 * (bP vars v+j)) && a (2 * (bP vars v+j)+1)) || (!a (2 * (bP vars v+j)) && !a (2 * (bP vars v+j)+1)))∨G=saB vars v j)
def EfS (vars:List Nat) (o:No) (v j:Nat) (x:Nf) (G:BFn):Prop:=FacS vars x.cnd G∨VlS vars v x.x 1 G∨G=(fun a=>leB vars o v (j+1) a && hdB (rs vars a 0) x.cnd) ∨
 G=(fun a=>(leB vars o v (j+1) a && hdB (rs vars a 0) x.cnd) && decide (rv vars a 1 v=x.x))∨G=ouB vars o v j∨G=(fun a=>!hdB (rs vars a 0) x.cnd)∨G=leB vars o v j
def ChS (vars:List Nat) (o:No) (v:Nat) (G:BFn):Prop:=SaS vars v G∨G=(fun a=>leB vars o v 0 a && decide (rv vars a 0 v=rv vars a 1 v))∨G=(fun a=>decide (rv vars a 1 v=chgV o (rs vars a 0) v)) ∨
 ∃ j,j < o.effs.length∧∃ x,o.effs[j]?=some x∧x.v=v∧EfS vars o v j x G
def RelS (T:Nt) (o:No) (G:BFn):Prop:=LitS T.vars G∨(∃ v,v < T.vars.length∧ChS T.vars o v G)∨(∃ j,j < T.vars.length∧G=rlB T o j)∨FacS T.vars o.pre G∨G=fun a=>hdB (rs T.vars a 0) o.pre && rlB T o 0 a
def NewS (T:Nt) (G:BFn):Prop:=LitS T.vars G∨(∃ v,v < T.vars.length∧∃ x,x < T.vars.getD v 0∧(VlS T.vars v x 0 G∨G=fun a=>decide (rv T.vars a 0 v < x+1)))∨∃ k,k < T.vars.length∧G=okP T.vars (k+1)
def inn (T:Nt) (nx:Nat):Nat→Bool:=inB (insOf (2 * nBits T.vars) (hfL nx (2 * nBits T.vars)))
def ImgS (T:Nt) (o:No) (P:List Nat→Bool) (G:BFn):Prop:=RelS T o G∨G=imA T o P∨(∃ H,IsC (imA T o P) H∧∀ a,G a=true↔qS 1 (inn T 0) H a) ∨
 ∃ X,(∀ a,X a=true↔qS 1 (inn T 0) (imA T o P) a)∧∃ H,IsC X H∧G=fun b=>H (sgA (2 * nBits T.vars) 1 b)
def PreS (T:Nt) (o:No) (P:List Nat→Bool) (G:BFn):Prop:=RelS T o G∨(∃ H,IsC (setF T.vars P) H∧G=fun b=>H (sgA (2 * nBits T.vars) 0 b))∨G=prA T o P∨(∃ H,IsC (prA T o P) H∧∀ a,G a=true↔qS 1 (inn T 1) H a)∨G=setF T.vars (preP o P)
section
variable {W:BFn→Prop}
theorem litW {vars:List Nat} (h:∀ G,LitS vars G→W G):LitW vars W:=fun i hi=>⟨h _ ⟨i,hi,.inl rfl⟩,h _ ⟨i,hi,.inr rfl⟩⟩
theorem vlW {vars:List Nat} {v x nx:Nat} (h:∀ G,VlS vars v x nx G→W G):VlW vars v x nx W:=fun j hj=>h _ ⟨j,hj,rfl⟩
theorem facW {vars:List Nat} {l:List Go.Tk.Fc} (h:∀ G,FacS vars l G→W G):FcW vars l W:=by
 refine ⟨fun f hf=>vlW fun G hG=>?_,fun j hj=>h _ (.inr ⟨j,hj,rfl⟩)⟩
 obtain ⟨i,hi,rfl⟩:=List.getElem_of_mem hf
 refine h _ (.inl ⟨i,hi,?_⟩)
 simpa [List.getD,hi] using hG
theorem chW {vars:List Nat} {o:No} {v:Nat} (h:∀ G,ChS vars o v G→W G):ChW vars o v W:=by
 have he:∀ (j:Nat) (x:Nf),o.effs[j]?=some x→x.v=v→∀ G,EfS vars o v j x G→W G:=fun j x hx hv G hG=>h _ (.inr (.inr (.inr ⟨j,(List.getElem?_eq_some_iff.1 hx).1,x,hx,hv,hG⟩)))
 exact ⟨fun j hj=>⟨h _ (.inl ⟨j,hj,.inl rfl⟩),h _ (.inl ⟨j,hj,.inr (.inl rfl)⟩),h _ (.inl ⟨j,hj,.inr (.inr (.inl rfl))⟩),h _ (.inl ⟨j,hj,.inr (.inr (.inr rfl))⟩)⟩,h _ (.inr (.inl rfl)),h _ (.inr (.inr (.inl rfl))),
  fun j x hx hv=>facW fun G hG=>he j x hx hv G (.inl hG),fun j x hx hv=>vlW fun G hG=>he j x hx hv G (.inr (.inl hG)),fun j x hx hv=>he j x hx hv _ (.inr (.inr (.inl rfl))),fun j x hx hv=>he j x hx hv _ (.inr (.inr (.inr (.inl rfl)))),
  fun j x hx hv=>he j x hx hv _ (.inr (.inr (.inr (.inr (.inl rfl))))),fun j x hx hv=>he j x hx hv _ (.inr (.inr (.inr (.inr (.inr (.inl rfl)))))),fun j x hx hv=>he j x hx hv _ (.inr (.inr (.inr (.inr (.inr (.inr rfl))))))⟩
theorem relW {T:Nt} {o:No} (h:∀ G,RelS T o G→W G):RelW T o W :=
 ⟨litW fun G hG=>h _ (.inl hG),fun v hv=>chW fun G hG=>h _ (.inr (.inl ⟨v,hv,hG⟩)),fun j hj=>h _ (.inr (.inr (.inl ⟨j,hj,rfl⟩))),facW fun G hG=>h _ (.inr (.inr (.inr (.inl hG)))),h _ (.inr (.inr (.inr (.inr rfl))))⟩
theorem newW {T:Nt} (h:∀ G,NewS T G→W G):NewW T W :=
 ⟨litW fun G hG=>h _ (.inl hG),fun v x hv hx=>vlW fun G hG=>h _ (.inr (.inl ⟨v,hv,x,hx,.inl hG⟩)),fun v x hv hx=>h _ (.inr (.inl ⟨v,hv,x,hx,.inr rfl⟩)),fun k hk=>h _ (.inr (.inr ⟨k,hk,rfl⟩))⟩
theorem imgW {T:Nt} {o:No} {P:List Nat→Bool} (h:∀ G,ImgS T o P G→W G):ImgW T o P W :=
 ⟨relW fun G hG=>h _ (.inl hG),h _ (.inr (.inl rfl)),fun H hH G hG=>h _ (.inr (.inr (.inl ⟨H,hH,hG⟩))),fun X hX H hH=>h _ (.inr (.inr (.inr ⟨X,hX,H,hH,rfl⟩)))⟩
theorem preW {T:Nt} {o:No} {P:List Nat→Bool} (h:∀ G,PreS T o P G→W G):PreW T o P W :=
 ⟨relW fun G hG=>h _ (.inl hG),fun H hH=>h _ (.inr (.inl ⟨H,hH,rfl⟩)),h _ (.inr (.inr (.inl rfl))),fun H hH G hG=>h _ (.inr (.inr (.inr (.inl ⟨H,hH,hG⟩)))),h _ (.inr (.inr (.inr (.inr rfl))))⟩
end
section
variable {n C:Nat} (hC:∀ G:BFn,CovW n (fun K=>K=G) C)
include hC
end
end Go.Proofs.YtkhfdmelcpfgoaaGreat
end
section
set_option linter.unusedVariables false
set_option linter.unusedSimpArgs false
namespace Go.Rx
def LA (f:Nat):Int:=if f < 4 then (f:Int) else -1
end Go.Rx
end
section
set_option maxRecDepth 100000
set_option linter.unusedSimpArgs false
set_option linter.unusedVariables false
namespace Go.Proofs.YtkhfdmelcpfgoaaGreat
open Go Go.W Go.Tk Go.Rx Go.Maps
def IsC (i:Nat) (o:No):Prop:=o.name=ByteArray.empty∧o.cost=2∧o.pre=[(0,i)]∧∃ e:Nf,o.effs=[e]∧e.cnd=[]∧e.v=0∧e.x=i+1∧e.wv.1=.slice none 0 0
end Go.Proofs.YtkhfdmelcpfgoaaGreat
end
section
set_option maxRecDepth 100000
set_option linter.unusedSimpArgs false
set_option linter.unusedVariables false
namespace Go.Rx
open Go Go.W Go.Tk
def prL:List Nat→Nat
 | []=>1
 | x :: l=>x * prL l
theorem prL_snoc:∀ (l:List Nat) (x:Nat),prL (l ++ [x])=prL l * x
 | [],x=>by simp [prL]
 | y :: l,x=>by simp only [List.cons_append,prL,prL_snoc l x,Nat.mul_assoc]
theorem many_le:∀ (vars:List Nat) (n:Nat),(∀ v ∈ vars,1≤v)→manyF 512 n (vars.map iN)≤512→∀ k,n * prL (vars.take k)≤512
 | [],n,_,h,k=>by simpa [manyF,prL] using h
 | x :: l,n,hx,h,k=>by
  have h1:=hx x (by simp)
  simp only [List.map_cons,manyF] at h
  split at h
  ·omega
  ·rename_i hle
   have e:(iN x).toNat=x:=by simp [iN]
   rw [e] at hle h
   have hle:n * min x (512+1)≤512:=by omega
   cases k with
   | zero =>
    have:=Nat.mul_le_mul_left n (show 1≤min x (512+1) by omega)
    simp [prL]; omega
   | succ k =>
    rcases Nat.eq_zero_or_pos n with rfl | hn
    ·simp
    have hm:min x (512+1)=x:=by
     rcases Nat.le_total x 513 with h2 | h2
     ·omega
     ·have:min x (512+1)=513:=by omega
      rw [this] at hle
      omega
    rw [hm] at h
    have:=many_le l (n * x) (fun v hv=>hx v (by simp [hv])) h k
    simpa [List.take_succ_cons,prL,Nat.mul_assoc] using this
structure SmT (T:Nt):Prop where
 g:NtG T
 good:goodB T.raw=true
 vl:T.vars.length≤12
 ol:T.ops.length≤20
 el:∀ o ∈ T.ops,o.effs.length≤8
 pr:∀ k,prL (T.vars.take k)≤512
 nm:∀ o ∈ T.ops,o.name.size≤9223372036854775807
theorem small_nat {t:Tk} (hl:TkL t) (h:smallB t=true):∃ T:Nt,T.raw=t∧SmT T:=by
 unfold smallB at h
 simp only [Bool.and_eq_true,decide_eq_true_eq] at h
 obtain ⟨⟨⟨⟨h1,h2⟩,h3⟩,h4⟩,h5⟩:=h
 obtain ⟨T,rfl,hg⟩:=good_nat h4
 rw [List.all_eq_true] at h3
 refine ⟨T,rfl,hg,h4,by simpa [Nt.raw] using h1,by simpa [Nt.raw] using h2,fun o ho=>?_,fun k=>?_,fun o ho=>?_⟩
 ·have:=h3 o.raw (List.mem_map.2 ⟨o,ho,rfl⟩)
  simpa [No.raw] using this
 ·have:=many_le T.vars 1 (fun v hv=>(hg.vars v hv).1) h5 k
  simpa using this
 ·exact (hl.op o.raw (List.mem_map.2 ⟨o,ho,rfl⟩)).1
end Go.Rx
namespace Go.Proofs.YtkhfdmelcpfgoaaGreat
open Go Go.W Go.Tk Go.Rx Go.Maps
theorem stsK_len {vars:List Nat}:∀ k,k≤vars.length→(stsK vars k).length=prL (vars.take k)
 | 0,_=>by simp [stsK,prL]
 | k+1,hk=>by
  obtain ⟨n,hn⟩:∃ n,vars[k]?=some n:=⟨_,List.getElem?_eq_getElem (by omega)⟩
  have key:∀ (l:List (List Nat)),(l.flatMap (extS (vars.getD k 0))).length=l.length * vars.getD k 0:=by
   intro l
   induction l with
   | nil=>simp
   | cons a l ih=>rw [List.flatMap_cons,List.length_append,ih,extS_len,List.length_cons,Nat.add_mul]; omega
  have e:stsK vars (k+1)=(stsK vars k).flatMap (extS (vars.getD k 0)):=rfl
  rw [take_snoc hn,prL_snoc,← stsK_len k (by omega),e,key]
  simp [List.getD,hn]
theorem SmT.sts {T:Nt} (h:SmT T):∀ k,k≤T.vars.length→(stsK T.vars k).length≤10000:=fun k hk=>by
 rw [stsK_len k hk]
 have:=h.pr k
 omega
end Go.Proofs.YtkhfdmelcpfgoaaGreat
end
section
set_option maxRecDepth 100000
set_option linter.unusedSimpArgs false
set_option linter.unusedVariables false
namespace Go.Proofs.YtkhfdmelcpfgoaaGreat
open Go Go.W Go.Tk Go.Rx Go.Maps
section
variable {w:World} {b:Nat} {T:Nt} {U:List Un}
end
theorem lone {α:Type} {enc:α→List Value} {v:Value} {l:List α} {X:Asr} (ho:oneC v=true):Imp (Star (VwA v enc l) X) (Star (VwsA enc [((⟨v,ho⟩,l):Cell1 × List α)]) X):=by
 rintro w F ⟨Fa,Fb,⟨h1,e1,h2⟩,h3,hd,rfl⟩
 exact ⟨_,⟨Fa,Fb,⟨fun p hp=>by simp at hp; subst hp; exact h1,fun x hx=>h2 x (by rw [← e1]; exact hx),by simpa using e1⟩,h3,hd,rfl⟩,fun x hx=>hx⟩
end Go.Proofs.YtkhfdmelcpfgoaaGreat
end
section
set_option maxRecDepth 100000
set_option linter.unusedSimpArgs false
set_option linter.unusedVariables false
namespace Go.Proofs.YtkhfdmelcpfgoaaGreat
open Go Go.W Go.Tk Go.Rx Go.Maps
theorem raw_vv (T:Nt):T.raw.vv=T.vv:=rfl
theorem raw_ov (T:Nt):T.raw.ov=T.ov:=rfl
end Go.Proofs.YtkhfdmelcpfgoaaGreat
end
section
set_option maxRecDepth 100000
set_option linter.unusedSimpArgs false
set_option linter.unusedVariables false
namespace Go.Proofs.YtkhfdmelcpfgoaaGreat
open Go Go.W Go.Tk Go.Rx Go.Maps
abbrev Ed:=Nat × Nat × Nat
def edE (e:Ed):List Value:=[.int .i64 (e.1:Nat),.int .i64 (e.2.1:Nat),.int .i64 (e.2.2:Nat)]
theorem edE_len (e:Ed):(edE e).length=3:=rfl
theorem edE_one (e:Ed):(edE e).all oneC=true:=rfl
theorem apK_st {vars:List Nat} {o:No} {s:List Nat} (hs:StN vars s) (ho:NoG vars o):∀ k,k≤o.effs.length→StN vars (apK o s k)
 | 0,_=>by simpa [apK] using hs
 | k+1,hk=>by
  obtain ⟨e,he⟩:∃ e,o.effs[k]?=some e:=⟨_,List.getElem?_eq_getElem (by omega)⟩
  have ih:=apK_st hs ho k (by omega)
  rw [apK_succ he]
  split
  ·obtain ⟨e1,e2⟩:=ho.eff e (List.mem_of_getElem? he)
   refine ⟨by rw [List.length_set]; exact ih.len,fun v hv=>?_⟩
   by_cases h:v=e.v
   ·subst h
    simp only [List.getD,List.getElem?_set_self (show e.v < (apK o s k).length by rw [ih.len]; exact e1),Option.getD_some]
    exact e2
   ·have:=ih.rng v hv
    simpa only [List.getD,List.getElem?_set_ne (Ne.symm h)] using this
  ·exact ih
theorem apS_st {vars:List Nat} {o:No} {s:List Nat} (hs:StN vars s) (ho:NoG vars o):StN vars (apS o s):=apK_st hs ho _ (Nat.le_refl _)
theorem flat_at {α β:Type} {f:α→List β} {n:Nat} (hf:∀ a,(f a).length=n):∀ (l:List α) (i x:Nat) (a:α),l[i]?=some a→x < n→(l.flatMap f)[i * n+x]?=(f a)[x]?
 | [],i,x,a,h,_=>by simp at h
 | b :: l,0,x,a,h,hx=>by
  simp at h; subst h
  rw [List.flatMap_cons,Nat.zero_mul,Nat.zero_add,List.getElem?_append_left (by rw [hf]; exact hx)]
 | b :: l,i+1,x,a,h,hx=>by
  rw [List.flatMap_cons,List.getElem?_append_right (by rw [hf,Nat.add_mul]; omega),hf]
  have:(i+1) * n+x - n=i * n+x:=by rw [Nat.add_mul]; omega
  rw [this]
  exact flat_at hf l i x a (by simpa using h) hx
theorem rk_at {vars s:List Nat} (hs:StN vars s):∀ k,k≤vars.length→(stsK vars k)[rkK vars s k]?=some (s.take k)
 | 0,_=>by simp [stsK,rkK]
 | k+1,hk=>by
  have ih:=rk_at hs k (by omega)
  have hr:=hs.rng k (by omega)
  have e:stsK vars (k+1)=(stsK vars k).flatMap (extS (vars.getD k 0)):=rfl
  have hsk:s[k]?=some (s.getD k 0):=by
   have:k < s.length:=by rw [hs.len]; omega
   simp [List.getD,List.getElem?_eq_getElem this]
  rw [e]
  show (List.flatMap _ _)[rkK vars s k * vars.getD k 0+s.getD k 0]?=_
  rw [flat_at (fun a=>extS_len _ a) _ _ _ _ ih hr]
  unfold extS
  rw [List.getElem?_map,List.getElem?_range hr,take_snoc hsk]
  rfl
theorem rk_all {vars s:List Nat} (hs:StN vars s):(stsK vars vars.length)[rkK vars s vars.length]?=some s:=by
 have:=rk_at hs vars.length (Nat.le_refl _)
 rwa [List.take_of_length_le (by rw [hs.len]; exact Nat.le_refl _)] at this
theorem rk_sm {T:Nt} {s:List Nat} (hT:SmT T) (hs:StN T.vars s) (k:Nat) (hk:k≤T.vars.length):rkK T.vars s k < 512:=by
 have h1:=(List.getElem?_eq_some_iff.1 (rk_at hs k hk)).1
 rw [stsK_len k hk] at h1
 have:=hT.pr k
 omega
theorem sts512 {T:Nt} (hT:SmT T):(stsK T.vars T.vars.length).length≤512:=by rw [stsK_len _ (Nat.le_refl _)]; exact hT.pr _
def edS (T:Nt) (i:Nat) (s:List Nat):Nat→List Ed
 | 0=>[]
 | q+1=>edS T i s q ++ match T.ops[q]? with | some o=>if hdB s o.pre then [(i,q,rkK T.vars (apS o s) T.vars.length)] else [] | none=>[]
def edK (T:Nt):Nat→List Ed
 | 0=>[]
 | i+1=>edK T i ++ match (stsK T.vars T.vars.length)[i]? with | some s=>edS T i s T.ops.length | none=>[]
theorem edS_len (T:Nt) (i:Nat) (s:List Nat):∀ q,(edS T i s q).length≤q
 | 0=>by simp [edS]
 | q+1=>by
  have:=edS_len T i s q
  unfold edS
  rw [List.length_append]
  split
  ·split <;> simp <;> omega
  ·simp; omega
theorem edK_len (T:Nt):∀ i,(edK T i).length≤i * T.ops.length
 | 0=>by simp [edK]
 | i+1=>by
  have:=edK_len T i
  unfold edK
  rw [List.length_append,Nat.add_mul,Nat.one_mul]
  split
  ·rename_i s _
   have:=edS_len T i s T.ops.length
   omega
  ·simp; omega
theorem edS_mem {T:Nt} {i:Nat} {s:List Nat} {e:Ed}:∀ {q},e ∈ edS T i s q→e.1=i∧∃ o,T.ops[e.2.1]?=some o∧hdB s o.pre=true∧e.2.2=rkK T.vars (apS o s) T.vars.length
 | 0,h=>by simp [edS] at h
 | q+1,h=>by
  unfold edS at h
  rcases List.mem_append.1 h with h | h
  ·exact edS_mem h
  ·split at h
   ·rename_i o ho
    split at h
    ·rename_i hp
     simp at h; subst h
     exact ⟨rfl,o,ho,hp,rfl⟩
    ·simp at h
   ·simp at h
theorem edK_mem {T:Nt} {e:Ed}:∀ {n},e ∈ edK T n→∃ s o,(stsK T.vars T.vars.length)[e.1]?=some s∧T.ops[e.2.1]?=some o∧hdB s o.pre=true∧e.2.2=rkK T.vars (apS o s) T.vars.length
 | 0,h=>by simp [edK] at h
 | n+1,h=>by
  unfold edK at h
  rcases List.mem_append.1 h with h | h
  ·exact edK_mem h
  ·split at h
   ·rename_i s hs
    obtain ⟨h1,o,h2,h3,h4⟩:=edS_mem h
    exact ⟨s,o,by rw [h1]; exact hs,h2,h3,h4⟩
   ·simp at h
def edA (T:Nt):List Ed:=edK T (stsK T.vars T.vars.length).length
theorem ed_append {w w1:World} {F:List Nat} {B:Asr} {ov:Value} {l:List Ed} {x:Ed} {KV:Kont (Value × World)} (hB:Lcl B) (h:At w F (Star (OwnA ov 61 3 edE l) B) w1) (hl:l.length≤1000000)
  (H:∀ v' w2,At w F (Star (OwnA v' 61 3 edE (l ++ [x])) B) w2→KV.run (v',w2)) :
  @efH Tryz.prog (Builtin.append_ #[58,58] 58 [ov,.slice (some ⟨w1.heap.size,0,none⟩) 1 1].toArray) (w1.alloc (.cells #[.int .i64 (x.1:Nat),.int .i64 (x.2.1:Nat),.int .i64 (x.2.2:Nat)] 61)) KV:=by
 have h4:=h.kp0 (Lcl.own.star hB) ((Kp.refl [] w1).alloc (.cells #[.int .i64 (x.1:Nat),.int .i64 (x.2.1:Nat),.int .i64 (x.2.2:Nat)] 61))
 refine At.append (xs:=[x]) hB h4 edE_len edE_one sl_58 rfl (fun j u hj=>?_) (by omega) (by unfold maxLen; omega) fun v' w5 h5=>H v' w5 h5
 rw [add_none,cell_blk alloc_new]
 simpa [edE] using hj
set_option maxHeartbeats 1000000 in
theorem edges_spec {w:World} (T:Nt) (hr:NtR w T) (hT:SmT T) :
  Calls Tryz.prog 27 [ntV T].toArray w fun e w'=>∃ u,e=.returned u∧At w [] (Star (OwnA u 61 3 edE (edA T)) Emp) w':=by
 refine enter Tryz.func27 mixed low27 (Nat.le_of_ble_eq_true rfl) ?_
 simp only [L27]
 have hg:=hT.g
 have hol:=hT.ol
 have hvl:=hT.vl
 obtain ⟨b,hb⟩:∃ b,b=w.heap.size:=⟨_,rfl⟩
 have h1:At w [] (Star (ObjA b (ntO T)) Emp) (w.alloc (ntO T)):=by rw [hb]; exact (At.start rfl).alloc _ .emp
 obtain ⟨w1,hw1⟩:∃ w1,w1=w.alloc (ntO T):=⟨_,rfl⟩
 rw [← hw1] at h1
 have hw1':w.alloc (.cells #[T.vv.1,T.nv.1,T.gv.1,T.ov.1] 26 (0,0))=w1:=by rw [hw1]; rfl
 have hob:=h1.obj
 unfold ntO at hob
 have hr1:=hr.kp h1.kp
 simp [ntV,← hb,hw1',cell_blk hob]
 refine cl_of (states_spec T.vv.1 T.vars hr1.vars (by omega) (fun n hn=>by have:=hg.vars n hn; omega) (SmT.sts hT) (fun k hk s hs=>by have:=(sts_ok k hk s hs).1; omega)) ?_
 rintro all w2 h2
 have hls:=LLA.vw h2
 have h3:=At.nil (E:=61) (sz:=3) (enc:=edE) .emp (At.start rfl:At w2 [] Emp w2)
 have k2:=h1.kp.trans0 h2.kp
 have ob2:=h2.kp.blk hob (by simp)
 have hr2:=hr.kp k2
 obtain ⟨ps,hpl,hpv,hpr⟩:=hls.spread
 have h512:=sts512 hT
 simp [hpv.len]
 refine range_loop (n:=ps.length) (by omega) (fun i ρ w'=>ρ 1=.pointer (some ⟨b,0,none⟩)∧ρ 11=all∧At w2 [] (Star (OwnA (ρ 3) 61 3 edE (edK T i)) Emp) w') (by simp) (by simp)
  ⟨by simp,by simp,by simpa [edK] using h3⟩ (by decide) (fun _ _ _ _ h=>by simpa using h) (fun _ _ _ _ h=>by simpa using h) ?_ ?_
 rotate_left
 ·rintro ρ w4 ⟨g1,g11,h4⟩
  rw [hpl] at h4
  simp
  obtain ⟨⟨F,hF,hs⟩,k⟩:=h4
  refine ⟨⟨F,hF,fun x hx=>?_⟩,k2.trans0 k⟩
  rcases hs x hx with h | h
  ·cases h
  ·have:=k2.size; exact .inr (by omega)
 rintro i ρ w4 hi hci hli ⟨g1,g11,h4⟩
 obtain ⟨p,hp⟩:∃ p,ps[i]?=some p:=⟨_,List.getElem?_eq_getElem hi⟩
 obtain ⟨s,hsk,hsv⟩:=hpr i p hp
 have hst:=sts_st (List.mem_of_getElem? hsk)
 have hpv4:=hpv.kp0 h4.kp
 have ep:w4.cell? (all.adr.add i)=some p.1.1:=by simpa using hpv4.at_ sv1_len hp (o:=0) (u:=p.1.1) rfl
 have hki:(i:Int) < ps.length:=by omega
 have ob4:=h4.kp.blk ob2 (by simp)
 simp (disch:=omega) [g1,g11,hci,hli,hpv4.idx,ep,cell_blk ob4,(hr2.kp h4.kp).ops.len]
 refine range_loop (n:=T.ops.length) (by omega) (fun q ρ w'=>ρ 1=.pointer (some ⟨b,0,none⟩)∧ρ 11=all∧ρ 12=.int .i64 (ps.length:Nat)∧ρ 13=.int .i64 (i:Nat)∧ρ 4=.int .i64 (i:Nat)∧ρ 5=p.1.1∧At w2 [] (Star (OwnA (ρ 3) 61 3 edE (edK T i ++ edS T i s q)) Emp) w') (by simp) (by simp)
  ⟨by simp [g1],by simp [g11],by simp [hli],by simp [hci],by simp,by simp,by simpa [edS] using h4⟩ (by decide) (fun _ _ _ _ h=>by simpa using h) (fun _ _ _ _ h=>by simpa using h) ?_ ?_
 rotate_left
 ·clear g1 g11 hci hli h4
  rintro ρ w5 ⟨g1,g11,g12,g13,g4,g5,h5⟩
  have e:edK T (i+1)=edK T i ++ edS T i s T.ops.length:=by
   show edK T i ++ _=_
   rw [hsk]
  simp [g1,g11,g12,g13]
  rw [e]
  exact h5
 clear g1 g11 hci hli h4 hpv4 ep ob4
 rintro q ρ w5 hq hcq hlq ⟨g1,g11,g12,g13,g4,g5,h5⟩
 obtain ⟨o,ho⟩:∃ o,T.ops[q]?=some o:=⟨_,List.getElem?_eq_getElem hq⟩
 have hog:=hg.ops o (List.mem_of_getElem? ho)
 have ob5:=h5.kp.blk ob2 (by simp)
 have rt:cellsAt w5 ⟨b,0,none⟩ 0 4=some [T.vv.1,T.nv.1,T.gv.1,T.ov.1]:=by simp [cellsAt,Addr.add,cell_blk ob5]
 have hl1:=edK_len T i
 have hl2:=edS_len T i s q
 have hl3:i * T.ops.length≤512 * 20:=Nat.mul_le_mul (by omega) hol
 simp [g1,g5,hcq,rt]
 refine cl_of (apply_spec T p.1.1 s q o (hr2.kp h5.kp) hg ho (hsv.kp0 h5.kp) hst) ?_
 rintro x w6 hx
 unfold apV at hx
 by_cases hh:hdB s o.pre=true
 ·rw [if_pos hh] at hx
  obtain ⟨u,rfl,n6⟩:=hx
  have h6:=h5.kp0 (Lcl.own.star .emp) n6.kp
  have ob6:=h6.kp.blk ob2 (by simp)
  have hst2:=apS_st hst hog
  have hlen2:=hst2.len
  simp [g1,g4,cell_blk ob6]
  refine cl_of (rank_spec T.vv.1 u T.vars (apS o s) (hr2.kp h6.kp).vars n6.own.vw hlen2 (by omega) (fun k hk=>by have:=rk_sm hT hst2 k (by omega); omega)) ?_
  rintro _ w7 ⟨rfl,k7⟩
  rw [hlen2]
  have h7:=h6.kp0 (Lcl.own.star .emp) k7
  obtain ⟨rk,hrk⟩:∃ rk,rk=rkK T.vars (apS o s) T.vars.length:=⟨_,rfl⟩
  rw [← hrk]
  have e:edS T i s (q+1)=edS T i s q ++ [(i,q,rk)]:=by
   show edS T i s q ++ _=_
   rw [ho]
   simp only [if_pos hh,hrk]
  simp [g4,hcq,rowOf]
  refine ed_append (x:=(i,q,rk)) .emp h7 (by rw [List.length_append]; omega) fun v' w8 h8=>?_
  simp [g1,g11,g12,g13,g4,g5,hcq,hlq]
  rw [e,← List.append_assoc]
  exact h8
 ·rw [if_neg hh] at hx
  obtain ⟨rfl,k6⟩:=hx
  have e:edS T i s (q+1)=edS T i s q:=by
   show edS T i s q ++ _=_
   rw [ho]
   simp only [if_neg hh,List.append_nil]
  simp [g1,g11,g12,g13,g4,g5,hcq,hlq]
  rw [e]
  exact h5.kp0 (Lcl.own.star .emp) k6
end Go.Proofs.YtkhfdmelcpfgoaaGreat
end
section
set_option maxRecDepth 100000
set_option linter.unusedSimpArgs false
set_option linter.unusedVariables false
namespace Go.Proofs.YtkhfdmelcpfgoaaGreat
open Go Go.W Go.Tk Go.Rx Go.Bd Go.Sy Go.Maps
def asL:Nat→Nat→List (Nat→Bool)
 | 0,_=>[fun _=>false]
 | d+1,k=>(asL d (k+1)).map (fun a=>upd a k false) ++ (asL d (k+1)).map (fun a=>upd a k true)
theorem num_asL:∀ (d k:Nat) (F:(Nat→Bool)→Bool),num d k F=((asL d k).filter F).length
 | 0,k,F=>by
  rw [num,asL]
  cases h:F fun _=>false <;> simp [h]
 | d+1,k,F=>by
  rw [num,asL,List.filter_append,List.length_append,num_asL,num_asL,List.filter_map,List.filter_map,List.length_map,List.length_map]
  rfl
theorem asL_mem:∀ (d k:Nat) (a:Nat→Bool),a ∈ asL d k↔∀ i,¬ (k≤i∧i < k+d)→a i=false
 | 0,k,a=>by
  rw [asL,List.mem_singleton]
  constructor
  ·rintro rfl i _
   rfl
  ·intro h
   funext i
   exact h i (by omega)
 | d+1,k,a=>by
  rw [asL,List.mem_append,List.mem_map,List.mem_map]
  constructor
  ·rintro (⟨b,hb,rfl⟩ | ⟨b,hb,rfl⟩) i hi <;>
   ·have:i≠k:=by omega
    simp only [upd,if_neg this]
    exact (asL_mem d (k+1) b).1 hb i (by omega)
  ·intro h
   have hb:upd a k false ∈ asL d (k+1):=(asL_mem d (k+1) _).2 fun i hi=>by
    by_cases e:i=k
    ·subst e
     simp [upd]
    ·simp only [upd,if_neg e]
     exact h i (by omega)
   have e:∀ x,a k=x→upd (upd a k false) k x=a:=fun x hx=>by
    funext i
    unfold upd
    by_cases e:i=k
    ·subst e
     rw [if_pos rfl,hx]
    ·rw [if_neg e,if_neg e]
   cases hx:a k with
   | false=>exact .inl ⟨_,hb,e _ hx⟩
   | true=>exact .inr ⟨_,hb,e _ hx⟩
theorem nd_map {α β:Type} {f:α→β} {l:List α} (h:l.Nodup) (hf:∀ a ∈ l,∀ b ∈ l,f a=f b→a=b):(l.map f).Nodup:=by
 unfold List.Nodup
 rw [List.pairwise_map]
 exact List.Pairwise.imp_of_mem (fun ha hb hne e=>hne (hf _ ha _ hb e)) h
theorem asL_nd:∀ (d k:Nat),(asL d k).Nodup
 | 0,k=>by simp [asL]
 | d+1,k=>by
  have ih:=asL_nd d (k+1)
  have z:∀ a ∈ asL d (k+1),a k=false:=fun a ha=>(asL_mem d (k+1) a).1 ha k (by omega)
  have inj:∀ x,∀ a ∈ asL d (k+1),∀ b ∈ asL d (k+1),upd a k x=upd b k x→a=b:=fun x a ha b hb e=>by
   funext i
   by_cases h:i=k
   ·subst h
    rw [z a ha,z b hb]
   ·have:=congrFun e i
    simpa [upd,h] using this
  rw [asL,List.nodup_append]
  refine ⟨nd_map ih (inj false),nd_map ih (inj true),?_⟩
  rintro x hx y hy rfl
  obtain ⟨a,ha,rfl⟩:=List.mem_map.1 hx
  obtain ⟨b,hb,e⟩:=List.mem_map.1 hy
  have:=congrFun e k
  simp [upd] at this
theorem sts_lenS (vars:List Nat):∀ k,∀ s ∈ stsK vars k,s.length=k:=by
 intro k
 induction k with
 | zero=>intro s hs; simp [stsK] at hs; subst hs; rfl
 | succ k ih =>
  intro s hs
  unfold stsK at hs
  obtain ⟨x,hx,h⟩:=List.mem_flatMap.1 hs
  unfold extS at h
  obtain ⟨i,_,rfl⟩:=List.mem_map.1 h
  rw [List.length_append,ih x hx]
  rfl
theorem sts_nd (vars:List Nat):∀ k,(stsK vars k).Nodup:=by
 intro k
 induction k with
 | zero=>simp [stsK]
 | succ k ih =>
  have hl:∀ s ∈ stsK vars k,s.length=k:=sts_lenS vars k
  unfold stsK
  unfold List.Nodup
  rw [List.pairwise_flatMap]
  refine ⟨fun s hs=>?_,?_⟩
  ·unfold extS
   rw [List.pairwise_map]
   exact List.nodup_range.imp fun hne e=>hne (by simpa using e)
  ·refine List.Pairwise.imp_of_mem (fun {a b} ha hb hne x hx y hy e=>hne ?_) ih
   unfold extS at hx hy
   obtain ⟨i,_,rfl⟩:=List.mem_map.1 hx
   obtain ⟨j,_,rfl⟩:=List.mem_map.1 hy
   have:=congrArg (List.take k) e
   rwa [List.take_append_of_le_length (by rw [hl a ha]; exact Nat.le_refl _),List.take_append_of_le_length (by rw [hl b hb]; exact Nat.le_refl _),List.take_of_length_le (by rw [hl a ha]; exact Nat.le_refl _),List.take_of_length_le (by rw [hl b hb]; exact Nat.le_refl _)] at this
theorem bP_cover:∀ (vars:List Nat) (p:Nat),p < nBits vars→∃ v n k,vars[v]?=some n∧k < wd n∧p=bP vars v+k
 | [],p,h=>by simp [nBits] at h
 | m :: l,p,h=>by
  by_cases hp:p < wd m
  ·exact ⟨0,m,p,by simp,hp,by simp [bP]⟩
  ·have hn:nBits (m :: l)=wd m+nBits l:=by simp [nBits]
   obtain ⟨v,n,k,h1,h2,h3⟩:=bP_cover l (p - wd m) (by omega)
   refine ⟨v+1,n,k,by simpa using h1,h2,?_⟩
   have:bP (m :: l) (v+1)=wd m+bP l v:=by unfold bP; simp
   omega
theorem rs_inj {vars:List Nat} {a b:Nat→Bool} (h:rs vars a 0=rs vars b 0) {p:Nat} (hp:p < nBits vars):a (2 * p)=b (2 * p):=by
 obtain ⟨v,n,k,h1,h2,rfl⟩:=bP_cover vars p hp
 have hv:=(List.getElem?_eq_some_iff.1 h1).1
 have hn:vars.getD v 0=n:=by simp [List.getD,h1]
 have e:rv vars a 0 v=rv vars b 0 v:=by rw [← rs_at hv,← rs_at hv,h]
 unfold rv at e
 rw [hn] at e
 have hb:=(valK_eq (g:=fun k=>b (2 * (bP vars v+k)+0)) (wd n) _ (valK_lt _ _)).2 rfl
 have ha:=(valK_eq (g:=fun k=>a (2 * (bP vars v+k)+0)) (wd n) _ (valK_lt (fun k=>b (2 * (bP vars v+k)+0)) _)).2 e
 have:=(ha k h2).trans (hb k h2).symm
 simpa using this
end Go.Proofs.YtkhfdmelcpfgoaaGreat
end
section
set_option maxRecDepth 100000
set_option linter.unusedSimpArgs false
set_option linter.unusedVariables false
namespace Go.Proofs.YtkhfdmelcpfgoaaGreat
open Go Go.W Go.Tk Go.Rx Go.Bd Go.Sy Go.Maps
def ctN (vars:List Nat) (P:List Nat→Bool):Nat:=((stsK vars vars.length).filter P).length
theorem ct_num {vars:List Nat} {P:List Nat→Bool} (h64:∀ n ∈ vars,n≤64):num (2 * nBits vars) 0 (ctF vars P)=ctN vars P:=by
 rw [num_asL]
 unfold ctN
 have hm:∀ a,a ∈ (asL (2 * nBits vars) 0).filter (ctF vars P)↔(∀ i,¬ i < 2 * nBits vars→a i=false)∧StN vars (rs vars a 0)∧P (rs vars a 0)=true∧∀ p,p < nBits vars→a (2 * p+1)=false:=fun a=>by
  rw [List.mem_filter,asL_mem]
  unfold ctF
  rw [Bool.and_eq_true_iff,Bool.and_eq_true_iff,zB_all,okB_iff]
  constructor
  ·rintro ⟨h1,⟨h2,h3⟩,h4⟩
   exact ⟨fun i hi=>h1 i (by omega),h2,h3,h4⟩
  ·rintro ⟨h1,h2,h3,h4⟩
   exact ⟨fun i hi=>h1 i (by omega),⟨h2,h3⟩,h4⟩
 have nd:(((asL (2 * nBits vars) 0).filter (ctF vars P)).map fun a=>rs vars a 0).Nodup:=by
  refine nd_map ((asL_nd _ _).filter _) fun a ha b hb e=>?_
  obtain ⟨a1,_,_,a4⟩:=(hm a).1 ha
  obtain ⟨b1,_,_,b4⟩:=(hm b).1 hb
  funext i
  by_cases hi:i < 2 * nBits vars
  ·by_cases hp:i % 2=0
   ·obtain ⟨p,rfl⟩:∃ p,i=2 * p:=⟨i / 2,by omega⟩
    exact rs_inj e (by omega)
   ·obtain ⟨p,rfl⟩:∃ p,i=2 * p+1:=⟨i / 2,by omega⟩
    rw [a4 p (by omega),b4 p (by omega)]
  ·rw [a1 i hi,b1 i hi]
 have key:=(List.perm_ext_iff_of_nodup nd ((sts_nd vars vars.length).filter P)).2 fun x=>by
  rw [List.mem_map,List.mem_filter,sts_mem]
  constructor
  ·rintro ⟨a,ha,rfl⟩
   obtain ⟨_,h2,h3,_⟩:=(hm a).1 ha
   exact ⟨h2,h3⟩
  ·rintro ⟨h2,h3⟩
   obtain ⟨a,ha⟩:∃ a:Nat→Bool,a=fun i=>decide (i < 2 * nBits vars) && (decide (i % 2=0) && mk2 vars x [] i):=⟨_,rfl⟩
   have hx:rs vars a 0=x:=by
    rw [← rs_mk2 (y:=[]) h64 h2]
    refine rs_congr fun p hp=>?_
    have e1:decide (2 * p+0 < 2 * nBits vars)=true:=by simp; omega
    have e2:decide ((2 * p+0) % 2=0)=true:=by simp
    rw [ha]
    simp only [e1,e2,Bool.true_and]
   refine ⟨a,(hm a).2 ⟨fun i hi=>?_,by rw [hx]; exact h2,by rw [hx]; exact h3,fun p hp=>?_⟩,hx⟩
   ·have:decide (i < 2 * nBits vars)=false:=by simpa using hi
    rw [ha]
    simp only [this,Bool.false_and]
   ·have:decide ((2 * p+1) % 2=0)=false:=by simp
    rw [ha]
    simp only [this,Bool.false_and,Bool.and_false]
 rw [← key.length_eq,List.length_map]
end Go.Proofs.YtkhfdmelcpfgoaaGreat
end
section
set_option maxRecDepth 100000
set_option linter.unusedSimpArgs false
set_option linter.unusedVariables false
namespace Go.Proofs.YtkhfdmelcpfgoaaGreat
open Go Go.W Go.Tk Go.Rx Go.Bd Go.Sy Go.Maps
theorem apS_sk {o o2:No} (h:o.effs.map skE=o2.effs.map skE) (s:List Nat):apS o s=apS o2 s:=by
 have hl:=congrArg List.length h
 rw [List.length_map,List.length_map] at hl
 have key:∀ k,k≤o.effs.length→apK o s k=apK o2 s k:=by
  intro k hk
  induction k with
  | zero=>rfl
  | succ k ih =>
   have ih:=ih (by omega)
   obtain ⟨e,he⟩:∃ e,o.effs[k]?=some e:=⟨_,List.getElem?_eq_getElem (by omega)⟩
   obtain ⟨e2,he2⟩:∃ e,o2.effs[k]?=some e:=⟨_,List.getElem?_eq_getElem (by omega)⟩
   have hs:skE e=skE e2:=by
    have:=congrArg (fun l=>l[k]?) h
    simpa [he,he2] using this
   unfold skE at hs
   simp only [Prod.mk.injEq] at hs
   rw [apK_succ he,apK_succ he2,ih,hs.1,hs.2.1,hs.2.2]
 unfold apS
 rw [← hl]
 exact key _ (Nat.le_refl _)
theorem Alk.sk {T T':Nt} (h:Alk T T') {i:Nat} {o:No} (ho:T.ops[i]?=some o):∃ o',T'.ops[i]?=some o'∧o'.pre=o.pre∧(∀ s,apS o' s=apS o s)∧o'.effs.length=o.effs.length:=by
 have:=congrArg (fun l=>l[i]?) h.ops
 simp only [List.getElem?_map,ho,Option.map_some] at this
 cases h2:T'.ops[i]? with
 | none=>rw [h2] at this; cases this
 | some o2 =>
  rw [h2] at this
  simp only [Option.map_some,Option.some.injEq] at this
  unfold skO at this
  simp only [Prod.mk.injEq] at this
  have hl:=congrArg List.length this.2.2.2
  rw [List.length_map,List.length_map] at hl
  exact ⟨o2,rfl,this.2.2.1,apS_sk this.2.2.2,hl⟩
theorem imgP_alk {T T':Nt} {o o':No} (h:Alk T T') (hp:o'.pre=o.pre) (hs:∀ s,apS o' s=apS o s) (P:List Nat→Bool):imgP T' o' P=imgP T o P:=by
 funext s
 unfold imgP
 rw [h.vars,hp]
 simp only [hs]
theorem preP_alk {o o':No} (hp:o'.pre=o.pre) (hs:∀ s,apS o' s=apS o s) (P:List Nat→Bool):preP o' P=preP o P:=by
 funext s
 unfold preP
 rw [hp,hs]
end Go.Proofs.YtkhfdmelcpfgoaaGreat
end
section
set_option maxRecDepth 100000
set_option linter.unusedSimpArgs false
set_option linter.unusedVariables false
namespace Go.Proofs.YtkhfdmelcpfgoaaGreat
open Go Go.W Go.Tk Go.Rx Go.Bd Go.Sy Go.Maps
theorem getM_put {κ α:Type} [DecidableEq κ]:∀ (l:List (κ × α)) (x:κ) (v:α),getM (putM l x v) x=some v:=by
 intro l x v
 unfold getM putM
 split
 ·rename_i h
  rw [List.any_eq_true] at h
  induction l with
  | nil=>obtain ⟨p,hp,_⟩:=h; cases hp
  | cons p l ih =>
   by_cases e:p.1=x
   ·simp [e]
   ·simp only [List.map_cons,e,if_false,List.find?_cons,decide_false]
    refine ih ?_
    obtain ⟨q,hq,hq2⟩:=h
    rcases List.mem_cons.1 hq with rfl | hq
    ·exact absurd (of_decide_eq_true hq2) e
    ·exact ⟨q,hq,hq2⟩
 ·rename_i h
  rw [List.find?_append]
  have:l.find? (fun p=>decide (p.1=x))=none:=by
   rw [List.find?_eq_none]
   intro p hp hc
   exact h (List.any_eq_true.2 ⟨p,hp,hc⟩)
  rw [this]
  simp
theorem getM_put_ne {κ α:Type} [DecidableEq κ] {l:List (κ × α)} {x y:κ} {v:α} (h:x≠y):getM (putM l x v) y=getM l y:=by
 unfold getM putM
 split
 ·rename_i hh
  clear hh
  induction l with
  | nil=>rfl
  | cons p l ih =>
   by_cases e:p.1=x
   ·have:¬ p.1=y:=fun e2=>h (by rw [← e,e2])
    simp only [List.map_cons,e,if_true,List.find?_cons,h,decide_false,this]
    exact ih
   ·by_cases e2:p.1=y
    ·have hyx:¬ y=x:=fun e=>h e.symm
     simp [List.map_cons,e2,hyx]
    ·simp only [List.map_cons,e,if_false,List.find?_cons,e2,decide_false]
     exact ih
 ·rw [List.find?_append]
  cases l.find? (fun p=>decide (p.1=y)) with
  | some p=>rfl
  | none=>simp [h]
end Go.Proofs.YtkhfdmelcpfgoaaGreat
end
section
set_option maxRecDepth 100000
set_option linter.unusedSimpArgs false
set_option linter.unusedVariables false
namespace Go.Proofs.YtkhfdmelcpfgoaaGreat
open Go Go.W Go.Bd Go.Maps
def PickI (n:Nat) (ns:Ns) (f g:Nat) (l:List Bool):Prop:=Ref ns g∧g≠0∧l.length=n∧∀ i,i < n→pickF n ns f i=(l.getD i false || pickF n ns g i)
theorem PickI.step {n f g:Nat} {ns:Ns} {l:List Bool} (w:Wf n ns) (h:PickI n ns f g l) (h2:2≤g):if (at_ n ns g).low=0 then PickI n ns f (at_ n ns g).high (l.set (tv n ns g) true) else PickI n ns f (at_ n ns g).low l:=by
 obtain ⟨h1,h0,hl,hp⟩:=h
 have hne:(at_ n ns g).low≠(at_ n ns g).high:=by rw [at_ge h2 h1]; exact w.ne _ _
 have tvn:=w.tv_var h2 h1
 rw [pick_node w h2 h1] at hp
 by_cases hz:(at_ n ns g).low=0
 ·rw [if_pos hz] at hp ⊢
  refine ⟨w.ref_high h1,by omega,by simpa using hl,fun i hi=>?_⟩
  rw [hp i hi]
  by_cases he:i=tv n ns g
  ·subst he
   rw [upd_same]
   simp [List.getD,List.getElem?_set,hl,hi]
  ·rw [upd_ne he]
   simp only [List.getD_eq_getElem?_getD,List.getElem?_set]
   rw [if_neg (fun e=>he e.symm)]
 ·rw [if_neg hz] at hp ⊢
  exact ⟨w.ref_low h1,hz,hl,hp⟩
theorem PickI.done {n f g:Nat} {ns:Ns} {l:List Bool} (h:PickI n ns f g l) (h2:g < 2):l=(List.range n).map (pickF n ns f):=by
 obtain ⟨h1,h0,hl,hp⟩:=h
 refine List.ext_getElem (by simp [hl]) fun i h3 h4=>?_
 have:=hp i (by omega)
 rw [pick_lt h2] at this
 simp [this,List.getD,List.getElem?_eq_getElem h3]
def PickV (m n lim:Nat) (ns:Ns) (f:Nat) (sv:Value) (B:Asr) (w:World) (F:List Nat) (q:Nat) (ρ:Env) (w':World):Prop :=
 ∃ l,ρ 0=.pointer (some ⟨m,0,none⟩)∧ρ 1=.int .i64 (q:Nat)∧ρ 7=sv∧PickI n ns f q l∧At w F (Star (OwnA sv 4 1 bv l) (Star (MgrA m n lim ns) B)) w'
theorem pick_spec {w w1:World} {F:List Nat} {B:Asr} (m n lim:Nat) (ns:Ns) (f:Nat) (hB:Lcl B) (hA:At w F (Star (MgrA m n lim ns) B) w1) (hw:Wf n ns) (hb:Bnd n lim ns) (hf:Ref ns f) (h0:f≠0) :
  Calls Tryz.prog 87 [.pointer (some ⟨m,0,none⟩),.int .i64 (f:Nat)].toArray w1 fun e w'=>∃ x,e=.returned x∧∃ v,x=.tuple #[v,.nilIface]∧At w F (Star (OwnA v 4 1 bv ((List.range n).map (pickF n ns f))) (Star (MgrA m n lim ns) B)) w':=by
 have hbn:=hb.hn
 have hbl:=hb.hl
 have hbs:=hb.hs
 refine enter Tryz.func87 mixed low87 (Nat.le_of_ble_eq_true rfl) ?_
 simp only [L87]
 have hl:Lcl (Star (MgrA m n lim ns) B):=Lcl.mgr.star hB
 simp [rowOf]
 refine cl_of (check_lit [(f:Int)] (MgrA.rd hA) hb rfl (by simp) rfl) ?_
 rintro u w2 ⟨rfl,k2⟩
 have h2:=hA.kp0 hl k2
 have hr:[(f:Int)].all (refB ns)=true:=by
  unfold Ref at hf
  simp [refB]; omega
 rw [hr]
 obtain ⟨nv,b,ho,_,_⟩:=MgrA.rd h2
 unfold mgrO at ho
 have h4:=h2.made (E:=4) (enc:=bv) (x:=false) (z:=[.bool false]) (n:=n) hl rfl bv_len (by unfold maxLen; omega)
 simp [bchkV,e_eq0,h0,cell_blk ho]
 refine gd_mk (by omega) ?_
 obtain ⟨sv,hsv⟩:∃ sv,sv=Value.slice (some ⟨w2.heap.size,0,none⟩) n n:=⟨_,rfl⟩
 rw [← hsv] at h4
 simp [← hsv]
 refine loop_inv (PickV m n lim ns f sv B w F) f
  ⟨List.replicate n false,by simp,by simp,by simp,⟨hf,h0,by simp,fun i hi=>by simp [List.getD,List.getElem?_replicate,hi]⟩,h4⟩ ?_
 rintro q ρ w4 ⟨l,g0,g1,g7,hI,h5⟩
 by_cases hq:q < 2
 ·have hq':¬ (1:Int) < q:=by omega
  simp [g1,g7,hq']
  rw [hI.done hq] at h5
  exact h5
 ·have hq':(1:Int) < q:=by omega
  have hq2:2≤q:=by omega
  have hst:=hI.step hw hq2
  have hrq:=hI.1
  have l1:=hw.lt_low hq2 hrq
  have l2:=hw.lt_high hq2 hrq
  have tvn:=hw.tv_var hq2 hrq
  have hLl:Lcl (Star (OwnA sv 4 1 bv l) (Star (MgrA m n lim ns) B)):=Lcl.own.star hl
  simp [g1,g0,hq']
  refine cl_of (at_spec m n lim q ns w4 (MgrA.rd h5.drop) hb hrq) ?_
  rintro _ w5 ⟨rfl,k5⟩
  have h6:=(h5.kp0 hLl k5).alloc (.cells #[.int .i64 0,.int .i64 0,.int .i64 0] 137) hLl
  simp [ndV,bn_len]
  refine h6.st hLl (by simp [en,ints]) (by simp [en,ints]) fun w7 h7=>?_
  have hon:=h7.obj
  simp [en,ints] at hon
  have h8:=h7.rot
  have hLn:∀ {o:Obj} {b:Nat},Lcl (Star (ObjA b o) (Star (MgrA m n lim ns) B)):=Lcl.obj.star hl
  have eqz:(((at_ n ns q).low:Int) == 0)=decide ((at_ n ns q).low=0):=e_eq0 _
  simp [cell_blk hon,eqz]
  by_cases hz:(at_ n ns q).low=0
  ·rw [if_pos hz] at hst
   have hvl:(at_ n ns q).v < l.length:=by rw [hI.2.2.1]; exact tvn
   simp (disch:=omega) [hz,cell_blk hon,g7,h8.own.idx]
   refine At.store1 (k:=(at_ n ns q).v) (x:=true) hLn h8 bv_len bv_one hvl rfl fun w9 h9=>?_
   have hon9:=h9.drop.obj
   simp [en,ints] at hon9
   simp [cell_blk hon9,g0,g7]
   exact ⟨_,l2,l.set (at_ n ns q).v true,by simp [g0],by simp,by simp [g7],hst,h9.by (Imp.un Imp.dr)⟩
  ·rw [if_neg hz] at hst
   simp [hz,g0,g7]
   exact ⟨_,l1,l,by simp [g0],by simp,by simp [g7],hst,h8.by (Imp.un Imp.dr)⟩
end Go.Proofs.YtkhfdmelcpfgoaaGreat
end
